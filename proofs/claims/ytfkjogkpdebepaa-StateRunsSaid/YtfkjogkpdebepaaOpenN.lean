/- An argument that is a slice of numbers, opened. No condition. -/
import Derived.Test.YtfkjogkpdebepaaOpen
namespace Go.Proofs.Ytfkjogkpdebepaa
open Go.ChangeShapes Go.WideShapes Go.ChangeAt Go.RowKit
namespace OpenN
set_option maxRecDepth 100000 in
theorem open_ints {H : Type} {enc : TypeId × Value → H} {W : World} {b0 : Nat} {v : Value} {d : DataW H} {p : List MemPlace}
    (hv : Value.okWide Try.prog W .any b0 25 v) (h : DataW.Trod enc Try.prog W 0 (fun _ => true) true 25 v d p) :
    ∃ (A : Option Addr) (n cap : Nat) (ls : List Int), v = .slice A n cap ∧ n ≤ cap ∧ cap ≤ maxLen ∧ ls.length = n ∧ (∀ z ∈ ls, (Lit.int .i64 z).wf = true) ∧ Rd W W.heap.size 1 A n (ls.map (Value.int .i64)) := by
  obtain ⟨a, n, cap, rfl⟩ := okWide_slice Try.underlying25 hv
  obtain ⟨fuel, hf⟩ := h
  exact Open.ints Try.underlying25 Try.underlying3 (by kernel_rfl) hf
end OpenN
end Go.Proofs.Ytfkjogkpdebepaa
