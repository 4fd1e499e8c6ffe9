/- A side that comes in, opened. No condition. -/
import Derived.Test.YtnpgmfldikgkjaaBufC
import Derived.Test.YtnpgmfldikgkjaaOpen
namespace Go.Proofs.Ytnpgmfldikgkjaa
open Go.ChangeShapes Go.WideShapes Go.ChangeAt Go.RowKit Go.Deep
namespace BufW
theorem open_side {H : Type} {enc : TypeId × Value → H} {W : World} {b0 : Nat} {v : Value} {d : DataW H} {p : List MemPlace}
    (hv : Value.okWide Try.prog W .any b0 32 v) (h : DataW.Trod enc Try.prog W 0 (fun _ => true) true 32 v d p) :
    ∃ (s : Sd) (ls : List ByteArray) (gs : List Int), v = s.v ∧ Lists s W ls gs ∧ s.fl.size ≤ maxLen ∧ s.re.size ≤ maxLen ∧ s.bu.size ≤ maxLen ∧ s.ty.size ≤ maxLen := by
  obtain ⟨cs, n, rfl, hsz, hf⟩ := Open.struct_ (P := Try.prog) Try.underlying32 (by kernel_rfl) (by kernel_rfl) hv h
  obtain ⟨c0, c1, c2, c3, c4, c5, c6, c7, c8, c9, c10, rfl⟩ := Open.arr11 hsz
  obtain ⟨u0, y0, e0, t0⟩ := hf 0 _ rfl
  obtain ⟨u1, y1, e1, t1⟩ := hf 1 _ rfl
  obtain ⟨u2, y2, e2, t2⟩ := hf 2 _ rfl
  obtain ⟨u3, y3, e3, t3⟩ := hf 3 _ rfl
  obtain ⟨u4, y4, e4, t4⟩ := hf 4 _ rfl
  obtain ⟨u5, y5, e5, t5⟩ := hf 5 _ rfl
  obtain ⟨u6, y6, e6, t6⟩ := hf 6 _ rfl
  obtain ⟨u7, y7, e7, t7⟩ := hf 7 _ rfl
  obtain ⟨u8, y8, e8, t8⟩ := hf 8 _ rfl
  obtain ⟨u9, y9, e9, t9⟩ := hf 9 _ rfl
  obtain ⟨u10, y10, e10, t10⟩ := hf 10 _ rfl
  cases e0; cases e1; cases e2; cases e3; cases e4; cases e5; cases e6; cases e7; cases e8; cases e9; cases e10
  obtain ⟨x0, h0, _⟩ := DataW.trod_bool Try.underlying4 t0
  obtain ⟨x1, h1, _⟩ := DataW.trod_bool Try.underlying4 t1
  obtain ⟨x2, h2, _⟩ := DataW.trod_bool Try.underlying4 t2
  obtain ⟨x3, h3, _, w3⟩ := DataW.trod_int Try.underlying3 t3
  obtain ⟨x4, h4, _, w4⟩ := DataW.trod_int Try.underlying3 t4
  obtain ⟨x5, h5, _, w5⟩ := DataW.trod_string Try.underlying9 t5
  obtain ⟨A, n6, q6, ls, rfl, l6, m6, _, _, R6⟩ := Open.strings Try.underlying29 Try.underlying9 (by kernel_rfl) t6
  obtain ⟨x7, h7, _, w7⟩ := DataW.trod_string Try.underlying9 t7
  obtain ⟨A8, n8, q8, gs, rfl, l8, m8, _, _, R8⟩ := Open.ints Try.underlying30 Try.underlying3 (by kernel_rfl) t8
  obtain ⟨x9, h9, _, w9⟩ := DataW.trod_string Try.underlying9 t9
  obtain ⟨x10, h10, _, w10⟩ := DataW.trod_string Try.underlying9 t10
  cases h0; cases h1; cases h2; cases h3; cases h4; cases h5; cases h7; cases h9; cases h10
  exact ⟨⟨x0, x1, x2, x3, x4, x5, A, n6, q6, x7, A8, n8, q8, x9, x10⟩, ls, gs, rfl, ⟨R6, R8, Nat.le_trans l6 m6, Nat.le_trans l8 m8⟩, w7, w9, w10, w5⟩
theorem open_ints {H : Type} {enc : TypeId × Value → H} {W : World} {b0 : Nat} {v : Value} {d : DataW H} {p : List MemPlace}
    (hv : Value.okWide Try.prog W .any b0 30 v) (h : DataW.Trod enc Try.prog W 0 (fun _ => true) true 30 v d p) :
    ∃ (A : Option Addr) (n cap : Nat) (ls : List Int), v = .slice A n cap ∧ n ≤ cap ∧ cap ≤ maxLen ∧ ls.length = n ∧ (∀ z ∈ ls, (Lit.int .i64 z).wf = true) ∧ Rd W W.heap.size 1 A n (ls.map (Value.int .i64)) := by
  obtain ⟨a, n, cap, rfl⟩ := okWide_slice Try.underlying30 hv
  obtain ⟨fuel, hf⟩ := h
  exact Open.ints Try.underlying30 Try.underlying3 (by kernel_rfl) hf
end BufW
end Go.Proofs.Ytnpgmfldikgkjaa
