/- Arguments opened: slices of texts and of numbers, structs whose fields have one cell each. No condition. -/
import Derived.Test.YtchceoclkdofhaaGreatDoorMem
import Derived.ProofKit
import Derived.OpenShut
import Derived.Deep.Slices
import Derived.Deep.Fields
import Derived.Lib.SmallJoins
namespace Go.Proofs.YtchceoclkdofhaaGreatDoor
set_option linter.unusedVariables false
set_option linter.unusedSimpArgs false
open Go.ChangeShapes Go.WideShapes Go.ChangeAt Go.RowKit Go.Deep
namespace Open
section
variable {H : Type} {enc : TypeId × Value → H} {P : Program} {w : World} {base : Nat} {spare : Nat → Bool} {held : Bool}
theorem rd_of {w : World} {a : Addr} {len : Nat} {us : List Value} (hl : us.length = len) (hc : ∀ j u, us[j]? = some u → w.cell? (a.add j) = some u) : Rd w w.heap.size 1 (some a) len us := by
  refine ⟨by rw [hl, Nat.mul_one], fun hn => ⟨a, rfl, ?_, hc⟩⟩
  have h0 := hc 0 (us[0]'(by omega)) (List.getElem?_eq_getElem (by omega))
  have := World.block_lt_of_cell? w (a.add 0) h0
  rwa [add_block] at this
theorem strings {t e : TypeId} {fuel : Nat} {c : Value} {x : DataW H × List MemPlace} (ht : P.underlying t = some (.slice e)) (he : P.underlying e = some .string) (hC : P.cellsOf e = 1)
    (h : DataW.trod enc P w base spare held fuel t [c] = some x) : ∃ (A : Option Addr) (n cap : Nat) (ls : List ByteArray), c = .slice A n cap ∧ n ≤ cap ∧ cap ≤ maxLen ∧ ls.length = n ∧ (∀ s ∈ ls, s.size ≤ maxLen) ∧ Rd w w.heap.size 1 A n (ls.map Value.string) := by
  rcases open_strings ht he hC h with ⟨h1, _⟩ | ⟨a, len, cap, ss, h1, _, h2, h3, h4, _, h5, h6⟩
  · cases h1; exact ⟨none, 0, 0, [], rfl, Nat.le_refl _, Nat.zero_le _, rfl, (fun s hs => by cases hs), Rd.nil⟩
  · cases h1
    have hle : len ≤ ss.length := by rw [h4]; split <;> omega
    refine ⟨some a, len, cap, ss.take len, rfl, h2, h3, by rw [List.length_take]; omega, fun s hs => h6 s (List.mem_of_mem_take hs), rd_of (by rw [List.length_map, List.length_take]; omega) fun j u hu => ?_⟩
    rw [List.getElem?_map, List.getElem?_take] at hu
    by_cases hj : j < len
    · rw [if_pos hj] at hu
      rw [h5 j (by omega)]
      rw [List.getElem?_eq_getElem (by omega)] at hu
      rw [List.getD_eq_getElem?_getD, List.getElem?_eq_getElem (by omega)]
      exact hu
    · rw [if_neg hj] at hu; cases hu
theorem ints {t e : TypeId} {k : IntKind} {fuel : Nat} {c : Value} {x : DataW H × List MemPlace} (ht : P.underlying t = some (.slice e)) (he : P.underlying e = some (.int k)) (hC : P.cellsOf e = 1)
    (h : DataW.trod enc P w base spare held fuel t [c] = some x) : ∃ (A : Option Addr) (n cap : Nat) (ls : List Int), c = .slice A n cap ∧ n ≤ cap ∧ cap ≤ maxLen ∧ ls.length = n ∧ (∀ z ∈ ls, (Lit.int k z).wf = true) ∧ Rd w w.heap.size 1 A n (ls.map (Value.int k)) := by
  rcases open_ints ht he hC h with ⟨h1, _⟩ | ⟨a, len, cap, ss, h1, _, h2, h3, h4, _, h5, h6⟩
  · cases h1; exact ⟨none, 0, 0, [], rfl, Nat.le_refl _, Nat.zero_le _, rfl, (fun s hs => by cases hs), Rd.nil⟩
  · cases h1
    have hle : len ≤ ss.length := by rw [h4]; split <;> omega
    refine ⟨some a, len, cap, ss.take len, rfl, h2, h3, by rw [List.length_take]; omega, fun s hs => h6 s (List.mem_of_mem_take hs), rd_of (by rw [List.length_map, List.length_take]; omega) fun j u hu => ?_⟩
    rw [List.getElem?_map, List.getElem?_take] at hu
    by_cases hj : j < len
    · rw [if_pos hj] at hu
      rw [h5 j (by omega)]
      rw [List.getElem?_eq_getElem (by omega)] at hu
      rw [List.getD_eq_getElem?_getD, List.getElem?_eq_getElem (by omega)]
      exact hu
    · rw [if_neg hj] at hu; cases hu
/-- A struct by value whose fields have one cell each: its cells, and each field's reading. -/
theorem struct_ {r : Reach} {b0 : Nat} {t : TypeId} {fs : Array Field} {v : Value} {d : DataW H} {p : List MemPlace} (hs : P.underlying t = some (.struct fs)) (hone : oneCellFields P fs = true) (hC : P.cellsOf t = fs.size)
    (hv : Value.okWide P w r b0 t v) (h : DataW.Trod enc P w base spare held t v d p) :
    ∃ (cs : Array Value) (n : Nat), v = .agg cs ∧ cs.size = fs.size ∧ ∀ (j : Nat) (f : Field), fs[j]? = some f → ∃ (u : Value) (y : DataW H × List MemPlace), cs[j]? = some u ∧ DataW.trod enc P w base spare held n f.type [u] = some y := by
  obtain ⟨cs, rfl, hsz⟩ := okWide_struct hs hv
  obtain ⟨fuel, hf⟩ := h
  obtain ⟨ys, n, hn, hy, hlen, hyl, hg⟩ := DataW.trod_struct hs hf
  refine ⟨cs, n, rfl, hsz.trans hC, fun j f hj => ?_⟩
  obtain ⟨ho, hk⟩ := hone_of hone j f hj
  have hjl : j < fs.size := (Array.getElem?_eq_some_iff.1 hj).1
  have hjc : j < cs.size := by rw [hsz, hC]; exact hjl
  have h1 := hg j f hj
  rw [ho, hk] at h1
  have hcl : (Value.agg cs).cells.toList = cs.toList := rfl
  rw [hcl] at h1
  have hone' : (cs.toList.drop j).take 1 = [cs[j]] := by
    rw [List.drop_eq_getElem_cons (by simpa using hjc)]
    simp
  rw [hone'] at h1
  exact ⟨cs[j], _, Array.getElem?_eq_getElem hjc, h1.trans (List.getElem?_eq_getElem (by omega))⟩
end
theorem arr11 {cs : Array Value} (h : cs.size = 11) : ∃ c0 c1 c2 c3 c4 c5 c6 c7 c8 c9 c10, cs = #[c0, c1, c2, c3, c4, c5, c6, c7, c8, c9, c10] := by
  obtain ⟨l⟩ := cs
  match l, h with
  | [c0, c1, c2, c3, c4, c5, c6, c7, c8, c9, c10], _ => exact ⟨c0, c1, c2, c3, c4, c5, c6, c7, c8, c9, c10, rfl⟩
end Open
end Go.Proofs.YtchceoclkdofhaaGreatDoor
