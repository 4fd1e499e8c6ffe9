/- An argument that is a slice of structs of two texts, opened. No condition. -/
import Derived.Test.YtledgkplddeghaaDoorMemG
import Derived.ProofKit
import Derived.OpenShut
import Derived.Deep.Slices
import Derived.Deep.Fields
import Derived.Lib.SmallJoins
namespace Go.Proofs.YtledgkplddeghaaDoor
set_option linter.unusedVariables false
set_option linter.unusedSimpArgs false
open Go.ChangeShapes Go.WideShapes Go.ChangeAt Go.RowKit Go.Deep
namespace OpenV
open MemP MemW
section
variable {H : Type} {enc : TypeId × Value → H} {P : Program} {w : World} {base : Nat} {spare : Nat → Bool} {held : Bool}
/-- A struct's two texts. -/
theorem two_texts {e : TypeId} {f0 f1 : Field} {fuel : Nat} {cs : List Value} {x : DataW H × List MemPlace} (he : P.underlying e = some (.struct #[f0, f1])) (hone : oneCellFields P #[f0, f1] = true) (hC : P.cellsOf e = 2)
    (s0 : P.underlying f0.type = some .string) (s1 : P.underlying f1.type = some .string) (h : DataW.trod enc P w base spare held fuel e cs = some x) : ∃ p : Vr, cs = [.string p.1, .string p.2] ∧ p.1.size ≤ maxLen ∧ p.2.size ≤ maxLen := by
  obtain ⟨ys, n, _, _, hlen, hyl, hg⟩ := DataW.trod_struct he h
  rw [hC] at hlen
  obtain ⟨o0, k0⟩ := hone_of hone 0 f0 rfl
  obtain ⟨o1, k1⟩ := hone_of hone 1 f1 rfl
  have g0 := hg 0 f0 rfl
  have g1 := hg 1 f1 rfl
  rw [o0, k0] at g0
  rw [o1, k1] at g1
  match cs, hlen with
  | [c0, c1], _ =>
    have hy0 : ys[0]? = some (ys[0]'(by simp at hyl; omega)) := List.getElem?_eq_getElem _
    have hy1 : ys[1]? = some (ys[1]'(by simp at hyl; omega)) := List.getElem?_eq_getElem _
    rw [hy0] at g0
    rw [hy1] at g1
    obtain ⟨a, ha, _, za⟩ := DataW.trod_string s0 g0
    obtain ⟨b, hb, _, zb⟩ := DataW.trod_string s1 g1
    simp at ha hb
    exact ⟨(a, b), by rw [ha, hb], za, zb⟩
theorem pairs {t e : TypeId} {f0 f1 : Field} {v : Value} {d : DataW H} {ps : List MemPlace} (ht : P.underlying t = some (.slice e)) (he : P.underlying e = some (.struct #[f0, f1])) (hone : oneCellFields P #[f0, f1] = true) (hC : P.cellsOf e = 2)
    (s0 : P.underlying f0.type = some .string) (s1 : P.underlying f1.type = some .string) (h : ∃ fuel, DataW.trod enc P w base spare held fuel t [v] = some (d, ps)) :
    ∃ (A : Option Addr) (n c : Nat) (l : List Vr), v = .slice A n c ∧ n ≤ maxLen ∧ Vrs w w.heap.size A n l ∧ (∀ p ∈ l, p.1.size ≤ maxLen ∧ p.2.size ≤ maxLen) := by
  obtain ⟨fuel, h⟩ := h
  rcases open_slice ht h with ⟨h1, _⟩ | ⟨a, len, cap, m, n, D, Pl, h1, _, h2, h3, h4, _, hx⟩
  · cases h1; exact ⟨none, 0, 0, [], rfl, Nat.zero_le _, Rd.nil, fun p hp => (by cases hp)⟩
  · cases h1
    have hle : len ≤ m := by rw [h4]; split <;> omega
    have key : ∀ i, i < len → ∃ p : Vr, w.cell? (a.add (i * 2)) = some (.string p.1) ∧ w.cell? (a.add (i * 2 + 1)) = some (.string p.2) ∧ p.1.size ≤ maxLen ∧ p.2.size ≤ maxLen := fun i hi => by
      obtain ⟨cs', hc, hr⟩ := hx i (by omega)
      obtain ⟨p, rfl, z⟩ := two_texts he hone hC s0 s1 hr
      rw [hC] at hc
      obtain ⟨_, _, hat⟩ := World.cells?_some hc
      have e0 := hat 0 (by omega)
      have e1 := hat 1 (by omega)
      rw [add_twice] at e0 e1
      exact ⟨p, e0, e1, z⟩
    obtain ⟨f, hf⟩ := choose_lt key
    have hlen : ((List.range len).map f).length = len := by simp
    refine ⟨some a, len, cap, (List.range len).map f, rfl, by omega, ⟨?_, fun hn => ⟨a, rfl, ?_, fun j u hu => ?_⟩⟩, ?_⟩
    · rw [vcs_len, hlen]
    · have := World.block_lt_of_cell? w _ (hf 0 hn).1
      rwa [add_block] at this
    · have hj : j < len * 2 := by
        have h5 := (List.getElem?_eq_some_iff.1 hu).1
        rw [vcs_len, hlen] at h5; exact h5
      have hi : j / 2 < len := by omega
      have hp : ((List.range len).map f)[j / 2]? = some (f (j / 2)) := by simp [hi]
      obtain ⟨c0, c1⟩ := vcs_at _ _ _ hp
      obtain ⟨q0, q1, _⟩ := hf (j / 2) hi
      by_cases hm : j % 2 = 0
      · have ej : j / 2 * 2 = j := by omega
        rw [ej] at c0 q0
        rw [hu] at c0
        rw [q0]; exact c0.symm
      · have ej : j / 2 * 2 + 1 = j := by omega
        rw [ej] at c1 q1
        rw [hu] at c1
        rw [q1]; exact c1.symm
    · intro p hp
      rw [List.mem_map] at hp
      obtain ⟨i, hi, rfl⟩ := hp
      exact (hf i (by simpa using hi)).2.2
theorem arg {r : Reach} {b0 : Nat} {t e : TypeId} {f0 f1 : Field} {v : Value} {d : DataW H} {ps : List MemPlace} (ht : P.underlying t = some (.slice e)) (he : P.underlying e = some (.struct #[f0, f1])) (hone : oneCellFields P #[f0, f1] = true) (hC : P.cellsOf e = 2)
    (s0 : P.underlying f0.type = some .string) (s1 : P.underlying f1.type = some .string) (hv : Value.okWide P w r b0 t v) (h : DataW.Trod enc P w base spare held t v d ps) :
    ∃ (A : Option Addr) (n c : Nat) (l : List Vr), v = .slice A n c ∧ n ≤ maxLen ∧ Vrs w w.heap.size A n l ∧ (∀ p ∈ l, p.1.size ≤ maxLen ∧ p.2.size ≤ maxLen) := by
  obtain ⟨a, len, cap, rfl⟩ := okWide_slice ht hv
  obtain ⟨fuel, h⟩ := h
  exact pairs ht he hone hC s0 s1 ⟨fuel, h⟩
end
end OpenV
end Go.Proofs.YtledgkplddeghaaDoor
