/- Rows of a call's own, written in place: cells put, copied, cleared. No program. No condition. -/
import Derived.Test.YtchceoclkdofhaaGreatDoorMem
import Derived.Deep.AppendLies
import Derived.Lib.SliceRun
import Derived.Lib.Overlaps
import Derived.Lib.AppendZerosOnto
import Derived.Laws.IdiomCopy
namespace Go.Proofs.YtchceoclkdofhaaGreatDoor
open Go.RowKit
namespace Own
set_option linter.unusedVariables false
set_option linter.unusedSimpArgs false
/-- A list with some of its cells put anew. -/
def splice (xs : List Value) (o : Nat) (vs : List Value) : List Value := xs.take o ++ vs ++ xs.drop (o + vs.length)
theorem splice_len {xs : List Value} {o : Nat} {vs : List Value} (h : o + vs.length ≤ xs.length) : (splice xs o vs).length = xs.length := by
  unfold splice; rw [List.length_append, List.length_append, List.length_take, List.length_drop]; omega
theorem splice_nil (xs : List Value) (o : Nat) : splice xs o [] = xs := by unfold splice; simp
theorem splice_cons {xs : List Value} {o : Nat} {v : Value} {vs : List Value} (h : o + vs.length + 1 ≤ xs.length) : splice (xs.set o v) (o + 1) vs = splice xs o (v :: vs) := by
  apply List.ext_getElem?
  intro i
  unfold splice
  simp only [List.getElem?_append, List.length_take, List.length_append, List.length_set, List.length_cons, List.getElem?_take, List.getElem?_drop, List.getElem?_set]
  by_cases h1 : i < o
  · rw [if_pos (by omega), if_pos (by omega), if_pos (by omega), if_neg (by omega), if_pos (by omega), if_pos (by omega), if_pos h1]
  · by_cases h2 : i = o
    · subst h2
      rw [if_pos (by omega), if_pos (by omega), if_pos (by omega), if_pos rfl, if_pos (by omega), if_pos (by omega), if_neg (by omega)]
      rw [show i - min i xs.length = 0 by omega]; rfl
    · by_cases h3 : i < o + 1 + vs.length
      · rw [if_pos (by omega), if_neg (by omega), if_pos (by omega), if_neg (by omega)]
        rw [show i - min (o + 1) xs.length = i - (o + 1) by omega, show i - min o xs.length = (i - (o + 1)) + 1 by omega, List.getElem?_cons_succ]
      · rw [if_neg (by omega), if_neg (by omega), if_neg (by omega)]
        rw [show o + 1 + vs.length + (i - (min (o + 1) xs.length + vs.length)) = i by omega, show o + (vs.length + 1) + (i - (min o xs.length + (vs.length + 1))) = i by omega]
theorem put {t : TypeId} {g : Nat} : ∀ (vs : List Value) (o : Nat) (w : World) (cs : Array Value), Blk w g t cs → o + vs.length ≤ cs.size → ∃ cs' : Array Value, Blk (w.setCells g o vs) g t cs' ∧ cs'.toList = splice cs.toList o vs := by
  intro vs
  induction vs with
  | nil => intro o w cs h _; exact ⟨cs, h, (splice_nil _ _).symm⟩
  | cons v vs ih =>
    intro o w cs h hl
    rw [List.length_cons] at hl
    obtain ⟨cs', h1, h2⟩ := ih (o + 1) (w.setCell ⟨g, o, none⟩ v) (cs.setIfInBounds o v) (h.set_ o v) (by rw [Array.size_setIfInBounds]; omega)
    refine ⟨cs', h1, ?_⟩
    rw [h2, Array.toList_setIfInBounds, splice_cons (by rw [Array.length_toList]; omega)]
theorem setCells_size (g : Nat) : ∀ (vs : List Value) (o : Nat) (w : World), (w.setCells g o vs).heap.size = w.heap.size := by
  intro vs
  induction vs with
  | nil => intro o w; rfl
  | cons v vs ih => intro o w; rw [World.setCells, ih]; simp [World.setCell]
theorem tch_cells {S : Nat → Prop} {g : Nat} (hg : S g) {a : World} : ∀ (vs : List Value) (o : Nat) (w : World), Tch S a w → Tch S a (w.setCells g o vs) := by
  intro vs
  induction vs with
  | nil => intro o w h; exact h
  | cons v vs ih => intro o w h; exact ih _ _ (h.setCell hg v)
theorem drew_cells (g : Nat) : ∀ (vs : List Value) (o : Nat) (w : World) (n : Nat), (w.drewN n).setCells g o vs = (w.setCells g o vs).drewN n := by
  intro vs
  induction vs with
  | nil => intro o w n; rfl
  | cons v vs ih => intro o w n; rw [World.setCells, World.setCells, ← ih]; rfl
/-- A row of the call's own, by its block. -/
theorem of_blk {w : World} {base g : Nat} {e : TypeId} {cs : Array Value} {size n cap : Nat} {xs : List Value} (h : Blk w g e cs) (hb : base ≤ g) (hl : xs.length = n * size) (hn : n ≤ cap) (hm : cap ≤ maxLen) (hs : cs.size = cap * size) (ht : cs.toList.take (n * size) = xs) :
    w.ownsRow base e size (.slice (some ⟨g, 0, none⟩) n cap) n xs := ⟨hl, .inr ⟨g, cap, cs, rfl, hb, h, hn, hm, hs, ht⟩⟩
theorem blk_of {w : World} {base g : Nat} {o : Nat} {sp : Option Nat} {e : TypeId} {size n m cap : Nat} {xs : List Value} (h : w.ownsRow base e size (.slice (some ⟨g, o, sp⟩) m cap) n xs) :
    o = 0 ∧ sp = none ∧ m = n ∧ base ≤ g ∧ n ≤ cap ∧ cap ≤ maxLen ∧ ∃ cs, Blk w g e cs ∧ cs.size = cap * size ∧ cs.toList.take (n * size) = xs := by
  rcases h.2 with ⟨h1, _⟩ | ⟨g', cap', cur, h1, h2, h3, h4, h5, h6, h7⟩
  · cases h1
  · injection h1 with h1 h8 h9
    injection h1 with h1
    injection h1 with h1 ho hs
    subst h1; subst h8; subst h9
    exact ⟨ho, hs, rfl, h2, h4, h5, cur, h3, h6, h7⟩
theorem next {w w1 : World} {base : Nat} {e : TypeId} {size n : Nat} {v : Value} {xs : List Value} (h : w.ownsRow base e size v n xs) (hb : Below w.heap.size w w1) : w1.ownsRow base e size v n xs :=
  h.kept (row := none) ⟨hb.os, hb.tape, hb.output, hb.size, fun k hk _ => hb.block k hk⟩ (by cases hv : v.ownBlock <;> simp)
theorem drew {w : World} {base : Nat} {e : TypeId} {size n : Nat} {v : Value} {xs : List Value} (h : w.ownsRow base e size v n xs) (m : Nat) : (w.drewN m).ownsRow base e size v n xs := h
theorem rd {w : World} {B n size : Nat} {e : TypeId} {v : Value} {xs : List Value} (h : w.ownsRow B e size v n xs) : ∃ A c, v = .slice A n c ∧ Rd w w.heap.size size A n xs ∧ n ≤ c ∧ c ≤ maxLen := by
  rcases h.2 with ⟨rfl, rfl⟩ | ⟨g, cap, cur, rfl, hb, hg, h4, h5, rest⟩
  · exact ⟨none, 0, rfl, ⟨h.1, fun h => by omega⟩, by omega, by unfold maxLen; omega⟩
  · exact ⟨_, _, rfl, ⟨h.1, fun _ => ⟨⟨g, 0, none⟩, rfl, (Array.getElem?_eq_some_iff.1 hg).1, h.cells rfl⟩⟩, h4, h5⟩
section
variable {P : Program}
/-- 'copy(d, s)' at elements of some cells. -/
theorem run_copy (w : World) (dT sT ty elem : TypeId) (b o dLen dCap : Nat) (a : Addr) (sLen sCap : Nat) (cs : List Value) (k : Nat)
    (hu : P.underlying dT = some (.slice elem)) (hs : (P.info? elem).map (·.size) = some k) (hn : cs.length = Nat.min sLen dLen * k)
    (hsrc : ∀ j v, cs[j]? = some v → w.cell? (a.add j) = some v) (hc : ∀ j, j < cs.length → (w.cell? ⟨b, o + j, none⟩).isSome = true) (hf : ∀ j, j < cs.length → w.frozen? ⟨b, o + j, none⟩ = false) (h1 : ∀ v ∈ cs, v.oneCell' = true) :
    (Builtin.copy_ #[dT, sT] ty #[.slice (some ⟨b, o, none⟩) dLen dCap, .slice (some a) sLen sCap]).run P w = .ok (goInt (Nat.min sLen dLen : Nat)) (w.setCells b o cs) := by
  have hl := run_loadCells_list (P := P) w a cs hsrc
  have hst := run_storeCells_cells (P := P) b o cs 0 w (by simpa using hc) (by simpa using hf) h1
  cases hq : P.info? elem with
  | none => simp [hq] at hs
  | some i =>
    have hi : i.size = k := by simpa [hq] using hs
    simp [Builtin.copy_, run_underlying hu, Builtin.lenOf, Builtin.firstCells, sizeOf, typeInfo, hq, hi, ← hn, hl, hst]
theorem run_clear (w : World) (t e ty : TypeId) (z : Value) (zs : List Value) (ht : P.underlying t = some (.slice e)) (hv : ∀ w, (zeroValue e).run P w = .ok z w) (b o n c : Nat) (hn : 0 < n)
    (hz : (Builtin.zeroCells z.cells n).toList = zs) (h1 : ∀ v ∈ zs, v.oneCell' = true)
    (hc : ∀ j, j < zs.length → (w.cell? ⟨b, o + j, none⟩).isSome = true) (hf : ∀ j, j < zs.length → w.frozen? ⟨b, o + j, none⟩ = false) :
    (Builtin.clear_ #[t] ty #[.slice (some ⟨b, o, none⟩) n c]).run P w = .ok (.tuple #[]) (w.setCells b o zs) := by
  have hst := run_storeCells_cells (P := P) b o zs 0 w (by simpa using hc) (by simpa using hf) h1
  simp only [Nat.add_zero] at hst
  obtain ⟨m, rfl⟩ : ∃ m, n = m + 1 := ⟨n - 1, by omega⟩
  simp [Builtin.clear_, run_underlying ht, hv, hz, hst]
end
end Own
end Go.Proofs.YtchceoclkdofhaaGreatDoor
