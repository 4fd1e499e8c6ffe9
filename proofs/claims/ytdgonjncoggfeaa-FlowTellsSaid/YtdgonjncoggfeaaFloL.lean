/- The code that the law's first check looks at. No condition. -/
import Derived.Test.YtdgonjncoggfeaaFloK
namespace Go.Proofs.Ytdgonjncoggfeaa
set_option linter.unusedVariables false
set_option linter.unusedSimpArgs false
open Go.RowKit
namespace FloW
open FloP
def awI : List In := [(16, 0, []), (1, 0, []), (5, 0, [])]
def awW : List Wt := [(1, true)]
theorem aw_next0 : nextN awI awW 0 = [] := norm_nil (by decide)
theorem aw_next2 : nextN awI awW 2 = [0, 3] := by
  unfold nextN
  rw [← norm_put]
  decide
theorem aw_rch (i : Int) : Rch awI awW i ↔ i = 0 := by
  constructor
  · intro h
    induction h with
    | start _ => rfl
    | step _ hj _ _ ih => subst ih; rw [aw_next0] at hj; cases hj
  · rintro rfl; exact .start (by decide)
theorem aw_reach {L : List Int} (h : Inc L) (h2 : ∀ i, i ∈ L ↔ Rch awI awW i) : L = [0] :=
  inc_ext h (by simp [Inc]) (fun x => by rw [h2, aw_rch]; simp)
theorem aw_idle {L : List Int} (h : IdleIs awI awW 1 L) : L = [0] :=
  inc_ext h.1 (by simp [Inc]) (fun x => by
    rw [h.2]
    constructor
    · rintro ⟨j, z, rfl, hj, _, _⟩
      obtain rfl : j = 0 := by omega
      simp
    · intro hx
      simp at hx; subst hx
      exact ⟨0, (1, true), rfl, by omega, rfl, by rw [aw_rch]; decide⟩)
/-- Two lists of one code's places are one. -/
theorem reach_same {I : List In} {W : List Wt} {L L' : List Int} (h : Inc L) (h2 : ∀ i, i ∈ L ↔ Rch I W i) (h' : Inc L') (h2' : ∀ i, i ∈ L' ↔ Rch I W i) : L = L' :=
  inc_ext h h' (fun x => by rw [h2, h2'])
theorem idle_same {I : List In} {W : List Wt} {m : Nat} {L L' : List Int} (h : IdleIs I W m L) (h' : IdleIs I W m L') : L = L' :=
  inc_ext h.1 h'.1 (fun x => by rw [h.2, h'.2])
end FloW
end Go.Proofs.Ytdgonjncoggfeaa
