/- What the trees of CalcRules come to, in plain words. No program. No condition. -/
import Derived.Test.YtledgkplddeghaaDoorCalH
namespace Go.Proofs.YtledgkplddeghaaDoor
set_option linter.unusedVariables false
set_option linter.unusedSimpArgs false
open Go.RowKit
namespace CalW
open CalP QuoP MemP
theorem right_one (k : Int) (hk : k = 2 ∨ k = 3) (r : Ex) (d : Nat) : rightE (one k r) d = (decide (d < 64) && rightE r (d + 1)) := by
  have he : ByteArray.empty.data.toList = [] := rfl
  rcases hk with rfl | rfl <;> simp [one, rightE, rightL, okE, bareE, kidsE, he]
theorem right_two (op : ByteArray) (ho : 0 < strength op) (r s : Ex) (d : Nat) : rightE (two op r s) d = (decide (d < 64) && (rightE r (d + 1) && rightE s (d + 1))) := by
  have he : ByteArray.empty.data.toList = [] := rfl
  simp [two, rightE, rightL, okE, bareE, kidsE, he, ho]
theorem eval_not {V : ByteArray → Int × Int} {r : Ex} {x : Int} (h : evalE V r = (x, 0)) : evalE V (one 3 r) = (bitP (x == 0), 0) := by
  simp [one, evalE, evalL, combP, h]
theorem eval_neg {V : ByteArray → Int × Int} {r : Ex} {x : Int} (h : evalE V r = (x, 0)) : evalE V (one 2 r) = resP (-x) := by
  simp [one, evalE, evalL, combP, h]
abbrev oAnd : ByteArray := ⟨#[38, 38]⟩
abbrev oOr : ByteArray := ⟨#[124, 124]⟩
abbrev oSub : ByteArray := ⟨#[45]⟩
abbrev oAdd : ByteArray := ⟨#[43]⟩
theorem eval_and {V : ByteArray → Int × Int} {r s : Ex} {x y : Int} (h : evalE V r = (x, 0)) (h2 : evalE V s = (y, 0)) : evalE V (two oAnd r s) = (bitP (x != 0 && y != 0), 0) := by
  have he : oAnd.data.toList = [38, 38] := rfl
  simp only [two, evalE, evalL, combP, h, h2, he]
  by_cases h0 : x = 0 <;> simp [h0, bitP]
theorem eval_or {V : ByteArray → Int × Int} {r s : Ex} {x y : Int} (h : evalE V r = (x, 0)) (h2 : evalE V s = (y, 0)) : evalE V (two oOr r s) = (bitP (x != 0 || y != 0), 0) := by
  have he : oOr.data.toList = [124, 124] := rfl
  simp only [two, evalE, evalL, combP, h, h2, he]
  by_cases h0 : x = 0 <;> simp [h0, bitP]
theorem eval_sub {V : ByteArray → Int × Int} {r s : Ex} {x y : Int} (h : evalE V r = (x, 0)) (h2 : evalE V s = (y, 0)) : evalE V (two oSub r s) = resP (x - y) := by
  have he : oSub.data.toList = [45] := rfl
  simp [two, evalE, evalL, combP, h, h2, he, opP]
theorem eval_add {V : ByteArray → Int × Int} {r s : Ex} {x y : Int} (h : evalE V r = (x, 0)) (h2 : evalE V s = (y, 0)) : evalE V (two oAdd r s) = resP (x + y) := by
  have he : oAdd.data.toList = [43] := rfl
  simp [two, evalE, evalL, combP, h, h2, he, opP]
theorem eval_add2 {V : ByteArray → Int × Int} {r s : Ex} {x : Int} (h : evalE V r = (x, 0)) (h2 : (evalE V s).2 ≠ 0) : (evalE V (two oAdd r s)).2 ≠ 0 := by
  have he : oAdd.data.toList = [43] := rfl
  obtain ⟨⟨y, g⟩, hp⟩ : ∃ p, evalE V s = p := ⟨_, rfl⟩
  rw [hp] at h2
  simp only at h2
  simp [two, evalE, evalL, combP, h, hp, he, h2]
/-- Not, not. -/
def notR (x n g : Int) : Prop := g ≠ 0 ∨ (x = 0 ∧ n = 0) ∨ (x ≠ 0 ∧ n = 1)
variable {l : List Vr} {q : Cu} {a b : Ex} {x y : Int}
theorem val_ok (h : valE l q a = (x, 0)) : rightE a 0 = true ∧ evalE (numV l q.list) a = (x, 0) := by
  unfold valE at h
  split at h
  · exact ⟨by assumption, h⟩
  · simp at h
theorem rule_not (h : valE l q a = (x, 0)) : notR x (valE l q (one 3 (one 3 a))).1 (valE l q (one 3 (one 3 a))).2 := by
  obtain ⟨_, e⟩ := val_ok h
  unfold notR valE
  split
  · rw [eval_not (eval_not e)]
    by_cases h0 : x = 0 <;> simp [h0, bitP]
  · left; decide
theorem rule_not3 {n g : Int} (h : notR x n g) : (g = 0 ∧ n = 0 ∧ x = 0) ∨ (g = 0 ∧ n = 1 ∧ x ≠ 0) ∨ g ≠ 0 := by
  unfold notR at h
  omega
/-- Both, neither. -/
theorem rule_both (h : valE l q a = (x, 0)) (h2 : valE l q b = (y, 0)) : valE l q (one 3 (two oAnd a b)) = valE l q (two oOr (one 3 a) (one 3 b)) := by
  obtain ⟨_, e⟩ := val_ok h
  obtain ⟨_, e2⟩ := val_ok h2
  have hr : rightE (one 3 (two oAnd a b)) 0 = rightE (two oOr (one 3 a) (one 3 b)) 0 := by
    rw [right_one _ (Or.inr rfl), right_two _ (by decide), right_two _ (by decide), right_one _ (Or.inr rfl), right_one _ (Or.inr rfl)]
    simp
  unfold valE
  rw [hr, eval_not (eval_and e e2), eval_or (eval_not e) (eval_not e2)]
  by_cases h0 : x = 0 <;> by_cases h1 : y = 0 <;> simp [h0, h1, bitP]
theorem rule_less (h : valE l q a = (x, 0)) (h2 : valE l q b = (y, 0)) (hj : (valE l q (two oSub a b)).2 = 0) (hk : (valE l q (two oAdd a (one 2 b))).2 = 0) :
    (valE l q (two oSub a b)).1 = x - y ∧ (valE l q (two oAdd a (one 2 b))).1 = x - y ∧ CalP.I64 (x - y) := by
  obtain ⟨_, e⟩ := val_ok h
  obtain ⟨_, e2⟩ := val_ok h2
  have r0 : ∀ n, (resP n).2 = 0 → resP n = (n, 0) ∧ CalP.I64 n := by
    intro n hn
    unfold resP at *
    split at hn
    · rename_i hc; exact ⟨if_pos hc, hc⟩
    · simp at hn
  unfold valE at *
  split at hj
  · rw [if_pos (by assumption)]
    split at hk
    · rw [if_pos (by assumption)]
      rw [eval_sub e e2] at hj ⊢
      obtain ⟨s1, s2⟩ := r0 _ hj
      rw [s1]
      have hn := eval_neg e2
      by_cases hz : (resP (-y)).2 = 0
      · obtain ⟨t1, _⟩ := r0 _ hz
        rw [t1] at hn
        rw [eval_add e hn] at hk ⊢
        obtain ⟨u1, _⟩ := r0 _ hk
        rw [u1]
        exact ⟨rfl, by show x + -y = x - y; omega, s2⟩
      · exact absurd hk (eval_add2 e (by rw [hn]; exact hz))
    · simp at hk
  · simp at hj
end CalW
end Go.Proofs.YtledgkplddeghaaDoor
