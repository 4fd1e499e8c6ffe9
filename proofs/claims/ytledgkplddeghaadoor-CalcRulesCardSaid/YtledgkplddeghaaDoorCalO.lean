/- An op of two numbers (both). Conditions: numbers of 64 bits. -/
import Derived.Test.YtledgkplddeghaaDoorCalS
namespace Go.Proofs.YtledgkplddeghaaDoor
set_option linter.unusedVariables false
set_option linter.unusedSimpArgs false
open Go.RowKit
namespace CalW
open CalP
section
variable (op : ByteArray) (a b : Int) (w : World) (a0 : -9223372036854775808 ≤ a) (a1 : a ≤ 9223372036854775807) (b0 : -9223372036854775808 ≤ b) (b1 : b ≤ 9223372036854775807)
include a0 a1 b0 b1
set_option maxHeartbeats 1600000 in
theorem op_c : Calls Tryd.prog 50 #[.string op, .int .i64 a, .int .i64 b] w fun e w' => e = .returned (tup (opP op.data.toList a b)) ∧ w = w' := by
  have tl : op.toList = op.data.toList := Lib.toList_data _
  by_cases h : op.data.toList = [43]
  · have c := fun W => NumW.add_c a b W a0 a1 b0 b1
    simp only [res_tup] at c
    have hs : opP op.data.toList a b = resP (a + b) := by rw [h]; simp [opP]
    rw [hs]
    generalize resP (a + b) = PR at *
    clear hs
    have t0 : (op.toList == [43]) = true := by rw [tl, h]; decide
    have t1 : (op.toList == [45]) = false := by rw [tl, h]; decide
    have t2 : (op.toList == [42]) = false := by rw [tl, h]; decide
    have t3 : (op.toList == [47]) = false := by rw [tl, h]; decide
    have t4 : (op.toList == [37]) = false := by rw [tl, h]; decide
    have t5 : (op.toList == [61, 61]) = false := by rw [tl, h]; decide
    have t6 : (op.toList == [33, 61]) = false := by rw [tl, h]; decide
    have t7 : (op.toList == [60]) = false := by rw [tl, h]; decide
    have t8 : (op.toList == [62]) = false := by rw [tl, h]; decide
    have t9 : (op.toList == [60, 61]) = false := by rw [tl, h]; decide
    clear tl h
    go_enter Tryd.func50, Tryd.ntmps50
    go_wp2_with fail
    (with_reducible refine (c _).mono ?_)
    rintro e w' ⟨rfl, rfl⟩
    go_wp2_with fail
    first | go_ret2 | go_returns
    exact ⟨rfl, rfl⟩
  have h43 := h
  clear h
  by_cases h : op.data.toList = [45]
  · have c := fun W => NumW.sub_c a b W a0 a1 b0 b1
    simp only [res_tup] at c
    have hs : opP op.data.toList a b = resP (a - b) := by rw [h]; simp [opP]
    rw [hs]
    generalize resP (a - b) = PR at *
    clear hs
    have t0 : (op.toList == [43]) = false := by rw [tl, h]; decide
    have t1 : (op.toList == [45]) = true := by rw [tl, h]; decide
    have t2 : (op.toList == [42]) = false := by rw [tl, h]; decide
    have t3 : (op.toList == [47]) = false := by rw [tl, h]; decide
    have t4 : (op.toList == [37]) = false := by rw [tl, h]; decide
    have t5 : (op.toList == [61, 61]) = false := by rw [tl, h]; decide
    have t6 : (op.toList == [33, 61]) = false := by rw [tl, h]; decide
    have t7 : (op.toList == [60]) = false := by rw [tl, h]; decide
    have t8 : (op.toList == [62]) = false := by rw [tl, h]; decide
    have t9 : (op.toList == [60, 61]) = false := by rw [tl, h]; decide
    clear tl h
    go_enter Tryd.func50, Tryd.ntmps50
    go_wp2_with fail
    (with_reducible refine (c _).mono ?_)
    rintro e w' ⟨rfl, rfl⟩
    go_wp2_with fail
    first | go_ret2 | go_returns
    exact ⟨rfl, rfl⟩
  have h45 := h
  clear h
  by_cases h : op.data.toList = [42]
  · have c := fun W => NumW.mul_c a b W a0 a1 b0 b1
    simp only [res_tup] at c
    have hs : opP op.data.toList a b = resP (a * b) := by rw [h]; simp [opP]
    rw [hs]
    generalize resP (a * b) = PR at *
    clear hs
    have t0 : (op.toList == [43]) = false := by rw [tl, h]; decide
    have t1 : (op.toList == [45]) = false := by rw [tl, h]; decide
    have t2 : (op.toList == [42]) = true := by rw [tl, h]; decide
    have t3 : (op.toList == [47]) = false := by rw [tl, h]; decide
    have t4 : (op.toList == [37]) = false := by rw [tl, h]; decide
    have t5 : (op.toList == [61, 61]) = false := by rw [tl, h]; decide
    have t6 : (op.toList == [33, 61]) = false := by rw [tl, h]; decide
    have t7 : (op.toList == [60]) = false := by rw [tl, h]; decide
    have t8 : (op.toList == [62]) = false := by rw [tl, h]; decide
    have t9 : (op.toList == [60, 61]) = false := by rw [tl, h]; decide
    clear tl h
    go_enter Tryd.func50, Tryd.ntmps50
    go_wp2_with fail
    (with_reducible refine (c _).mono ?_)
    rintro e w' ⟨rfl, rfl⟩
    go_wp2_with fail
    first | go_ret2 | go_returns
    exact ⟨rfl, rfl⟩
  have h42 := h
  clear h
  by_cases h : op.data.toList = [47]
  · by_cases hb : b = 0
    · subst hb
      have c := fun W => NumW.div0_c a W
      have hs : opP op.data.toList a 0 = (0, 4) := by rw [h]; simp [opP]
      rw [hs]
      clear hs
      have t0 : (op.toList == [43]) = false := by rw [tl, h]; decide
      have t1 : (op.toList == [45]) = false := by rw [tl, h]; decide
      have t2 : (op.toList == [42]) = false := by rw [tl, h]; decide
      have t3 : (op.toList == [47]) = true := by rw [tl, h]; decide
      have t4 : (op.toList == [37]) = false := by rw [tl, h]; decide
      have t5 : (op.toList == [61, 61]) = false := by rw [tl, h]; decide
      have t6 : (op.toList == [33, 61]) = false := by rw [tl, h]; decide
      have t7 : (op.toList == [60]) = false := by rw [tl, h]; decide
      have t8 : (op.toList == [62]) = false := by rw [tl, h]; decide
      have t9 : (op.toList == [60, 61]) = false := by rw [tl, h]; decide
      clear tl h
      go_enter Tryd.func50, Tryd.ntmps50
      go_wp2_with fail
      (with_reducible refine (c _).mono ?_)
      rintro e w' ⟨rfl, rfl⟩
      go_wp2_with fail
      first | go_ret2 | go_returns
      exact ⟨rfl, rfl⟩
    · have c := fun W => NumW.div_c a b W a0 a1 b0 b1 hb
      simp only [res_tup] at c
      have hs : opP op.data.toList a b = resP (a.fdiv b) := by rw [h]; simp [opP, hb]
      rw [hs]
      generalize resP (a.fdiv b) = PR at *
      clear hs
      have t0 : (op.toList == [43]) = false := by rw [tl, h]; decide
      have t1 : (op.toList == [45]) = false := by rw [tl, h]; decide
      have t2 : (op.toList == [42]) = false := by rw [tl, h]; decide
      have t3 : (op.toList == [47]) = true := by rw [tl, h]; decide
      have t4 : (op.toList == [37]) = false := by rw [tl, h]; decide
      have t5 : (op.toList == [61, 61]) = false := by rw [tl, h]; decide
      have t6 : (op.toList == [33, 61]) = false := by rw [tl, h]; decide
      have t7 : (op.toList == [60]) = false := by rw [tl, h]; decide
      have t8 : (op.toList == [62]) = false := by rw [tl, h]; decide
      have t9 : (op.toList == [60, 61]) = false := by rw [tl, h]; decide
      clear tl h
      go_enter Tryd.func50, Tryd.ntmps50
      go_wp2_with fail
      (with_reducible refine (c _).mono ?_)
      rintro e w' ⟨rfl, rfl⟩
      go_wp2_with fail
      first | go_ret2 | go_returns
      exact ⟨rfl, rfl⟩
  have h47 := h
  clear h
  by_cases h : op.data.toList = [37]
  · by_cases hb : b = 0
    · subst hb
      have c := fun W => NumW.mod0_c a W
      have hs : opP op.data.toList a 0 = (0, 4) := by rw [h]; simp [opP]
      rw [hs]
      clear hs
      have t0 : (op.toList == [43]) = false := by rw [tl, h]; decide
      have t1 : (op.toList == [45]) = false := by rw [tl, h]; decide
      have t2 : (op.toList == [42]) = false := by rw [tl, h]; decide
      have t3 : (op.toList == [47]) = false := by rw [tl, h]; decide
      have t4 : (op.toList == [37]) = true := by rw [tl, h]; decide
      have t5 : (op.toList == [61, 61]) = false := by rw [tl, h]; decide
      have t6 : (op.toList == [33, 61]) = false := by rw [tl, h]; decide
      have t7 : (op.toList == [60]) = false := by rw [tl, h]; decide
      have t8 : (op.toList == [62]) = false := by rw [tl, h]; decide
      have t9 : (op.toList == [60, 61]) = false := by rw [tl, h]; decide
      clear tl h
      go_enter Tryd.func50, Tryd.ntmps50
      go_wp2_with fail
      (with_reducible refine (c _).mono ?_)
      rintro e w' ⟨rfl, rfl⟩
      go_wp2_with fail
      first | go_ret2 | go_returns
      exact ⟨rfl, rfl⟩
    · have c := fun W => NumW.mod_c a b W a0 a1 b0 b1 hb
      have hs : opP op.data.toList a b = (a.fmod b, 0) := by rw [h]; simp [opP, hb]
      rw [hs]
      generalize a.fmod b = PR at *
      clear hs
      have t0 : (op.toList == [43]) = false := by rw [tl, h]; decide
      have t1 : (op.toList == [45]) = false := by rw [tl, h]; decide
      have t2 : (op.toList == [42]) = false := by rw [tl, h]; decide
      have t3 : (op.toList == [47]) = false := by rw [tl, h]; decide
      have t4 : (op.toList == [37]) = true := by rw [tl, h]; decide
      have t5 : (op.toList == [61, 61]) = false := by rw [tl, h]; decide
      have t6 : (op.toList == [33, 61]) = false := by rw [tl, h]; decide
      have t7 : (op.toList == [60]) = false := by rw [tl, h]; decide
      have t8 : (op.toList == [62]) = false := by rw [tl, h]; decide
      have t9 : (op.toList == [60, 61]) = false := by rw [tl, h]; decide
      clear tl h
      go_enter Tryd.func50, Tryd.ntmps50
      go_wp2_with fail
      (with_reducible refine (c _).mono ?_)
      rintro e w' ⟨rfl, rfl⟩
      go_wp2_with fail
      first | go_ret2 | go_returns
      exact ⟨rfl, rfl⟩
  have h37 := h
  clear h
  by_cases h : op.data.toList = [61, 61]
  · have c := fun W => bit_c (a == b) W
    have hs : opP op.data.toList a b = (bitP (a == b), 0) := by rw [h]; simp [opP]
    rw [hs]
    generalize bitP (a == b) = PR at *
    clear hs
    have t0 : (op.toList == [43]) = false := by rw [tl, h]; decide
    have t1 : (op.toList == [45]) = false := by rw [tl, h]; decide
    have t2 : (op.toList == [42]) = false := by rw [tl, h]; decide
    have t3 : (op.toList == [47]) = false := by rw [tl, h]; decide
    have t4 : (op.toList == [37]) = false := by rw [tl, h]; decide
    have t5 : (op.toList == [61, 61]) = true := by rw [tl, h]; decide
    have t6 : (op.toList == [33, 61]) = false := by rw [tl, h]; decide
    have t7 : (op.toList == [60]) = false := by rw [tl, h]; decide
    have t8 : (op.toList == [62]) = false := by rw [tl, h]; decide
    have t9 : (op.toList == [60, 61]) = false := by rw [tl, h]; decide
    clear tl h
    go_enter Tryd.func50, Tryd.ntmps50
    go_wp2_with fail
    (with_reducible refine (c _).mono ?_)
    rintro e w' ⟨rfl, rfl⟩
    go_wp2_with fail
    first | go_ret2 | go_returns
    exact ⟨rfl, rfl⟩
  have k0 := h
  clear h
  by_cases h : op.data.toList = [33, 61]
  · have c := fun W => bit_c (a != b) W
    have hs : opP op.data.toList a b = (bitP (a != b), 0) := by rw [h]; simp [opP]
    rw [hs]
    generalize bitP (a != b) = PR at *
    clear hs
    have t0 : (op.toList == [43]) = false := by rw [tl, h]; decide
    have t1 : (op.toList == [45]) = false := by rw [tl, h]; decide
    have t2 : (op.toList == [42]) = false := by rw [tl, h]; decide
    have t3 : (op.toList == [47]) = false := by rw [tl, h]; decide
    have t4 : (op.toList == [37]) = false := by rw [tl, h]; decide
    have t5 : (op.toList == [61, 61]) = false := by rw [tl, h]; decide
    have t6 : (op.toList == [33, 61]) = true := by rw [tl, h]; decide
    have t7 : (op.toList == [60]) = false := by rw [tl, h]; decide
    have t8 : (op.toList == [62]) = false := by rw [tl, h]; decide
    have t9 : (op.toList == [60, 61]) = false := by rw [tl, h]; decide
    clear tl h
    go_enter Tryd.func50, Tryd.ntmps50
    go_wp2_with fail
    (with_reducible refine (c _).mono ?_)
    rintro e w' ⟨rfl, rfl⟩
    go_wp2_with fail
    first | go_ret2 | go_returns
    exact ⟨rfl, rfl⟩
  have k1 := h
  clear h
  by_cases h : op.data.toList = [60]
  · have c := fun W => bit_c (decide (a < b)) W
    have hs : opP op.data.toList a b = (bitP (decide (a < b)), 0) := by rw [h]; simp [opP]
    rw [hs]
    generalize bitP (decide (a < b)) = PR at *
    clear hs
    have t0 : (op.toList == [43]) = false := by rw [tl, h]; decide
    have t1 : (op.toList == [45]) = false := by rw [tl, h]; decide
    have t2 : (op.toList == [42]) = false := by rw [tl, h]; decide
    have t3 : (op.toList == [47]) = false := by rw [tl, h]; decide
    have t4 : (op.toList == [37]) = false := by rw [tl, h]; decide
    have t5 : (op.toList == [61, 61]) = false := by rw [tl, h]; decide
    have t6 : (op.toList == [33, 61]) = false := by rw [tl, h]; decide
    have t7 : (op.toList == [60]) = true := by rw [tl, h]; decide
    have t8 : (op.toList == [62]) = false := by rw [tl, h]; decide
    have t9 : (op.toList == [60, 61]) = false := by rw [tl, h]; decide
    clear tl h
    go_enter Tryd.func50, Tryd.ntmps50
    go_wp2_with fail
    (with_reducible refine (c _).mono ?_)
    rintro e w' ⟨rfl, rfl⟩
    go_wp2_with fail
    first | go_ret2 | go_returns
    exact ⟨rfl, rfl⟩
  have k2 := h
  clear h
  by_cases h : op.data.toList = [62]
  · have c := fun W => bit_c (decide (b < a)) W
    have hs : opP op.data.toList a b = (bitP (decide (b < a)), 0) := by rw [h]; simp [opP]
    rw [hs]
    generalize bitP (decide (b < a)) = PR at *
    clear hs
    have t0 : (op.toList == [43]) = false := by rw [tl, h]; decide
    have t1 : (op.toList == [45]) = false := by rw [tl, h]; decide
    have t2 : (op.toList == [42]) = false := by rw [tl, h]; decide
    have t3 : (op.toList == [47]) = false := by rw [tl, h]; decide
    have t4 : (op.toList == [37]) = false := by rw [tl, h]; decide
    have t5 : (op.toList == [61, 61]) = false := by rw [tl, h]; decide
    have t6 : (op.toList == [33, 61]) = false := by rw [tl, h]; decide
    have t7 : (op.toList == [60]) = false := by rw [tl, h]; decide
    have t8 : (op.toList == [62]) = true := by rw [tl, h]; decide
    have t9 : (op.toList == [60, 61]) = false := by rw [tl, h]; decide
    clear tl h
    go_enter Tryd.func50, Tryd.ntmps50
    go_wp2_with fail
    (with_reducible refine (c _).mono ?_)
    rintro e w' ⟨rfl, rfl⟩
    go_wp2_with fail
    first | go_ret2 | go_returns
    exact ⟨rfl, rfl⟩
  have k3 := h
  clear h
  by_cases h : op.data.toList = [60, 61]
  · have c := fun W => bit_c (decide (a ≤ b)) W
    have hs : opP op.data.toList a b = (bitP (decide (a ≤ b)), 0) := by rw [h]; simp [opP]
    rw [hs]
    generalize bitP (decide (a ≤ b)) = PR at *
    clear hs
    have t0 : (op.toList == [43]) = false := by rw [tl, h]; decide
    have t1 : (op.toList == [45]) = false := by rw [tl, h]; decide
    have t2 : (op.toList == [42]) = false := by rw [tl, h]; decide
    have t3 : (op.toList == [47]) = false := by rw [tl, h]; decide
    have t4 : (op.toList == [37]) = false := by rw [tl, h]; decide
    have t5 : (op.toList == [61, 61]) = false := by rw [tl, h]; decide
    have t6 : (op.toList == [33, 61]) = false := by rw [tl, h]; decide
    have t7 : (op.toList == [60]) = false := by rw [tl, h]; decide
    have t8 : (op.toList == [62]) = false := by rw [tl, h]; decide
    have t9 : (op.toList == [60, 61]) = true := by rw [tl, h]; decide
    clear tl h
    go_enter Tryd.func50, Tryd.ntmps50
    go_wp2_with fail
    (with_reducible refine (c _).mono ?_)
    rintro e w' ⟨rfl, rfl⟩
    go_wp2_with fail
    first | go_ret2 | go_returns
    exact ⟨rfl, rfl⟩
  have k4 := h
  clear h
  have c := fun W => bit_c (decide (b ≤ a)) W
  have hs : opP op.data.toList a b = (bitP (decide (b ≤ a)), 0) := by simp [opP, h43, h45, h42, h47, h37, k0, k1, k2, k3, k4]
  rw [hs]
  generalize bitP (decide (b ≤ a)) = PR at *
  have t0 : (op.toList == [43]) = false := by rw [tl, beq_eq_false_iff_ne]; exact h43
  have t1 : (op.toList == [45]) = false := by rw [tl, beq_eq_false_iff_ne]; exact h45
  have t2 : (op.toList == [42]) = false := by rw [tl, beq_eq_false_iff_ne]; exact h42
  have t3 : (op.toList == [47]) = false := by rw [tl, beq_eq_false_iff_ne]; exact h47
  have t4 : (op.toList == [37]) = false := by rw [tl, beq_eq_false_iff_ne]; exact h37
  have t5 : (op.toList == [61, 61]) = false := by rw [tl, beq_eq_false_iff_ne]; exact k0
  have t6 : (op.toList == [33, 61]) = false := by rw [tl, beq_eq_false_iff_ne]; exact k1
  have t7 : (op.toList == [60]) = false := by rw [tl, beq_eq_false_iff_ne]; exact k2
  have t8 : (op.toList == [62]) = false := by rw [tl, beq_eq_false_iff_ne]; exact k3
  have t9 : (op.toList == [60, 61]) = false := by rw [tl, beq_eq_false_iff_ne]; exact k4
  clear hs h43 h45 h42 h47 h37 k0 k1 k2 k3 k4
  clear tl
  go_enter Tryd.func50, Tryd.ntmps50
  go_wp2_with fail
  (with_reducible refine (c _).mono ?_)
  rintro e w' ⟨rfl, rfl⟩
  go_wp2_with fail
  first | go_ret2 | go_returns
  exact ⟨rfl, rfl⟩
set_option maxHeartbeats 1600000 in
theorem rop_c : Calls Tryd.prog 41 #[.string op, .int .i64 a, .int .i64 b] w fun e w' => e = .returned (tup (opP op.data.toList a b)) ∧ w = w' := by
  have tl : op.toList = op.data.toList := Lib.toList_data _
  by_cases h : op.data.toList = [43]
  · have c := fun W => NumW.radd_c a b W a0 a1 b0 b1
    simp only [res_tup] at c
    have hs : opP op.data.toList a b = resP (a + b) := by rw [h]; simp [opP]
    rw [hs]
    generalize resP (a + b) = PR at *
    clear hs
    have t0 : (op.toList == [43]) = true := by rw [tl, h]; decide
    have t1 : (op.toList == [45]) = false := by rw [tl, h]; decide
    have t2 : (op.toList == [42]) = false := by rw [tl, h]; decide
    have t3 : (op.toList == [47]) = false := by rw [tl, h]; decide
    have t4 : (op.toList == [37]) = false := by rw [tl, h]; decide
    have t5 : (op.toList == [61, 61]) = false := by rw [tl, h]; decide
    have t6 : (op.toList == [33, 61]) = false := by rw [tl, h]; decide
    have t7 : (op.toList == [60]) = false := by rw [tl, h]; decide
    have t8 : (op.toList == [62]) = false := by rw [tl, h]; decide
    have t9 : (op.toList == [60, 61]) = false := by rw [tl, h]; decide
    clear tl h
    go_enter Tryd.func41, Tryd.ntmps41
    go_wp2_with fail
    (with_reducible refine (c _).mono ?_)
    rintro e w' ⟨rfl, rfl⟩
    go_wp2_with fail
    first | go_ret2 | go_returns
    exact ⟨rfl, rfl⟩
  have h43 := h
  clear h
  by_cases h : op.data.toList = [45]
  · have c := fun W => NumW.rsub_c a b W a0 a1 b0 b1
    simp only [res_tup] at c
    have hs : opP op.data.toList a b = resP (a - b) := by rw [h]; simp [opP]
    rw [hs]
    generalize resP (a - b) = PR at *
    clear hs
    have t0 : (op.toList == [43]) = false := by rw [tl, h]; decide
    have t1 : (op.toList == [45]) = true := by rw [tl, h]; decide
    have t2 : (op.toList == [42]) = false := by rw [tl, h]; decide
    have t3 : (op.toList == [47]) = false := by rw [tl, h]; decide
    have t4 : (op.toList == [37]) = false := by rw [tl, h]; decide
    have t5 : (op.toList == [61, 61]) = false := by rw [tl, h]; decide
    have t6 : (op.toList == [33, 61]) = false := by rw [tl, h]; decide
    have t7 : (op.toList == [60]) = false := by rw [tl, h]; decide
    have t8 : (op.toList == [62]) = false := by rw [tl, h]; decide
    have t9 : (op.toList == [60, 61]) = false := by rw [tl, h]; decide
    clear tl h
    go_enter Tryd.func41, Tryd.ntmps41
    go_wp2_with fail
    (with_reducible refine (c _).mono ?_)
    rintro e w' ⟨rfl, rfl⟩
    go_wp2_with fail
    first | go_ret2 | go_returns
    exact ⟨rfl, rfl⟩
  have h45 := h
  clear h
  by_cases h : op.data.toList = [42]
  · have c := fun W => NumW.rmul_c a b W a0 a1 b0 b1
    simp only [res_tup] at c
    have hs : opP op.data.toList a b = resP (a * b) := by rw [h]; simp [opP]
    rw [hs]
    generalize resP (a * b) = PR at *
    clear hs
    have t0 : (op.toList == [43]) = false := by rw [tl, h]; decide
    have t1 : (op.toList == [45]) = false := by rw [tl, h]; decide
    have t2 : (op.toList == [42]) = true := by rw [tl, h]; decide
    have t3 : (op.toList == [47]) = false := by rw [tl, h]; decide
    have t4 : (op.toList == [37]) = false := by rw [tl, h]; decide
    have t5 : (op.toList == [61, 61]) = false := by rw [tl, h]; decide
    have t6 : (op.toList == [33, 61]) = false := by rw [tl, h]; decide
    have t7 : (op.toList == [60]) = false := by rw [tl, h]; decide
    have t8 : (op.toList == [62]) = false := by rw [tl, h]; decide
    have t9 : (op.toList == [60, 61]) = false := by rw [tl, h]; decide
    clear tl h
    go_enter Tryd.func41, Tryd.ntmps41
    go_wp2_with fail
    (with_reducible refine (c _).mono ?_)
    rintro e w' ⟨rfl, rfl⟩
    go_wp2_with fail
    first | go_ret2 | go_returns
    exact ⟨rfl, rfl⟩
  have h42 := h
  clear h
  by_cases h : op.data.toList = [47]
  · by_cases hb : b = 0
    · subst hb
      have c := fun W => NumW.rdiv0_c a W
      have hs : opP op.data.toList a 0 = (0, 4) := by rw [h]; simp [opP]
      rw [hs]
      clear hs
      have t0 : (op.toList == [43]) = false := by rw [tl, h]; decide
      have t1 : (op.toList == [45]) = false := by rw [tl, h]; decide
      have t2 : (op.toList == [42]) = false := by rw [tl, h]; decide
      have t3 : (op.toList == [47]) = true := by rw [tl, h]; decide
      have t4 : (op.toList == [37]) = false := by rw [tl, h]; decide
      have t5 : (op.toList == [61, 61]) = false := by rw [tl, h]; decide
      have t6 : (op.toList == [33, 61]) = false := by rw [tl, h]; decide
      have t7 : (op.toList == [60]) = false := by rw [tl, h]; decide
      have t8 : (op.toList == [62]) = false := by rw [tl, h]; decide
      have t9 : (op.toList == [60, 61]) = false := by rw [tl, h]; decide
      clear tl h
      go_enter Tryd.func41, Tryd.ntmps41
      go_wp2_with fail
      (with_reducible refine (c _).mono ?_)
      rintro e w' ⟨rfl, rfl⟩
      go_wp2_with fail
      first | go_ret2 | go_returns
      exact ⟨rfl, rfl⟩
    · have c := fun W => NumW.rdiv_c a b W a0 a1 b0 b1 hb
      have hs : opP op.data.toList a b = resP (a.fdiv b) := by rw [h]; simp [opP, hb]
      obtain ⟨PR, hPR⟩ : ∃ P, resP (a.fdiv b) = P := ⟨_, rfl⟩
      rw [hs, hPR]
      clear hs
      have t0 : (op.toList == [43]) = false := by rw [tl, h]; decide
      have t1 : (op.toList == [45]) = false := by rw [tl, h]; decide
      have t2 : (op.toList == [42]) = false := by rw [tl, h]; decide
      have t3 : (op.toList == [47]) = true := by rw [tl, h]; decide
      have t4 : (op.toList == [37]) = false := by rw [tl, h]; decide
      have t5 : (op.toList == [61, 61]) = false := by rw [tl, h]; decide
      have t6 : (op.toList == [33, 61]) = false := by rw [tl, h]; decide
      have t7 : (op.toList == [60]) = false := by rw [tl, h]; decide
      have t8 : (op.toList == [62]) = false := by rw [tl, h]; decide
      have t9 : (op.toList == [60, 61]) = false := by rw [tl, h]; decide
      clear tl h
      go_enter Tryd.func41, Tryd.ntmps41
      go_wp2_with fail
      (with_reducible refine (c _).mono ?_)
      rintro e w' ⟨⟨n, k, rfl, hr⟩, rfl⟩
      rw [res_tup, hPR] at hr
      obtain ⟨h1, h2⟩ : n = PR.1 ∧ k = PR.2 := by simpa [tup, eq_comm] using hr
      subst h1; subst h2
      clear hr c hPR
      go_wp2_with fail
      first | go_ret2 | go_returns
      exact ⟨rfl, rfl⟩
  have h47 := h
  clear h
  by_cases h : op.data.toList = [37]
  · by_cases hb : b = 0
    · subst hb
      have hs : opP op.data.toList a 0 = (0, 4) := by rw [h]; simp [opP]
      rw [hs]
      clear hs
      have t0 : (op.toList == [43]) = false := by rw [tl, h]; decide
      have t1 : (op.toList == [45]) = false := by rw [tl, h]; decide
      have t2 : (op.toList == [42]) = false := by rw [tl, h]; decide
      have t3 : (op.toList == [47]) = false := by rw [tl, h]; decide
      have t4 : (op.toList == [37]) = true := by rw [tl, h]; decide
      have t5 : (op.toList == [61, 61]) = false := by rw [tl, h]; decide
      have t6 : (op.toList == [33, 61]) = false := by rw [tl, h]; decide
      have t7 : (op.toList == [60]) = false := by rw [tl, h]; decide
      have t8 : (op.toList == [62]) = false := by rw [tl, h]; decide
      have t9 : (op.toList == [60, 61]) = false := by rw [tl, h]; decide
      clear tl h
      go_enter Tryd.func41, Tryd.ntmps41
      go_wp2_with fail
      first | go_ret2 | go_returns
      exact ⟨rfl, rfl⟩
    · have c := fun W => NumW.rdiv_c a b W a0 a1 b0 b1 hb
      have hs : opP op.data.toList a b = (a.fmod b, 0) := by rw [h]; simp [opP, hb]
      have hb0 : (b == 0) = false := by simpa using hb
      obtain ⟨PR, hPR⟩ : ∃ P, a.fmod b = P := ⟨_, rfl⟩
      rw [hs, hPR]
      clear hs hb
      have t0 : (op.toList == [43]) = false := by rw [tl, h]; decide
      have t1 : (op.toList == [45]) = false := by rw [tl, h]; decide
      have t2 : (op.toList == [42]) = false := by rw [tl, h]; decide
      have t3 : (op.toList == [47]) = false := by rw [tl, h]; decide
      have t4 : (op.toList == [37]) = true := by rw [tl, h]; decide
      have t5 : (op.toList == [61, 61]) = false := by rw [tl, h]; decide
      have t6 : (op.toList == [33, 61]) = false := by rw [tl, h]; decide
      have t7 : (op.toList == [60]) = false := by rw [tl, h]; decide
      have t8 : (op.toList == [62]) = false := by rw [tl, h]; decide
      have t9 : (op.toList == [60, 61]) = false := by rw [tl, h]; decide
      clear tl h
      go_enter Tryd.func41, Tryd.ntmps41
      go_wp2_with fail
      (with_reducible refine (c _).mono ?_)
      rintro e w' ⟨⟨n, k, he, hr⟩, rfl⟩
      rw [hPR] at he
      subst he
      clear hr c hPR
      go_wp2_with fail
      first | go_ret2 | go_returns
      exact ⟨rfl, rfl⟩
  have h37 := h
  clear h
  by_cases h : op.data.toList = [61, 61]
  · have c := fun W => rbit_c (a == b) W
    have hs : opP op.data.toList a b = (bitP (a == b), 0) := by rw [h]; simp [opP]
    rw [hs]
    generalize bitP (a == b) = PR at *
    clear hs
    have t0 : (op.toList == [43]) = false := by rw [tl, h]; decide
    have t1 : (op.toList == [45]) = false := by rw [tl, h]; decide
    have t2 : (op.toList == [42]) = false := by rw [tl, h]; decide
    have t3 : (op.toList == [47]) = false := by rw [tl, h]; decide
    have t4 : (op.toList == [37]) = false := by rw [tl, h]; decide
    have t5 : (op.toList == [61, 61]) = true := by rw [tl, h]; decide
    have t6 : (op.toList == [33, 61]) = false := by rw [tl, h]; decide
    have t7 : (op.toList == [60]) = false := by rw [tl, h]; decide
    have t8 : (op.toList == [62]) = false := by rw [tl, h]; decide
    have t9 : (op.toList == [60, 61]) = false := by rw [tl, h]; decide
    clear tl h
    go_enter Tryd.func41, Tryd.ntmps41
    go_wp2_with fail
    (with_reducible refine (c _).mono ?_)
    rintro e w' ⟨rfl, rfl⟩
    go_wp2_with fail
    first | go_ret2 | go_returns
    exact ⟨rfl, rfl⟩
  have k0 := h
  clear h
  by_cases h : op.data.toList = [33, 61]
  · have c := fun W => rbit_c (a != b) W
    have hs : opP op.data.toList a b = (bitP (a != b), 0) := by rw [h]; simp [opP]
    rw [hs]
    generalize bitP (a != b) = PR at *
    clear hs
    have t0 : (op.toList == [43]) = false := by rw [tl, h]; decide
    have t1 : (op.toList == [45]) = false := by rw [tl, h]; decide
    have t2 : (op.toList == [42]) = false := by rw [tl, h]; decide
    have t3 : (op.toList == [47]) = false := by rw [tl, h]; decide
    have t4 : (op.toList == [37]) = false := by rw [tl, h]; decide
    have t5 : (op.toList == [61, 61]) = false := by rw [tl, h]; decide
    have t6 : (op.toList == [33, 61]) = true := by rw [tl, h]; decide
    have t7 : (op.toList == [60]) = false := by rw [tl, h]; decide
    have t8 : (op.toList == [62]) = false := by rw [tl, h]; decide
    have t9 : (op.toList == [60, 61]) = false := by rw [tl, h]; decide
    clear tl h
    go_enter Tryd.func41, Tryd.ntmps41
    go_wp2_with fail
    (with_reducible refine (c _).mono ?_)
    rintro e w' ⟨rfl, rfl⟩
    go_wp2_with fail
    first | go_ret2 | go_returns
    exact ⟨rfl, rfl⟩
  have k1 := h
  clear h
  by_cases h : op.data.toList = [60]
  · have c := fun W => rbit_c (decide (a < b)) W
    have hs : opP op.data.toList a b = (bitP (decide (a < b)), 0) := by rw [h]; simp [opP]
    rw [hs]
    generalize bitP (decide (a < b)) = PR at *
    clear hs
    have t0 : (op.toList == [43]) = false := by rw [tl, h]; decide
    have t1 : (op.toList == [45]) = false := by rw [tl, h]; decide
    have t2 : (op.toList == [42]) = false := by rw [tl, h]; decide
    have t3 : (op.toList == [47]) = false := by rw [tl, h]; decide
    have t4 : (op.toList == [37]) = false := by rw [tl, h]; decide
    have t5 : (op.toList == [61, 61]) = false := by rw [tl, h]; decide
    have t6 : (op.toList == [33, 61]) = false := by rw [tl, h]; decide
    have t7 : (op.toList == [60]) = true := by rw [tl, h]; decide
    have t8 : (op.toList == [62]) = false := by rw [tl, h]; decide
    have t9 : (op.toList == [60, 61]) = false := by rw [tl, h]; decide
    clear tl h
    go_enter Tryd.func41, Tryd.ntmps41
    go_wp2_with fail
    (with_reducible refine (c _).mono ?_)
    rintro e w' ⟨rfl, rfl⟩
    go_wp2_with fail
    first | go_ret2 | go_returns
    exact ⟨rfl, rfl⟩
  have k2 := h
  clear h
  by_cases h : op.data.toList = [62]
  · have c := fun W => rbit_c (decide (b < a)) W
    have hs : opP op.data.toList a b = (bitP (decide (b < a)), 0) := by rw [h]; simp [opP]
    rw [hs]
    generalize bitP (decide (b < a)) = PR at *
    clear hs
    have t0 : (op.toList == [43]) = false := by rw [tl, h]; decide
    have t1 : (op.toList == [45]) = false := by rw [tl, h]; decide
    have t2 : (op.toList == [42]) = false := by rw [tl, h]; decide
    have t3 : (op.toList == [47]) = false := by rw [tl, h]; decide
    have t4 : (op.toList == [37]) = false := by rw [tl, h]; decide
    have t5 : (op.toList == [61, 61]) = false := by rw [tl, h]; decide
    have t6 : (op.toList == [33, 61]) = false := by rw [tl, h]; decide
    have t7 : (op.toList == [60]) = false := by rw [tl, h]; decide
    have t8 : (op.toList == [62]) = true := by rw [tl, h]; decide
    have t9 : (op.toList == [60, 61]) = false := by rw [tl, h]; decide
    clear tl h
    go_enter Tryd.func41, Tryd.ntmps41
    go_wp2_with fail
    (with_reducible refine (c _).mono ?_)
    rintro e w' ⟨rfl, rfl⟩
    go_wp2_with fail
    first | go_ret2 | go_returns
    exact ⟨rfl, rfl⟩
  have k3 := h
  clear h
  by_cases h : op.data.toList = [60, 61]
  · have c := fun W => rbit_c (decide (a ≤ b)) W
    have hs : opP op.data.toList a b = (bitP (decide (a ≤ b)), 0) := by rw [h]; simp [opP]
    rw [hs]
    generalize bitP (decide (a ≤ b)) = PR at *
    clear hs
    have t0 : (op.toList == [43]) = false := by rw [tl, h]; decide
    have t1 : (op.toList == [45]) = false := by rw [tl, h]; decide
    have t2 : (op.toList == [42]) = false := by rw [tl, h]; decide
    have t3 : (op.toList == [47]) = false := by rw [tl, h]; decide
    have t4 : (op.toList == [37]) = false := by rw [tl, h]; decide
    have t5 : (op.toList == [61, 61]) = false := by rw [tl, h]; decide
    have t6 : (op.toList == [33, 61]) = false := by rw [tl, h]; decide
    have t7 : (op.toList == [60]) = false := by rw [tl, h]; decide
    have t8 : (op.toList == [62]) = false := by rw [tl, h]; decide
    have t9 : (op.toList == [60, 61]) = true := by rw [tl, h]; decide
    clear tl h
    go_enter Tryd.func41, Tryd.ntmps41
    go_wp2_with fail
    (with_reducible refine (c _).mono ?_)
    rintro e w' ⟨rfl, rfl⟩
    go_wp2_with fail
    first | go_ret2 | go_returns
    exact ⟨rfl, rfl⟩
  have k4 := h
  clear h
  have c := fun W => rbit_c (decide (b ≤ a)) W
  have hs : opP op.data.toList a b = (bitP (decide (b ≤ a)), 0) := by simp [opP, h43, h45, h42, h47, h37, k0, k1, k2, k3, k4]
  rw [hs]
  generalize bitP (decide (b ≤ a)) = PR at *
  have t0 : (op.toList == [43]) = false := by rw [tl, beq_eq_false_iff_ne]; exact h43
  have t1 : (op.toList == [45]) = false := by rw [tl, beq_eq_false_iff_ne]; exact h45
  have t2 : (op.toList == [42]) = false := by rw [tl, beq_eq_false_iff_ne]; exact h42
  have t3 : (op.toList == [47]) = false := by rw [tl, beq_eq_false_iff_ne]; exact h47
  have t4 : (op.toList == [37]) = false := by rw [tl, beq_eq_false_iff_ne]; exact h37
  have t5 : (op.toList == [61, 61]) = false := by rw [tl, beq_eq_false_iff_ne]; exact k0
  have t6 : (op.toList == [33, 61]) = false := by rw [tl, beq_eq_false_iff_ne]; exact k1
  have t7 : (op.toList == [60]) = false := by rw [tl, beq_eq_false_iff_ne]; exact k2
  have t8 : (op.toList == [62]) = false := by rw [tl, beq_eq_false_iff_ne]; exact k3
  have t9 : (op.toList == [60, 61]) = false := by rw [tl, beq_eq_false_iff_ne]; exact k4
  clear hs h43 h45 h42 h47 h37 k0 k1 k2 k3 k4
  clear tl
  go_enter Tryd.func41, Tryd.ntmps41
  go_wp2_with fail
  (with_reducible refine (c _).mono ?_)
  rintro e w' ⟨rfl, rfl⟩
  go_wp2_with fail
  first | go_ret2 | go_returns
  exact ⟨rfl, rfl⟩
end
end CalW
end Go.Proofs.YtledgkplddeghaaDoor
