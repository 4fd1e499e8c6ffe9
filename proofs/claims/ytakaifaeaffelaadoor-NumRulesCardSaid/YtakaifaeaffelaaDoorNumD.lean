/- The walk of the law on rules. Conditions: numbers of 64 bits; the tables of strconv. -/
import Derived.Test.YtakaifaeaffelaaDoorNumA
namespace Go.Proofs.YtakaifaeaffelaaDoor
open Go.RowKit
namespace NumW
open NumP
theorem res_fits {n : Int} {p q : Int} (h : res n = .tuple #[.int .i64 p, .int .i64 q]) : ((q == 0) = true ∧ p = n ∧ q = 0) ∨ ((q == 0) = false ∧ q = 3 ∧ p = 0 ∧ ¬ (-9223372036854775808 ≤ n ∧ n ≤ 9223372036854775807)) := by
  unfold res at h
  split at h
  · next hi =>
    simp only [Value.tuple.injEq, Array.mk.injEq, List.cons.injEq, Value.int.injEq, true_and, and_true] at h
    obtain ⟨rfl, rfl⟩ := h
    exact Or.inl ⟨rfl, rfl, rfl⟩
  · next hi =>
    simp only [Value.tuple.injEq, Array.mk.injEq, List.cons.injEq, Value.int.injEq, true_and, and_true] at h
    obtain ⟨rfl, rfl⟩ := h
    exact Or.inr ⟨rfl, rfl, rfl, hi⟩
theorem fmod_neg_lt (a : Int) {b : Int} (h : b < 0) : b < a.fmod b ∧ a.fmod b ≤ 0 := by
  have e := Int.neg_fmod_neg a b
  have m0 := Int.fmod_nonneg_of_pos (-a) (b := -b) (by omega)
  have m1 := Int.fmod_lt_of_pos (-a) (b := -b) (by omega)
  omega
theorem fdiv_over {a b : Int} (a0 : -9223372036854775808 ≤ a) (a1 : a ≤ 9223372036854775807) (h0 : b ≠ 0) (h : ¬ (-9223372036854775808 ≤ a.fdiv b ∧ a.fdiv b ≤ 9223372036854775807)) : b = -1 := by
  have e := Int.mul_fdiv_add_fmod a b
  by_cases h1 : b = -1
  · exact h1
  exfalso
  apply h
  rcases Int.lt_trichotomy b 0 with hb | hb | hb
  · obtain ⟨m0, m1⟩ := fmod_neg_lt a hb
    generalize a.fdiv b = q at *
    generalize a.fmod b = r at *
    constructor
    · by_cases hq : q < -9223372036854775808
      · have := Int.mul_le_mul_of_nonpos_left (a := b) (b := -9223372036854775809) (c := q) (by omega) (by omega)
        have t : b * (-9223372036854775809) = -9223372036854775809 * b := Int.mul_comm _ _
        generalize b * q = z at *
        omega
      · omega
    · by_cases hq : 9223372036854775807 < q
      · have := Int.mul_le_mul_of_nonpos_left (a := b) (b := q) (c := 9223372036854775808) (by omega) (by omega)
        have t : b * 9223372036854775808 = 9223372036854775808 * b := Int.mul_comm _ _
        generalize b * q = z at *
        omega
      · omega
  · exact absurd hb h0
  · have m0 := Int.fmod_nonneg_of_pos a hb
    have m1 := Int.fmod_lt_of_pos a hb
    generalize a.fdiv b = q at *
    generalize a.fmod b = r at *
    constructor
    · by_cases hq : q < -9223372036854775808
      · have := Int.mul_le_mul_of_nonneg_left (a := q) (b := -9223372036854775809) (c := b) (by omega) (by omega)
        have t : b * (-9223372036854775809) = -9223372036854775809 * b := Int.mul_comm _ _
        generalize b * q = z at *
        omega
      · omega
    · by_cases hq : 9223372036854775807 < q
      · have := Int.mul_le_mul_of_nonneg_left (a := 9223372036854775808) (b := q) (c := b) (by omega) (by omega)
        have t : b * 9223372036854775808 = 9223372036854775808 * b := Int.mul_comm _ _
        generalize b * q = z at *
        omega
      · omega
theorem fmod_m1 (a : Int) : a.fmod (-1) = 0 := by have := fmod_neg_lt a (b := -1) (by omega); omega
section
variable (a b : Int) (w : World) (a0 : -9223372036854775808 ≤ a) (a1 : a ≤ 9223372036854775807) (b0 : -9223372036854775808 ≤ b) (b1 : b ≤ 9223372036854775807) (hw : Rdy w)
include a0 a1 b0 b1 hw
omit a0 a1 b0 b1 hw in
theorem wrap_qr {q b r a : Int} (h : q * b + r = a) (a0 : -9223372036854775808 ≤ a) (a1 : a ≤ 9223372036854775807) : wrap64 (wrap64 (q * b) + r) = a := by
  subst h; unfold wrap64; omega
set_option maxHeartbeats 1600000 in
theorem rules_ii (h0 : b ≠ 0) (hs : -9223372036854775808 ≤ a - b ∧ a - b ≤ 9223372036854775807) (hd : -9223372036854775808 ≤ a.fdiv b ∧ a.fdiv b ≤ 9223372036854775807) : Calls Tryd.prog 5 #[.int .i64 a, .int .i64 b] w fun e w' => e = .returned (.bool true) ∧ Below w.heap.size w w' := by
  have cw := awake_c w hw
  have c1 := fun W => sub_c a b W a0 a1 b0 b1
  rw [res_in hs] at c1
  have c2 := fun W => add_c (a - b) b W hs.1 hs.2 b0 b1
  rw [show a - b + b = a by omega, res_in (n := a) ⟨a0, a1⟩] at c2
  have c3 := fun W => div_c a b W a0 a1 b0 b1 h0
  rw [res_in hd] at c3
  have c4 := fun W => mod_c a b W a0 a1 b0 b1 h0
  have ek := Int.mul_fdiv_add_fmod a b
  rw [Int.mul_comm] at ek
  have kp : 0 < b → 0 ≤ a.fmod b ∧ a.fmod b < b := fun h => ⟨Int.fmod_nonneg_of_pos a h, Int.fmod_lt_of_pos a h⟩
  have kn : b < 0 → b < a.fmod b ∧ a.fmod b ≤ 0 := fun h => fmod_neg_lt a h
  generalize a.fdiv b = q at *
  generalize a.fmod b = r at *
  generalize a - b = d at *
  have w0 : (wrap64 (wrap64 (q * b) + r) == a) = true := by rw [wrap_qr ek a0 a1]; simp
  by_cases hb : 0 < b
  · obtain ⟨k1, k2⟩ := kp hb
    have d1 : decide (0 < b) = true := by simpa using hb
    have d2 : decide (b < 0) = false := by simp; omega
    have d3 : decide (r < 0) = false := by simp; omega
    have d4 : decide (b ≤ r) = false := by simp; omega
    clear kp kn k1 k2 ek hs hd h0 hb
    go_enter Tryd.func5, Tryd.ntmps5
    go_wp2_with fail
    (with_reducible refine cw.mono ?_)
    rintro e w1 ⟨rfl, hB⟩
    go_wp2_with (first
      | (with_reducible refine (c1 _).mono ?_; rintro e w' ⟨rfl, rfl⟩)
      | (with_reducible refine (c2 _).mono ?_; rintro e w' ⟨rfl, rfl⟩)
      | (with_reducible refine (c3 _).mono ?_; rintro e w' ⟨rfl, rfl⟩)
      | (with_reducible refine (c4 _).mono ?_; rintro e w' ⟨rfl, rfl⟩))
    all_goals (go_ret; exact ⟨rfl, hB⟩)
  · obtain ⟨k1, k2⟩ := kn (by omega)
    have d1 : decide (0 < b) = false := by simp; omega
    have d2 : decide (b < 0) = true := by simp; omega
    have d3 : decide (0 < r) = false := by simp; omega
    have d4 : decide (r ≤ b) = false := by simp; omega
    clear kp kn k1 k2 ek hs hd h0 hb
    go_enter Tryd.func5, Tryd.ntmps5
    go_wp2_with fail
    (with_reducible refine cw.mono ?_)
    rintro e w1 ⟨rfl, hB⟩
    go_wp2_with (first
      | (with_reducible refine (c1 _).mono ?_; rintro e w' ⟨rfl, rfl⟩)
      | (with_reducible refine (c2 _).mono ?_; rintro e w' ⟨rfl, rfl⟩)
      | (with_reducible refine (c3 _).mono ?_; rintro e w' ⟨rfl, rfl⟩)
      | (with_reducible refine (c4 _).mono ?_; rintro e w' ⟨rfl, rfl⟩))
    all_goals (go_ret; exact ⟨rfl, hB⟩)
set_option maxHeartbeats 1600000 in
theorem rules_oi (h0 : b ≠ 0) (hs : ¬ (-9223372036854775808 ≤ a - b ∧ a - b ≤ 9223372036854775807)) (hd : -9223372036854775808 ≤ a.fdiv b ∧ a.fdiv b ≤ 9223372036854775807) : Calls Tryd.prog 5 #[.int .i64 a, .int .i64 b] w fun e w' => e = .returned (.bool true) ∧ Below w.heap.size w w' := by
  have cw := awake_c w hw
  have c1 := fun W => sub_c a b W a0 a1 b0 b1
  rw [res_out hs] at c1
  have c3 := fun W => div_c a b W a0 a1 b0 b1 h0
  rw [res_in hd] at c3
  have c4 := fun W => mod_c a b W a0 a1 b0 b1 h0
  have ek := Int.mul_fdiv_add_fmod a b
  rw [Int.mul_comm] at ek
  have kp : 0 < b → 0 ≤ a.fmod b ∧ a.fmod b < b := fun h => ⟨Int.fmod_nonneg_of_pos a h, Int.fmod_lt_of_pos a h⟩
  have kn : b < 0 → b < a.fmod b ∧ a.fmod b ≤ 0 := fun h => fmod_neg_lt a h
  generalize a.fdiv b = q at *
  generalize a.fmod b = r at *
  have w0 : (wrap64 (wrap64 (q * b) + r) == a) = true := by rw [wrap_qr ek a0 a1]; simp
  by_cases hb : 0 < b
  · obtain ⟨k1, k2⟩ := kp hb
    have d1 : decide (0 < b) = true := by simpa using hb
    have d2 : decide (b < 0) = false := by simp; omega
    have d3 : decide (r < 0) = false := by simp; omega
    have d4 : decide (b ≤ r) = false := by simp; omega
    clear kp kn k1 k2 ek hs hd h0 hb
    go_enter Tryd.func5, Tryd.ntmps5
    go_wp2_with fail
    (with_reducible refine cw.mono ?_)
    rintro e w1 ⟨rfl, hB⟩
    go_wp2_with (first
      | (with_reducible refine (c1 _).mono ?_; rintro e w' ⟨rfl, rfl⟩)
      | (with_reducible refine (c3 _).mono ?_; rintro e w' ⟨rfl, rfl⟩)
      | (with_reducible refine (c4 _).mono ?_; rintro e w' ⟨rfl, rfl⟩))
    all_goals (go_ret; exact ⟨rfl, hB⟩)
  · obtain ⟨k1, k2⟩ := kn (by omega)
    have d1 : decide (0 < b) = false := by simp; omega
    have d2 : decide (b < 0) = true := by simp; omega
    have d3 : decide (0 < r) = false := by simp; omega
    have d4 : decide (r ≤ b) = false := by simp; omega
    clear kp kn k1 k2 ek hs hd h0 hb
    go_enter Tryd.func5, Tryd.ntmps5
    go_wp2_with fail
    (with_reducible refine cw.mono ?_)
    rintro e w1 ⟨rfl, hB⟩
    go_wp2_with (first
      | (with_reducible refine (c1 _).mono ?_; rintro e w' ⟨rfl, rfl⟩)
      | (with_reducible refine (c3 _).mono ?_; rintro e w' ⟨rfl, rfl⟩)
      | (with_reducible refine (c4 _).mono ?_; rintro e w' ⟨rfl, rfl⟩))
    all_goals (go_ret; exact ⟨rfl, hB⟩)
set_option maxHeartbeats 1600000 in
theorem rules_io (h0 : b ≠ 0) (hs : -9223372036854775808 ≤ a - b ∧ a - b ≤ 9223372036854775807) (hd : ¬ (-9223372036854775808 ≤ a.fdiv b ∧ a.fdiv b ≤ 9223372036854775807)) : Calls Tryd.prog 5 #[.int .i64 a, .int .i64 b] w fun e w' => e = .returned (.bool true) ∧ Below w.heap.size w w' := by
  have cw := awake_c w hw
  have c1 := fun W => sub_c a b W a0 a1 b0 b1
  rw [res_in hs] at c1
  have c2 := fun W => add_c (a - b) b W hs.1 hs.2 b0 b1
  rw [show a - b + b = a by omega, res_in (n := a) ⟨a0, a1⟩] at c2
  have hb := fdiv_over a0 a1 h0 hd
  subst hb
  have c3 := fun W => div_c a (-1) W a0 a1 b0 b1 h0
  rw [res_out hd] at c3
  have c4 := fun W => mod_c a (-1) W a0 a1 b0 b1 h0
  rw [fmod_m1] at c4
  generalize a - -1 = d at *
  clear hd hs
  · skip
    go_enter Tryd.func5, Tryd.ntmps5
    go_wp2_with fail
    (with_reducible refine cw.mono ?_)
    rintro e w1 ⟨rfl, hB⟩
    go_wp2_with (first
      | (with_reducible refine (c1 _).mono ?_; rintro e w' ⟨rfl, rfl⟩)
      | (with_reducible refine (c2 _).mono ?_; rintro e w' ⟨rfl, rfl⟩)
      | (with_reducible refine (c3 _).mono ?_; rintro e w' ⟨rfl, rfl⟩)
      | (with_reducible refine (c4 _).mono ?_; rintro e w' ⟨rfl, rfl⟩))
    all_goals (go_ret; exact ⟨rfl, hB⟩)
set_option maxHeartbeats 1600000 in
theorem rules_oo (h0 : b ≠ 0) (hs : ¬ (-9223372036854775808 ≤ a - b ∧ a - b ≤ 9223372036854775807)) (hd : ¬ (-9223372036854775808 ≤ a.fdiv b ∧ a.fdiv b ≤ 9223372036854775807)) : Calls Tryd.prog 5 #[.int .i64 a, .int .i64 b] w fun e w' => e = .returned (.bool true) ∧ Below w.heap.size w w' := by
  have cw := awake_c w hw
  have c1 := fun W => sub_c a b W a0 a1 b0 b1
  rw [res_out hs] at c1
  have hb := fdiv_over a0 a1 h0 hd
  subst hb
  have c3 := fun W => div_c a (-1) W a0 a1 b0 b1 h0
  rw [res_out hd] at c3
  have c4 := fun W => mod_c a (-1) W a0 a1 b0 b1 h0
  rw [fmod_m1] at c4
  clear hd hs
  · skip
    go_enter Tryd.func5, Tryd.ntmps5
    go_wp2_with fail
    (with_reducible refine cw.mono ?_)
    rintro e w1 ⟨rfl, hB⟩
    go_wp2_with (first
      | (with_reducible refine (c1 _).mono ?_; rintro e w' ⟨rfl, rfl⟩)
      | (with_reducible refine (c3 _).mono ?_; rintro e w' ⟨rfl, rfl⟩)
      | (with_reducible refine (c4 _).mono ?_; rintro e w' ⟨rfl, rfl⟩))
    all_goals (go_ret; exact ⟨rfl, hB⟩)
set_option maxHeartbeats 1600000 in
theorem rules_z (h0 : b = 0) : Calls Tryd.prog 5 #[.int .i64 a, .int .i64 b] w fun e w' => e = .returned (.bool true) ∧ Below w.heap.size w w' := by
  have cw := awake_c w hw
  subst h0
  have c1 := fun W => sub_c a 0 W a0 a1 b0 b1
  rw [show a - 0 = a by omega, res_in (n := a) ⟨a0, a1⟩] at c1
  have c2 := fun W => add_c a 0 W a0 a1 b0 b1
  rw [show a + 0 = a by omega, res_in (n := a) ⟨a0, a1⟩] at c2
  have c3 := fun W => div0_c a W
  have c4 := fun W => mod0_c a W
  · skip
    go_enter Tryd.func5, Tryd.ntmps5
    go_wp2_with fail
    (with_reducible refine cw.mono ?_)
    rintro e w1 ⟨rfl, hB⟩
    go_wp2_with (first
      | (with_reducible refine (c1 _).mono ?_; rintro e w' ⟨rfl, rfl⟩)
      | (with_reducible refine (c2 _).mono ?_; rintro e w' ⟨rfl, rfl⟩)
      | (with_reducible refine (c3 _).mono ?_; rintro e w' ⟨rfl, rfl⟩)
      | (with_reducible refine (c4 _).mono ?_; rintro e w' ⟨rfl, rfl⟩))
    all_goals (go_ret; exact ⟨rfl, hB⟩)
theorem rules_c : Calls Tryd.prog 5 #[.int .i64 a, .int .i64 b] w fun e w' => e = .returned (.bool true) ∧ Below w.heap.size w w' := by
  by_cases h0 : b = 0
  · exact rules_z a b w a0 a1 b0 b1 hw h0
  · by_cases hs : -9223372036854775808 ≤ a - b ∧ a - b ≤ 9223372036854775807 <;> by_cases hd : -9223372036854775808 ≤ a.fdiv b ∧ a.fdiv b ≤ 9223372036854775807
    · exact rules_ii a b w a0 a1 b0 b1 hw h0 hs hd
    · exact rules_io a b w a0 a1 b0 b1 hw h0 hs hd
    · exact rules_oi a b w a0 a1 b0 b1 hw h0 hs hd
    · exact rules_oo a b w a0 a1 b0 b1 hw h0 hs hd
end
end NumW
end Go.Proofs.YtakaifaeaffelaaDoor
