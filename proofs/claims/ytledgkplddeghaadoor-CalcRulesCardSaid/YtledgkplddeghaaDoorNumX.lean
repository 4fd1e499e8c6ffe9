/- The walks of num's and the reference's differences, products and quotients. Conditions: numbers of 64 bits. -/
import Derived.Test.YtledgkplddeghaaDoorNumV
import Derived.Test.YtledgkplddeghaaDoorShelf
import Derived.Test.YtledgkplddeghaaDoorNumP
namespace Go.Proofs.YtledgkplddeghaaDoor
set_option linter.unusedVariables false
set_option linter.unusedSimpArgs false
open Go.RowKit
namespace NumW
section
variable (a b : Int) (w : World) (a0 : -9223372036854775808 ≤ a) (a1 : a ≤ 9223372036854775807) (b0 : -9223372036854775808 ≤ b) (b1 : b ≤ 9223372036854775807)
include a0 a1
set_option maxHeartbeats 400000 in
theorem rneg_c : Calls Tryd.prog 39 #[.int .i64 a] w fun e w' => e = .returned (res (-a)) ∧ w = w' := by
  have cx := fun W => mag_c a W a0 a1
  by_cases h : 0 < a
  · have d : decide (0 < a) = true := by simpa using h
    have hx : (a.natAbs : Int) = a := by omega
    rw [hx] at cx
    have co := fun W => of_c true a W (by omega) (by omega)
    simp only [if_true] at co
    generalize hr : res (-a) = r at *
    have hrr := res_two hr
    clear hr hx
    obtain ⟨p, q, rfl⟩ := hrr
    go_enter Tryd.func39, Tryd.ntmps39
    go_wp2_with fail
    (with_reducible refine (cx _).mono ?_)
    rintro e w' ⟨rfl, rfl⟩
    go_wp2_with fail
    (with_reducible refine (co _).mono ?_)
    rintro e w' ⟨rfl, rfl⟩
    go_wp2_with fail
    go_ret2
    exact ⟨rfl, rfl⟩
  · have d : decide (0 < a) = false := by simpa using h
    have hx : (a.natAbs : Int) = -a := by omega
    rw [hx] at cx
    have co := fun W => of_c false (-a) W (by omega) (by omega)
    simp only [Bool.false_eq_true, if_false] at co
    generalize hr : res (-a) = r at *
    have hrr := res_two hr
    clear hr hx
    obtain ⟨p, q, rfl⟩ := hrr
    go_enter Tryd.func39, Tryd.ntmps39
    go_wp2_with fail
    (with_reducible refine (cx _).mono ?_)
    rintro e w' ⟨rfl, rfl⟩
    go_wp2_with fail
    (with_reducible refine (co _).mono ?_)
    rintro e w' ⟨rfl, rfl⟩
    go_wp2_with fail
    go_ret2
    exact ⟨rfl, rfl⟩
include b0 b1
set_option maxHeartbeats 400000 in
theorem rsub_c : Calls Tryd.prog 55 #[.int .i64 a, .int .i64 b] w fun e w' => e = .returned (res (a - b)) ∧ w = w' := by
  by_cases hb : b = -9223372036854775808
  · subst hb
    by_cases ha : a < 0
    · have d : decide (0 ≤ a) = false := by simp; omega
      have cx := fun W => mag_c a W a0 a1
      have hx : (a.natAbs : Int) = -a := by omega
      rw [hx] at cx
      have co := fun W => of_c false (9223372036854775808 + a) W (by omega) (by omega)
      simp only [Bool.false_eq_true, if_false] at co
      rw [show a - -9223372036854775808 = 9223372036854775808 + a from by omega]
      generalize hr : res (9223372036854775808 + a) = r at *
      have hrr := res_two hr
      clear hr hx
      obtain ⟨p, q, rfl⟩ := hrr
      go_enter Tryd.func55, Tryd.ntmps55
      go_wp2_with fail
      (with_reducible refine (cx _).mono ?_)
      rintro e w' ⟨rfl, rfl⟩
      go_wp2_with fail
      (with_reducible refine (co _).mono ?_)
      rintro e w' ⟨rfl, rfl⟩
      go_wp2_with fail
      go_ret2
      exact ⟨rfl, rfl⟩
    · have d : decide (0 ≤ a) = true := by simp; omega
      rw [res_out (by omega)]
      go_enter Tryd.func55, Tryd.ntmps55
      go_wp2_with fail
      go_ret2
      exact ⟨rfl, rfl⟩
  · have d : (b == -9223372036854775808) = false := by simpa using hb
    have cx := fun W => radd_c a (-b) W a0 a1 (by omega) (by omega)
    rw [show a + -b = a - b from by omega] at cx
    generalize hr : res (a - b) = r at *
    have hrr := res_two hr
    clear hr
    obtain ⟨p, q, rfl⟩ := hrr
    go_enter Tryd.func55, Tryd.ntmps55
    go_wp2_with fail
    (with_reducible refine (cx _).mono ?_)
    rintro e w' ⟨rfl, rfl⟩
    go_wp2_with fail
    go_ret2
    exact ⟨rfl, rfl⟩
open NumP in
set_option maxHeartbeats 800000 in
theorem div_c (h0 : b ≠ 0) : Calls Tryd.prog 65 #[.int .i64 a, .int .i64 b] w fun e w' => e = .returned (res (a.fdiv b)) ∧ w = w' := by
  have e0 : (b == 0) = false := by simpa using h0
  by_cases h1 : b = -1
  · subst h1
    rw [fdiv_m1]
    have cx := fun W => neg_c a W a0 a1
    generalize hr : res (-a) = r at *
    have hrr := res_two hr
    clear hr
    obtain ⟨p, q, rfl⟩ := hrr
    go_enter Tryd.func65, Tryd.ntmps65
    go_wp2_with fail
    (with_reducible refine (cx _).mono ?_)
    rintro e w' ⟨rfl, rfl⟩
    go_wp2_with fail
    go_ret2
    exact ⟨rfl, rfl⟩
  · have e1 : (b == -1) = false := by simpa using h1
    have hf := fdiv_bd a b a0 a1 h0 h1
    obtain ⟨q0, q1⟩ := tdiv_bd a b a0 a1 h0 h1
    rw [res_in hf]
    obtain ⟨f0, f1⟩ := hf
    have H := Lib.hid (And.intro (fdiv_same a b h0) (fdiv_less a b))
    generalize a.fdiv b = t at *
    obtain ⟨q, hq⟩ : ∃ q, a.tdiv b = q := ⟨_, rfl⟩
    obtain ⟨r, hr⟩ : ∃ r, a.tmod b = r := ⟨_, rfl⟩
    rw [hq] at q0 q1
    rw [hr, hq] at H
    by_cases hz : r = 0
    · have HT := Lib.hid (H.out.1 (.inl hz))
      subst hz
      go_enter Tryd.func65, Tryd.ntmps65
      go_wp2_with fail
      go_ret2
      exact ⟨ret_two HT.out.symm, rfl⟩
    · have ez : (r != 0) = true := by simpa using hz
      have ez2 : (r == 0) = false := by simpa using hz
      by_cases ha : a < 0 <;> by_cases hb : b < 0
      · have da : decide (a < 0) = true := by simp; omega
        have db : decide (b < 0) = true := by simp; omega
        have HT := Lib.hid (H.out.1 (by omega))
        clear hz ha hb 
        go_enter Tryd.func65, Tryd.ntmps65
        go_wp2_with fail
        go_ret2
        exact ⟨ret_two HT.out.symm, rfl⟩
      · have da : decide (a < 0) = true := by simp; omega
        have db : decide (b < 0) = false := by simp; omega
        have HT := Lib.hid (H.out.2 hz (by omega))
        have hbd : -9223372036854775808 ≤ q - 1 ∧ q - 1 ≤ 9223372036854775807 := by have := HT.out; omega
        obtain ⟨hbd1, hbd2⟩ := hbd
        clear hz ha hb 
        go_enter Tryd.func65, Tryd.ntmps65
        go_wp2_with fail
        go_ret2
        exact ⟨ret_two HT.out.symm, rfl⟩
      · have da : decide (a < 0) = false := by simp; omega
        have db : decide (b < 0) = true := by simp; omega
        have HT := Lib.hid (H.out.2 hz (by omega))
        have hbd : -9223372036854775808 ≤ q - 1 ∧ q - 1 ≤ 9223372036854775807 := by have := HT.out; omega
        obtain ⟨hbd1, hbd2⟩ := hbd
        clear hz ha hb 
        go_enter Tryd.func65, Tryd.ntmps65
        go_wp2_with fail
        go_ret2
        exact ⟨ret_two HT.out.symm, rfl⟩
      · have da : decide (a < 0) = false := by simp; omega
        have db : decide (b < 0) = false := by simp; omega
        have HT := Lib.hid (H.out.1 (by omega))
        clear hz ha hb 
        go_enter Tryd.func65, Tryd.ntmps65
        go_wp2_with fail
        go_ret2
        exact ⟨ret_two HT.out.symm, rfl⟩
open NumP in
set_option maxHeartbeats 800000 in
theorem mod_c (h0 : b ≠ 0) : Calls Tryd.prog 66 #[.int .i64 a, .int .i64 b] w fun e w' => e = .returned (.tuple #[.int .i64 (a.fmod b), .int .i64 0]) ∧ w = w' := by
  have e0 : (b == 0) = false := by simpa using h0
  by_cases h1 : b = -1
  · subst h1
    rw [fmod_m1]
    go_enter Tryd.func66, Tryd.ntmps66
    go_wp2_with fail
    go_ret2
    exact ⟨rfl, rfl⟩
  · have e1 : (b == -1) = false := by simpa using h1
    obtain ⟨q0, q1⟩ := tdiv_bd a b a0 a1 h0 h1
    have r0 := tmod_abs a b h0
    have r1 := tmod_pos a b
    have r2 := tmod_neg a b
    have H := Lib.hid (And.intro (fmod_same a b h0) (fmod_more a b))
    generalize a.fmod b = t at *
    obtain ⟨q, hq⟩ : ∃ q, a.tdiv b = q := ⟨_, rfl⟩
    obtain ⟨r, hr⟩ : ∃ r, a.tmod b = r := ⟨_, rfl⟩
    rw [hq] at q0 q1
    rw [hr] at H
    rw [hr] at r0 r1 r2
    by_cases hz : r = 0
    · have HT := Lib.hid (H.out.1 (.inl hz))
      subst hz
      go_enter Tryd.func66, Tryd.ntmps66
      go_wp2_with fail
      go_ret2
      exact ⟨ret_two HT.out.symm, rfl⟩
    · have ez : (r != 0) = true := by simpa using hz
      have ez2 : (r == 0) = false := by simpa using hz
      by_cases ha : a < 0 <;> by_cases hb : b < 0
      · have da : decide (a < 0) = true := by simp; omega
        have db : decide (b < 0) = true := by simp; omega
        have dr : decide (r < 0) = true := by simp; omega
        have HT := Lib.hid (H.out.1 (by omega))
        clear hz ha hb r0 r1 r2
        go_enter Tryd.func66, Tryd.ntmps66
        go_wp2_with fail
        go_ret2
        exact ⟨ret_two HT.out.symm, rfl⟩
      · have da : decide (a < 0) = true := by simp; omega
        have db : decide (b < 0) = false := by simp; omega
        have dr : decide (r < 0) = true := by simp; omega
        have HT := Lib.hid (H.out.2 hz (by omega))
        have hbd : -9223372036854775808 ≤ r + b ∧ r + b ≤ 9223372036854775807 := by have := HT.out; omega
        obtain ⟨hbd1, hbd2⟩ := hbd
        clear hz ha hb r0 r1 r2
        go_enter Tryd.func66, Tryd.ntmps66
        go_wp2_with fail
        go_ret2
        exact ⟨ret_two HT.out.symm, rfl⟩
      · have da : decide (a < 0) = false := by simp; omega
        have db : decide (b < 0) = true := by simp; omega
        have dr : decide (r < 0) = false := by simp; omega
        have HT := Lib.hid (H.out.2 hz (by omega))
        have hbd : -9223372036854775808 ≤ r + b ∧ r + b ≤ 9223372036854775807 := by have := HT.out; omega
        obtain ⟨hbd1, hbd2⟩ := hbd
        clear hz ha hb r0 r1 r2
        go_enter Tryd.func66, Tryd.ntmps66
        go_wp2_with fail
        go_ret2
        exact ⟨ret_two HT.out.symm, rfl⟩
      · have da : decide (a < 0) = false := by simp; omega
        have db : decide (b < 0) = false := by simp; omega
        have dr : decide (r < 0) = false := by simp; omega
        have HT := Lib.hid (H.out.1 (by omega))
        clear hz ha hb r0 r1 r2
        go_enter Tryd.func66, Tryd.ntmps66
        go_wp2_with fail
        go_ret2
        exact ⟨ret_two HT.out.symm, rfl⟩
omit a0 a1 b0 b1 in
set_option maxHeartbeats 400000 in
theorem div0_c : Calls Tryd.prog 65 #[.int .i64 a, .int .i64 0] w fun e w' => e = .returned (.tuple #[.int .i64 0, .int .i64 4]) ∧ w = w' := by
  go_enter Tryd.func65, Tryd.ntmps65
  go_wp2_with fail
  go_ret2
  exact ⟨rfl, rfl⟩
omit a0 a1 b0 b1 in
set_option maxHeartbeats 400000 in
theorem mod0_c : Calls Tryd.prog 66 #[.int .i64 a, .int .i64 0] w fun e w' => e = .returned (.tuple #[.int .i64 0, .int .i64 4]) ∧ w = w' := by
  go_enter Tryd.func66, Tryd.ntmps66
  go_wp2_with fail
  go_ret2
  exact ⟨rfl, rfl⟩
end
end NumW
end Go.Proofs.YtledgkplddeghaaDoor
