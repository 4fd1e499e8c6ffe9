/- The walks of num's and the reference's products and quotients. Conditions: numbers of 64 bits. -/
import Derived.Test.YtledgkplddeghaaDoorNumW
namespace Go.Proofs.YtledgkplddeghaaDoor
set_option linter.unusedVariables false
set_option linter.unusedSimpArgs false
open Go.RowKit
namespace NumW
section
variable (a b : Int) (w : World) (a0 : -9223372036854775808 ≤ a) (a1 : a ≤ 9223372036854775807) (b0 : -9223372036854775808 ≤ b) (b1 : b ≤ 9223372036854775807)
include a0 a1 b0 b1
set_option maxHeartbeats 1600000 in
theorem radd_c : Calls Tryd.prog 54 #[.int .i64 a, .int .i64 b] w fun e w' => e = .returned (res (a + b)) ∧ w = w' := by
  have cx := fun W => mag_c a W a0 a1
  have cy := fun W => mag_c b W b0 b1
  have hx : (a < 0 ∧ (a.natAbs : Int) = -a) ∨ (0 ≤ a ∧ (a.natAbs : Int) = a) := by omega
  have hy : (b < 0 ∧ (b.natAbs : Int) = -b) ∨ (0 ≤ b ∧ (b.natAbs : Int) = b) := by omega
  generalize (a.natAbs : Int) = x at *
  generalize (b.natAbs : Int) = y at *
  by_cases ha : a < 0 <;> by_cases hb : b < 0
  · have da : decide (a < 0) = true := by simp; omega
    have db : decide (b < 0) = true := by simp; omega
    by_cases ho : 9223372036854775808 < x + y
    · by_cases hm : x + y = 18446744073709551616
      · obtain rfl : x = 9223372036854775808 := by omega
        obtain rfl : y = 9223372036854775808 := by omega
        rw [res_out (by omega)]
        clear hm ho hx hy
        go_enter Tryd.func54, Tryd.ntmps54
        go_wp2_with fail
        (with_reducible refine (cx _).mono ?_)
        rintro e w' ⟨rfl, rfl⟩
        go_wp2_with fail
        (with_reducible refine (cy _).mono ?_)
        rintro e w' ⟨rfl, rfl⟩
        go_wp2_with fail
        all_goals (go_ret2; exact ⟨rfl, rfl⟩)
      · have : x + y ≤ 18446744073709551615 := by omega
        rw [res_out (by omega)]
        clear hm
        go_enter Tryd.func54, Tryd.ntmps54
        go_wp2_with fail
        (with_reducible refine (cx _).mono ?_)
        rintro e w' ⟨rfl, rfl⟩
        go_wp2_with fail
        (with_reducible refine (cy _).mono ?_)
        rintro e w' ⟨rfl, rfl⟩
        go_wp2_with fail
        all_goals (go_ret2; exact ⟨rfl, rfl⟩)
    · have dx : decide (9223372036854775808 < x) = false := by simp; omega
      have dy : decide (9223372036854775808 < y) = false := by simp; omega
      have dz : decide (9223372036854775808 < x + y) = false := by simp; omega
      have dq : decide (x + y < x) = false := by simp; omega
      rw [show a + b = -(x + y) from by omega]
      have co := fun W => of_c true (x + y) W (by omega) (by omega)
      simp only [if_true] at co
      generalize hr : res (-(x + y)) = r at *
      have hrr := res_two hr
      clear hr
      obtain ⟨p, q, rfl⟩ := hrr
      go_enter Tryd.func54, Tryd.ntmps54
      go_wp2_with fail
      (with_reducible refine (cx _).mono ?_)
      rintro e w' ⟨rfl, rfl⟩
      go_wp2_with fail
      (with_reducible refine (cy _).mono ?_)
      rintro e w' ⟨rfl, rfl⟩
      go_wp2_with fail
      (with_reducible refine (co _).mono ?_)
      rintro e w' ⟨rfl, rfl⟩
      go_wp2_with fail
      all_goals (go_ret2; exact ⟨rfl, rfl⟩)
  · have da : decide (a < 0) = true := by simp; omega
    have db : decide (b < 0) = false := by simp; omega
    by_cases ho : y ≤ x
    · have dx : decide (y ≤ x) = true := by simp; omega
      rw [show a + b = -(x - y) from by omega]
      have co := fun W => of_c true (x - y) W (by omega) (by omega)
      simp only [if_true] at co
      generalize hr : res (-(x - y)) = r at *
      have hrr := res_two hr
      clear hr
      obtain ⟨p, q, rfl⟩ := hrr
      go_enter Tryd.func54, Tryd.ntmps54
      go_wp2_with fail
      (with_reducible refine (cx _).mono ?_)
      rintro e w' ⟨rfl, rfl⟩
      go_wp2_with fail
      (with_reducible refine (cy _).mono ?_)
      rintro e w' ⟨rfl, rfl⟩
      go_wp2_with fail
      (with_reducible refine (co _).mono ?_)
      rintro e w' ⟨rfl, rfl⟩
      go_wp2_with fail
      all_goals (go_ret2; exact ⟨rfl, rfl⟩)
    · have dx : decide (y ≤ x) = false := by simp; omega
      rw [show a + b = y - x from by omega]
      have co := fun W => of_c false (y - x) W (by omega) (by omega)
      simp only [Bool.false_eq_true, if_false] at co
      generalize hr : res (y - x) = r at *
      have hrr := res_two hr
      clear hr
      obtain ⟨p, q, rfl⟩ := hrr
      go_enter Tryd.func54, Tryd.ntmps54
      go_wp2_with fail
      (with_reducible refine (cx _).mono ?_)
      rintro e w' ⟨rfl, rfl⟩
      go_wp2_with fail
      (with_reducible refine (cy _).mono ?_)
      rintro e w' ⟨rfl, rfl⟩
      go_wp2_with fail
      (with_reducible refine (co _).mono ?_)
      rintro e w' ⟨rfl, rfl⟩
      go_wp2_with fail
      all_goals (go_ret2; exact ⟨rfl, rfl⟩)
  · have da : decide (a < 0) = false := by simp; omega
    have db : decide (b < 0) = true := by simp; omega
    by_cases ho : y ≤ x
    · have dx : decide (y ≤ x) = true := by simp; omega
      rw [show a + b = x - y from by omega]
      have co := fun W => of_c false (x - y) W (by omega) (by omega)
      simp only [Bool.false_eq_true, if_false] at co
      generalize hr : res (x - y) = r at *
      have hrr := res_two hr
      clear hr
      obtain ⟨p, q, rfl⟩ := hrr
      go_enter Tryd.func54, Tryd.ntmps54
      go_wp2_with fail
      (with_reducible refine (cx _).mono ?_)
      rintro e w' ⟨rfl, rfl⟩
      go_wp2_with fail
      (with_reducible refine (cy _).mono ?_)
      rintro e w' ⟨rfl, rfl⟩
      go_wp2_with fail
      (with_reducible refine (co _).mono ?_)
      rintro e w' ⟨rfl, rfl⟩
      go_wp2_with fail
      all_goals (go_ret2; exact ⟨rfl, rfl⟩)
    · have dx : decide (y ≤ x) = false := by simp; omega
      rw [show a + b = -(y - x) from by omega]
      have co := fun W => of_c true (y - x) W (by omega) (by omega)
      simp only [if_true] at co
      generalize hr : res (-(y - x)) = r at *
      have hrr := res_two hr
      clear hr
      obtain ⟨p, q, rfl⟩ := hrr
      go_enter Tryd.func54, Tryd.ntmps54
      go_wp2_with fail
      (with_reducible refine (cx _).mono ?_)
      rintro e w' ⟨rfl, rfl⟩
      go_wp2_with fail
      (with_reducible refine (cy _).mono ?_)
      rintro e w' ⟨rfl, rfl⟩
      go_wp2_with fail
      (with_reducible refine (co _).mono ?_)
      rintro e w' ⟨rfl, rfl⟩
      go_wp2_with fail
      all_goals (go_ret2; exact ⟨rfl, rfl⟩)
  · have da : decide (a < 0) = false := by simp; omega
    have db : decide (b < 0) = false := by simp; omega
    by_cases ho : 9223372036854775808 < x + y
    · have : x + y ≤ 18446744073709551615 := by omega
      rw [res_out (by omega)]
      go_enter Tryd.func54, Tryd.ntmps54
      go_wp2_with fail
      (with_reducible refine (cx _).mono ?_)
      rintro e w' ⟨rfl, rfl⟩
      go_wp2_with fail
      (with_reducible refine (cy _).mono ?_)
      rintro e w' ⟨rfl, rfl⟩
      go_wp2_with fail
      all_goals (go_ret2; exact ⟨rfl, rfl⟩)
    · have dx : decide (9223372036854775808 < x) = false := by simp; omega
      have dy : decide (9223372036854775808 < y) = false := by simp; omega
      have dz : decide (9223372036854775808 < x + y) = false := by simp; omega
      have dq : decide (x + y < x) = false := by simp; omega
      rw [show a + b = x + y from by omega]
      have co := fun W => of_c false (x + y) W (by omega) (by omega)
      simp only [Bool.false_eq_true, if_false] at co
      generalize hr : res (x + y) = r at *
      have hrr := res_two hr
      clear hr
      obtain ⟨p, q, rfl⟩ := hrr
      go_enter Tryd.func54, Tryd.ntmps54
      go_wp2_with fail
      (with_reducible refine (cx _).mono ?_)
      rintro e w' ⟨rfl, rfl⟩
      go_wp2_with fail
      (with_reducible refine (cy _).mono ?_)
      rintro e w' ⟨rfl, rfl⟩
      go_wp2_with fail
      (with_reducible refine (co _).mono ?_)
      rintro e w' ⟨rfl, rfl⟩
      go_wp2_with fail
      all_goals (go_ret2; exact ⟨rfl, rfl⟩)
end
end NumW
end Go.Proofs.YtledgkplddeghaaDoor
