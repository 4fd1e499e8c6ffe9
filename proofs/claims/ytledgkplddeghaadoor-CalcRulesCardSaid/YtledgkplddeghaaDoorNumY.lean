/- The walks of num's product and of the reference's quotient. Conditions: numbers of 64 bits. -/
import Derived.Test.YtledgkplddeghaaDoorNumX
namespace Go.Proofs.YtledgkplddeghaaDoor
set_option linter.unusedVariables false
set_option linter.unusedSimpArgs false
open Go.RowKit
namespace NumW
open NumP
section
variable (a b : Int) (w : World) (a0 : -9223372036854775808 ≤ a) (a1 : a ≤ 9223372036854775807) (b0 : -9223372036854775808 ≤ b) (b1 : b ≤ 9223372036854775807)
include a0 a1 b0 b1
set_option maxHeartbeats 800000 in
theorem mul_c : Calls Tryd.prog 64 #[.int .i64 a, .int .i64 b] w fun e w' => e = .returned (res (a * b)) ∧ w = w' := by
  have cx := fun W => size_c a W a0 a1
  have cy := fun W => size_c b W b0 b1
  have cm := fun W => Tryd.bits_Mul64 a.natAbs b.natAbs (by omega) (by omega) W
  obtain ⟨s1, s2⟩ := mul_abs a b
  generalize hx : a.natAbs = x at *
  generalize hy : b.natAbs = y at *
  clear hx hy
  have hH : ((x * y / 18446744073709551616 : Nat) : Int) = ((x * y : Nat) : Int) / 18446744073709551616 := by simp
  have hL : ((x * y % 18446744073709551616 : Nat) : Int) = ((x * y : Nat) : Int) % 18446744073709551616 := by simp
  rw [hH, hL] at cm
  clear hH hL
  have hp : 0 ≤ ((x * y : Nat) : Int) := Int.natCast_nonneg _
  generalize ((x * y : Nat) : Int) = p at *
  obtain ⟨H, hH⟩ : ∃ H, p / 18446744073709551616 = H := ⟨_, rfl⟩
  obtain ⟨L, hL⟩ : ∃ L, p % 18446744073709551616 = L := ⟨_, rfl⟩
  have hHL : p = 18446744073709551616 * H + L ∧ 0 ≤ L ∧ L ≤ 18446744073709551615 ∧ 0 ≤ H := by omega
  rw [hH, hL] at cm
  clear hH hL
  obtain ⟨m, hm⟩ : ∃ m, a * b = m := ⟨_, rfl⟩
  rw [hm] at s1 s2 ⊢
  obtain ⟨g1, g2, g3, g4⟩ := hHL
  by_cases ha : a < 0 <;> by_cases hb : b < 0
  · have da : decide (a < 0) = true := by simp; omega
    have db : decide (b < 0) = true := by simp; omega
    have e := s1 (by simp [ha, hb])
    clear s1 s2 ha hb
    by_cases hi : -9223372036854775808 ≤ m ∧ m ≤ 9223372036854775807
    · rw [res_in hi]
      obtain ⟨i0, i1⟩ := hi
      have d1 : decide (0 < H) = false := by simp; omega
      have d2 : decide (9223372036854775807 < L) = false := by simp; omega
      clear e g1
      go_enter Tryd.func64, Tryd.ntmps64
      go_wp2_with fail
      (with_reducible refine (cx _).mono ?_)
      rintro e w' ⟨rfl, rfl⟩
      go_wp2_with fail
      (with_reducible refine (cy _).mono ?_)
      rintro e w' ⟨rfl, rfl⟩
      go_wp2_with fail
      (with_reducible refine (cm _).mono ?_)
      rintro e w' ⟨rfl, rfl⟩
      go_wp2_with fail
      go_ret2
      exact ⟨rfl, rfl⟩
    · rw [res_out hi]
      by_cases h1 : 0 < H
      · have d1 : decide (0 < H) = true := by simp; omega
        clear e g1 hi
        go_enter Tryd.func64, Tryd.ntmps64
        go_wp2_with fail
        (with_reducible refine (cx _).mono ?_)
        rintro e w' ⟨rfl, rfl⟩
        go_wp2_with fail
        (with_reducible refine (cy _).mono ?_)
        rintro e w' ⟨rfl, rfl⟩
        go_wp2_with fail
        (with_reducible refine (cm _).mono ?_)
        rintro e w' ⟨rfl, rfl⟩
        go_wp2_with fail
        all_goals (go_ret2; exact ⟨rfl, rfl⟩)
      · have d1 : decide (0 < H) = false := by simp; omega
        have d2 : decide (9223372036854775807 < L) = true := by simp; omega
        clear e g1 hi h1
        go_enter Tryd.func64, Tryd.ntmps64
        go_wp2_with fail
        (with_reducible refine (cx _).mono ?_)
        rintro e w' ⟨rfl, rfl⟩
        go_wp2_with fail
        (with_reducible refine (cy _).mono ?_)
        rintro e w' ⟨rfl, rfl⟩
        go_wp2_with fail
        (with_reducible refine (cm _).mono ?_)
        rintro e w' ⟨rfl, rfl⟩
        go_wp2_with fail
        all_goals (go_ret2; exact ⟨rfl, rfl⟩)
  · have da : decide (a < 0) = true := by simp; omega
    have db : decide (b < 0) = false := by simp; omega
    have e := s2 (by simp [ha, hb])
    clear s1 s2 ha hb
    by_cases hi : -9223372036854775808 ≤ m ∧ m ≤ 9223372036854775807
    · rw [res_in hi]
      obtain ⟨i0, i1⟩ := hi
      have d1 : decide (0 < H) = false := by simp; omega
      have d2 : decide (9223372036854775808 < L) = false := by simp; omega
      clear e g1
      go_enter Tryd.func64, Tryd.ntmps64
      go_wp2_with fail
      (with_reducible refine (cx _).mono ?_)
      rintro e w' ⟨rfl, rfl⟩
      go_wp2_with fail
      (with_reducible refine (cy _).mono ?_)
      rintro e w' ⟨rfl, rfl⟩
      go_wp2_with fail
      (with_reducible refine (cm _).mono ?_)
      rintro e w' ⟨rfl, rfl⟩
      go_wp2_with fail
      go_ret2
      exact ⟨rfl, rfl⟩
    · rw [res_out hi]
      by_cases h1 : 0 < H
      · have d1 : decide (0 < H) = true := by simp; omega
        clear e g1 hi
        go_enter Tryd.func64, Tryd.ntmps64
        go_wp2_with fail
        (with_reducible refine (cx _).mono ?_)
        rintro e w' ⟨rfl, rfl⟩
        go_wp2_with fail
        (with_reducible refine (cy _).mono ?_)
        rintro e w' ⟨rfl, rfl⟩
        go_wp2_with fail
        (with_reducible refine (cm _).mono ?_)
        rintro e w' ⟨rfl, rfl⟩
        go_wp2_with fail
        all_goals (go_ret2; exact ⟨rfl, rfl⟩)
      · have d1 : decide (0 < H) = false := by simp; omega
        have d2 : decide (9223372036854775808 < L) = true := by simp; omega
        clear e g1 hi h1
        go_enter Tryd.func64, Tryd.ntmps64
        go_wp2_with fail
        (with_reducible refine (cx _).mono ?_)
        rintro e w' ⟨rfl, rfl⟩
        go_wp2_with fail
        (with_reducible refine (cy _).mono ?_)
        rintro e w' ⟨rfl, rfl⟩
        go_wp2_with fail
        (with_reducible refine (cm _).mono ?_)
        rintro e w' ⟨rfl, rfl⟩
        go_wp2_with fail
        all_goals (go_ret2; exact ⟨rfl, rfl⟩)
  · have da : decide (a < 0) = false := by simp; omega
    have db : decide (b < 0) = true := by simp; omega
    have e := s2 (by simp [ha, hb])
    clear s1 s2 ha hb
    by_cases hi : -9223372036854775808 ≤ m ∧ m ≤ 9223372036854775807
    · rw [res_in hi]
      obtain ⟨i0, i1⟩ := hi
      have d1 : decide (0 < H) = false := by simp; omega
      have d2 : decide (9223372036854775808 < L) = false := by simp; omega
      clear e g1
      go_enter Tryd.func64, Tryd.ntmps64
      go_wp2_with fail
      (with_reducible refine (cx _).mono ?_)
      rintro e w' ⟨rfl, rfl⟩
      go_wp2_with fail
      (with_reducible refine (cy _).mono ?_)
      rintro e w' ⟨rfl, rfl⟩
      go_wp2_with fail
      (with_reducible refine (cm _).mono ?_)
      rintro e w' ⟨rfl, rfl⟩
      go_wp2_with fail
      go_ret2
      exact ⟨rfl, rfl⟩
    · rw [res_out hi]
      by_cases h1 : 0 < H
      · have d1 : decide (0 < H) = true := by simp; omega
        clear e g1 hi
        go_enter Tryd.func64, Tryd.ntmps64
        go_wp2_with fail
        (with_reducible refine (cx _).mono ?_)
        rintro e w' ⟨rfl, rfl⟩
        go_wp2_with fail
        (with_reducible refine (cy _).mono ?_)
        rintro e w' ⟨rfl, rfl⟩
        go_wp2_with fail
        (with_reducible refine (cm _).mono ?_)
        rintro e w' ⟨rfl, rfl⟩
        go_wp2_with fail
        all_goals (go_ret2; exact ⟨rfl, rfl⟩)
      · have d1 : decide (0 < H) = false := by simp; omega
        have d2 : decide (9223372036854775808 < L) = true := by simp; omega
        clear e g1 hi h1
        go_enter Tryd.func64, Tryd.ntmps64
        go_wp2_with fail
        (with_reducible refine (cx _).mono ?_)
        rintro e w' ⟨rfl, rfl⟩
        go_wp2_with fail
        (with_reducible refine (cy _).mono ?_)
        rintro e w' ⟨rfl, rfl⟩
        go_wp2_with fail
        (with_reducible refine (cm _).mono ?_)
        rintro e w' ⟨rfl, rfl⟩
        go_wp2_with fail
        all_goals (go_ret2; exact ⟨rfl, rfl⟩)
  · have da : decide (a < 0) = false := by simp; omega
    have db : decide (b < 0) = false := by simp; omega
    have e := s1 (by simp [ha, hb])
    clear s1 s2 ha hb
    by_cases hi : -9223372036854775808 ≤ m ∧ m ≤ 9223372036854775807
    · rw [res_in hi]
      obtain ⟨i0, i1⟩ := hi
      have d1 : decide (0 < H) = false := by simp; omega
      have d2 : decide (9223372036854775807 < L) = false := by simp; omega
      clear e g1
      go_enter Tryd.func64, Tryd.ntmps64
      go_wp2_with fail
      (with_reducible refine (cx _).mono ?_)
      rintro e w' ⟨rfl, rfl⟩
      go_wp2_with fail
      (with_reducible refine (cy _).mono ?_)
      rintro e w' ⟨rfl, rfl⟩
      go_wp2_with fail
      (with_reducible refine (cm _).mono ?_)
      rintro e w' ⟨rfl, rfl⟩
      go_wp2_with fail
      go_ret2
      exact ⟨rfl, rfl⟩
    · rw [res_out hi]
      by_cases h1 : 0 < H
      · have d1 : decide (0 < H) = true := by simp; omega
        clear e g1 hi
        go_enter Tryd.func64, Tryd.ntmps64
        go_wp2_with fail
        (with_reducible refine (cx _).mono ?_)
        rintro e w' ⟨rfl, rfl⟩
        go_wp2_with fail
        (with_reducible refine (cy _).mono ?_)
        rintro e w' ⟨rfl, rfl⟩
        go_wp2_with fail
        (with_reducible refine (cm _).mono ?_)
        rintro e w' ⟨rfl, rfl⟩
        go_wp2_with fail
        all_goals (go_ret2; exact ⟨rfl, rfl⟩)
      · have d1 : decide (0 < H) = false := by simp; omega
        have d2 : decide (9223372036854775807 < L) = true := by simp; omega
        clear e g1 hi h1
        go_enter Tryd.func64, Tryd.ntmps64
        go_wp2_with fail
        (with_reducible refine (cx _).mono ?_)
        rintro e w' ⟨rfl, rfl⟩
        go_wp2_with fail
        (with_reducible refine (cy _).mono ?_)
        rintro e w' ⟨rfl, rfl⟩
        go_wp2_with fail
        (with_reducible refine (cm _).mono ?_)
        rintro e w' ⟨rfl, rfl⟩
        go_wp2_with fail
        all_goals (go_ret2; exact ⟨rfl, rfl⟩)
end
end NumW
end Go.Proofs.YtledgkplddeghaaDoor
