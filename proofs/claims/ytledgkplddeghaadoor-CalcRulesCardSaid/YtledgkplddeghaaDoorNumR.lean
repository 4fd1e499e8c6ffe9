/- The walk of the reference's product. Conditions: numbers of 64 bits. -/
import Derived.Test.YtledgkplddeghaaDoorNumZ
namespace Go.Proofs.YtledgkplddeghaaDoor
set_option linter.unusedVariables false
set_option linter.unusedSimpArgs false
open Go.RowKit
namespace NumW
open NumP
section
variable (a b : Int) (w : World) (a0 : -9223372036854775808 ≤ a) (a1 : a ≤ 9223372036854775807) (b0 : -9223372036854775808 ≤ b) (b1 : b ≤ 9223372036854775807)
include a0 a1 b0 b1
set_option maxHeartbeats 1600000 in
theorem rmul_big (hx : 4294967296 ≤ a.natAbs) (hy : 4294967296 ≤ b.natAbs) : Calls Tryd.prog 56 #[.int .i64 a, .int .i64 b] w fun e w' => e = .returned (res (a * b)) ∧ w = w' := by
  have cx := fun W => mag_c a W a0 a1
  have cy := fun W => mag_c b W b0 b1
  have hb := both_big _ _ hx hy
  obtain ⟨s1, s2⟩ := mul_abs a b
  have hm : ¬ (-9223372036854775808 ≤ a * b ∧ a * b ≤ 9223372036854775807) := by
    generalize a.natAbs * b.natAbs = p at *
    by_cases h : (a < 0 ↔ b < 0)
    · have := s1 h; omega
    · have := s2 h; omega
  rw [res_out hm]
  have d1 : decide (0 < (a.natAbs : Int) / 4294967296) = true := by simp; omega
  have d2 : decide (0 < (b.natAbs : Int) / 4294967296) = true := by simp; omega
  have x1 : (a.natAbs : Int) ≤ 9223372036854775808 := by omega
  have y1 : (b.natAbs : Int) ≤ 9223372036854775808 := by omega
  have x0 : 0 ≤ (a.natAbs : Int) := by omega
  have y0 : 0 ≤ (b.natAbs : Int) := by omega
  generalize (a.natAbs : Int) = x at *
  generalize (b.natAbs : Int) = y at *
  clear hm s1 s2 hb hx hy
  go_enter Tryd.func56, Tryd.ntmps56
  go_wp2_with fail
  (with_reducible refine (cx _).mono ?_)
  rintro e w' ⟨rfl, rfl⟩
  go_wp2_with fail
  (with_reducible refine (cy _).mono ?_)
  rintro e w' ⟨rfl, rfl⟩
  go_wp2_with fail
  all_goals (go_ret2; exact ⟨rfl, rfl⟩)
set_option maxHeartbeats 3200000 in
theorem rmul_small (ho : b.natAbs ≤ a.natAbs) (hs : b.natAbs < 4294967296) : Calls Tryd.prog 56 #[.int .i64 a, .int .i64 b] w fun e w' => e = .returned (res (a * b)) ∧ w = w' := by
  have cx := fun W => mag_c a W a0 a1
  have cy := fun W => mag_c b W b0 b1
  obtain ⟨h1, h2, h3, h4⟩ := halves a.natAbs b.natAbs (by omega) hs
  obtain ⟨s1, s2⟩ := mul_abs a b
  skip
  obtain ⟨hi, hhi⟩ : ∃ hi, (a.natAbs : Int) / 4294967296 * (b.natAbs : Int) = hi := ⟨_, rfl⟩
  obtain ⟨lo, hlo⟩ : ∃ lo, (a.natAbs : Int) % 4294967296 * (b.natAbs : Int) = lo := ⟨_, rfl⟩
  have e1 : ((a.natAbs / 4294967296 * b.natAbs : Nat) : Int) = hi := by rw [← hhi]; simp
  have e2 : ((a.natAbs % 4294967296 * b.natAbs : Nat) : Int) = lo := by rw [← hlo]; simp
  have k : ((a.natAbs * b.natAbs : Nat) : Int) = hi * 4294967296 + lo ∧ 0 ≤ hi ∧ hi ≤ 9223372036854775807 ∧ 0 ≤ lo ∧ lo ≤ 18446744073709551615 ∧ lo ≠ 9223372036854775808 := by
    generalize a.natAbs / 4294967296 * b.natAbs = u at *
    generalize a.natAbs % 4294967296 * b.natAbs = v at *
    generalize a.natAbs * b.natAbs = p at *
    omega
  clear h1 h2 h3 h4 e1 e2
  obtain ⟨k1, k2, k3, k4, k5, k6⟩ := k
  rw [k1] at s1 s2
  obtain ⟨m, hm⟩ : ∃ m, a * b = m := ⟨_, rfl⟩
  rw [hm] at s1 s2 ⊢
  clear hm k1
  have d1 : decide (0 < (b.natAbs : Int) / 4294967296) = false := by simp; omega
  have x1 : (a.natAbs : Int) ≤ 9223372036854775808 := by omega
  have y1 : (b.natAbs : Int) ≤ 9223372036854775808 := by omega
  have x0 : 0 ≤ (a.natAbs : Int) := by omega
  have y0 : 0 ≤ (b.natAbs : Int) := by omega
  have dl : decide ((a.natAbs : Int) < (b.natAbs : Int)) = false := by simp; omega
  generalize (a.natAbs : Int) = x at *
  generalize (b.natAbs : Int) = y at *
  clear ho hs
  by_cases ha : a < 0 <;> by_cases hb : b < 0
  · have da : decide (a < 0) = true := by simp; omega
    have db : decide (b < 0) = true := by simp; omega
    have hs := s1 (by simp [ha, hb])
    clear s1 s2 ha hb
    by_cases g : 2147483649 ≤ hi
    · have dg : decide (0 < hi / 2147483649) = true := by simp; omega
      rw [res_out (by omega)]
      clear hs
      go_enter Tryd.func56, Tryd.ntmps56
      go_wp2_with fail
      (with_reducible refine (cx _).mono ?_)
      rintro e w' ⟨rfl, rfl⟩
      go_wp2_with fail
      (with_reducible refine (cy _).mono ?_)
      rintro e w' ⟨rfl, rfl⟩
      go_wp2_with fail
      all_goals (go_ret2; exact ⟨rfl, rfl⟩)
    · have dg : decide (0 < hi / 2147483649) = false := by simp; omega
      by_cases o : 9223372036854775808 < hi * 4294967296 + lo
      · rw [res_out (by omega)]
        clear hs
        have dh : decide (9223372036854775808 < hi * 4294967296) = false := by simp; omega
        by_cases hl : 9223372036854775808 < lo
        · have dk : decide (9223372036854775808 < lo) = true := by simp; omega
          go_enter Tryd.func56, Tryd.ntmps56
          go_wp2_with fail
          (with_reducible refine (cx _).mono ?_)
          rintro e w' ⟨rfl, rfl⟩
          go_wp2_with fail
          (with_reducible refine (cy _).mono ?_)
          rintro e w' ⟨rfl, rfl⟩
          go_wp2_with fail
          all_goals (go_ret2; exact ⟨rfl, rfl⟩)
        · have dk : decide (9223372036854775808 < lo) = false := by simp; omega
          have dj : decide (9223372036854775808 < hi * 4294967296 + lo) = true := by simp; omega
          go_enter Tryd.func56, Tryd.ntmps56
          go_wp2_with fail
          (with_reducible refine (cx _).mono ?_)
          rintro e w' ⟨rfl, rfl⟩
          go_wp2_with fail
          (with_reducible refine (cy _).mono ?_)
          rintro e w' ⟨rfl, rfl⟩
          go_wp2_with fail
          all_goals (go_ret2; exact ⟨rfl, rfl⟩)
      · have dh : decide (9223372036854775808 < hi * 4294967296) = false := by simp; omega
        have dk : decide (9223372036854775808 < lo) = false := by simp; omega
        have dj : decide (9223372036854775808 < hi * 4294967296 + lo) = false := by simp; omega
        have co := fun W => of_c false (hi * 4294967296 + lo) W (by omega) (by omega)
        simp only [Bool.false_eq_true, if_false] at co
        rw [hs]
        generalize hR : res (hi * 4294967296 + lo) = R at *
        obtain ⟨n, k, rfl⟩ := res_two hR
        clear hR hs
        go_enter Tryd.func56, Tryd.ntmps56
        go_wp2_with fail
        (with_reducible refine (cx _).mono ?_)
        rintro e w' ⟨rfl, rfl⟩
        go_wp2_with fail
        (with_reducible refine (cy _).mono ?_)
        rintro e w' ⟨rfl, rfl⟩
        go_wp2_with fail
        all_goals
          (with_reducible refine (co _).mono ?_)
          rintro e w' ⟨rfl, rfl⟩
          go_wp2_with fail
          go_ret2
          exact ⟨rfl, rfl⟩
  · have da : decide (a < 0) = true := by simp; omega
    have db : decide (b < 0) = false := by simp; omega
    have hs := s2 (by simp [ha, hb])
    clear s1 s2 ha hb
    by_cases g : 2147483649 ≤ hi
    · have dg : decide (0 < hi / 2147483649) = true := by simp; omega
      rw [res_out (by omega)]
      clear hs
      go_enter Tryd.func56, Tryd.ntmps56
      go_wp2_with fail
      (with_reducible refine (cx _).mono ?_)
      rintro e w' ⟨rfl, rfl⟩
      go_wp2_with fail
      (with_reducible refine (cy _).mono ?_)
      rintro e w' ⟨rfl, rfl⟩
      go_wp2_with fail
      all_goals (go_ret2; exact ⟨rfl, rfl⟩)
    · have dg : decide (0 < hi / 2147483649) = false := by simp; omega
      by_cases o : 9223372036854775808 < hi * 4294967296 + lo
      · rw [res_out (by omega)]
        clear hs
        have dh : decide (9223372036854775808 < hi * 4294967296) = false := by simp; omega
        by_cases hl : 9223372036854775808 < lo
        · have dk : decide (9223372036854775808 < lo) = true := by simp; omega
          go_enter Tryd.func56, Tryd.ntmps56
          go_wp2_with fail
          (with_reducible refine (cx _).mono ?_)
          rintro e w' ⟨rfl, rfl⟩
          go_wp2_with fail
          (with_reducible refine (cy _).mono ?_)
          rintro e w' ⟨rfl, rfl⟩
          go_wp2_with fail
          all_goals (go_ret2; exact ⟨rfl, rfl⟩)
        · have dk : decide (9223372036854775808 < lo) = false := by simp; omega
          have dj : decide (9223372036854775808 < hi * 4294967296 + lo) = true := by simp; omega
          go_enter Tryd.func56, Tryd.ntmps56
          go_wp2_with fail
          (with_reducible refine (cx _).mono ?_)
          rintro e w' ⟨rfl, rfl⟩
          go_wp2_with fail
          (with_reducible refine (cy _).mono ?_)
          rintro e w' ⟨rfl, rfl⟩
          go_wp2_with fail
          all_goals (go_ret2; exact ⟨rfl, rfl⟩)
      · have dh : decide (9223372036854775808 < hi * 4294967296) = false := by simp; omega
        have dk : decide (9223372036854775808 < lo) = false := by simp; omega
        have dj : decide (9223372036854775808 < hi * 4294967296 + lo) = false := by simp; omega
        have co := fun W => of_c true (hi * 4294967296 + lo) W (by omega) (by omega)
        simp only [if_true] at co
        rw [hs]
        generalize hR : res (-(hi * 4294967296 + lo)) = R at *
        obtain ⟨n, k, rfl⟩ := res_two hR
        clear hR hs
        go_enter Tryd.func56, Tryd.ntmps56
        go_wp2_with fail
        (with_reducible refine (cx _).mono ?_)
        rintro e w' ⟨rfl, rfl⟩
        go_wp2_with fail
        (with_reducible refine (cy _).mono ?_)
        rintro e w' ⟨rfl, rfl⟩
        go_wp2_with fail
        all_goals
          (with_reducible refine (co _).mono ?_)
          rintro e w' ⟨rfl, rfl⟩
          go_wp2_with fail
          go_ret2
          exact ⟨rfl, rfl⟩
  · have da : decide (a < 0) = false := by simp; omega
    have db : decide (b < 0) = true := by simp; omega
    have hs := s2 (by simp [ha, hb])
    clear s1 s2 ha hb
    by_cases g : 2147483649 ≤ hi
    · have dg : decide (0 < hi / 2147483649) = true := by simp; omega
      rw [res_out (by omega)]
      clear hs
      go_enter Tryd.func56, Tryd.ntmps56
      go_wp2_with fail
      (with_reducible refine (cx _).mono ?_)
      rintro e w' ⟨rfl, rfl⟩
      go_wp2_with fail
      (with_reducible refine (cy _).mono ?_)
      rintro e w' ⟨rfl, rfl⟩
      go_wp2_with fail
      all_goals (go_ret2; exact ⟨rfl, rfl⟩)
    · have dg : decide (0 < hi / 2147483649) = false := by simp; omega
      by_cases o : 9223372036854775808 < hi * 4294967296 + lo
      · rw [res_out (by omega)]
        clear hs
        have dh : decide (9223372036854775808 < hi * 4294967296) = false := by simp; omega
        by_cases hl : 9223372036854775808 < lo
        · have dk : decide (9223372036854775808 < lo) = true := by simp; omega
          go_enter Tryd.func56, Tryd.ntmps56
          go_wp2_with fail
          (with_reducible refine (cx _).mono ?_)
          rintro e w' ⟨rfl, rfl⟩
          go_wp2_with fail
          (with_reducible refine (cy _).mono ?_)
          rintro e w' ⟨rfl, rfl⟩
          go_wp2_with fail
          all_goals (go_ret2; exact ⟨rfl, rfl⟩)
        · have dk : decide (9223372036854775808 < lo) = false := by simp; omega
          have dj : decide (9223372036854775808 < hi * 4294967296 + lo) = true := by simp; omega
          go_enter Tryd.func56, Tryd.ntmps56
          go_wp2_with fail
          (with_reducible refine (cx _).mono ?_)
          rintro e w' ⟨rfl, rfl⟩
          go_wp2_with fail
          (with_reducible refine (cy _).mono ?_)
          rintro e w' ⟨rfl, rfl⟩
          go_wp2_with fail
          all_goals (go_ret2; exact ⟨rfl, rfl⟩)
      · have dh : decide (9223372036854775808 < hi * 4294967296) = false := by simp; omega
        have dk : decide (9223372036854775808 < lo) = false := by simp; omega
        have dj : decide (9223372036854775808 < hi * 4294967296 + lo) = false := by simp; omega
        have co := fun W => of_c true (hi * 4294967296 + lo) W (by omega) (by omega)
        simp only [if_true] at co
        rw [hs]
        generalize hR : res (-(hi * 4294967296 + lo)) = R at *
        obtain ⟨n, k, rfl⟩ := res_two hR
        clear hR hs
        go_enter Tryd.func56, Tryd.ntmps56
        go_wp2_with fail
        (with_reducible refine (cx _).mono ?_)
        rintro e w' ⟨rfl, rfl⟩
        go_wp2_with fail
        (with_reducible refine (cy _).mono ?_)
        rintro e w' ⟨rfl, rfl⟩
        go_wp2_with fail
        all_goals
          (with_reducible refine (co _).mono ?_)
          rintro e w' ⟨rfl, rfl⟩
          go_wp2_with fail
          go_ret2
          exact ⟨rfl, rfl⟩
  · have da : decide (a < 0) = false := by simp; omega
    have db : decide (b < 0) = false := by simp; omega
    have hs := s1 (by simp [ha, hb])
    clear s1 s2 ha hb
    by_cases g : 2147483649 ≤ hi
    · have dg : decide (0 < hi / 2147483649) = true := by simp; omega
      rw [res_out (by omega)]
      clear hs
      go_enter Tryd.func56, Tryd.ntmps56
      go_wp2_with fail
      (with_reducible refine (cx _).mono ?_)
      rintro e w' ⟨rfl, rfl⟩
      go_wp2_with fail
      (with_reducible refine (cy _).mono ?_)
      rintro e w' ⟨rfl, rfl⟩
      go_wp2_with fail
      all_goals (go_ret2; exact ⟨rfl, rfl⟩)
    · have dg : decide (0 < hi / 2147483649) = false := by simp; omega
      by_cases o : 9223372036854775808 < hi * 4294967296 + lo
      · rw [res_out (by omega)]
        clear hs
        have dh : decide (9223372036854775808 < hi * 4294967296) = false := by simp; omega
        by_cases hl : 9223372036854775808 < lo
        · have dk : decide (9223372036854775808 < lo) = true := by simp; omega
          go_enter Tryd.func56, Tryd.ntmps56
          go_wp2_with fail
          (with_reducible refine (cx _).mono ?_)
          rintro e w' ⟨rfl, rfl⟩
          go_wp2_with fail
          (with_reducible refine (cy _).mono ?_)
          rintro e w' ⟨rfl, rfl⟩
          go_wp2_with fail
          all_goals (go_ret2; exact ⟨rfl, rfl⟩)
        · have dk : decide (9223372036854775808 < lo) = false := by simp; omega
          have dj : decide (9223372036854775808 < hi * 4294967296 + lo) = true := by simp; omega
          go_enter Tryd.func56, Tryd.ntmps56
          go_wp2_with fail
          (with_reducible refine (cx _).mono ?_)
          rintro e w' ⟨rfl, rfl⟩
          go_wp2_with fail
          (with_reducible refine (cy _).mono ?_)
          rintro e w' ⟨rfl, rfl⟩
          go_wp2_with fail
          all_goals (go_ret2; exact ⟨rfl, rfl⟩)
      · have dh : decide (9223372036854775808 < hi * 4294967296) = false := by simp; omega
        have dk : decide (9223372036854775808 < lo) = false := by simp; omega
        have dj : decide (9223372036854775808 < hi * 4294967296 + lo) = false := by simp; omega
        have co := fun W => of_c false (hi * 4294967296 + lo) W (by omega) (by omega)
        simp only [Bool.false_eq_true, if_false] at co
        rw [hs]
        generalize hR : res (hi * 4294967296 + lo) = R at *
        obtain ⟨n, k, rfl⟩ := res_two hR
        clear hR hs
        go_enter Tryd.func56, Tryd.ntmps56
        go_wp2_with fail
        (with_reducible refine (cx _).mono ?_)
        rintro e w' ⟨rfl, rfl⟩
        go_wp2_with fail
        (with_reducible refine (cy _).mono ?_)
        rintro e w' ⟨rfl, rfl⟩
        go_wp2_with fail
        all_goals
          (with_reducible refine (co _).mono ?_)
          rintro e w' ⟨rfl, rfl⟩
          go_wp2_with fail
          go_ret2
          exact ⟨rfl, rfl⟩
set_option maxHeartbeats 3200000 in
theorem rmul_swap (ho : a.natAbs < b.natAbs) (hs : a.natAbs < 4294967296) : Calls Tryd.prog 56 #[.int .i64 a, .int .i64 b] w fun e w' => e = .returned (res (a * b)) ∧ w = w' := by
  have cx := fun W => mag_c a W a0 a1
  have cy := fun W => mag_c b W b0 b1
  obtain ⟨h1, h2, h3, h4⟩ := halves b.natAbs a.natAbs (by omega) hs
  obtain ⟨s1, s2⟩ := mul_abs a b
  rw [Nat.mul_comm] at h1
  obtain ⟨hi, hhi⟩ : ∃ hi, (b.natAbs : Int) / 4294967296 * (a.natAbs : Int) = hi := ⟨_, rfl⟩
  obtain ⟨lo, hlo⟩ : ∃ lo, (b.natAbs : Int) % 4294967296 * (a.natAbs : Int) = lo := ⟨_, rfl⟩
  have e1 : ((b.natAbs / 4294967296 * a.natAbs : Nat) : Int) = hi := by rw [← hhi]; simp
  have e2 : ((b.natAbs % 4294967296 * a.natAbs : Nat) : Int) = lo := by rw [← hlo]; simp
  have k : ((a.natAbs * b.natAbs : Nat) : Int) = hi * 4294967296 + lo ∧ 0 ≤ hi ∧ hi ≤ 9223372036854775807 ∧ 0 ≤ lo ∧ lo ≤ 18446744073709551615 ∧ lo ≠ 9223372036854775808 := by
    generalize b.natAbs / 4294967296 * a.natAbs = u at *
    generalize b.natAbs % 4294967296 * a.natAbs = v at *
    generalize a.natAbs * b.natAbs = p at *
    omega
  clear h1 h2 h3 h4 e1 e2
  obtain ⟨k1, k2, k3, k4, k5, k6⟩ := k
  rw [k1] at s1 s2
  obtain ⟨m, hm⟩ : ∃ m, a * b = m := ⟨_, rfl⟩
  rw [hm] at s1 s2 ⊢
  clear hm k1
  have d1 : decide (0 < (a.natAbs : Int) / 4294967296) = false := by simp; omega
  have x1 : (a.natAbs : Int) ≤ 9223372036854775808 := by omega
  have y1 : (b.natAbs : Int) ≤ 9223372036854775808 := by omega
  have x0 : 0 ≤ (a.natAbs : Int) := by omega
  have y0 : 0 ≤ (b.natAbs : Int) := by omega
  have dl : decide ((a.natAbs : Int) < (b.natAbs : Int)) = true := by simp; omega
  generalize (a.natAbs : Int) = x at *
  generalize (b.natAbs : Int) = y at *
  clear ho hs
  by_cases ha : a < 0 <;> by_cases hb : b < 0
  · have da : decide (a < 0) = true := by simp; omega
    have db : decide (b < 0) = true := by simp; omega
    have hs := s1 (by simp [ha, hb])
    clear s1 s2 ha hb
    by_cases g : 2147483649 ≤ hi
    · have dg : decide (0 < hi / 2147483649) = true := by simp; omega
      rw [res_out (by omega)]
      clear hs
      go_enter Tryd.func56, Tryd.ntmps56
      go_wp2_with fail
      (with_reducible refine (cx _).mono ?_)
      rintro e w' ⟨rfl, rfl⟩
      go_wp2_with fail
      (with_reducible refine (cy _).mono ?_)
      rintro e w' ⟨rfl, rfl⟩
      go_wp2_with fail
      all_goals (go_ret2; exact ⟨rfl, rfl⟩)
    · have dg : decide (0 < hi / 2147483649) = false := by simp; omega
      by_cases o : 9223372036854775808 < hi * 4294967296 + lo
      · rw [res_out (by omega)]
        clear hs
        have dh : decide (9223372036854775808 < hi * 4294967296) = false := by simp; omega
        by_cases hl : 9223372036854775808 < lo
        · have dk : decide (9223372036854775808 < lo) = true := by simp; omega
          go_enter Tryd.func56, Tryd.ntmps56
          go_wp2_with fail
          (with_reducible refine (cx _).mono ?_)
          rintro e w' ⟨rfl, rfl⟩
          go_wp2_with fail
          (with_reducible refine (cy _).mono ?_)
          rintro e w' ⟨rfl, rfl⟩
          go_wp2_with fail
          all_goals (go_ret2; exact ⟨rfl, rfl⟩)
        · have dk : decide (9223372036854775808 < lo) = false := by simp; omega
          have dj : decide (9223372036854775808 < hi * 4294967296 + lo) = true := by simp; omega
          go_enter Tryd.func56, Tryd.ntmps56
          go_wp2_with fail
          (with_reducible refine (cx _).mono ?_)
          rintro e w' ⟨rfl, rfl⟩
          go_wp2_with fail
          (with_reducible refine (cy _).mono ?_)
          rintro e w' ⟨rfl, rfl⟩
          go_wp2_with fail
          all_goals (go_ret2; exact ⟨rfl, rfl⟩)
      · have dh : decide (9223372036854775808 < hi * 4294967296) = false := by simp; omega
        have dk : decide (9223372036854775808 < lo) = false := by simp; omega
        have dj : decide (9223372036854775808 < hi * 4294967296 + lo) = false := by simp; omega
        have co := fun W => of_c false (hi * 4294967296 + lo) W (by omega) (by omega)
        simp only [Bool.false_eq_true, if_false] at co
        rw [hs]
        generalize hR : res (hi * 4294967296 + lo) = R at *
        obtain ⟨n, k, rfl⟩ := res_two hR
        clear hR hs
        go_enter Tryd.func56, Tryd.ntmps56
        go_wp2_with fail
        (with_reducible refine (cx _).mono ?_)
        rintro e w' ⟨rfl, rfl⟩
        go_wp2_with fail
        (with_reducible refine (cy _).mono ?_)
        rintro e w' ⟨rfl, rfl⟩
        go_wp2_with fail
        all_goals
          (with_reducible refine (co _).mono ?_)
          rintro e w' ⟨rfl, rfl⟩
          go_wp2_with fail
          go_ret2
          exact ⟨rfl, rfl⟩
  · have da : decide (a < 0) = true := by simp; omega
    have db : decide (b < 0) = false := by simp; omega
    have hs := s2 (by simp [ha, hb])
    clear s1 s2 ha hb
    by_cases g : 2147483649 ≤ hi
    · have dg : decide (0 < hi / 2147483649) = true := by simp; omega
      rw [res_out (by omega)]
      clear hs
      go_enter Tryd.func56, Tryd.ntmps56
      go_wp2_with fail
      (with_reducible refine (cx _).mono ?_)
      rintro e w' ⟨rfl, rfl⟩
      go_wp2_with fail
      (with_reducible refine (cy _).mono ?_)
      rintro e w' ⟨rfl, rfl⟩
      go_wp2_with fail
      all_goals (go_ret2; exact ⟨rfl, rfl⟩)
    · have dg : decide (0 < hi / 2147483649) = false := by simp; omega
      by_cases o : 9223372036854775808 < hi * 4294967296 + lo
      · rw [res_out (by omega)]
        clear hs
        have dh : decide (9223372036854775808 < hi * 4294967296) = false := by simp; omega
        by_cases hl : 9223372036854775808 < lo
        · have dk : decide (9223372036854775808 < lo) = true := by simp; omega
          go_enter Tryd.func56, Tryd.ntmps56
          go_wp2_with fail
          (with_reducible refine (cx _).mono ?_)
          rintro e w' ⟨rfl, rfl⟩
          go_wp2_with fail
          (with_reducible refine (cy _).mono ?_)
          rintro e w' ⟨rfl, rfl⟩
          go_wp2_with fail
          all_goals (go_ret2; exact ⟨rfl, rfl⟩)
        · have dk : decide (9223372036854775808 < lo) = false := by simp; omega
          have dj : decide (9223372036854775808 < hi * 4294967296 + lo) = true := by simp; omega
          go_enter Tryd.func56, Tryd.ntmps56
          go_wp2_with fail
          (with_reducible refine (cx _).mono ?_)
          rintro e w' ⟨rfl, rfl⟩
          go_wp2_with fail
          (with_reducible refine (cy _).mono ?_)
          rintro e w' ⟨rfl, rfl⟩
          go_wp2_with fail
          all_goals (go_ret2; exact ⟨rfl, rfl⟩)
      · have dh : decide (9223372036854775808 < hi * 4294967296) = false := by simp; omega
        have dk : decide (9223372036854775808 < lo) = false := by simp; omega
        have dj : decide (9223372036854775808 < hi * 4294967296 + lo) = false := by simp; omega
        have co := fun W => of_c true (hi * 4294967296 + lo) W (by omega) (by omega)
        simp only [if_true] at co
        rw [hs]
        generalize hR : res (-(hi * 4294967296 + lo)) = R at *
        obtain ⟨n, k, rfl⟩ := res_two hR
        clear hR hs
        go_enter Tryd.func56, Tryd.ntmps56
        go_wp2_with fail
        (with_reducible refine (cx _).mono ?_)
        rintro e w' ⟨rfl, rfl⟩
        go_wp2_with fail
        (with_reducible refine (cy _).mono ?_)
        rintro e w' ⟨rfl, rfl⟩
        go_wp2_with fail
        all_goals
          (with_reducible refine (co _).mono ?_)
          rintro e w' ⟨rfl, rfl⟩
          go_wp2_with fail
          go_ret2
          exact ⟨rfl, rfl⟩
  · have da : decide (a < 0) = false := by simp; omega
    have db : decide (b < 0) = true := by simp; omega
    have hs := s2 (by simp [ha, hb])
    clear s1 s2 ha hb
    by_cases g : 2147483649 ≤ hi
    · have dg : decide (0 < hi / 2147483649) = true := by simp; omega
      rw [res_out (by omega)]
      clear hs
      go_enter Tryd.func56, Tryd.ntmps56
      go_wp2_with fail
      (with_reducible refine (cx _).mono ?_)
      rintro e w' ⟨rfl, rfl⟩
      go_wp2_with fail
      (with_reducible refine (cy _).mono ?_)
      rintro e w' ⟨rfl, rfl⟩
      go_wp2_with fail
      all_goals (go_ret2; exact ⟨rfl, rfl⟩)
    · have dg : decide (0 < hi / 2147483649) = false := by simp; omega
      by_cases o : 9223372036854775808 < hi * 4294967296 + lo
      · rw [res_out (by omega)]
        clear hs
        have dh : decide (9223372036854775808 < hi * 4294967296) = false := by simp; omega
        by_cases hl : 9223372036854775808 < lo
        · have dk : decide (9223372036854775808 < lo) = true := by simp; omega
          go_enter Tryd.func56, Tryd.ntmps56
          go_wp2_with fail
          (with_reducible refine (cx _).mono ?_)
          rintro e w' ⟨rfl, rfl⟩
          go_wp2_with fail
          (with_reducible refine (cy _).mono ?_)
          rintro e w' ⟨rfl, rfl⟩
          go_wp2_with fail
          all_goals (go_ret2; exact ⟨rfl, rfl⟩)
        · have dk : decide (9223372036854775808 < lo) = false := by simp; omega
          have dj : decide (9223372036854775808 < hi * 4294967296 + lo) = true := by simp; omega
          go_enter Tryd.func56, Tryd.ntmps56
          go_wp2_with fail
          (with_reducible refine (cx _).mono ?_)
          rintro e w' ⟨rfl, rfl⟩
          go_wp2_with fail
          (with_reducible refine (cy _).mono ?_)
          rintro e w' ⟨rfl, rfl⟩
          go_wp2_with fail
          all_goals (go_ret2; exact ⟨rfl, rfl⟩)
      · have dh : decide (9223372036854775808 < hi * 4294967296) = false := by simp; omega
        have dk : decide (9223372036854775808 < lo) = false := by simp; omega
        have dj : decide (9223372036854775808 < hi * 4294967296 + lo) = false := by simp; omega
        have co := fun W => of_c true (hi * 4294967296 + lo) W (by omega) (by omega)
        simp only [if_true] at co
        rw [hs]
        generalize hR : res (-(hi * 4294967296 + lo)) = R at *
        obtain ⟨n, k, rfl⟩ := res_two hR
        clear hR hs
        go_enter Tryd.func56, Tryd.ntmps56
        go_wp2_with fail
        (with_reducible refine (cx _).mono ?_)
        rintro e w' ⟨rfl, rfl⟩
        go_wp2_with fail
        (with_reducible refine (cy _).mono ?_)
        rintro e w' ⟨rfl, rfl⟩
        go_wp2_with fail
        all_goals
          (with_reducible refine (co _).mono ?_)
          rintro e w' ⟨rfl, rfl⟩
          go_wp2_with fail
          go_ret2
          exact ⟨rfl, rfl⟩
  · have da : decide (a < 0) = false := by simp; omega
    have db : decide (b < 0) = false := by simp; omega
    have hs := s1 (by simp [ha, hb])
    clear s1 s2 ha hb
    by_cases g : 2147483649 ≤ hi
    · have dg : decide (0 < hi / 2147483649) = true := by simp; omega
      rw [res_out (by omega)]
      clear hs
      go_enter Tryd.func56, Tryd.ntmps56
      go_wp2_with fail
      (with_reducible refine (cx _).mono ?_)
      rintro e w' ⟨rfl, rfl⟩
      go_wp2_with fail
      (with_reducible refine (cy _).mono ?_)
      rintro e w' ⟨rfl, rfl⟩
      go_wp2_with fail
      all_goals (go_ret2; exact ⟨rfl, rfl⟩)
    · have dg : decide (0 < hi / 2147483649) = false := by simp; omega
      by_cases o : 9223372036854775808 < hi * 4294967296 + lo
      · rw [res_out (by omega)]
        clear hs
        have dh : decide (9223372036854775808 < hi * 4294967296) = false := by simp; omega
        by_cases hl : 9223372036854775808 < lo
        · have dk : decide (9223372036854775808 < lo) = true := by simp; omega
          go_enter Tryd.func56, Tryd.ntmps56
          go_wp2_with fail
          (with_reducible refine (cx _).mono ?_)
          rintro e w' ⟨rfl, rfl⟩
          go_wp2_with fail
          (with_reducible refine (cy _).mono ?_)
          rintro e w' ⟨rfl, rfl⟩
          go_wp2_with fail
          all_goals (go_ret2; exact ⟨rfl, rfl⟩)
        · have dk : decide (9223372036854775808 < lo) = false := by simp; omega
          have dj : decide (9223372036854775808 < hi * 4294967296 + lo) = true := by simp; omega
          go_enter Tryd.func56, Tryd.ntmps56
          go_wp2_with fail
          (with_reducible refine (cx _).mono ?_)
          rintro e w' ⟨rfl, rfl⟩
          go_wp2_with fail
          (with_reducible refine (cy _).mono ?_)
          rintro e w' ⟨rfl, rfl⟩
          go_wp2_with fail
          all_goals (go_ret2; exact ⟨rfl, rfl⟩)
      · have dh : decide (9223372036854775808 < hi * 4294967296) = false := by simp; omega
        have dk : decide (9223372036854775808 < lo) = false := by simp; omega
        have dj : decide (9223372036854775808 < hi * 4294967296 + lo) = false := by simp; omega
        have co := fun W => of_c false (hi * 4294967296 + lo) W (by omega) (by omega)
        simp only [Bool.false_eq_true, if_false] at co
        rw [hs]
        generalize hR : res (hi * 4294967296 + lo) = R at *
        obtain ⟨n, k, rfl⟩ := res_two hR
        clear hR hs
        go_enter Tryd.func56, Tryd.ntmps56
        go_wp2_with fail
        (with_reducible refine (cx _).mono ?_)
        rintro e w' ⟨rfl, rfl⟩
        go_wp2_with fail
        (with_reducible refine (cy _).mono ?_)
        rintro e w' ⟨rfl, rfl⟩
        go_wp2_with fail
        all_goals
          (with_reducible refine (co _).mono ?_)
          rintro e w' ⟨rfl, rfl⟩
          go_wp2_with fail
          go_ret2
          exact ⟨rfl, rfl⟩
theorem rmul_c : Calls Tryd.prog 56 #[.int .i64 a, .int .i64 b] w fun e w' => e = .returned (res (a * b)) ∧ w = w' := by
  by_cases hx : 4294967296 ≤ a.natAbs ∧ 4294967296 ≤ b.natAbs
  · exact rmul_big a b w a0 a1 b0 b1 hx.1 hx.2
  · by_cases ho : b.natAbs ≤ a.natAbs
    · exact rmul_small a b w a0 a1 b0 b1 ho (by omega)
    · exact rmul_swap a b w a0 a1 b0 b1 (by omega) (by omega)
end
end NumW
end Go.Proofs.YtledgkplddeghaaDoor
