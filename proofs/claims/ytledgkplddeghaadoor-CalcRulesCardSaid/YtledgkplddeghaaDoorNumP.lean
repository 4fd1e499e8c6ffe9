/- Plain facts on quotients and products. No program. No condition. -/
import Derived.IntWalk
namespace Go.Proofs.YtledgkplddeghaaDoor.NumP
set_option linter.unusedVariables false
set_option linter.unusedSimpArgs false
theorem tmod_abs (a b : Int) (hb : b ≠ 0) : (a.tmod b).natAbs < b.natAbs := by
  rw [Int.natAbs_tmod]; exact Nat.mod_lt _ (by omega)
theorem tmod_pos (a b : Int) (h : 0 ≤ a) : 0 ≤ a.tmod b := Int.tmod_nonneg b h
theorem tmod_neg (a b : Int) (h : a ≤ 0) : a.tmod b ≤ 0 := by
  have := Int.tmod_nonneg b (show 0 ≤ -a by omega)
  rw [Int.neg_tmod] at this; omega
theorem tdiv_bd (a b : Int) (a0 : -9223372036854775808 ≤ a) (a1 : a ≤ 9223372036854775807) (h0 : b ≠ 0) (h1 : b ≠ -1) : -9223372036854775808 ≤ a.tdiv b ∧ a.tdiv b ≤ 9223372036854775807 := by
  by_cases hb : b = 1
  · subst hb; rw [Int.tdiv_one]; exact ⟨a0, a1⟩
  · have h := Int.natAbs_tdiv a b
    have h2 : 2 ≤ b.natAbs := by omega
    have h3 : a.natAbs.div b.natAbs ≤ a.natAbs / 2 := Nat.div_le_div_left h2 (by omega)
    rw [← h] at h3
    omega
theorem dvd_iff (a b : Int) : b ∣ a ↔ a.tmod b = 0 := Int.dvd_iff_tmod_eq_zero
/-- Brought down. -/
theorem fdiv_same (a b : Int) (_h0 : b ≠ 0) (h : a.tmod b = 0 ∨ (a < 0 ∧ b < 0) ∨ (0 ≤ a ∧ 0 < b)) : a.fdiv b = a.tdiv b := by
  rw [Int.fdiv_eq_tdiv]
  rcases h with h | ⟨h1, h2⟩ | ⟨h1, h2⟩
  · rw [if_pos ((dvd_iff a b).2 h)]; omega
  · rw [if_neg (show ¬ 0 ≤ a by omega), if_neg (show ¬ 0 ≤ b by omega), Int.sign_eq_neg_one_of_neg h2]; split <;> omega
  · rw [if_pos h1, if_pos (show 0 ≤ b by omega)]; split <;> omega
theorem fdiv_less (a b : Int) (h : a.tmod b ≠ 0) (hs : (a < 0 ∧ 0 < b) ∨ (0 ≤ a ∧ b < 0)) : a.fdiv b = a.tdiv b - 1 := by
  rw [Int.fdiv_eq_tdiv, if_neg (fun hd => h ((dvd_iff a b).1 hd))]
  rcases hs with ⟨h1, h2⟩ | ⟨h1, h2⟩
  · rw [if_neg (show ¬ 0 ≤ a by omega), if_pos (show 0 ≤ b by omega), Int.sign_eq_one_of_pos h2]
  · rw [if_pos h1, if_neg (show ¬ 0 ≤ b by omega)]
theorem fmod_same (a b : Int) (h0 : b ≠ 0) (h : a.tmod b = 0 ∨ (a < 0 ∧ b < 0) ∨ (0 ≤ a ∧ 0 < b)) : a.fmod b = a.tmod b := by
  have h1 := Int.mul_fdiv_add_fmod a b
  have h2 := Int.mul_tdiv_add_tmod a b
  rw [fdiv_same a b h0 h] at h1; omega
theorem fmod_more (a b : Int) (h : a.tmod b ≠ 0) (hs : (a < 0 ∧ 0 < b) ∨ (0 ≤ a ∧ b < 0)) : a.fmod b = a.tmod b + b := by
  have h1 := Int.mul_fdiv_add_fmod a b
  have h2 := Int.mul_tdiv_add_tmod a b
  rw [fdiv_less a b h hs, Int.mul_sub, Int.mul_one] at h1; omega
theorem fdiv_m1 (a : Int) : a.fdiv (-1) = -a := by
  have h := fdiv_same a (-1) (by omega)
  by_cases ha : a.tmod (-1) = 0
  · rw [h (.inl ha)]; simp
  · exact absurd (by simp) ha
theorem fmod_m1 (a : Int) : a.fmod (-1) = 0 := by
  have h1 := Int.mul_fdiv_add_fmod a (-1)
  rw [fdiv_m1] at h1; omega
theorem fdiv_bd (a b : Int) (a0 : -9223372036854775808 ≤ a) (a1 : a ≤ 9223372036854775807) (h0 : b ≠ 0) (h1 : b ≠ -1) : -9223372036854775808 ≤ a.fdiv b ∧ a.fdiv b ≤ 9223372036854775807 := by
  by_cases hb : b = 1
  · subst hb; rw [Int.fdiv_one]; exact ⟨a0, a1⟩
  · have h := Int.natAbs_tdiv a b
    have h2 : 2 ≤ b.natAbs := by omega
    have h3 : a.natAbs.div b.natAbs ≤ a.natAbs / 2 := Nat.div_le_div_left h2 (by omega)
    rw [← h] at h3
    by_cases hz : a.tmod b = 0
    · rw [fdiv_same a b h0 (.inl hz)]; omega
    · by_cases hs : (a < 0 ∧ 0 < b) ∨ (0 ≤ a ∧ b < 0)
      · rw [fdiv_less a b hz hs]; omega
      · rw [fdiv_same a b h0 (by omega)]; omega
/-- A product's sign and size. -/
theorem mul_abs (a b : Int) : ((a < 0 ↔ b < 0) → a * b = ((a.natAbs * b.natAbs : Nat) : Int)) ∧ (¬ (a < 0 ↔ b < 0) → a * b = -((a.natAbs * b.natAbs : Nat) : Int)) := by
  have e : ((a.natAbs * b.natAbs : Nat) : Int) = (a.natAbs : Int) * (b.natAbs : Int) := Int.natCast_mul _ _
  rw [e]
  constructor
  · intro h
    by_cases ha : a < 0
    · have hb := h.1 ha
      rw [show (a.natAbs : Int) = -a by omega, show (b.natAbs : Int) = -b by omega, Int.neg_mul_neg]
    · have hb : ¬ b < 0 := fun x => ha (h.2 x)
      rw [show (a.natAbs : Int) = a by omega, show (b.natAbs : Int) = b by omega]
  · intro h
    by_cases ha : a < 0
    · have hb : ¬ b < 0 := fun x => h ⟨fun _ => x, fun _ => ha⟩
      rw [show (a.natAbs : Int) = -a by omega, show (b.natAbs : Int) = b by omega, Int.neg_mul, Int.neg_neg]
    · have hb : b < 0 := Classical.byContradiction fun x => h ⟨fun y => absurd y ha, fun y => absurd y x⟩
      rw [show (a.natAbs : Int) = a by omega, show (b.natAbs : Int) = -b by omega, Int.mul_neg, Int.neg_neg]
theorem pow_split : ∀ (n u v : Nat), u * v = 2 ^ n → ∃ i, i ≤ n ∧ u = 2 ^ i ∧ v = 2 ^ (n - i)
  | 0, u, v, h => ⟨0, Nat.le_refl _, by simpa using Nat.eq_one_of_mul_eq_one_right h, by simpa using Nat.eq_one_of_mul_eq_one_left h⟩
  | n + 1, u, v, h => by
    rcases Nat.mod_two_eq_zero_or_one u with hu | hu
    · have e : u = 2 * (u / 2) := by omega
      have h2 : (u / 2) * v = 2 ^ n := by
        rw [e, Nat.pow_succ, Nat.mul_assoc, Nat.mul_comm (2 ^ n) 2] at h
        exact Nat.eq_of_mul_eq_mul_left (by omega) h
      obtain ⟨i, hi, h3, h4⟩ := pow_split n (u / 2) v h2
      exact ⟨i + 1, by omega, by rw [e, h3, Nat.pow_succ, Nat.mul_comm], by rw [h4, show n + 1 - (i + 1) = n - i from by omega]⟩
    · have hv : v % 2 = 0 := by
        have h1 : u * v % 2 = 0 := by rw [h, Nat.pow_succ]; omega
        rw [Nat.mul_mod, hu] at h1; omega
      have e : v = 2 * (v / 2) := by omega
      have h2 : u * (v / 2) = 2 ^ n := by
        rw [e, Nat.pow_succ, Nat.mul_left_comm, Nat.mul_comm (2 ^ n) 2] at h
        exact Nat.eq_of_mul_eq_mul_left (by omega) h
      obtain ⟨i, hi, h3, h4⟩ := pow_split n u (v / 2) h2
      exact ⟨i, by omega, h3, by rw [e, h4, Nat.mul_comm, ← Nat.pow_succ, show (n - i).succ = n + 1 - i from by omega]⟩
/-- No product of two numbers of 32 bits is 2^63. -/
theorem no_half (u v : Nat) (hu : u < 4294967296) (hv : v < 4294967296) : u * v ≠ 9223372036854775808 := by
  intro h
  obtain ⟨i, hi, h1, h2⟩ := pow_split 63 u v (by rw [h])
  have a1 : i < 32 := (Nat.pow_lt_pow_iff_right (a := 2) (by omega)).1 (by rw [← h1]; exact hu)
  have a2 : 63 - i < 32 := (Nat.pow_lt_pow_iff_right (a := 2) (by omega)).1 (by rw [← h2]; exact hv)
  omega
/-- The quotient and what is left, by sizes. -/
theorem tdiv_sizes (a b : Int) : a.tdiv b = (if (a < 0 ↔ b < 0) then ((a.natAbs / b.natAbs : Nat) : Int) else -((a.natAbs / b.natAbs : Nat) : Int)) ∧ a.tmod b = (if a < 0 then -((a.natAbs % b.natAbs : Nat) : Int) else ((a.natAbs % b.natAbs : Nat) : Int)) := by
  have key : ∀ m n : Nat, (m : Int).tdiv n = ((m / n : Nat) : Int) ∧ (m : Int).tmod n = ((m % n : Nat) : Int) := fun m n => ⟨rfl, rfl⟩
  obtain ⟨k1, k2⟩ := key a.natAbs b.natAbs
  by_cases ha : a < 0 <;> by_cases hb : b < 0
  · rw [if_pos (by simp [ha, hb]), if_pos ha]
    have ea : a = -(a.natAbs : Int) := by omega
    have eb : b = -(b.natAbs : Int) := by omega
    constructor
    · rw [← k1]; conv => lhs; rw [ea, eb, Int.neg_tdiv, Int.tdiv_neg, Int.neg_neg]
    · rw [← k2]; conv => lhs; rw [ea, eb, Int.neg_tmod, Int.tmod_neg]
  · rw [if_neg (by simp [ha, hb]), if_pos ha]
    have ea : a = -(a.natAbs : Int) := by omega
    have eb : b = (b.natAbs : Int) := by omega
    constructor
    · rw [← k1]; conv => lhs; rw [ea, eb, Int.neg_tdiv]
    · rw [← k2]; conv => lhs; rw [ea, eb, Int.neg_tmod]
  · rw [if_neg (by simp [ha, hb]), if_neg ha]
    have ea : a = (a.natAbs : Int) := by omega
    have eb : b = -(b.natAbs : Int) := by omega
    constructor
    · rw [← k1]; conv => lhs; rw [ea, eb, Int.tdiv_neg]
    · rw [← k2]; conv => lhs; rw [ea, eb, Int.tmod_neg]
  · rw [if_pos (by simp [ha, hb]), if_neg ha]
    have ea : a = (a.natAbs : Int) := by omega
    have eb : b = (b.natAbs : Int) := by omega
    constructor
    · rw [← k1]; conv => lhs; rw [ea, eb]
    · rw [← k2]; conv => lhs; rw [ea, eb]
/-- Floor division by sizes: q, r the sizes' quotient and rest. -/
theorem floor_sizes (a b : Int) (h0 : b ≠ 0) (q r : Int) (hq : ((a.natAbs / b.natAbs : Nat) : Int) = q) (hr : ((a.natAbs % b.natAbs : Nat) : Int) = r) :
    ((a < 0 ↔ b < 0) → a.fdiv b = q ∧ a.fmod b = if b < 0 then -r else r) ∧
    (¬ (a < 0 ↔ b < 0) → r = 0 → a.fdiv b = -q ∧ a.fmod b = 0) ∧
    (¬ (a < 0 ↔ b < 0) → r ≠ 0 → a.fdiv b = -(q + 1) ∧ a.fmod b = if b < 0 then -(-b - r) else b - r) := by
  obtain ⟨t1, t2⟩ := tdiv_sizes a b
  rw [hq] at t1
  rw [hr] at t2
  refine ⟨fun h => ?_, fun h h1 => ?_, fun h h1 => ?_⟩
  · rw [if_pos h] at t1
    by_cases ha : a < 0
    · have hb := h.1 ha
      rw [if_pos ha] at t2
      rw [fdiv_same a b h0 (.inr (.inl ⟨ha, hb⟩)), fmod_same a b h0 (.inr (.inl ⟨ha, hb⟩)), if_pos hb]
      exact ⟨t1, t2⟩
    · have hb : ¬ b < 0 := fun x => ha (h.2 x)
      rw [if_neg ha] at t2
      rw [fdiv_same a b h0 (.inr (.inr ⟨by omega, by omega⟩)), fmod_same a b h0 (.inr (.inr ⟨by omega, by omega⟩)), if_neg hb]
      exact ⟨t1, t2⟩
  · rw [if_neg h] at t1
    have hz : a.tmod b = 0 := by rw [t2, h1]; split <;> rfl
    rw [fdiv_same a b h0 (.inl hz), fmod_same a b h0 (.inl hz), hz]
    exact ⟨t1, rfl⟩
  · rw [if_neg h] at t1
    have hz : a.tmod b ≠ 0 := by rw [t2]; split <;> omega
    have hs : (a < 0 ∧ 0 < b) ∨ (0 ≤ a ∧ b < 0) := by
      by_cases ha : a < 0
      · have hb : ¬ b < 0 := fun x => h ⟨fun _ => x, fun _ => ha⟩
        exact .inl ⟨ha, by omega⟩
      · have hb : b < 0 := Classical.byContradiction fun x => h ⟨fun y => absurd y ha, fun y => absurd y x⟩
        exact .inr ⟨by omega, hb⟩
    rw [fdiv_less a b hz hs, fmod_more a b hz hs, t1, t2]
    rcases hs with ⟨x, y⟩ | ⟨x, y⟩
    · rw [if_pos x, if_neg (show ¬ b < 0 by omega)]; omega
    · rw [if_neg (show ¬ a < 0 by omega), if_pos y]; omega
/-- A product by halves of 32 bits: h the upper half times y, l the lower half times y. -/
theorem halves (x y : Nat) (hx : x ≤ 9223372036854775808) (hy : y < 4294967296) :
    x * y = (x / 4294967296 * y) * 4294967296 + x % 4294967296 * y ∧ x / 4294967296 * y < 9223372036854775808 ∧ x % 4294967296 * y < 18446744073709551616 ∧ x % 4294967296 * y ≠ 9223372036854775808 := by
  refine ⟨?_, ?_, ?_, no_half _ _ (Nat.mod_lt _ (by omega)) hy⟩
  · have h := Nat.div_add_mod x 4294967296
    conv => lhs; rw [← h, Nat.add_mul]
    rw [Nat.mul_assoc, Nat.mul_comm 4294967296]
  · have h1 : x / 4294967296 ≤ 2147483648 := by omega
    calc x / 4294967296 * y ≤ 2147483648 * y := Nat.mul_le_mul_right _ h1
      _ < 9223372036854775808 := by omega
  · have h1 : x % 4294967296 < 4294967296 := Nat.mod_lt _ (by omega)
    calc x % 4294967296 * y ≤ 4294967295 * y := Nat.mul_le_mul_right _ (by omega)
      _ < 18446744073709551616 := by omega
theorem both_big (x y : Nat) (hx : 4294967296 ≤ x) (hy : 4294967296 ≤ y) : 18446744073709551616 ≤ x * y := by
  calc 18446744073709551616 = 4294967296 * 4294967296 := rfl
    _ ≤ x * y := Nat.mul_le_mul hx hy
end Go.Proofs.YtledgkplddeghaaDoor.NumP
