/- Plain facts on quotients and products. No program. No condition. -/
import Derived.IntWalk
import Derived.Lib.ParseIntB
import Derived.Lib.ItoaNum
import Derived.Test.YtchceoclkdofhaaGreatDoorMem
import Derived.Test.YtchceoclkdofhaaGreatDoorShelf
import Derived.WalkSmall
import Derived.Lib.AppendIntMem
namespace Go.Proofs.YtchceoclkdofhaaGreatDoor.NumP
set_option linter.unusedVariables false
set_option linter.unusedSimpArgs false
theorem tmod_abs (a b : Int) (hb : b ≠ 0) : (a.tmod b).natAbs < b.natAbs := by
  rw [Int.natAbs_tmod]; exact Nat.mod_lt _ (by omega)
theorem tmod_pos (a b : Int) (h : 0 ≤ a) : 0 ≤ a.tmod b := Int.tmod_nonneg b h
theorem tmod_neg (a b : Int) (h : a ≤ 0) : a.tmod b ≤ 0 := by
  have := Int.tmod_nonneg b (show 0 ≤ -a by omega)
  rw [Int.neg_tmod] at this; omega
theorem tdiv_bd (a b : Int) (a0 : -9223372036854775808 ≤ a) (a1 : a ≤ 9223372036854775807) (h0 : b ≠ 0) (h1 : b ≠ -1) : -9223372036854775808 ≤ a.tdiv b ∧ a.tdiv b ≤ 9223372036854775807 := by
  by_cases hb : b = 1
  · subst hb; rw [Int.tdiv_one]; exact ⟨a0, a1⟩
  · have h := Int.natAbs_tdiv a b
    have h2 : 2 ≤ b.natAbs := by omega
    have h3 : a.natAbs.div b.natAbs ≤ a.natAbs / 2 := Nat.div_le_div_left h2 (by omega)
    rw [← h] at h3
    omega
theorem dvd_iff (a b : Int) : b ∣ a ↔ a.tmod b = 0 := Int.dvd_iff_tmod_eq_zero
/-- Brought down. -/
theorem fdiv_same (a b : Int) (_h0 : b ≠ 0) (h : a.tmod b = 0 ∨ (a < 0 ∧ b < 0) ∨ (0 ≤ a ∧ 0 < b)) : a.fdiv b = a.tdiv b := by
  rw [Int.fdiv_eq_tdiv]
  rcases h with h | ⟨h1, h2⟩ | ⟨h1, h2⟩
  · rw [if_pos ((dvd_iff a b).2 h)]; omega
  · rw [if_neg (show ¬ 0 ≤ a by omega), if_neg (show ¬ 0 ≤ b by omega), Int.sign_eq_neg_one_of_neg h2]; split <;> omega
  · rw [if_pos h1, if_pos (show 0 ≤ b by omega)]; split <;> omega
theorem fdiv_less (a b : Int) (h : a.tmod b ≠ 0) (hs : (a < 0 ∧ 0 < b) ∨ (0 ≤ a ∧ b < 0)) : a.fdiv b = a.tdiv b - 1 := by
  rw [Int.fdiv_eq_tdiv, if_neg (fun hd => h ((dvd_iff a b).1 hd))]
  rcases hs with ⟨h1, h2⟩ | ⟨h1, h2⟩
  · rw [if_neg (show ¬ 0 ≤ a by omega), if_pos (show 0 ≤ b by omega), Int.sign_eq_one_of_pos h2]
  · rw [if_pos h1, if_neg (show ¬ 0 ≤ b by omega)]
theorem fmod_same (a b : Int) (h0 : b ≠ 0) (h : a.tmod b = 0 ∨ (a < 0 ∧ b < 0) ∨ (0 ≤ a ∧ 0 < b)) : a.fmod b = a.tmod b := by
  have h1 := Int.mul_fdiv_add_fmod a b
  have h2 := Int.mul_tdiv_add_tmod a b
  rw [fdiv_same a b h0 h] at h1; omega
theorem fmod_more (a b : Int) (h : a.tmod b ≠ 0) (hs : (a < 0 ∧ 0 < b) ∨ (0 ≤ a ∧ b < 0)) : a.fmod b = a.tmod b + b := by
  have h1 := Int.mul_fdiv_add_fmod a b
  have h2 := Int.mul_tdiv_add_tmod a b
  rw [fdiv_less a b h hs, Int.mul_sub, Int.mul_one] at h1; omega
theorem fdiv_m1 (a : Int) : a.fdiv (-1) = -a := by
  have h := fdiv_same a (-1) (by omega)
  by_cases ha : a.tmod (-1) = 0
  · rw [h (.inl ha)]; simp
  · exact absurd (by simp) ha
theorem fmod_m1 (a : Int) : a.fmod (-1) = 0 := by
  have h1 := Int.mul_fdiv_add_fmod a (-1)
  rw [fdiv_m1] at h1; omega
theorem fdiv_bd (a b : Int) (a0 : -9223372036854775808 ≤ a) (a1 : a ≤ 9223372036854775807) (h0 : b ≠ 0) (h1 : b ≠ -1) : -9223372036854775808 ≤ a.fdiv b ∧ a.fdiv b ≤ 9223372036854775807 := by
  by_cases hb : b = 1
  · subst hb; rw [Int.fdiv_one]; exact ⟨a0, a1⟩
  · have h := Int.natAbs_tdiv a b
    have h2 : 2 ≤ b.natAbs := by omega
    have h3 : a.natAbs.div b.natAbs ≤ a.natAbs / 2 := Nat.div_le_div_left h2 (by omega)
    rw [← h] at h3
    by_cases hz : a.tmod b = 0
    · rw [fdiv_same a b h0 (.inl hz)]; omega
    · by_cases hs : (a < 0 ∧ 0 < b) ∨ (0 ≤ a ∧ b < 0)
      · rw [fdiv_less a b hz hs]; omega
      · rw [fdiv_same a b h0 (by omega)]; omega
/-- A product's sign and size. -/
theorem mul_abs (a b : Int) : ((a < 0 ↔ b < 0) → a * b = ((a.natAbs * b.natAbs : Nat) : Int)) ∧ (¬ (a < 0 ↔ b < 0) → a * b = -((a.natAbs * b.natAbs : Nat) : Int)) := by
  have e : ((a.natAbs * b.natAbs : Nat) : Int) = (a.natAbs : Int) * (b.natAbs : Int) := Int.natCast_mul _ _
  rw [e]
  constructor
  · intro h
    by_cases ha : a < 0
    · have hb := h.1 ha
      rw [show (a.natAbs : Int) = -a by omega, show (b.natAbs : Int) = -b by omega, Int.neg_mul_neg]
    · have hb : ¬ b < 0 := fun x => ha (h.2 x)
      rw [show (a.natAbs : Int) = a by omega, show (b.natAbs : Int) = b by omega]
  · intro h
    by_cases ha : a < 0
    · have hb : ¬ b < 0 := fun x => h ⟨fun _ => x, fun _ => ha⟩
      rw [show (a.natAbs : Int) = -a by omega, show (b.natAbs : Int) = b by omega, Int.neg_mul, Int.neg_neg]
    · have hb : b < 0 := Classical.byContradiction fun x => h ⟨fun y => absurd y ha, fun y => absurd y x⟩
      rw [show (a.natAbs : Int) = a by omega, show (b.natAbs : Int) = -b by omega, Int.mul_neg, Int.neg_neg]
theorem pow_split : ∀ (n u v : Nat), u * v = 2 ^ n → ∃ i, i ≤ n ∧ u = 2 ^ i ∧ v = 2 ^ (n - i)
  | 0, u, v, h => ⟨0, Nat.le_refl _, by simpa using Nat.eq_one_of_mul_eq_one_right h, by simpa using Nat.eq_one_of_mul_eq_one_left h⟩
  | n + 1, u, v, h => by
    rcases Nat.mod_two_eq_zero_or_one u with hu | hu
    · have e : u = 2 * (u / 2) := by omega
      have h2 : (u / 2) * v = 2 ^ n := by
        rw [e, Nat.pow_succ, Nat.mul_assoc, Nat.mul_comm (2 ^ n) 2] at h
        exact Nat.eq_of_mul_eq_mul_left (by omega) h
      obtain ⟨i, hi, h3, h4⟩ := pow_split n (u / 2) v h2
      exact ⟨i + 1, by omega, by rw [e, h3, Nat.pow_succ, Nat.mul_comm], by rw [h4, show n + 1 - (i + 1) = n - i from by omega]⟩
    · have hv : v % 2 = 0 := by
        have h1 : u * v % 2 = 0 := by rw [h, Nat.pow_succ]; omega
        rw [Nat.mul_mod, hu] at h1; omega
      have e : v = 2 * (v / 2) := by omega
      have h2 : u * (v / 2) = 2 ^ n := by
        rw [e, Nat.pow_succ, Nat.mul_left_comm, Nat.mul_comm (2 ^ n) 2] at h
        exact Nat.eq_of_mul_eq_mul_left (by omega) h
      obtain ⟨i, hi, h3, h4⟩ := pow_split n u (v / 2) h2
      exact ⟨i, by omega, h3, by rw [e, h4, Nat.mul_comm, ← Nat.pow_succ, show (n - i).succ = n + 1 - i from by omega]⟩
/-- No product of two numbers of 32 bits is 2^63. -/
theorem no_half (u v : Nat) (hu : u < 4294967296) (hv : v < 4294967296) : u * v ≠ 9223372036854775808 := by
  intro h
  obtain ⟨i, hi, h1, h2⟩ := pow_split 63 u v (by rw [h])
  have a1 : i < 32 := (Nat.pow_lt_pow_iff_right (a := 2) (by omega)).1 (by rw [← h1]; exact hu)
  have a2 : 63 - i < 32 := (Nat.pow_lt_pow_iff_right (a := 2) (by omega)).1 (by rw [← h2]; exact hv)
  omega
/-- The quotient and what is left, by sizes. -/
theorem tdiv_sizes (a b : Int) : a.tdiv b = (if (a < 0 ↔ b < 0) then ((a.natAbs / b.natAbs : Nat) : Int) else -((a.natAbs / b.natAbs : Nat) : Int)) ∧ a.tmod b = (if a < 0 then -((a.natAbs % b.natAbs : Nat) : Int) else ((a.natAbs % b.natAbs : Nat) : Int)) := by
  have key : ∀ m n : Nat, (m : Int).tdiv n = ((m / n : Nat) : Int) ∧ (m : Int).tmod n = ((m % n : Nat) : Int) := fun m n => ⟨rfl, rfl⟩
  obtain ⟨k1, k2⟩ := key a.natAbs b.natAbs
  by_cases ha : a < 0 <;> by_cases hb : b < 0
  · rw [if_pos (by simp [ha, hb]), if_pos ha]
    have ea : a = -(a.natAbs : Int) := by omega
    have eb : b = -(b.natAbs : Int) := by omega
    constructor
    · rw [← k1]; conv => lhs; rw [ea, eb, Int.neg_tdiv, Int.tdiv_neg, Int.neg_neg]
    · rw [← k2]; conv => lhs; rw [ea, eb, Int.neg_tmod, Int.tmod_neg]
  · rw [if_neg (by simp [ha, hb]), if_pos ha]
    have ea : a = -(a.natAbs : Int) := by omega
    have eb : b = (b.natAbs : Int) := by omega
    constructor
    · rw [← k1]; conv => lhs; rw [ea, eb, Int.neg_tdiv]
    · rw [← k2]; conv => lhs; rw [ea, eb, Int.neg_tmod]
  · rw [if_neg (by simp [ha, hb]), if_neg ha]
    have ea : a = (a.natAbs : Int) := by omega
    have eb : b = -(b.natAbs : Int) := by omega
    constructor
    · rw [← k1]; conv => lhs; rw [ea, eb, Int.tdiv_neg]
    · rw [← k2]; conv => lhs; rw [ea, eb, Int.tmod_neg]
  · rw [if_pos (by simp [ha, hb]), if_neg ha]
    have ea : a = (a.natAbs : Int) := by omega
    have eb : b = (b.natAbs : Int) := by omega
    constructor
    · rw [← k1]; conv => lhs; rw [ea, eb]
    · rw [← k2]; conv => lhs; rw [ea, eb]
/-- Floor division by sizes: q, r the sizes' quotient and rest. -/
theorem floor_sizes (a b : Int) (h0 : b ≠ 0) (q r : Int) (hq : ((a.natAbs / b.natAbs : Nat) : Int) = q) (hr : ((a.natAbs % b.natAbs : Nat) : Int) = r) :
    ((a < 0 ↔ b < 0) → a.fdiv b = q ∧ a.fmod b = if b < 0 then -r else r) ∧
    (¬ (a < 0 ↔ b < 0) → r = 0 → a.fdiv b = -q ∧ a.fmod b = 0) ∧
    (¬ (a < 0 ↔ b < 0) → r ≠ 0 → a.fdiv b = -(q + 1) ∧ a.fmod b = if b < 0 then -(-b - r) else b - r) := by
  obtain ⟨t1, t2⟩ := tdiv_sizes a b
  rw [hq] at t1
  rw [hr] at t2
  refine ⟨fun h => ?_, fun h h1 => ?_, fun h h1 => ?_⟩
  · rw [if_pos h] at t1
    by_cases ha : a < 0
    · have hb := h.1 ha
      rw [if_pos ha] at t2
      rw [fdiv_same a b h0 (.inr (.inl ⟨ha, hb⟩)), fmod_same a b h0 (.inr (.inl ⟨ha, hb⟩)), if_pos hb]
      exact ⟨t1, t2⟩
    · have hb : ¬ b < 0 := fun x => ha (h.2 x)
      rw [if_neg ha] at t2
      rw [fdiv_same a b h0 (.inr (.inr ⟨by omega, by omega⟩)), fmod_same a b h0 (.inr (.inr ⟨by omega, by omega⟩)), if_neg hb]
      exact ⟨t1, t2⟩
  · rw [if_neg h] at t1
    have hz : a.tmod b = 0 := by rw [t2, h1]; split <;> rfl
    rw [fdiv_same a b h0 (.inl hz), fmod_same a b h0 (.inl hz), hz]
    exact ⟨t1, rfl⟩
  · rw [if_neg h] at t1
    have hz : a.tmod b ≠ 0 := by rw [t2]; split <;> omega
    have hs : (a < 0 ∧ 0 < b) ∨ (0 ≤ a ∧ b < 0) := by
      by_cases ha : a < 0
      · have hb : ¬ b < 0 := fun x => h ⟨fun _ => x, fun _ => ha⟩
        exact .inl ⟨ha, by omega⟩
      · have hb : b < 0 := Classical.byContradiction fun x => h ⟨fun y => absurd y ha, fun y => absurd y x⟩
        exact .inr ⟨by omega, hb⟩
    rw [fdiv_less a b hz hs, fmod_more a b hz hs, t1, t2]
    rcases hs with ⟨x, y⟩ | ⟨x, y⟩
    · rw [if_pos x, if_neg (show ¬ b < 0 by omega)]; omega
    · rw [if_neg (show ¬ a < 0 by omega), if_pos y]; omega
/-- A product by halves of 32 bits: h the upper half times y, l the lower half times y. -/
theorem halves (x y : Nat) (hx : x ≤ 9223372036854775808) (hy : y < 4294967296) :
    x * y = (x / 4294967296 * y) * 4294967296 + x % 4294967296 * y ∧ x / 4294967296 * y < 9223372036854775808 ∧ x % 4294967296 * y < 18446744073709551616 ∧ x % 4294967296 * y ≠ 9223372036854775808 := by
  refine ⟨?_, ?_, ?_, no_half _ _ (Nat.mod_lt _ (by omega)) hy⟩
  · have h := Nat.div_add_mod x 4294967296
    conv => lhs; rw [← h, Nat.add_mul]
    rw [Nat.mul_assoc, Nat.mul_comm 4294967296]
  · have h1 : x / 4294967296 ≤ 2147483648 := by omega
    calc x / 4294967296 * y ≤ 2147483648 * y := Nat.mul_le_mul_right _ h1
      _ < 9223372036854775808 := by omega
  · have h1 : x % 4294967296 < 4294967296 := Nat.mod_lt _ (by omega)
    calc x % 4294967296 * y ≤ 4294967295 * y := Nat.mul_le_mul_right _ (by omega)
      _ < 18446744073709551616 := by omega
theorem both_big (x y : Nat) (hx : 4294967296 ≤ x) (hy : 4294967296 ≤ y) : 18446744073709551616 ≤ x * y := by
  calc 18446744073709551616 = 4294967296 * 4294967296 := rfl
    _ ≤ x * y := Nat.mul_le_mul hx hy
end Go.Proofs.YtchceoclkdofhaaGreatDoor.NumP
namespace Go.Proofs.YtchceoclkdofhaaGreatDoor.NumP
set_option linter.unusedVariables false
set_option linter.unusedSimpArgs false
def digB (c : UInt8) : Bool := 48 ≤ c.toNat && c.toNat ≤ 57
def digsB (l : List UInt8) : Bool := !l.isEmpty && !(l.head? == some 48) && l.all digB
def formB (l : List UInt8) : Bool := l == [48] || (if l.head? = some 45 then digsB l.tail else digsB l)
def dstep (a : Nat) (c : UInt8) : Nat := a * 10 + (c.toNat - 48)
def dv (acc : Nat) (l : List UInt8) : Nat := l.foldl dstep acc
def pv (l : List UInt8) : Int := if l.head? = some 45 then -(dv 0 l.tail : Nat) else (dv 0 l : Nat)
theorem dv_nil (acc : Nat) : dv acc [] = acc := by rw [dv, List.foldl_nil]
theorem dv_cons (acc : Nat) (c : UInt8) (r : List UInt8) : dv acc (c :: r) = dv (acc * 10 + (c.toNat - 48)) r := by rw [dv, List.foldl_cons]; rfl
theorem dv_ge (l : List UInt8) : ∀ (acc : Nat), acc ≤ dv acc l := by
  induction l with
  | nil => intro acc; rw [dv_nil]; exact Nat.le_refl _
  | cons c r ih => intro acc; have := ih (acc * 10 + (c.toNat - 48)); rw [dv_cons]; omega
theorem dv_app (l : List UInt8) : ∀ (acc : Nat) (c : UInt8), dv acc (l ++ [c]) = dv acc l * 10 + (c.toNat - 48) := by
  induction l with
  | nil => intro acc c; rw [List.nil_append, dv_cons, dv_nil, dv_nil]
  | cons d r ih => intro acc c; rw [List.cons_append, dv_cons, dv_cons]; exact ih _ c
theorem digB_iff (c : UInt8) : digB c = true ↔ 48 ≤ c.toNat ∧ c.toNat ≤ 57 := by simp [digB]
theorem parse_dv (l : List UInt8) : ∀ (acc : Nat), l.all digB = true → acc ≤ 18446744073709551615 →
    Lib.parseUintM 18446744073709551615 acc l = if dv acc l ≤ 18446744073709551615 then .ok (dv acc l) else .range := by
  induction l with
  | nil => intro acc _ h; rw [dv_nil, if_pos h]; rfl
  | cons c r ih =>
    intro acc ha h
    rw [List.all_cons, Bool.and_eq_true] at ha
    have hd := (digB_iff c).1 ha.1
    have hg := dv_ge r (acc * 10 + (c.toNat - 48))
    rw [dv_cons, Lib.parseUintM, if_pos hd]
    by_cases h1 : 1844674407370955162 ≤ acc
    · rw [if_pos h1, if_neg (by omega)]
    · rw [if_neg h1]
      by_cases h2 : 18446744073709551615 < acc * 10 + (c.toNat - 48)
      · rw [if_pos h2, if_neg (by omega)]
      · rw [if_neg h2]; exact ih _ ha.2 (by omega)
theorem digsB_iff (l : List UInt8) : digsB l = true ↔ l ≠ [] ∧ l.head? ≠ some 48 ∧ l.all digB = true := by
  cases l <;> simp [digsB]
theorem dig_head {l : List UInt8} (h : l.all digB = true) {n : UInt8} (hn : digB n = false) : l.head? ≠ some n := by
  cases l with
  | nil => simp
  | cons c r =>
    rw [List.all_cons, Bool.and_eq_true] at h
    intro hc
    rw [List.head?_cons, Option.some.injEq] at hc
    rw [hc, hn] at h; exact absurd h.1 (by simp)
/-- The two ways of a number's text. -/
theorem formB_two {l : List UInt8} (h : formB l = true) : (∃ d, l = 45 :: d ∧ digsB d = true) ∨ (l.head? ≠ some 45 ∧ l ≠ [] ∧ l.all digB = true ∧ (l = [48] ∨ l.head? ≠ some 48)) := by
  rw [formB, Bool.or_eq_true, beq_iff_eq] at h
  rcases h with h | h
  · subst h; exact .inr ⟨by decide, by decide, by decide, .inl rfl⟩
  · split at h
    · rename_i hh
      cases l with
      | nil => simp at hh
      | cons c r =>
        rw [List.head?_cons, Option.some.injEq] at hh
        subst hh
        exact .inl ⟨r, rfl, h⟩
    · rename_i hh
      obtain ⟨h1, h2, h3⟩ := (digsB_iff l).1 h
      exact .inr ⟨hh, h1, h3, .inr h2⟩
theorem parseIntB_form {l : List UInt8} (h : formB l = true) : Lib.parseIntB 64 l = if -9223372036854775808 ≤ pv l ∧ pv l ≤ 9223372036854775807 then .ok (pv l) else .range := by
  rcases formB_two h with ⟨d, rfl, hd⟩ | ⟨h1, h2, h3, _⟩
  · obtain ⟨d1, d2, d3⟩ := (digsB_iff d).1 hd
    have hp : pv (45 :: d) = -(dv 0 d : Nat) := by simp [pv]
    rw [hp, Lib.parseIntB]
    simp only [show ((45 : UInt8).toNat = 43 ∨ (45 : UInt8).toNat = 45) from .inr rfl, if_true, Lib.parseUintB, if_neg d1]
    rw [show (2 ^ 64 - 1 : Nat) = 18446744073709551615 from rfl, parse_dv d 0 d3 (by omega)]
    by_cases a : dv 0 d ≤ 18446744073709551615
    · rw [if_pos a]
      simp only [show (45 : UInt8).toNat = 45 from rfl, not_true, false_and, if_false, true_and, if_true]
      rw [show (2 ^ (64 - 1) : Nat) = 9223372036854775808 from rfl]
      by_cases b : 9223372036854775808 < dv 0 d
      · rw [if_pos b, if_neg (by omega)]
      · rw [if_neg b, if_pos (by omega)]
    · rw [if_neg a, if_neg (by omega)]
  · cases l with
    | nil => exact absurd rfl h2
    | cons c r =>
      have hp : pv (c :: r) = (dv 0 (c :: r) : Nat) := by rw [pv, if_neg h1]
      have hc := h3
      rw [List.all_cons, Bool.and_eq_true] at hc
      have hcd := (digB_iff c).1 hc.1
      rw [hp, Lib.parseIntB]
      have n1 : ¬ (c.toNat = 43 ∨ c.toNat = 45) := by omega
      have n2 : ¬ (c.toNat = 45) := by omega
      simp only [if_neg n1, if_neg n2, Lib.parseUintB]
      rw [if_neg (by simp), show (2 ^ 64 - 1 : Nat) = 18446744073709551615 from rfl, parse_dv _ 0 h3 (by omega)]
      generalize dv 0 (c :: r) = m
      by_cases a : m ≤ 18446744073709551615
      · rw [if_pos a]
        simp only [n2, not_false_eq_true, true_and, false_and, if_false]
        rw [show (2 ^ (64 - 1) : Nat) = 9223372036854775808 from rfl]
        by_cases b : 9223372036854775808 ≤ m
        · rw [if_pos b, if_neg (by omega)]
        · rw [if_neg b, if_pos (by omega)]
      · rw [if_neg a, if_neg (by omega)]
theorem ofNat_dig {k : Nat} (h : k < 10) : (UInt8.ofNat (48 + k)).toNat = 48 + k := by
  rw [UInt8.toNat_ofNat']; omega
theorem dec_all (u : Nat) : (Lib.decDigits u).all digB = true := by
  induction u using Nat.strongRecOn with
  | _ u ih =>
    rw [Lib.decDigits]
    split
    · rename_i h; simp only [List.all_cons, List.all_nil, Bool.and_true]; rw [digB_iff, ofNat_dig h]; omega
    · rename_i h
      rw [List.all_append, ih (u / 10) (by omega)]
      simp only [List.all_cons, List.all_nil, Bool.and_true, Bool.true_and]; rw [digB_iff, ofNat_dig (Nat.mod_lt _ (by omega))]; omega
theorem dec_dv (u : Nat) : dv 0 (Lib.decDigits u) = u := by
  induction u using Nat.strongRecOn with
  | _ u ih =>
    rw [Lib.decDigits]
    split
    · rename_i h; rw [dv_cons, dv_nil, ofNat_dig h]; omega
    · rename_i h; rw [dv_app, ih (u / 10) (by omega), ofNat_dig (Nat.mod_lt _ (by omega))]; omega
theorem dec_ne (u : Nat) : Lib.decDigits u ≠ [] := by
  rw [Lib.decDigits]; split <;> simp
theorem dec_head (u : Nat) (h : 0 < u) : (Lib.decDigits u).head? ≠ some 48 := by
  induction u using Nat.strongRecOn with
  | _ u ih =>
    rw [Lib.decDigits]
    split
    · rename_i h1
      intro hc
      rw [List.head?_cons, Option.some.injEq] at hc
      have := ofNat_dig h1
      rw [hc] at this
      have : (48 : Nat) = 48 + u := this
      omega
    · rename_i h1
      have := ih (u / 10) (by omega) (by omega)
      have hn := dec_ne (u / 10)
      cases h2 : Lib.decDigits (u / 10) with
      | nil => exact absurd h2 hn
      | cons c r => rw [h2] at this; exact this
theorem dec_digs (u : Nat) (h : 0 < u) : digsB (Lib.decDigits u) = true := (digsB_iff _).2 ⟨dec_ne u, dec_head u h, dec_all u⟩
theorem dec_zero : Lib.decDigits 0 = [48] := by rw [Lib.decDigits]; rfl
theorem itoa_form (n : Int) : formB (Lib.itoa n) = true := by
  rw [Lib.itoa]
  split
  · rw [formB, if_pos (by simp)]
    simp only [List.tail_cons, dec_digs n.natAbs (by omega), Bool.or_true]
  · by_cases h : n = 0
    · subst h; rw [show (0 : Int).toNat = 0 from rfl, dec_zero]; rfl
    · rw [formB, if_neg (dig_head (dec_all _) (by decide)), dec_digs n.toNat (by omega), Bool.or_true]
theorem itoa_pv (n : Int) : pv (Lib.itoa n) = n := by
  rw [Lib.itoa]
  split
  · rw [pv, if_pos (by simp), List.tail_cons, dec_dv]; omega
  · rw [pv, if_neg (dig_head (dec_all _) (by decide)), dec_dv]; omega
theorem digs_dec : ∀ (k : Nat) (l : List UInt8), l.length = k → digsB l = true → Lib.decDigits (dv 0 l) = l ∧ 0 < dv 0 l := by
  intro k
  induction k with
  | zero => intro l h1 h2; rw [List.length_eq_zero_iff] at h1; subst h1; cases h2
  | succ k ih =>
    intro l h1 h2
    obtain ⟨a1, a2, a3⟩ := (digsB_iff l).1 h2
    obtain ⟨l', c, rfl⟩ : ∃ l' c, l = l' ++ [c] := ⟨l.dropLast, l.getLast a1, (List.dropLast_concat_getLast a1).symm⟩
    rw [List.all_append, Bool.and_eq_true] at a3
    have hc := (digB_iff c).1 (by simpa using a3.2)
    have hcc : UInt8.ofNat (48 + (c.toNat - 48)) = c := by
      rw [show 48 + (c.toNat - 48) = c.toNat by omega]; simp
    rw [dv_app]
    cases l' with
    | nil =>
      simp only [dv_cons, dv_nil, List.nil_append]
      have h48 : c.toNat ≠ 48 := by
        intro h; apply a2; simp only [List.nil_append, List.head?_cons, Option.some.injEq]; exact UInt8.toNat_inj.1 (by rw [h]; rfl)
      refine ⟨?_, by omega⟩
      rw [Lib.decDigits, dif_pos (by omega), Nat.zero_mul, Nat.zero_add, hcc]
    | cons b r =>
      obtain ⟨i1, i2⟩ := ih (b :: r) (by simp at h1 ⊢; omega) ((digsB_iff _).2 ⟨by simp, by simpa using a2, a3.1⟩)
      refine ⟨?_, by omega⟩
      rw [Lib.decDigits, dif_neg (by omega)]
      rw [show (dv 0 (b :: r) * 10 + (c.toNat - 48)) / 10 = dv 0 (b :: r) by omega, show (dv 0 (b :: r) * 10 + (c.toNat - 48)) % 10 = c.toNat - 48 by omega, i1, hcc]
theorem form_itoa {l : List UInt8} (h : formB l = true) : Lib.itoa (pv l) = l := by
  rcases formB_two h with ⟨d, rfl, hd⟩ | ⟨h1, h2, h3, h4⟩
  · obtain ⟨i1, i2⟩ := digs_dec _ d rfl hd
    have hp : pv (45 :: d) = -(dv 0 d : Nat) := by simp [pv]
    rw [hp, Lib.itoa, if_pos (by omega), Int.natAbs_neg, Int.natAbs_natCast, i1]
  · have hp : pv l = (dv 0 l : Nat) := by rw [pv, if_neg h1]
    rw [hp, Lib.itoa, if_neg (by omega), Int.toNat_natCast]
    rcases h4 with rfl | h4
    · show Lib.decDigits 0 = _; exact dec_zero
    · exact (digs_dec _ l rfl ((digsB_iff l).2 ⟨h2, h4, h3⟩)).1
end Go.Proofs.YtchceoclkdofhaaGreatDoor.NumP
namespace Go.Proofs.YtchceoclkdofhaaGreatDoor
set_option linter.unusedVariables false
set_option linter.unusedSimpArgs false
open Go.RowKit
namespace NumW
/-- A number of 64 bits. -/
def I64 (n : Int) : Prop := -9223372036854775808 ≤ n ∧ n ≤ 9223372036854775807
instance (n : Int) : Decidable (I64 n) := inferInstanceAs (Decidable (_ ∧ _))
/-- A number, or that there is no room. -/
def res (n : Int) : Value := if I64 n then .tuple #[.int .i64 n, .int .i64 0] else .tuple #[.int .i64 0, .int .i64 3]
theorem res_in {n : Int} (h : -9223372036854775808 ≤ n ∧ n ≤ 9223372036854775807) : res n = .tuple #[.int .i64 n, .int .i64 0] := if_pos h
theorem res_out {n : Int} (h : ¬ (-9223372036854775808 ≤ n ∧ n ≤ 9223372036854775807)) : res n = .tuple #[.int .i64 0, .int .i64 3] := if_neg h
theorem res_two {n : Int} {r : Value} (h : res n = r) : ∃ p q : Int, r = .tuple #[.int .i64 p, .int .i64 q] := by
  subst h; unfold res; split <;> exact ⟨_, _, rfl⟩
section
variable (a b : Int) (w : World) (a0 : -9223372036854775808 ≤ a) (a1 : a ≤ 9223372036854775807) (b0 : -9223372036854775808 ≤ b) (b1 : b ≤ 9223372036854775807)
include a0 a1 b0 b1
end
section
variable (a b : Int) (w : World) (a0 : -9223372036854775808 ≤ a) (a1 : a ≤ 9223372036854775807)
include a0 a1
theorem wrap_neg (h : a < 0) : IntKind.u64.wrap (-(IntKind.u64.wrap a)) = (a.natAbs : Int) := by
  rw [IntKind.wrap_u64, IntKind.wrap_u64]; omega
set_option maxHeartbeats 400000 in
theorem mag_c : Calls Tryz.prog 95 #[.int .i64 a] w fun e w' => e = .returned (.int .u64 (a.natAbs : Int)) ∧ w = w' := by
  by_cases h : a < 0
  · go_enter Tryz.func95, Tryz.ntmps95
    go_wp2
    go_ret
    exact ⟨ret_u64i (wrap_neg a a0 a1 h), rfl⟩
  · go_enter Tryz.func95, Tryz.ntmps95
    go_wp2
    go_ret
    exact ⟨ret_u64i (by omega), rfl⟩
end
set_option maxHeartbeats 400000 in
theorem of_c (neg : Bool) (m : Int) (w : World) (m0 : 0 ≤ m) (m1 : m ≤ 18446744073709551615) : Calls Tryz.prog 78 #[.bool neg, .int .u64 m] w fun e w' => e = .returned (res (if neg = true then -m else m)) ∧ w = w' := by
  cases neg
  · simp only [Bool.false_eq_true, if_false]
    by_cases hm : m < 9223372036854775808
    · rw [res_in (by omega)]
      go_enter Tryz.func78, Tryz.ntmps78
      go_wp2
      go_ret2
      exact ⟨rfl, rfl⟩
    · rw [res_out (by omega)]
      go_enter Tryz.func78, Tryz.ntmps78
      go_wp2
      go_ret2
      exact ⟨rfl, rfl⟩
  · simp only [if_true]
    by_cases hm : m < 9223372036854775808
    · rw [res_in (by omega)]
      go_enter Tryz.func78, Tryz.ntmps78
      go_wp2
      go_ret2
      exact ⟨ret_two (by omega), rfl⟩
    · by_cases he : m = 9223372036854775808
      · subst he
        rw [res_in (by omega)]
        go_enter Tryz.func78, Tryz.ntmps78
        go_wp2
        go_ret2
        exact ⟨rfl, rfl⟩
      · rw [res_out (by omega)]
        go_enter Tryz.func78, Tryz.ntmps78
        go_wp2
        go_ret2
        exact ⟨rfl, rfl⟩
end NumW
end Go.Proofs.YtchceoclkdofhaaGreatDoor
namespace Go.Proofs.YtchceoclkdofhaaGreatDoor
set_option linter.unusedVariables false
set_option linter.unusedSimpArgs false
open Go.RowKit
namespace NumW
section
variable (a b : Int) (w : World) (a0 : -9223372036854775808 ≤ a) (a1 : a ≤ 9223372036854775807) (b0 : -9223372036854775808 ≤ b) (b1 : b ≤ 9223372036854775807)
include a0 a1 b0 b1
end
end NumW
end Go.Proofs.YtchceoclkdofhaaGreatDoor
namespace Go.Proofs.YtchceoclkdofhaaGreatDoor
set_option linter.unusedVariables false
set_option linter.unusedSimpArgs false
open Go.RowKit
namespace NumW
section
variable (a b : Int) (w : World) (a0 : -9223372036854775808 ≤ a) (a1 : a ≤ 9223372036854775807) (b0 : -9223372036854775808 ≤ b) (b1 : b ≤ 9223372036854775807)
include a0 a1
open NumP in
open NumP in
end
end NumW
end Go.Proofs.YtchceoclkdofhaaGreatDoor
namespace Go.Proofs.YtchceoclkdofhaaGreatDoor
set_option linter.unusedVariables false
set_option linter.unusedSimpArgs false
open Go.RowKit
namespace NumW
open NumP
section
variable (a b : Int) (w : World) (a0 : -9223372036854775808 ≤ a) (a1 : a ≤ 9223372036854775807) (b0 : -9223372036854775808 ≤ b) (b1 : b ≤ 9223372036854775807)
include a0 a1 b0 b1
end
end NumW
end Go.Proofs.YtchceoclkdofhaaGreatDoor
namespace Go.Proofs.YtchceoclkdofhaaGreatDoor
set_option linter.unusedVariables false
set_option linter.unusedSimpArgs false
open Go.RowKit
namespace NumW
open NumP
theorem res3 {n : Int} {r : Value} (h : res n = r) : ∃ p q : Int, r = .tuple #[.int .i64 p, .int .i64 q] ∧ (-9223372036854775808 ≤ n → n ≤ 9223372036854775807 → p = n ∧ q = 0) := by
  subst h; unfold res
  split
  · exact ⟨n, 0, rfl, fun _ _ => ⟨rfl, rfl⟩⟩
  · rename_i h
    exact ⟨0, 3, rfl, fun h1 h2 => absurd ⟨h1, h2⟩ h⟩
section
variable (a b : Int) (w : World) (a0 : -9223372036854775808 ≤ a) (a1 : a ≤ 9223372036854775807) (b0 : -9223372036854775808 ≤ b) (b1 : b ≤ 9223372036854775807)
/-- The quotient, what is left, and the error. -/
def RDiv (a b : Int) (e : Ending) : Prop := ∃ n k : Int, e = .returned (.tuple #[.int .i64 n, .int .i64 (a.fmod b), .int .i64 k]) ∧ res (a.fdiv b) = .tuple #[.int .i64 n, .int .i64 k]
def RDivPost (a b : Int) (w : World) (e : Ending) (w' : World) : Prop := RDiv a b e ∧ w = w'
theorem rdiv_mk {a b n k f m : Int} (w : World) (hf : a.fdiv b = f) (hm : a.fmod b = m) (h : res f = .tuple #[.int .i64 n, .int .i64 k]) : RDivPost a b w (.returned (.tuple #[.int .i64 n, .int .i64 m, .int .i64 k])) w :=
  ⟨⟨n, k, by rw [hm], by rw [hf]; exact h⟩, rfl⟩
include a0 a1 b0 b1
end
end NumW
end Go.Proofs.YtchceoclkdofhaaGreatDoor
namespace Go.Proofs.YtchceoclkdofhaaGreatDoor
set_option linter.unusedVariables false
set_option linter.unusedSimpArgs false
open Go.RowKit
namespace NumW
open NumP
section
variable (a b : Int) (w : World) (a0 : -9223372036854775808 ≤ a) (a1 : a ≤ 9223372036854775807) (b0 : -9223372036854775808 ≤ b) (b1 : b ≤ 9223372036854775807)
include a0 a1 b0 b1
end
end NumW
end Go.Proofs.YtchceoclkdofhaaGreatDoor
namespace Go.Proofs.YtchceoclkdofhaaGreatDoor
set_option linter.unusedVariables false
set_option linter.unusedSimpArgs false
open Go.RowKit
namespace NumW
open NumP
theorem byte_eq (s : ByteArray) (h0 : 0 < s.size) (n : UInt8) : (((s[0]'h0).toNat : Int) == (n.toNat : Int)) = (s.data.toList.head? == some n) := by
  have : s.data.toList.head? = some (s[0]'h0) := by
    rw [List.head?_eq_getElem?, List.getElem?_eq_getElem (by simpa using h0)]; rfl
  rw [this, Bool.eq_iff_iff]; simp only [beq_iff_eq, Option.some.injEq]
  constructor
  · intro h; exact UInt8.toNat_inj.1 (by omega)
  · rintro rfl; rfl
theorem full_of (s : ByteArray) (h0 : 0 < s.size) : s.toList.isEmpty = false := by
  rw [Lib.toList_data]; rw [Lib.size_eq] at h0
  cases h : s.data.toList with
  | nil => rw [h] at h0; simp at h0
  | cons => rfl
theorem dig_tests (c : UInt8) : (decide ((c.toNat : Int) < 48) || decide (57 < (c.toNat : Int))) = !digB c := by
  rw [Bool.eq_iff_iff]; simp [digB]; omega
theorem all_step (d : ByteArray) (k : Nat) (h : k < d.size) : (d.data.toList.take (k + 1)).all digB = ((d.data.toList.take k).all digB && digB (d[k]'h)) := by
  rw [List.take_add_one, List.getElem?_eq_getElem (by simpa using h)]; simp; rfl
theorem all_false (d : ByteArray) (k : Nat) (h : k < d.size) (x : digB (d[k]'h) = false) : d.data.toList.all digB = false := by
  rw [List.all_eq_false]
  have hm : d[k]'h ∈ d.data.toList := List.getElem_mem (l := d.data.toList) (n := k) (by simpa using h)
  exact ⟨_, hm, by rw [x]; decide⟩
theorem formB_neg (s : ByteArray) (h0 : 0 < s.size) (x1 : (s.toList == [48]) = false) (x2 : (((s[0]'h0).toNat : Int) == 45) = true) : formB s.data.toList = digsB (s.extract 1 s.size).data.toList := by
  rw [Lib.toList_data] at x1
  have h2 : (((s[0]'h0).toNat : Int) == 45) = (s.data.toList.head? == some 45) := byte_eq s h0 45
  rw [x2] at h2
  rw [formB, x1, if_pos (by simpa using h2.symm), Lib.extract_to_end]
  simp
theorem formB_pos (s : ByteArray) (h0 : 0 < s.size) (x1 : (s.toList == [48]) = false) (x2 : (((s[0]'h0).toNat : Int) == 45) = false) : formB s.data.toList = digsB s.data.toList := by
  rw [Lib.toList_data] at x1
  have h2 : (((s[0]'h0).toNat : Int) == 45) = (s.data.toList.head? == some 45) := byte_eq s h0 45
  rw [x2] at h2
  rw [formB, x1, if_neg (by simpa using h2.symm)]
  simp
theorem digsB_full (s : ByteArray) (h0 : 0 < s.size) (x3 : (((s[0]'h0).toNat : Int) == 48) = false) : digsB s.data.toList = s.data.toList.all digB := by
  have h1 := full_of s h0
  rw [Lib.toList_data] at h1
  have h2 : (((s[0]'h0).toNat : Int) == 48) = (s.data.toList.head? == some 48) := byte_eq s h0 48
  rw [x3] at h2
  rw [digsB, h1, ← h2]; simp
theorem digsB_zero (s : ByteArray) (h0 : 0 < s.size) (x3 : (((s[0]'h0).toNat : Int) == 48) = true) : digsB s.data.toList = false := by
  have h2 : (((s[0]'h0).toNat : Int) == 48) = (s.data.toList.head? == some 48) := byte_eq s h0 48
  rw [x3] at h2
  rw [digsB, ← h2]; simp
theorem digsB_none (s : ByteArray) (h0 : ¬ 0 < s.size) : digsB s.data.toList = false := by
  have : s.data.toList = [] := by rw [Lib.size_eq] at h0; exact List.eq_nil_of_length_eq_zero (by omega)
  rw [this]; rfl
end NumW
end Go.Proofs.YtchceoclkdofhaaGreatDoor
namespace Go.Proofs.YtchceoclkdofhaaGreatDoor
set_option linter.unusedVariables false
set_option linter.unusedSimpArgs false
open Go.RowKit
namespace NumW
open NumP
/-- What the walks ask of the world: the tables' cells. -/
structure Rdy (w : World) : Prop where
  tab : Lib.TabIs Tryz.prog w "internal/strconv.uint64pow10" .u64 Lib.pow10Tab
  err : ∃ tp p, w.var? Tryz.prog "strconv.ErrRange" = some #[.iface tp p]
  room : 2 < w.heap.size
def pr (l : List UInt8) : Value := if formB l = true then res (pv l) else .tuple #[.int .i64 0, .int .i64 1]
end NumW
end Go.Proofs.YtchceoclkdofhaaGreatDoor
namespace Go.Proofs.YtchceoclkdofhaaGreatDoor
set_option linter.unusedVariables false
set_option linter.unusedSimpArgs false
open Go.RowKit
namespace NumW
open NumP
def sg (neg : Bool) (m : Nat) : Int := if neg = true then -(m : Int) else m
theorem dv_take (d : ByteArray) (k : Nat) (h : k < d.size) : dv 0 (d.data.toList.take (k + 1)) = dv 0 (d.data.toList.take k) * 10 + ((d[k]'h).toNat - 48) := by
  have hk : d.data.toList[k]? = some (d[k]'h) := by rw [List.getElem?_eq_getElem (by simpa using h)]; rfl
  rw [List.take_add_one, hk]
  exact dv_app _ _ _
/-- What the loop keeps. -/
structure PS (d : ByteArray) (k a : Nat) (b : Bool) : Prop where
  all : (d.data.toList.take k).all digB = true
  low : b = false → a = dv 0 (d.data.toList.take k)
  top : b = true → 10000000000000000000 < dv 0 (d.data.toList.take k) ∧ 1000000000000000000 < a
theorem PS.digit {d : ByteArray} {k a : Nat} {b : Bool} (_p : PS d k a b) (h : k < d.size) (l1 : decide (((d[k]'h).toNat : Int) < 48) = false) (l2 : decide (57 < ((d[k]'h).toNat : Int)) = false) : digB (d[k]'h) = true := by
  have := dig_tests (d[k]'h); rw [l1, l2] at this; simpa using this.symm
theorem PS.over {d : ByteArray} {k a : Nat} {b : Bool} (p : PS d k a b) (h : k < d.size) (hd : digB (d[k]'h) = true) (ho : decide (1000000000000000000 < (a : Int)) = true) : PS d (k + 1) a true := by
  have ho' : (1000000000000000000 : Int) < a := by simpa using ho
  have hs := dv_take d k h
  refine ⟨by rw [all_step d k h, p.all, hd]; rfl, by simp, fun _ => ⟨?_, by omega⟩⟩
  cases b with
  | false => have := p.low rfl; omega
  | true => have := (p.top rfl).1; omega
theorem PS.step {d : ByteArray} {k a : Nat} {b : Bool} (p : PS d k a b) (h : k < d.size) (hd : digB (d[k]'h) = true) (ho : decide (1000000000000000000 < (a : Int)) = false) : PS d (k + 1) (a * 10 + ((d[k]'h).toNat - 48)) b := by
  have ho' : (a : Int) ≤ 1000000000000000000 := by simpa using ho
  have hs := dv_take d k h
  refine ⟨by rw [all_step d k h, p.all, hd]; rfl, fun hb => ?_, fun hb => ?_⟩
  · have := p.low hb; omega
  · have := (p.top hb).2; omega
theorem PS.wrap {d : ByteArray} {k a : Nat} (h : k < d.size) (hd : digB (d[k]'h) = true) (ho : decide (1000000000000000000 < (a : Int)) = false) :
    IntKind.u64.wrap ((a : Int) * 10 + ((d[k]'h).toNat : Int) - 48) = ((a * 10 + ((d[k]'h).toNat - 48) : Nat) : Int) := by
  have ho' : (a : Int) ≤ 1000000000000000000 := by simpa using ho
  have := (digB_iff _).1 hd
  generalize (d[k]'h).toNat = c at *
  simp only [IntKind.wrap_u64]
  omega
set_option maxRecDepth 20000 in
set_option maxHeartbeats 1600000 in
theorem rparse_neg (s : ByteArray) (w : World) (r : Value) (h0 : 0 < s.size) (hs : s.size ≤ 4611686018427387904) (x2 : (((s[0]'h0).toNat : Int) == 45) = true) (h1 : 0 < (s.extract 1 s.size).size) (x3 : ((((s.extract 1 s.size)[0]'h1).toNat : Int) == 48) = false)
    (hr0 : (s.extract 1 s.size).data.toList.all digB = false → r = .tuple #[.int .i64 0, .int .i64 1]) (hr1 : (s.extract 1 s.size).data.toList.all digB = true → r = res (sg true (dv 0 (s.extract 1 s.size).data.toList))) : Calls Tryz.prog 44 #[.string s] w fun e w' => e = .returned r ∧ w = w' := by
  have hx : decide (0 < (s.size : Int)) = true := by simp; omega
  have hds : (s.extract 1 s.size).size ≤ 4611686018427387904 := by simp; omega
  generalize hd : s.extract 1 s.size = d at *
  have hx2 : ((d.size : Int) == 0) = false := by simp; intro h; rw [h] at h1; exact absurd h1 (by simp)
  have H0 := Lib.hid hr0
  have H1 := Lib.hid hr1
  clear hr0 hr1
  all_goals go_enter Tryz.func44, Tryz.ntmps44
  all_goals go_wp2_with fail
  all_goals clear x2 hx x3 hx2 hd
  all_goals
    go_loop [6, 7, 8] (fun m o i => ∃ (k a : Nat) (b : Bool), k ≤ d.size ∧ i = .int .i64 k ∧ m = .int .u64 a ∧ o = .bool b ∧ a ≤ 10000000000000000009 ∧ PS d k a b) (fun _ _ i => d.size - (intOf i).toNat)
    case atStart => exact ⟨0, 0, false, by omega, rfl, rfl, rfl, by omega, ⟨rfl, fun _ => by rw [List.take_zero, dv_nil], by simp⟩⟩
    case round =>
      obtain ⟨k, a, b, hk, rfl, rfl, rfl, ha, hp⟩ := hrel
      by_cases hlt : k < d.size
      · by_cases l1 : decide (((d[k]'hlt).toNat : Int) < 48) = true
        · obtain rfl := H0.out (all_false _ k hlt (by have := dig_tests (d[k]'hlt); rw [l1] at this; simpa using this.symm))
          go_wp2
          go_ret2
          exact ⟨rfl, rfl⟩
        · rw [Bool.not_eq_true] at l1
          by_cases l2 : decide (57 < ((d[k]'hlt).toNat : Int)) = true
          · obtain rfl := H0.out (all_false _ k hlt (by have := dig_tests (d[k]'hlt); rw [l1, l2] at this; simpa using this.symm))
            go_wp2
            go_ret2
            exact ⟨rfl, rfl⟩
          · rw [Bool.not_eq_true] at l2
            have hdg := hp.digit hlt l1 l2
            by_cases ho : decide (1000000000000000000 < (a : Int)) = true
            · have P := Lib.hid (hp.over hlt hdg ho)
              go_wp2
              go_round
              case rel => exact ⟨k + 1, a, true, by omega, by go_num, rfl, rfl, ha, P.out⟩
              case measure => simp [intOf]; omega
            · rw [Bool.not_eq_true] at ho
              have P := Lib.hid (hp.step hlt hdg ho)
              have W := Lib.hid (PS.wrap hlt hdg ho)
              have hb1 : a * 10 + ((d[k]'hlt).toNat - 48) ≤ 10000000000000000009 := by
                have ho' : (a : Int) ≤ 1000000000000000000 := by simpa using ho
                have := (digB_iff _).1 hdg
                omega
              go_wp2
              go_round
              case rel => exact ⟨k + 1, _, b, by omega, by go_num, congrArg (Value.int .u64) W.out, rfl, hb1, P.out⟩
              case measure => simp [intOf]; omega
      · obtain rfl : k = d.size := by omega
        have hal := hp.all
        rw [List.take_of_length_le (by simp)] at hal
        have hr := H1.out hal
        have hlo := hp.low
        have hto := hp.top
        rw [List.take_of_length_le (by simp)] at hlo hto
        cases b with
        | true =>
          rw [res_out (by have := (hto rfl).1; simp only [sg]; try simp only [if_true, Bool.false_eq_true, if_false]; omega)] at hr
          subst hr
          clear hp hal hlo hto H0 H1
          go_wp2_with fail
          go_ret2
          exact ⟨rfl, rfl⟩
        | false =>
          rw [← hlo rfl] at hr
          have co := fun W => of_c true a W (by omega) (by omega)
          obtain ⟨x, hx⟩ : ∃ x, res (sg true a) = x := ⟨_, rfl⟩
          have hxx := res_two hx
          have co' : ∀ W, Calls Tryz.prog 78 #[.bool true, .int .u64 a] W fun e w' => e = .returned x ∧ W = w' := fun W => hx ▸ co W
          rw [hx] at hr
          obtain ⟨p, q, rfl⟩ := hxx
          subst hr
          clear hp hal hlo hto H0 H1 co hx
          go_wp2_with fail
          (with_reducible refine (co' _).mono ?_)
          rintro e w' ⟨rfl, rfl⟩
          go_wp2_with fail
          go_ret2
          exact ⟨rfl, rfl⟩
set_option maxRecDepth 20000 in
set_option maxHeartbeats 1600000 in
theorem rparse_pos (s : ByteArray) (w : World) (r : Value) (z : Bool) (h0 : 0 < s.size) (hs : s.size ≤ 4611686018427387904) (x2 : (((s[0]'h0).toNat : Int) == 45) = false) (x3 : (((s[0]'h0).toNat : Int) == 48) = z) (hz : z = true → s.size = 1)
    (hr0 : s.data.toList.all digB = false → r = .tuple #[.int .i64 0, .int .i64 1]) (hr1 : s.data.toList.all digB = true → r = res (sg false (dv 0 s.data.toList))) : Calls Tryz.prog 44 #[.string s] w fun e w' => e = .returned r ∧ w = w' := by
  have hx : decide (0 < (s.size : Int)) = true := by simp; omega
  have hx2 : ((s.size : Int) == 0) = false := by simp; intro h; rw [h] at h0; exact absurd h0 (by simp)
  have hx4 : z = true → decide (1 < (s.size : Int)) = false := fun h => by have := hz h; simp; omega
  clear hz
  have H0 := Lib.hid hr0
  have H1 := Lib.hid hr1
  clear hr0 hr1
  cases z
  case' true => have hx4 := hx4 rfl
  case' false => clear hx4
  all_goals go_enter Tryz.func44, Tryz.ntmps44
  all_goals go_wp2_with fail
  all_goals clear x2 hx x3 hx2
  all_goals
    go_loop [6, 7, 8] (fun m o i => ∃ (k a : Nat) (b : Bool), k ≤ s.size ∧ i = .int .i64 k ∧ m = .int .u64 a ∧ o = .bool b ∧ a ≤ 10000000000000000009 ∧ PS s k a b) (fun _ _ i => s.size - (intOf i).toNat)
    case atStart => exact ⟨0, 0, false, by omega, rfl, rfl, rfl, by omega, ⟨rfl, fun _ => by rw [List.take_zero, dv_nil], by simp⟩⟩
    case round =>
      obtain ⟨k, a, b, hk, rfl, rfl, rfl, ha, hp⟩ := hrel
      by_cases hlt : k < s.size
      · by_cases l1 : decide (((s[k]'hlt).toNat : Int) < 48) = true
        · obtain rfl := H0.out (all_false _ k hlt (by have := dig_tests (s[k]'hlt); rw [l1] at this; simpa using this.symm))
          go_wp2
          go_ret2
          exact ⟨rfl, rfl⟩
        · rw [Bool.not_eq_true] at l1
          by_cases l2 : decide (57 < ((s[k]'hlt).toNat : Int)) = true
          · obtain rfl := H0.out (all_false _ k hlt (by have := dig_tests (s[k]'hlt); rw [l1, l2] at this; simpa using this.symm))
            go_wp2
            go_ret2
            exact ⟨rfl, rfl⟩
          · rw [Bool.not_eq_true] at l2
            have hdg := hp.digit hlt l1 l2
            by_cases ho : decide (1000000000000000000 < (a : Int)) = true
            · have P := Lib.hid (hp.over hlt hdg ho)
              go_wp2
              go_round
              case rel => exact ⟨k + 1, a, true, by omega, by go_num, rfl, rfl, ha, P.out⟩
              case measure => simp [intOf]; omega
            · rw [Bool.not_eq_true] at ho
              have P := Lib.hid (hp.step hlt hdg ho)
              have W := Lib.hid (PS.wrap hlt hdg ho)
              have hb1 : a * 10 + ((s[k]'hlt).toNat - 48) ≤ 10000000000000000009 := by
                have ho' : (a : Int) ≤ 1000000000000000000 := by simpa using ho
                have := (digB_iff _).1 hdg
                omega
              go_wp2
              go_round
              case rel => exact ⟨k + 1, _, b, by omega, by go_num, congrArg (Value.int .u64) W.out, rfl, hb1, P.out⟩
              case measure => simp [intOf]; omega
      · obtain rfl : k = s.size := by omega
        have hal := hp.all
        rw [List.take_of_length_le (by simp)] at hal
        have hr := H1.out hal
        have hlo := hp.low
        have hto := hp.top
        rw [List.take_of_length_le (by simp)] at hlo hto
        cases b with
        | true =>
          rw [res_out (by have := (hto rfl).1; simp only [sg]; try simp only [if_true, Bool.false_eq_true, if_false]; omega)] at hr
          subst hr
          clear hp hal hlo hto H0 H1
          go_wp2_with fail
          go_ret2
          exact ⟨rfl, rfl⟩
        | false =>
          rw [← hlo rfl] at hr
          have co := fun W => of_c false a W (by omega) (by omega)
          obtain ⟨x, hx⟩ : ∃ x, res (sg false a) = x := ⟨_, rfl⟩
          have hxx := res_two hx
          have co' : ∀ W, Calls Tryz.prog 78 #[.bool false, .int .u64 a] W fun e w' => e = .returned x ∧ W = w' := fun W => hx ▸ co W
          rw [hx] at hr
          obtain ⟨p, q, rfl⟩ := hxx
          subst hr
          clear hp hal hlo hto H0 H1 co hx
          go_wp2_with fail
          (with_reducible refine (co' _).mono ?_)
          rintro e w' ⟨rfl, rfl⟩
          go_wp2_with fail
          go_ret2
          exact ⟨rfl, rfl⟩
theorem len_f (n : Nat) (h : 0 < n) : ((n : Int) == 0) = false := by rw [beq_eq_false_iff_ne]; omega
theorem len_t (n : Nat) (h : ¬ 0 < n) : ((n : Int) == 0) = true := by rw [beq_iff_eq]; omega
theorem len_d (n : Nat) (h : ¬ 0 < n) : decide (0 < (n : Int)) = false := by rw [decide_eq_false_iff_not]; omega
theorem pr_none (l : List UInt8) (h : formB l = false) : pr l = .tuple #[.int .i64 0, .int .i64 1] := by rw [pr, h]; rfl
set_option maxRecDepth 20000 in
set_option maxHeartbeats 800000 in
theorem rparse_c (s : ByteArray) (w : World) (hs : s.size ≤ 4611686018427387904) : Calls Tryz.prog 44 #[.string s] w fun e w' => e = .returned (pr s.data.toList) ∧ w = w' := by
  by_cases h0 : 0 < s.size
  · have hx : decide (0 < (s.size : Int)) = true := by simp; omega
    by_cases x2 : (((s[0]'h0).toNat : Int) == 45) = true
    · have h2 : (((s[0]'h0).toNat : Int) == 45) = (s.data.toList.head? == some 45) := byte_eq s h0 45
      have h45 : s.data.toList.head? = some 45 := by rw [x2] at h2; simpa using h2.symm
      have hne : (s.toList == [48]) = false := by
        rw [Lib.toList_data]; rw [Bool.eq_false_iff]; intro h
        rw [beq_iff_eq] at h; rw [h] at h45; exact absurd h45 (by decide)
      have hF := formB_neg s h0 hne x2
      have hds : (s.extract 1 s.size).size ≤ 4611686018427387904 := by simp; omega
      have htl : s.data.toList.tail = (s.extract 1 s.size).data.toList := by rw [Lib.extract_to_end]; simp
      by_cases h1 : 0 < (s.extract 1 s.size).size
      · by_cases x3 : ((((s.extract 1 s.size)[0]'h1).toNat : Int) == 48) = true
        · rw [pr_none _ (hF.trans (digsB_zero _ h1 x3))]
          have hx2 : (((s.extract 1 s.size).size : Int) == 0) = false := len_f _ h1
          generalize hd : s.extract 1 s.size = d at *
          clear hF htl h45 h2 hne
          go_enter Tryz.func44, Tryz.ntmps44
          go_wp2_with fail
          go_ret2
          exact ⟨rfl, rfl⟩
        · rw [Bool.not_eq_true] at x3
          refine rparse_neg s w _ h0 hs x2 h1 x3 (fun h => pr_none _ ?_) (fun h => ?_)
          · rw [hF, digsB_full _ h1 x3, h]
          · rw [pr, if_pos (by rw [hF, digsB_full _ h1 x3, h]), pv, if_pos h45, htl]; rfl
      · rw [pr_none _ (hF.trans (digsB_none _ h1))]
        have hx2 : (((s.extract 1 s.size).size : Int) == 0) = true := len_t _ h1
        generalize hd : s.extract 1 s.size = d at *
        clear hF htl h45 h2 hne
        go_enter Tryz.func44, Tryz.ntmps44
        go_wp2_with fail
        go_ret2
        exact ⟨rfl, rfl⟩
    · rw [Bool.not_eq_true] at x2
      have h2 : (((s[0]'h0).toNat : Int) == 45) = (s.data.toList.head? == some 45) := byte_eq s h0 45
      have h45 : ¬ s.data.toList.head? = some 45 := by rw [x2] at h2; simpa using h2.symm
      have hpv : pv s.data.toList = sg false (dv 0 s.data.toList) := by rw [pv, if_neg h45]; rfl
      by_cases x3 : (((s[0]'h0).toNat : Int) == 48) = true
      · by_cases h1 : s.size = 1
        · have he : s.data.toList = [48] := by
            have h3 : (((s[0]'h0).toNat : Int) == 48) = (s.data.toList.head? == some 48) := byte_eq s h0 48
            rw [x3] at h3
            rw [Lib.size_eq] at h1
            cases h4 : s.data.toList with
            | nil => rw [h4] at h1; cases h1
            | cons c r =>
              rw [h4] at h1 h3
              have : r = [] := by cases r with
                | nil => rfl
                | cons => simp at h1
              subst this
              have : c = 48 := by simpa using h3.symm
              rw [this]
          have hf : formB s.data.toList = true := by rw [he]; rfl
          have hd : s.data.toList.all digB = true := by rw [he]; rfl
          refine rparse_pos s w _ _ h0 hs x2 x3 (fun _ => h1) (fun h => ?_) (fun h => ?_)
          · rw [hd] at h; cases h
          · rw [pr, if_pos hf, hpv]
        · have hne : (s.toList == [48]) = false := by
            rw [Lib.toList_data]; rw [Bool.eq_false_iff]; intro h
            rw [beq_iff_eq] at h; rw [Lib.size_eq, h] at h1; exact h1 rfl
          rw [pr_none _ ((formB_pos s h0 hne x2).trans (digsB_zero _ h0 x3))]
          have hx2 : ((s.size : Int) == 0) = false := by simp; intro h; rw [h] at h0; exact absurd h0 (by simp)
          have hx4 : decide (1 < (s.size : Int)) = true := by simp; omega
          clear h45 h2 hne hpv
          go_enter Tryz.func44, Tryz.ntmps44
          go_wp2_with fail
          go_ret2
          exact ⟨rfl, rfl⟩
      · rw [Bool.not_eq_true] at x3
        have hne : (s.toList == [48]) = false := by
          have h3 : (((s[0]'h0).toNat : Int) == 48) = (s.data.toList.head? == some 48) := byte_eq s h0 48
          rw [x3] at h3
          rw [Lib.toList_data, Bool.eq_false_iff]; intro h
          rw [beq_iff_eq] at h; rw [h] at h3; cases h3
        have hF := formB_pos s h0 hne x2
        refine rparse_pos s w _ false h0 hs x2 x3 (fun h => by cases h) (fun h => pr_none _ ?_) (fun h => ?_)
        · rw [hF, digsB_full _ h0 x3, h]
        · rw [pr, if_pos (by rw [hF, digsB_full _ h0 x3, h]), hpv]
  · have hn : s.data.toList = [] := by rw [Lib.size_eq] at h0; exact List.eq_nil_of_length_eq_zero (by omega)
    have hz : s.size = 0 := by omega
    rw [pr_none _ (by rw [hn]; rfl)]
    have hx : decide (0 < (s.size : Int)) = false := len_d _ h0
    have hx2 : ((s.size : Int) == 0) = true := len_t _ h0
    clear hz
    clear hn
    go_enter Tryz.func44, Tryz.ntmps44
    go_wp2_with fail
    go_ret2
    exact ⟨rfl, rfl⟩
end NumW
end Go.Proofs.YtchceoclkdofhaaGreatDoor
namespace Go.Proofs.YtchceoclkdofhaaGreatDoor
set_option linter.unusedVariables false
set_option linter.unusedSimpArgs false
open Go.RowKit
namespace NumW
open NumP
end NumW
end Go.Proofs.YtchceoclkdofhaaGreatDoor
