/- Plain facts on decimal texts. No program. No condition. -/
import Derived.Lib.ParseIntB
import Derived.Lib.ItoaNum
import Derived.IntWalk
namespace Go.Proofs.YtooinkhjoppijaaDoor.NumP
set_option linter.unusedVariables false
set_option linter.unusedSimpArgs false
def digB (c : UInt8) : Bool := 48 ≤ c.toNat && c.toNat ≤ 57
def digsB (l : List UInt8) : Bool := !l.isEmpty && !(l.head? == some 48) && l.all digB
def formB (l : List UInt8) : Bool := l == [48] || (if l.head? = some 45 then digsB l.tail else digsB l)
def dstep (a : Nat) (c : UInt8) : Nat := a * 10 + (c.toNat - 48)
def dv (acc : Nat) (l : List UInt8) : Nat := l.foldl dstep acc
def pv (l : List UInt8) : Int := if l.head? = some 45 then -(dv 0 l.tail : Nat) else (dv 0 l : Nat)
theorem dv_nil (acc : Nat) : dv acc [] = acc := by rw [dv, List.foldl_nil]
theorem dv_cons (acc : Nat) (c : UInt8) (r : List UInt8) : dv acc (c :: r) = dv (acc * 10 + (c.toNat - 48)) r := by rw [dv, List.foldl_cons]; rfl
theorem dv_ge (l : List UInt8) : ∀ (acc : Nat), acc ≤ dv acc l := by
  induction l with
  | nil => intro acc; rw [dv_nil]; exact Nat.le_refl _
  | cons c r ih => intro acc; have := ih (acc * 10 + (c.toNat - 48)); rw [dv_cons]; omega
theorem dv_app (l : List UInt8) : ∀ (acc : Nat) (c : UInt8), dv acc (l ++ [c]) = dv acc l * 10 + (c.toNat - 48) := by
  induction l with
  | nil => intro acc c; rw [List.nil_append, dv_cons, dv_nil, dv_nil]
  | cons d r ih => intro acc c; rw [List.cons_append, dv_cons, dv_cons]; exact ih _ c
theorem digB_iff (c : UInt8) : digB c = true ↔ 48 ≤ c.toNat ∧ c.toNat ≤ 57 := by simp [digB]
theorem parse_dv (l : List UInt8) : ∀ (acc : Nat), l.all digB = true → acc ≤ 18446744073709551615 →
    Lib.parseUintM 18446744073709551615 acc l = if dv acc l ≤ 18446744073709551615 then .ok (dv acc l) else .range := by
  induction l with
  | nil => intro acc _ h; rw [dv_nil, if_pos h]; rfl
  | cons c r ih =>
    intro acc ha h
    rw [List.all_cons, Bool.and_eq_true] at ha
    have hd := (digB_iff c).1 ha.1
    have hg := dv_ge r (acc * 10 + (c.toNat - 48))
    rw [dv_cons, Lib.parseUintM, if_pos hd]
    by_cases h1 : 1844674407370955162 ≤ acc
    · rw [if_pos h1, if_neg (by omega)]
    · rw [if_neg h1]
      by_cases h2 : 18446744073709551615 < acc * 10 + (c.toNat - 48)
      · rw [if_pos h2, if_neg (by omega)]
      · rw [if_neg h2]; exact ih _ ha.2 (by omega)
theorem digsB_iff (l : List UInt8) : digsB l = true ↔ l ≠ [] ∧ l.head? ≠ some 48 ∧ l.all digB = true := by
  cases l <;> simp [digsB]
theorem dig_head {l : List UInt8} (h : l.all digB = true) {n : UInt8} (hn : digB n = false) : l.head? ≠ some n := by
  cases l with
  | nil => simp
  | cons c r =>
    rw [List.all_cons, Bool.and_eq_true] at h
    intro hc
    rw [List.head?_cons, Option.some.injEq] at hc
    rw [hc, hn] at h; exact absurd h.1 (by simp)
/-- The two ways of a number's text. -/
theorem formB_two {l : List UInt8} (h : formB l = true) : (∃ d, l = 45 :: d ∧ digsB d = true) ∨ (l.head? ≠ some 45 ∧ l ≠ [] ∧ l.all digB = true ∧ (l = [48] ∨ l.head? ≠ some 48)) := by
  rw [formB, Bool.or_eq_true, beq_iff_eq] at h
  rcases h with h | h
  · subst h; exact .inr ⟨by decide, by decide, by decide, .inl rfl⟩
  · split at h
    · rename_i hh
      cases l with
      | nil => simp at hh
      | cons c r =>
        rw [List.head?_cons, Option.some.injEq] at hh
        subst hh
        exact .inl ⟨r, rfl, h⟩
    · rename_i hh
      obtain ⟨h1, h2, h3⟩ := (digsB_iff l).1 h
      exact .inr ⟨hh, h1, h3, .inr h2⟩
theorem parseIntB_form {l : List UInt8} (h : formB l = true) : Lib.parseIntB 64 l = if -9223372036854775808 ≤ pv l ∧ pv l ≤ 9223372036854775807 then .ok (pv l) else .range := by
  rcases formB_two h with ⟨d, rfl, hd⟩ | ⟨h1, h2, h3, _⟩
  · obtain ⟨d1, d2, d3⟩ := (digsB_iff d).1 hd
    have hp : pv (45 :: d) = -(dv 0 d : Nat) := by simp [pv]
    rw [hp, Lib.parseIntB]
    simp only [show ((45 : UInt8).toNat = 43 ∨ (45 : UInt8).toNat = 45) from .inr rfl, if_true, Lib.parseUintB, if_neg d1]
    rw [show (2 ^ 64 - 1 : Nat) = 18446744073709551615 from rfl, parse_dv d 0 d3 (by omega)]
    by_cases a : dv 0 d ≤ 18446744073709551615
    · rw [if_pos a]
      simp only [show (45 : UInt8).toNat = 45 from rfl, not_true, false_and, if_false, true_and, if_true]
      rw [show (2 ^ (64 - 1) : Nat) = 9223372036854775808 from rfl]
      by_cases b : 9223372036854775808 < dv 0 d
      · rw [if_pos b, if_neg (by omega)]
      · rw [if_neg b, if_pos (by omega)]
    · rw [if_neg a, if_neg (by omega)]
  · cases l with
    | nil => exact absurd rfl h2
    | cons c r =>
      have hp : pv (c :: r) = (dv 0 (c :: r) : Nat) := by rw [pv, if_neg h1]
      have hc := h3
      rw [List.all_cons, Bool.and_eq_true] at hc
      have hcd := (digB_iff c).1 hc.1
      rw [hp, Lib.parseIntB]
      have n1 : ¬ (c.toNat = 43 ∨ c.toNat = 45) := by omega
      have n2 : ¬ (c.toNat = 45) := by omega
      simp only [if_neg n1, if_neg n2, Lib.parseUintB]
      rw [if_neg (by simp), show (2 ^ 64 - 1 : Nat) = 18446744073709551615 from rfl, parse_dv _ 0 h3 (by omega)]
      generalize dv 0 (c :: r) = m
      by_cases a : m ≤ 18446744073709551615
      · rw [if_pos a]
        simp only [n2, not_false_eq_true, true_and, false_and, if_false]
        rw [show (2 ^ (64 - 1) : Nat) = 9223372036854775808 from rfl]
        by_cases b : 9223372036854775808 ≤ m
        · rw [if_pos b, if_neg (by omega)]
        · rw [if_neg b, if_pos (by omega)]
      · rw [if_neg a, if_neg (by omega)]
theorem ofNat_dig {k : Nat} (h : k < 10) : (UInt8.ofNat (48 + k)).toNat = 48 + k := by
  rw [UInt8.toNat_ofNat']; omega
theorem dec_all (u : Nat) : (Lib.decDigits u).all digB = true := by
  induction u using Nat.strongRecOn with
  | _ u ih =>
    rw [Lib.decDigits]
    split
    · rename_i h; simp only [List.all_cons, List.all_nil, Bool.and_true]; rw [digB_iff, ofNat_dig h]; omega
    · rename_i h
      rw [List.all_append, ih (u / 10) (by omega)]
      simp only [List.all_cons, List.all_nil, Bool.and_true, Bool.true_and]; rw [digB_iff, ofNat_dig (Nat.mod_lt _ (by omega))]; omega
theorem dec_dv (u : Nat) : dv 0 (Lib.decDigits u) = u := by
  induction u using Nat.strongRecOn with
  | _ u ih =>
    rw [Lib.decDigits]
    split
    · rename_i h; rw [dv_cons, dv_nil, ofNat_dig h]; omega
    · rename_i h; rw [dv_app, ih (u / 10) (by omega), ofNat_dig (Nat.mod_lt _ (by omega))]; omega
theorem dec_ne (u : Nat) : Lib.decDigits u ≠ [] := by
  rw [Lib.decDigits]; split <;> simp
theorem dec_head (u : Nat) (h : 0 < u) : (Lib.decDigits u).head? ≠ some 48 := by
  induction u using Nat.strongRecOn with
  | _ u ih =>
    rw [Lib.decDigits]
    split
    · rename_i h1
      intro hc
      rw [List.head?_cons, Option.some.injEq] at hc
      have := ofNat_dig h1
      rw [hc] at this
      have : (48 : Nat) = 48 + u := this
      omega
    · rename_i h1
      have := ih (u / 10) (by omega) (by omega)
      have hn := dec_ne (u / 10)
      cases h2 : Lib.decDigits (u / 10) with
      | nil => exact absurd h2 hn
      | cons c r => rw [h2] at this; exact this
theorem dec_digs (u : Nat) (h : 0 < u) : digsB (Lib.decDigits u) = true := (digsB_iff _).2 ⟨dec_ne u, dec_head u h, dec_all u⟩
theorem dec_zero : Lib.decDigits 0 = [48] := by rw [Lib.decDigits]; rfl
theorem itoa_form (n : Int) : formB (Lib.itoa n) = true := by
  rw [Lib.itoa]
  split
  · rw [formB, if_pos (by simp)]
    simp only [List.tail_cons, dec_digs n.natAbs (by omega), Bool.or_true]
  · by_cases h : n = 0
    · subst h; rw [show (0 : Int).toNat = 0 from rfl, dec_zero]; rfl
    · rw [formB, if_neg (dig_head (dec_all _) (by decide)), dec_digs n.toNat (by omega), Bool.or_true]
theorem itoa_pv (n : Int) : pv (Lib.itoa n) = n := by
  rw [Lib.itoa]
  split
  · rw [pv, if_pos (by simp), List.tail_cons, dec_dv]; omega
  · rw [pv, if_neg (dig_head (dec_all _) (by decide)), dec_dv]; omega
theorem digs_dec : ∀ (k : Nat) (l : List UInt8), l.length = k → digsB l = true → Lib.decDigits (dv 0 l) = l ∧ 0 < dv 0 l := by
  intro k
  induction k with
  | zero => intro l h1 h2; rw [List.length_eq_zero_iff] at h1; subst h1; cases h2
  | succ k ih =>
    intro l h1 h2
    obtain ⟨a1, a2, a3⟩ := (digsB_iff l).1 h2
    obtain ⟨l', c, rfl⟩ : ∃ l' c, l = l' ++ [c] := ⟨l.dropLast, l.getLast a1, (List.dropLast_concat_getLast a1).symm⟩
    rw [List.all_append, Bool.and_eq_true] at a3
    have hc := (digB_iff c).1 (by simpa using a3.2)
    have hcc : UInt8.ofNat (48 + (c.toNat - 48)) = c := by
      rw [show 48 + (c.toNat - 48) = c.toNat by omega]; simp
    rw [dv_app]
    cases l' with
    | nil =>
      simp only [dv_cons, dv_nil, List.nil_append]
      have h48 : c.toNat ≠ 48 := by
        intro h; apply a2; simp only [List.nil_append, List.head?_cons, Option.some.injEq]; exact UInt8.toNat_inj.1 (by rw [h]; rfl)
      refine ⟨?_, by omega⟩
      rw [Lib.decDigits, dif_pos (by omega), Nat.zero_mul, Nat.zero_add, hcc]
    | cons b r =>
      obtain ⟨i1, i2⟩ := ih (b :: r) (by simp at h1 ⊢; omega) ((digsB_iff _).2 ⟨by simp, by simpa using a2, a3.1⟩)
      refine ⟨?_, by omega⟩
      rw [Lib.decDigits, dif_neg (by omega)]
      rw [show (dv 0 (b :: r) * 10 + (c.toNat - 48)) / 10 = dv 0 (b :: r) by omega, show (dv 0 (b :: r) * 10 + (c.toNat - 48)) % 10 = c.toNat - 48 by omega, i1, hcc]
theorem form_itoa {l : List UInt8} (h : formB l = true) : Lib.itoa (pv l) = l := by
  rcases formB_two h with ⟨d, rfl, hd⟩ | ⟨h1, h2, h3, h4⟩
  · obtain ⟨i1, i2⟩ := digs_dec _ d rfl hd
    have hp : pv (45 :: d) = -(dv 0 d : Nat) := by simp [pv]
    rw [hp, Lib.itoa, if_pos (by omega), Int.natAbs_neg, Int.natAbs_natCast, i1]
  · have hp : pv l = (dv 0 l : Nat) := by rw [pv, if_neg h1]
    rw [hp, Lib.itoa, if_neg (by omega), Int.toNat_natCast]
    rcases h4 with rfl | h4
    · show Lib.decDigits 0 = _; exact dec_zero
    · exact (digs_dec _ l rfl ((digsB_iff l).2 ⟨h2, h4, h3⟩)).1
end Go.Proofs.YtooinkhjoppijaaDoor.NumP
