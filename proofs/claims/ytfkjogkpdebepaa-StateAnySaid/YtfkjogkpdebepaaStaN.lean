/- The walk of state's reader.num. Conditions: texts that fit. -/
import Derived.Test.YtfkjogkpdebepaaStaR
import Derived.Test.YtfkjogkpdebepaaStaW
import Derived.Laws.ShiftsVarLaws
namespace Go.Proofs.Ytfkjogkpdebepaa
open Go.RowKit
namespace StaN
open StaP StaR
abbrev St := Except Er Bs
/-- Where a reader stands: the bytes that are left, or the bytes at which it failed and why. -/
def ab (s : ByteArray) (i e : Nat) : St := if e = 0 then .ok (s.data.toList.drop i) else .error (s.data.toList.drop i, e)
theorem ab_ok (s : ByteArray) (i : Nat) : ab s i 0 = .ok (s.data.toList.drop i) := rfl
theorem ab_bad (s : ByteArray) (i : Nat) {e : Nat} (h : e ≠ 0) : ab s i e = .error (s.data.toList.drop i, e) := if_neg h
/-- A parser takes a reader from one place to another, and what it gives is as said. -/
def Run {α : Type} (p : Pr α) (a a' : St) (g : α → Prop) : Prop := match a with
  | .error er => a' = .error er
  | .ok l => match p l with
    | .error er => a' = .error er
    | .ok (x, r) => a' = .ok r ∧ g x
theorem Run.bad {α : Type} {p : Pr α} {er : Er} {g : α → Prop} : Run p (.error er) (.error er) g := rfl
theorem Run.err {α : Type} {p : Pr α} {l : Bs} {er : Er} {g : α → Prop} (h : p l = .error er) : Run p (.ok l) (.error er) g := by simp only [Run, h]
theorem Run.go {α : Type} {p : Pr α} {l r : Bs} {x : α} {g : α → Prop} (h : p l = .ok (x, r)) (hg : g x) : Run p (.ok l) (.ok r) g := by simp only [Run, h, true_and]; exact hg
theorem Run.mono {α : Type} {p : Pr α} {a a' : St} {g g' : α → Prop} (h : Run p a a' g) (hg : ∀ x, g x → g' x) : Run p a a' g' := by
  unfold Run at h ⊢
  cases a with
  | error er => exact h
  | ok l =>
    simp only at h ⊢
    cases hp : p l with
    | error er => rw [hp] at h; exact h
    | ok v => obtain ⟨x, r⟩ := v; rw [hp] at h; exact ⟨h.1, hg _ h.2⟩
theorem and127b (c : UInt8) : bits .and .u8 (c.toNat : Int) 127 = ((c.toNat % 128 : Nat) : Int) := by
  have : ∀ c : Fin 256, bits .and .u8 (c.val : Int) 127 = ((c.val % 128 : Nat) : Int) := by decide +kernel
  exact this ⟨c.toNat, c.toNat_lt⟩
theorem or_add (a b k : Nat) (h : a < 128 ^ k) : a ||| b * 128 ^ k = a + b * 128 ^ k := by
  have e : (128 : Nat) ^ k = 2 ^ (7 * k) := by rw [Nat.pow_mul]
  rw [e] at h ⊢
  rw [Nat.or_comm, ← Nat.shiftLeft_eq, ← Nat.shiftLeft_add_eq_or_of_lt h]; omega
/-- What 'num' answers. -/
def NPost (s : ByteArray) (R i e : Nat) (w : World) (x : Ending) (w' : World) : Prop :=
  ∃ (n : Int) (i' e' : Nat), x = .returned (.int .i64 n) ∧ I64 n ∧ Rdr w' R s i' e' ∧ i' ≤ s.size ∧ Tch (On R) w w' ∧ Run numP (ab s i e) (ab s i' e') (fun m => m = n)
/-- num's loop: so many digits are read. -/
def NL (s : ByteArray) (R i e : Nat) (c : UInt8) (w : World) (nv kv : Value) (wr : World) : Prop :=
  ∃ (m k j e' : Nat), nv = .int .i64 m ∧ kv = .int .i64 k ∧ k ≤ 9 ∧ m < 128 ^ k ∧ Rdr wr R s j e' ∧ j ≤ s.size ∧ Tch (On R) w wr ∧
    ((e' ≠ 0 ∧ Run numP (ab s i e) (ab s j e') (fun _ => False)) ∨ (e' = 0 ∧ ∃ l, Hid (ab s i e = .ok (c :: l)) ∧ c.toNat ≤ 1 ∧ Hid (digs 0 0 l = digs k m (s.data.toList.drop j))))
theorem pow_le {k : Nat} (h : k ≤ 9) : 128 ^ k ≤ 9223372036854775808 := by
  have := Nat.pow_le_pow_right (n := 128) (by omega) h
  exact this
theorem num_stop {l : Bs} (h : ∀ c r, l = c :: r → 1 < c.toNat) : numP l = .error (l, 1) := by
  cases l with
  | nil => rfl
  | cons c r => rw [numP, if_pos (h c r rfl)]
theorem num_err {a : St} {c : UInt8} {l : Bs} {er : Er} {g : Int → Prop} (h : a = .ok (c :: l)) (hc : c.toNat ≤ 1) (hd : digs 0 0 l = .error er) : Run numP a (.error er) g := by
  rw [h]; refine Run.err ?_; rw [numP, if_neg (by omega), hd]
theorem num_ok {a : St} {c : UInt8} {l r : Bs} {n : Nat} {g : Int → Prop} (h : a = .ok (c :: l)) (hc : c.toNat ≤ 1) (hd : digs 0 0 l = .ok (n, r)) (hg : g (if c.toNat = 1 then -1 - (n : Int) else n)) : Run numP a (.ok r) g := by
  rw [h]; refine Run.go ?_ hg; rw [numP, if_neg (by omega), hd]
theorem drop_nil {s : ByteArray} {j : Nat} (h : ∀ c r, s.data.toList.drop j = c :: r → 255 < c.toNat) : s.data.toList.drop j = [] := by
  cases e : s.data.toList.drop j with
  | nil => rfl
  | cons c r => have := h c r e; have := c.toNat_lt; omega
theorem next_dig {m k : Nat} (x : Nat) (hm : m < 128 ^ k) (hx : x < 128) (hk : k ≤ 8) : m + x * 128 ^ k < 128 ^ (k + 1) ∧ m + x * 128 ^ k < 9223372036854775808 ∧ x * 128 ^ k < 9223372036854775808 := by
  have h9 := pow_le (k := k + 1) (by omega)
  have h1 : (x + 1) * 128 ^ k ≤ 128 * 128 ^ k := Nat.mul_le_mul_right _ (by omega)
  rw [Nat.add_mul] at h1
  have h2 : 128 ^ (k + 1) = 128 * 128 ^ k := by rw [Nat.pow_succ, Nat.mul_comm]
  omega
theorem bits_or (m y k x : Nat) (hm : m < 128 ^ k) (hy : x * 128 ^ k = y) (h : m + y < 9223372036854775808) : bits .or .i64 (m : Int) (y : Int) = ((m + y : Nat) : Int) := by
  show IntKind.i64.wrap ((BitVec.ofInt 64 (m : Int) ||| BitVec.ofInt 64 (y : Int)).toNat : Int) = _
  have o := or_add m x k hm
  rw [hy] at o
  rw [BitVec.toNat_or, StaW.ofInt_nat m (by omega), StaW.ofInt_nat y (by omega), o]
  generalize m + y = r at *
  simp [IntKind.wrap, IntKind.bits, IntKind.signed]; omega
theorem wrap_shl (x k : Nat) (h : x * 128 ^ k < 9223372036854775808) : wrap64 ((x : Int) * 2 ^ (7 * k)) = ((x * 128 ^ k : Nat) : Int) := by
  have e : (x : Int) * 2 ^ (7 * k) = ((x * 128 ^ k : Nat) : Int) := by
    rw [Int.natCast_mul, show (128 : Nat) ^ k = 2 ^ (7 * k) by rw [Nat.pow_mul], Int.natCast_pow]; rfl
  rw [e]
  unfold wrap64; omega
set_option maxHeartbeats 6400000 in
set_option maxRecDepth 100000 in
theorem num_c (R : Nat) (s : ByteArray) (i e : Nat) (w : World) (h : Rdr w R s i e) (his : i ≤ s.size) (hs : s.size ≤ 4611686018427387904) :
    Calls Try.prog 14 #[.pointer (some ⟨R, 0, none⟩)] w (NPost s R i e w) := by
  have c0 := next_c R s i e 1 w h his hs (by omega)
  rw [show ((1 : Nat) : Int) = 1 from rfl] at c0
  go_enter Try.func14, Try.ntmps14
  go_wp2_with fail
  (with_reducible refine c0.mono ?_)
  rintro x w1 ⟨c, i1, e1, rfl, h1, t1, hN⟩
  have hL : NL s R i e c w (.int .i64 0) (.int .i64 0) w1 := by
    rcases hN with ⟨he, rfl, rfl, rfl⟩ | ⟨he, rfl, rfl, rfl, hx⟩ | ⟨he, rfl, rfl, hd, hc, hlt⟩
    · have he : e ≠ 0 := by omega
      exact ⟨0, 0, i1, e, rfl, rfl, by omega, by simp, h1, his, t1, Or.inl ⟨he, by rw [ab_bad _ _ he]; exact Run.bad⟩⟩
    · have he : e = 0 := by omega
      subst he
      exact ⟨0, 0, i1, 1, rfl, rfl, by omega, by simp, h1, his, t1, Or.inl ⟨by omega, by rw [ab_ok, ab_bad _ _ (by omega)]; exact Run.err (num_stop hx)⟩⟩
    · have he : e = 0 := by omega
      subst he
      exact ⟨0, 0, i + 1, 0, rfl, rfl, by omega, by simp, h1, by omega, t1, Or.inr ⟨rfl, _, Lib.hid (by rw [ab_ok, hd]), hc, Lib.hid rfl⟩⟩
  clear hN c0 h1 t1 h
  go_wp2_with fail
  go_loopw [4, 5] (fun nv kv wr => NL s R i e c w nv kv wr) (fun _ kv _ => 10 - (intOf kv).toNat)
  case atStart => exact hL
  case round =>
    clear hL
    obtain ⟨m, k, j, e', rfl, rfl, hk, hm, hr, hj, ht, hcase⟩ := hrel
    have k1 := hr.cell 1
    have k2 := hr.cell 2
    simp only [List.getElem?_toArray, List.getElem?_cons_zero, List.getElem?_cons_succ] at k1 k2
    rcases hcase with ⟨he, hrun⟩ | ⟨rfl, l, HA, hc, HD⟩
    · have d : ((e' : Int) == 0) = false := by rw [beq_eq_false_iff_ne]; omega
      have d2 : ((e' : Int) != 0) = true := by rw [bne_iff_ne]; omega
      go_wp2
      go_ret
      exact ⟨0, j, e', rfl, ⟨by omega, by omega⟩, hr, hj, ht, hrun.mono (fun _ h => h.elim)⟩
    · have cn := next_c R s j 0 255 wr hr hj hs (by omega)
      rw [show ((255 : Nat) : Int) = 255 from rfl] at cn
      go_wp2_with fail
      (with_reducible refine cn.mono ?_)
      rintro x w2 ⟨b, j2, e2, rfl, h2, t2, hN⟩
      rcases hN with ⟨he, _⟩ | ⟨-, rfl, rfl, rfl, hx⟩ | ⟨-, rfl, rfl, hd, -, hlt⟩
      · exact absurd rfl he
      · have HE : Hid (digs 0 0 l = .error (s.data.toList.drop j2, 1)) := Lib.hid (by rw [HD.out, drop_nil hx]; rfl)
        clear hx k1 k2 cn
        have k1 := h2.cell 1
        have k2 := h2.cell 2
        simp only [List.getElem?_toArray, List.getElem?_cons_zero, List.getElem?_cons_succ] at k1 k2
        rw [show (((0 : UInt8).toNat : Nat) : Int) = 0 from rfl]
        have hR : NPost s R i e w (.returned (.int .i64 0)) w2 := ⟨0, j2, 1, rfl, ⟨by omega, by omega⟩, h2, hj, ht.trans t2, by rw [ab_bad s j2 (e := 1) (by omega)]; exact num_err HA.out hc HE.out⟩
        by_cases k0 : k = 0
        · subst k0
          have hm0 : m = 0 := by simpa using hm
          subst hm0
          go_wp2
          go_ret
          exact hR
        · have kd : decide ((0 : Int) < (k : Int)) = true := by simp; omega
          have cf := fail_no R s j2 j2 1 1 w2 h2 (by omega)
          go_wp2_with fail
          (with_reducible refine cf.mono ?_)
          rintro x w3 ⟨rfl, rfl⟩
          go_wp2
          go_ret
          exact hR
      · have HX := Lib.hid hd
        clear hd k1 k2 cn
        have hb := b.toNat_lt
        by_cases hq : (k ≠ 0 ∧ b = 0) ∨ k = 9
        · have HE : Hid (digs 0 0 l = .error (s.data.toList.drop j, 1)) := Lib.hid (by rw [HD.out, HX.out, digs_cons, if_pos hq])
          have k0 : k ≠ 0 := by omega
          have kd : decide ((0 : Int) < (k : Int)) = true := by simp; omega
          have cf := fail_yes R s (j + 1) j 1 w2 h2
          by_cases bz : b = 0
          · subst bz
            rw [show (((0 : UInt8).toNat : Nat) : Int) = 0 from rfl]
            go_wp2_with fail
            (with_reducible refine cf.mono ?_)
            rintro x w3 ⟨rfl, h3, t3⟩
            have k2 := h3.cell 2
            simp only [List.getElem?_toArray, List.getElem?_cons_zero, List.getElem?_cons_succ] at k2
            go_wp2
            go_ret
            exact ⟨0, j, 1, rfl, ⟨by omega, by omega⟩, h3, hj, (ht.trans t2).trans t3, by rw [ab_bad s j (e := 1) (by omega)]; exact num_err HA.out hc HE.out⟩
          · have bf : ((b.toNat : Int) == 0) = false := by
              rw [beq_eq_false_iff_ne]; intro h
              exact bz (UInt8.toNat_inj.1 (show b.toNat = 0 by omega))
            have kb : ((k : Int) == 9) = true := by rw [beq_iff_eq]; have := hq.resolve_left (fun h => bz h.2); omega
            go_wp2_with fail
            (with_reducible refine cf.mono ?_)
            rintro x w3 ⟨rfl, h3, t3⟩
            have k2 := h3.cell 2
            simp only [List.getElem?_toArray, List.getElem?_cons_zero, List.getElem?_cons_succ] at k2
            go_wp2
            go_ret
            exact ⟨0, j, 1, rfl, ⟨by omega, by omega⟩, h3, hj, (ht.trans t2).trans t3, by rw [ab_bad s j (e := 1) (by omega)]; exact num_err HA.out hc HE.out⟩
        · have hz : ¬ (k ≠ 0 ∧ b = 0) := fun h => hq (Or.inl h)
          have h9 : k ≠ 9 := fun h => hq (Or.inr h)
          have k1 := h2.cell 1
          have k2 := h2.cell 2
          simp only [List.getElem?_toArray, List.getElem?_cons_zero, List.getElem?_cons_succ] at k1 k2
          have kb : ((k : Int) == 9) = false := by rw [beq_eq_false_iff_ne]; omega
          have ha := and127b b
          obtain ⟨x, hx⟩ : ∃ x, b.toNat % 128 = x := ⟨_, rfl⟩
          rw [hx] at ha
          have hx2 : x < 128 := by omega
          obtain ⟨g1, g2, g3⟩ := next_dig x hm hx2 (by omega)
          have ho := bits_or m (x * 128 ^ k) k x hm rfl g2
          have hw := wrap_shl x k g3
          obtain ⟨y, hy0⟩ : ∃ y, x * 128 ^ k = y := ⟨_, rfl⟩
          rw [hy0] at g1 g2 g3 ho hw
          obtain ⟨z, hzz⟩ : ∃ z, m + y = z := ⟨_, rfl⟩
          rw [hzz] at g1 g2 ho
          have HZ := Lib.hid hzz
          have HY := Lib.hid hy0
          have HXX := Lib.hid hx
          clear hx
          by_cases k0 : k = 0
          · subst k0
            have hyx : y = x := by rw [← hy0]; simp
            subst hyx
            clear hw hzz hy0
            by_cases hb2 : b.toNat < 128
            · have HO : Hid (digs 0 0 l = .ok (z, s.data.toList.drop (j + 1))) := Lib.hid (by rw [HD.out, HX.out, digs_cons, if_neg (by rintro (hh | hh); exact hz hh; exact h9 hh), if_pos hb2, HXX.out, HY.out, HZ.out])
              by_cases c1 : c.toNat = 1
              · have hc1 : ((c.toNat : Int) == 1) = true := by rw [beq_iff_eq]; omega
                go_wp2
                go_ret
                exact ⟨-1 - (z : Int), j + 1, 0, by go_num, ⟨by omega, by omega⟩, h2, by omega, ht.trans t2, num_ok HA.out hc HO.out (by rw [if_pos c1])⟩
              · have hc1 : ((c.toNat : Int) == 1) = false := by rw [beq_eq_false_iff_ne]; omega
                go_wp2
                go_ret
                exact ⟨(z : Int), j + 1, 0, by go_num, ⟨by omega, by omega⟩, h2, by omega, ht.trans t2, num_ok HA.out hc HO.out (by rw [if_neg c1])⟩
            · have HO : Hid (digs 0 0 l = digs (0 + 1) z (s.data.toList.drop (j + 1))) := Lib.hid (by rw [HD.out, HX.out, digs_cons, if_neg (by rintro (hh | hh); exact hz hh; exact h9 hh), if_neg hb2, HXX.out, HY.out, HZ.out])
              go_wp2
              go_roundw
              case rel => exact ⟨z, 0 + 1, j + 1, 0, by go_num, by go_num, by omega, by omega, h2, by omega, ht.trans t2, Or.inr ⟨rfl, l, HA, hc, HO⟩⟩
              case measure => simp [intOf] <;> omega
          · have kd : decide ((0 : Int) < (k : Int)) = true := by simp; omega
            have bz : ((b.toNat : Int) == 0) = false := by
              rw [beq_eq_false_iff_ne]; intro h
              exact hz ⟨k0, UInt8.toNat_inj.1 (show b.toNat = 0 by omega)⟩
            clear hzz hy0
            by_cases hb2 : b.toNat < 128
            · have HO : Hid (digs 0 0 l = .ok (z, s.data.toList.drop (j + 1))) := Lib.hid (by rw [HD.out, HX.out, digs_cons, if_neg (by rintro (hh | hh); exact hz hh; exact h9 hh), if_pos hb2, HXX.out, HY.out, HZ.out])
              by_cases c1 : c.toNat = 1
              · have hc1 : ((c.toNat : Int) == 1) = true := by rw [beq_iff_eq]; omega
                go_wp2
                go_ret
                exact ⟨-1 - (z : Int), j + 1, 0, by go_num, ⟨by omega, by omega⟩, h2, by omega, ht.trans t2, num_ok HA.out hc HO.out (by rw [if_pos c1])⟩
              · have hc1 : ((c.toNat : Int) == 1) = false := by rw [beq_eq_false_iff_ne]; omega
                go_wp2
                go_ret
                exact ⟨(z : Int), j + 1, 0, by go_num, ⟨by omega, by omega⟩, h2, by omega, ht.trans t2, num_ok HA.out hc HO.out (by rw [if_neg c1])⟩
            · have HO : Hid (digs 0 0 l = digs (k + 1) z (s.data.toList.drop (j + 1))) := Lib.hid (by rw [HD.out, HX.out, digs_cons, if_neg (by rintro (hh | hh); exact hz hh; exact h9 hh), if_neg hb2, HXX.out, HY.out, HZ.out])
              go_wp2
              go_roundw
              case rel => exact ⟨z, k + 1, j + 1, 0, by go_num, by go_num, by omega, by omega, h2, by omega, ht.trans t2, Or.inr ⟨rfl, l, HA, hc, HO⟩⟩
              case measure => simp [intOf] <;> omega
end StaN
end Go.Proofs.Ytfkjogkpdebepaa
