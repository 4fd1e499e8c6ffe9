/- The walk of the reference's number. Conditions: texts that fit. -/
import Derived.Test.YtfkjogkpdebepaaStaRq
import Derived.Deep.CutBlock
namespace Go.Proofs.Ytfkjogkpdebepaa
open Go.RowKit
namespace StaRq
open StaP StaR StaN
/-- What 'num' answers. -/
def QPost (s : ByteArray) (R i e : Nat) (w : World) (x : Ending) (w' : World) : Prop :=
  ∃ (n : Int) (i' e' : Nat), x = .returned (.int .i64 n) ∧ I64 n ∧ Rdq w' R s i' e' ∧ i' ≤ s.size ∧ Tch (On R) w w' ∧ (e' ≠ 0 → n = 0) ∧ Run numP (ab s i e) (ab s i' e') (fun m => m = n)
/-- num's loop: so many digits are read. -/
def QL (s : ByteArray) (R i e : Nat) (c : UInt8) (w : World) (nv kv : Value) (wr : World) : Prop :=
  ∃ (m k j e' : Nat), nv = .int .u64 m ∧ kv = .int .i64 k ∧ k ≤ 9 ∧ m < 128 ^ k ∧ Rdq wr R s j e' ∧ j ≤ s.size ∧ Tch (On R) w wr ∧
    ((e' ≠ 0 ∧ Run numP (ab s i e) (ab s j e') (fun _ => False)) ∨ (e' = 0 ∧ ∃ l, Hid (ab s i e = .ok (c :: l)) ∧ c.toNat ≤ 1 ∧ Hid (digs 0 0 l = digs k m (s.data.toList.drop j))))
theorem wrap_u64 (n : Nat) (h : n < 18446744073709551616) : IntKind.u64.wrap (n : Int) = (n : Int) := by
  simp [IntKind.wrap, IntKind.bits, IntKind.signed]; omega
theorem wraps {m k x : Nat} {b : UInt8} (hx : b.toNat % 128 = x) (g2 : m + x * 128 ^ k < 9223372036854775808) (g3 : x * 128 ^ k < 9223372036854775808) :
    IntKind.u64.wrap ((b.toNat : Int) % 128 * 2 ^ (7 * k)) = ((x * 128 ^ k : Nat) : Int) ∧ IntKind.u64.wrap ((m : Int) + ((x * 128 ^ k : Nat) : Int)) = ((m + x * 128 ^ k : Nat) : Int) := by
  have e : (b.toNat : Int) % 128 * 2 ^ (7 * k) = ((x * 128 ^ k : Nat) : Int) := by
    rw [show (b.toNat : Int) % 128 = (x : Int) by omega, Int.natCast_mul, show (128 : Nat) ^ k = 2 ^ (7 * k) by rw [Nat.pow_mul], Int.natCast_pow]; rfl
  refine ⟨by rw [e]; exact wrap_u64 _ (by omega), ?_⟩
  rw [show (m : Int) + ((x * 128 ^ k : Nat) : Int) = ((m + x * 128 ^ k : Nat) : Int) by omega]
  exact wrap_u64 _ (by omega)
set_option maxHeartbeats 6400000 in
set_option maxRecDepth 100000 in
theorem num_c (R : Nat) (s : ByteArray) (i e : Nat) (w : World) (h : Rdq w R s i e) (his : i ≤ s.size) (hs : s.size ≤ 4611686018427387904) :
    Calls Try.prog 22 #[.pointer (some ⟨R, 0, none⟩)] w (QPost s R i e w) := by
  have c0 := next_c R s i e w h his hs
  have k1 := h.cell 1
  simp only [List.getElem?_toArray, List.getElem?_cons_zero, List.getElem?_cons_succ] at k1
  go_enter Try.func22, Try.ntmps22
  go_wp2_with fail
  (with_reducible refine c0.mono ?_)
  rintro x w1 ⟨c, i1, e1, rfl, h1, t1, hN⟩
  clear k1 c0 h
  obtain ⟨Q, hQ⟩ : ∃ Q : Prop, Q = (1 < c.toNat ∧ e1 = 0) := ⟨_, rfl⟩
  by_cases hq : 1 < c.toNat
  · have d : decide ((1 : Int) < (c.toNat : Int)) = true := by simp; omega
    rcases hN with ⟨he, rfl, rfl, rfl⟩ | ⟨he, rfl, rfl, rfl, hx⟩ | ⟨he, rfl, rfl, hd, hlt⟩
    · simp at hq
    · simp at hq
    · have he : e = 0 := by omega
      subst he
      have HR : Hid (numP (s.data.toList.drop i) = .error (s.data.toList.drop i, 1)) := Lib.hid (num_stop (fun a r hh => by rw [hd] at hh; injection hh with h1 h2; rw [← h1]; exact hq))
      have cf := fail_yes R s (i + 1) i 1 w1 h1
      clear hd
      go_wp2_with fail
      (with_reducible refine cf.mono ?_)
      rintro e w2 ⟨rfl, h2, t2⟩
      go_wp2_with fail
      refine wp_loop_rounds 1 ?_
      rw [rounds_succ]
      have k2 := h2.cell 2
      simp only [List.getElem?_toArray, List.getElem?_cons_zero, List.getElem?_cons_succ] at k2
      go_wp2
      go_ret
      exact ⟨0, i, 1, rfl, ⟨by omega, by omega⟩, h2, his, t1.trans t2, fun _ => rfl, by rw [ab_ok, ab_bad s i (e := 1) (by omega)]; exact Run.err HR.out⟩
  have d : decide ((1 : Int) < (c.toNat : Int)) = false := by simp; omega
  have hL : QL s R i e c w (.int .u64 0) (.int .i64 0) w1 := by
    rcases hN with ⟨he, rfl, rfl, rfl⟩ | ⟨he, rfl, rfl, rfl, hx⟩ | ⟨he, rfl, rfl, hd, hlt⟩
    · have he : e ≠ 0 := by omega
      exact ⟨0, 0, i1, e, rfl, rfl, by omega, by simp, h1, his, t1, Or.inl ⟨he, by rw [ab_bad _ _ he]; exact Run.bad⟩⟩
    · have he : e = 0 := by omega
      subst he
      exact ⟨0, 0, i1, 1, rfl, rfl, by omega, by simp, h1, his, t1, Or.inl ⟨by omega, by rw [ab_ok, ab_bad _ _ (by omega)]; exact Run.err (num_stop (fun a r hh => by rw [hx] at hh; cases hh))⟩⟩
    · have he : e = 0 := by omega
      subst he
      exact ⟨0, 0, i + 1, 0, rfl, rfl, by omega, by simp, h1, by omega, t1, Or.inr ⟨rfl, _, Lib.hid (by rw [ab_ok, hd]), by omega, Lib.hid rfl⟩⟩
  clear hN h1 t1 hQ
  go_wp2_with fail
  go_loopw [5, 6] (fun nv kv wr => QL s R i e c w nv kv wr) (fun _ kv _ => 10 - (intOf kv).toNat)
  case atStart => exact hL
  case round =>
    clear hL
    obtain ⟨m, k, j, e', rfl, rfl, hk, hm, hr, hj, ht, hcase⟩ := hrel
    have k1 := hr.cell 1
    have k2 := hr.cell 2
    simp only [List.getElem?_toArray, List.getElem?_cons_zero, List.getElem?_cons_succ] at k1 k2
    have dk : decide ((k : Int) < 10) = true := by simp; omega
    rcases hcase with ⟨he, hrun⟩ | ⟨rfl, l, HA, hc, HD⟩
    · have d : ((e' : Int) == 0) = false := by rw [beq_eq_false_iff_ne]; omega
      have d2 : ((e' : Int) != 0) = true := by rw [bne_iff_ne]; omega
      go_wp2
      go_ret
      exact ⟨0, j, e', rfl, ⟨by omega, by omega⟩, hr, hj, ht, fun _ => rfl, hrun.mono (fun _ h => h.elim)⟩
    · have cn := next_c R s j 0 wr hr hj hs
      go_wp2_with fail
      (with_reducible refine cn.mono ?_)
      rintro x w2 ⟨b, j2, e2, rfl, h2, t2, hN⟩
      clear dk
      rcases hN with ⟨he, _⟩ | ⟨-, rfl, rfl, rfl, hx⟩ | ⟨-, rfl, rfl, hd, hlt⟩
      · exact absurd rfl he
      · have HE : Hid (digs 0 0 l = .error (s.data.toList.drop j2, 1)) := Lib.hid (by rw [HD.out, hx]; rfl)
        clear hx k1 k2 cn
        have k1 := h2.cell 1
        have k2 := h2.cell 2
        simp only [List.getElem?_toArray, List.getElem?_cons_zero, List.getElem?_cons_succ] at k1 k2
        rw [show (((0 : UInt8).toNat : Nat) : Int) = 0 from rfl]
        have hR : QPost s R i e w (.returned (.int .i64 0)) w2 := ⟨0, j2, 1, rfl, ⟨by omega, by omega⟩, h2, hj, ht.trans t2, fun _ => rfl, by rw [ab_bad s j2 (e := 1) (by omega)]; exact num_err HA.out hc HE.out⟩
        by_cases k0 : k = 0
        · subst k0
          have hm0 : m = 0 := by simpa using hm
          subst hm0
          go_wp2
          go_ret
          exact hR
        · have kd : decide ((0 : Int) < (k : Int)) = true := by simp; omega
          have cf := fail_no R s j2 j2 1 1 w2 h2 (by omega)
          by_cases k9 : ((k : Int) == 9) = true
          · go_wp2_with fail
            (with_reducible refine cf.mono ?_)
            rintro x w3 ⟨rfl, rfl⟩
            go_wp2
            go_ret
            exact hR
          · have k9 : ((k : Int) == 9) = false := by simpa using k9
            go_wp2_with fail
            (with_reducible refine cf.mono ?_)
            rintro x w3 ⟨rfl, rfl⟩
            go_wp2
            go_ret
            exact hR
      · have HX := Lib.hid hd
        clear hd k1 k2 cn
        have hb := b.toNat_lt
        by_cases hq : (k ≠ 0 ∧ b = 0) ∨ k = 9
        · have HE : Hid (digs 0 0 l = .error (s.data.toList.drop j, 1)) := Lib.hid (by rw [HD.out, HX.out, digs_cons, if_pos hq])
          have k0 : k ≠ 0 := by omega
          have kd : decide ((0 : Int) < (k : Int)) = true := by simp; omega
          have cf := fail_yes R s (j + 1) j 1 w2 h2
          by_cases bz : b = 0
          · subst bz
            rw [show (((0 : UInt8).toNat : Nat) : Int) = 0 from rfl]
            by_cases k9 : k = 9
            all_goals
              first
              | (have kb : ((k : Int) == 9) = true := by (rw [beq_iff_eq]; omega))
              | (have kb : ((k : Int) == 9) = false := by (rw [beq_eq_false_iff_ne]; omega))
              go_wp2_with fail
              (with_reducible refine cf.mono ?_)
              rintro x w3 ⟨rfl, h3, t3⟩
              have k2 := h3.cell 2
              simp only [List.getElem?_toArray, List.getElem?_cons_zero, List.getElem?_cons_succ] at k2
              go_wp2
              go_ret
              exact ⟨0, j, 1, rfl, ⟨by omega, by omega⟩, h3, hj, (ht.trans t2).trans t3, fun _ => rfl, by rw [ab_bad s j (e := 1) (by omega)]; exact num_err HA.out hc HE.out⟩
          · have b0 : 0 < b.toNat := by
              rcases Nat.eq_zero_or_pos b.toNat with h0 | h0
              · exact absurd (UInt8.toNat_inj.1 h0) bz
              · exact h0
            have bf : ((b.toNat : Int) == 0) = false := by rw [beq_eq_false_iff_ne]; omega
            have bp : decide ((0 : Int) < (b.toNat : Int)) = true := by simp; omega
            have kb : ((k : Int) == 9) = true := by rw [beq_iff_eq]; have := hq.resolve_left (fun h => bz h.2); omega
            go_wp2_with fail
            (with_reducible refine cf.mono ?_)
            rintro x w3 ⟨rfl, h3, t3⟩
            have k2 := h3.cell 2
            simp only [List.getElem?_toArray, List.getElem?_cons_zero, List.getElem?_cons_succ] at k2
            go_wp2
            go_ret
            exact ⟨0, j, 1, rfl, ⟨by omega, by omega⟩, h3, hj, (ht.trans t2).trans t3, fun _ => rfl, by rw [ab_bad s j (e := 1) (by omega)]; exact num_err HA.out hc HE.out⟩
        · have hz : ¬ (k ≠ 0 ∧ b = 0) := fun h => hq (Or.inl h)
          have h9 : k ≠ 9 := fun h => hq (Or.inr h)
          have k1 := h2.cell 1
          have k2 := h2.cell 2
          simp only [List.getElem?_toArray, List.getElem?_cons_zero, List.getElem?_cons_succ] at k1 k2
          have kb : ((k : Int) == 9) = false := by rw [beq_eq_false_iff_ne]; omega
          obtain ⟨x, hx⟩ : ∃ x, b.toNat % 128 = x := ⟨_, rfl⟩
          have hx2 : x < 128 := by omega
          obtain ⟨g1, g2, g3⟩ := next_dig x hm hx2 (by omega)
          obtain ⟨hw1, hw2⟩ := wraps (m := m) (k := k) (b := b) hx g2 g3
          obtain ⟨y, hy0⟩ : ∃ y, x * 128 ^ k = y := ⟨_, rfl⟩
          rw [hy0] at g1 g2 g3 hw1 hw2
          obtain ⟨z, hzz⟩ : ∃ z, m + y = z := ⟨_, rfl⟩
          rw [hzz] at g1 g2 hw2
          have HZ := Lib.hid hzz
          have HY := Lib.hid hy0
          have HXX := Lib.hid hx
          clear hx hzz hy0
          have zi : (0 : Int) ≤ (z : Int) ∧ (z : Int) ≤ 9223372036854775807 := by omega
          obtain ⟨zi1, zi2⟩ := zi
          by_cases k0 : k = 0
          · have kd : decide ((0 : Int) < (k : Int)) = false := by simp; omega
            have kd2 : decide (0 < k) = false := by simp; omega
            have kd3 : ¬ 0 < k := by omega
            have K0 := Lib.hid k0
            clear k0
            by_cases hb2 : b.toNat < 128
            · have HO : Hid (digs 0 0 l = .ok (z, s.data.toList.drop (j + 1))) := Lib.hid (by rw [HD.out, HX.out, digs_cons, if_neg (by rintro (hh | hh); exact hz hh; exact h9 hh), if_pos hb2, HXX.out, HY.out, HZ.out])
              have hb3 : decide ((b.toNat : Int) < 128) = true := by simp; omega
              by_cases c1 : c.toNat = 1
              · have hc1 : ((c.toNat : Int) == 1) = true := by rw [beq_iff_eq]; omega
                go_wp2
                go_ret
                exact ⟨-1 - (z : Int), j + 1, 0, by go_num, ⟨by omega, by omega⟩, h2, by omega, ht.trans t2, fun h => absurd rfl h, num_ok HA.out hc HO.out (by rw [if_pos c1])⟩
              · have hc1 : ((c.toNat : Int) == 1) = false := by rw [beq_eq_false_iff_ne]; omega
                go_wp2
                go_ret
                exact ⟨(z : Int), j + 1, 0, by go_num, ⟨by omega, by omega⟩, h2, by omega, ht.trans t2, fun h => absurd rfl h, num_ok HA.out hc HO.out (by rw [if_neg c1])⟩
            · have hb3 : decide ((b.toNat : Int) < 128) = false := by simp; omega
              have HO : Hid (digs 0 0 l = digs (k + 1) z (s.data.toList.drop (j + 1))) := Lib.hid (by rw [HD.out, HX.out, digs_cons, if_neg (by rintro (hh | hh); exact hz hh; exact h9 hh), if_neg hb2, HXX.out, HY.out, HZ.out])
              go_wp2
              go_roundw
              case rel => exact ⟨z, k + 1, j + 1, 0, by go_num, by go_num, by omega, by omega, h2, by omega, ht.trans t2, Or.inr ⟨rfl, l, HA, hc, HO⟩⟩
              case measure => simp [intOf] <;> omega
          · have kd : decide ((0 : Int) < (k : Int)) = true := by simp; omega
            have bz : ((b.toNat : Int) == 0) = false := by
              rw [beq_eq_false_iff_ne]; intro h
              exact hz ⟨k0, UInt8.toNat_inj.1 (show b.toNat = 0 by omega)⟩
            by_cases hb2 : b.toNat < 128
            · have HO : Hid (digs 0 0 l = .ok (z, s.data.toList.drop (j + 1))) := Lib.hid (by rw [HD.out, HX.out, digs_cons, if_neg (by rintro (hh | hh); exact hz hh; exact h9 hh), if_pos hb2, HXX.out, HY.out, HZ.out])
              have hb3 : decide ((b.toNat : Int) < 128) = true := by simp; omega
              by_cases c1 : c.toNat = 1
              · have hc1 : ((c.toNat : Int) == 1) = true := by rw [beq_iff_eq]; omega
                go_wp2
                go_ret
                exact ⟨-1 - (z : Int), j + 1, 0, by go_num, ⟨by omega, by omega⟩, h2, by omega, ht.trans t2, fun h => absurd rfl h, num_ok HA.out hc HO.out (by rw [if_pos c1])⟩
              · have hc1 : ((c.toNat : Int) == 1) = false := by rw [beq_eq_false_iff_ne]; omega
                go_wp2
                go_ret
                exact ⟨(z : Int), j + 1, 0, by go_num, ⟨by omega, by omega⟩, h2, by omega, ht.trans t2, fun h => absurd rfl h, num_ok HA.out hc HO.out (by rw [if_neg c1])⟩
            · have hb3 : decide ((b.toNat : Int) < 128) = false := by simp; omega
              have HO : Hid (digs 0 0 l = digs (k + 1) z (s.data.toList.drop (j + 1))) := Lib.hid (by rw [HD.out, HX.out, digs_cons, if_neg (by rintro (hh | hh); exact hz hh; exact h9 hh), if_neg hb2, HXX.out, HY.out, HZ.out])
              go_wp2
              go_roundw
              case rel => exact ⟨z, k + 1, j + 1, 0, by go_num, by go_num, by omega, by omega, h2, by omega, ht.trans t2, Or.inr ⟨rfl, l, HA, hc, HO⟩⟩
              case measure => simp [intOf] <;> omega
end StaRq
end Go.Proofs.Ytfkjogkpdebepaa
