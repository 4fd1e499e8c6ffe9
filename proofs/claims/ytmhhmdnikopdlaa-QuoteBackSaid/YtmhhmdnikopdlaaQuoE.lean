/- The walks of the reference's reader: a hex digit, a byte, what stands behind a stroke. Conditions: texts that fit. -/
import Derived.Test.YtmhhmdnikopdlaaQuoU
namespace Go.Proofs.Ytmhhmdnikopdlaa
open Go.RowKit
namespace QuoE
open QuoP QuoW QuoR
def digV (c : UInt8) : Int := if hexB c then (hexN c : Int) else -1
theorem dig_1 {c : UInt8} (h : hexB c = true) (h0 : digB c = true) : (c.toNat : Int) - 48 = digV c := by
  simp only [digB, Bool.and_eq_true, decide_eq_true_eq] at h0
  rw [digV, if_pos h, hexN, if_pos (by simp [digB]; omega)]; omega
theorem dig_2 {c : UInt8} (h : hexB c = true) (h0 : digB c = false) (h1 : 97 ≤ c.toNat) : (c.toNat : Int) - 97 + 10 = digV c := by
  rw [digV, if_pos h, hexN, if_neg (by simp [h0])]; omega
theorem ret_i {a b : Int} (h : a = b) : Ending.returned (.int .i64 a) = .returned (.int .i64 b) := by rw [h]
theorem digit_c (c : UInt8) (w : World) : Calls Try.prog 67 #[.int .u8 c.toNat] w fun e w' => e = .returned (.int .i64 (digV c)) ∧ w = w' := by
  have hl := c.toNat_lt
  by_cases l1 : 48 ≤ c.toNat ∧ c.toNat ≤ 57
  · have d1 : decide ((48 : Int) ≤ (c.toNat : Int)) = true := by simp; omega
    have d2 : decide ((c.toNat : Int) ≤ (57 : Int)) = true := by simp; omega
    have e := dig_1 (c := c) (by simp [hexB, digB]; omega) (by simp [digB]; omega)
    have E := Lib.hid e
    clear e
    go_enter Try.func67, Try.ntmps67
    go_wp2
    go_ret
    exact ⟨ret_i E.out, rfl⟩
  · by_cases l2 : 97 ≤ c.toNat ∧ c.toNat ≤ 102
    · have d1 : decide ((c.toNat : Int) ≤ (57 : Int)) = false := by simp; omega
      have d0 : decide ((48 : Int) ≤ (c.toNat : Int)) = true := by simp; omega
      have d2 : decide ((97 : Int) ≤ (c.toNat : Int)) = true := by simp; omega
      have d3 : decide ((c.toNat : Int) ≤ (102 : Int)) = true := by simp; omega
      have e := dig_2 (c := c) (by simp [hexB, digB]; omega) (by simp [digB]; omega) l2.1
      have E := Lib.hid e
      clear e
      go_enter Try.func67, Try.ntmps67
      go_wp2
      go_ret
      exact ⟨ret_i E.out, rfl⟩
    · have e : (-1 : Int) = digV c := by rw [digV, if_neg]; simp [hexB, digB]; omega
      have E := Lib.hid e
      clear e
      go_enter Try.func67, Try.ntmps67
      go_wp2
      all_goals first | (exfalso; omega) | skip
      all_goals (go_ret; exact ⟨ret_i E.out, rfl⟩)
def atB (s : ByteArray) (i : Nat) : UInt8 := (s.data.toList.drop i).headD 0
theorem at_c (s : ByteArray) (i : Nat) (w : World) (hs : s.size ≤ 4611686018427387904) : Calls Try.prog 43 #[.string s, .int .i64 (i : Nat)] w fun e w' => e = .returned (.int .u8 (atB s i).toNat) ∧ w = w' := by
  by_cases h : i < s.size
  · have hd : atB s i = s[i]'h := by rw [atB, drop_cons s i h]; rfl
    rw [hd]
    go_enter Try.func43, Try.ntmps43
    go_wp2
    go_ret
    exact ⟨rfl, rfl⟩
  · have hd : atB s i = 0 := by rw [atB, List.drop_eq_nil_of_le (by rw [← Lib.size_eq]; omega)]; rfl
    rw [hd]
    go_enter Try.func43, Try.ntmps43
    go_wp2
    go_ret
    exact ⟨rfl, rfl⟩
theorem atB_is {s : ByteArray} {i : Nat} {c : UInt8} {r : Bs} (h : s.data.toList.drop i = c :: r) : atB s i = c := by rw [atB, h]; rfl
/-- What 'escape' answers. -/
def EPost (s : ByteArray) (i : Nat) (w : World) (e : Ending) (w' : World) : Prop := Below w.heap.size w w' ∧ ∃ (c : UInt8) (n k : Int), e = .returned (.tuple #[.int .u8 c.toNat, .int .i64 n, .int .i64 k]) ∧
  ((n = -1 ∧ ∃ j : Nat, k = j ∧ i ≤ j ∧ j ≤ s.size ∧ ∀ o t, run .esc o t (s.data.toList.drop i) = .bad (s.data.toList.drop j)) ∨
  (∃ m : Nat, n = m ∧ 1 ≤ m ∧ i + m ≤ s.size ∧ ∀ o t, run .esc o t (s.data.toList.drop i) = run .text o (t ++ [c]) (s.data.toList.drop (i + m))))
set_option maxHeartbeats 1600000 in
theorem rescape_hex (s : ByteArray) (i : Nat) (w : World) (x y : UInt8) (a b : Nat) (hlt2 : i + 2 < s.size) (hs : s.size ≤ 4294967296)
    (ca : ∀ W, Calls Try.prog 43 #[.string s, .int .i64 (i : Nat)] W fun e w' => e = .returned (.int .u8 120) ∧ W = w') (hx : s[i + 1]'(by omega) = x) (hy : s[i + 2]'hlt2 = y)
    (cd1 : ∀ W, Calls Try.prog 67 #[.int .u8 x.toNat] W fun e w' => e = .returned (.int .i64 (a : Int)) ∧ W = w') (cd2 : ∀ W, Calls Try.prog 67 #[.int .u8 y.toNat] W fun e w' => e = .returned (.int .i64 (b : Int)) ∧ W = w')
    (g1' : a < 16) (g2' : b < 16) (hr : ∀ o t, run .esc o t (s.data.toList.drop i) = run .text o (t ++ [UInt8.ofNat (a * 16 + b)]) (s.data.toList.drop (i + 3))) : Calls Try.prog 45 #[.string s, .int .i64 (i : Nat)] w (EPost s i w) := by
    have HR := Lib.hid hr
    clear hr
    have b1 : (i : Int) + 1 < (s.size : Int) := by omega
    have b2 : (i : Int) + 2 < (s.size : Int) := by omega
    go_enter Try.func45, Try.ntmps45
    go_wp2_with fail
    (with_reducible refine (ca _).mono ?_)
    rintro e w' ⟨rfl, rfl⟩
    go_wp2
    refine wp_loop_rounds 3 ?_
    rw [rounds_succ]
    go_wp2_with (first | (with_reducible refine (cd1 _).mono ?_; rintro e w' ⟨rfl, rfl⟩))
    rw [rounds_succ]
    go_wp2_with (first | (with_reducible refine (cd2 _).mono ?_; rintro e w' ⟨rfl, rfl⟩))
    rw [rounds_succ]
    go_wp2_with fail
    go_quiet (first | (with_reducible exact quiet_w (fun m => cd1 (w.drewN m))) | (with_reducible exact quiet_w (fun m => cd2 (w.drewN m))))
    go_wp2
    go_returns
    have e : ((UInt8.ofNat (a * 16 + b)).toNat : Int) = (a : Int) * 16 + (b : Int) := by rw [UInt8.toNat_ofNat']; omega
    refine ⟨below_dn (Below.refl _ _) _, UInt8.ofNat (a * 16 + b), 3, 0, ?_, Or.inr ⟨3, rfl, by omega, by omega, HR.out⟩⟩
    rw [e]; rfl
set_option maxHeartbeats 1600000 in
theorem rescape_c (s : ByteArray) (i : Nat) (w : World) (hi : i ≤ s.size) (hs : s.size ≤ 4294967296) : Calls Try.prog 45 #[.string s, .int .i64 (i : Nat)] w (EPost s i w) := by
  have ca := fun W => at_c s i W (by omega)
  by_cases h0 : s.size ≤ i
  · have en : s.data.toList.drop i = [] := List.drop_eq_nil_of_le (by rw [← Lib.size_eq]; omega)
    go_enter Try.func45, Try.ntmps45
    go_wp2_with fail
    (with_reducible refine (ca _).mono ?_)
    rintro e w' ⟨rfl, rfl⟩
    go_wp2
    go_returns
    exact ⟨Below.refl _ _, 0, -1, i, rfl, Or.inl ⟨rfl, i, rfl, Nat.le_refl _, by omega, fun o t => by rw [en]; rfl⟩⟩
  have hlt : i < s.size := by omega
  have hd := drop_cons s i hlt
  obtain ⟨c, hc⟩ : ∃ c, s[i]'hlt = c := ⟨_, rfl⟩
  rw [hc] at hd
  clear hc
  have hA := atB_is hd
  rw [hA] at ca
  clear hA
  have HD := Lib.hid hd
  clear hd
  obtain ⟨z, hz⟩ : ∃ z : Int, (c.toNat : Int) = z := ⟨_, rfl⟩
  rw [hz] at ca
  by_cases e110 : c = 110
  · subst e110
    obtain rfl : z = 110 := hz.symm
    go_enter Try.func45, Try.ntmps45
    go_wp2_with fail
    (with_reducible refine (ca _).mono ?_)
    rintro e w' ⟨rfl, rfl⟩
    go_wp2
    go_returns
    exact ⟨Below.refl _ _, 10, 1, 0, rfl, Or.inr ⟨1, rfl, by omega, by omega, fun o t => by rw [HD.out, run_go _ (show QuoP.step .esc o t 110 = .go .text o (t ++ [10]) from rfl)]⟩⟩
  by_cases e114 : c = 114
  · subst e114
    obtain rfl : z = 114 := hz.symm
    go_enter Try.func45, Try.ntmps45
    go_wp2_with fail
    (with_reducible refine (ca _).mono ?_)
    rintro e w' ⟨rfl, rfl⟩
    go_wp2
    go_returns
    exact ⟨Below.refl _ _, 13, 1, 0, rfl, Or.inr ⟨1, rfl, by omega, by omega, fun o t => by rw [HD.out, run_go _ (show QuoP.step .esc o t 114 = .go .text o (t ++ [13]) from rfl)]⟩⟩
  by_cases e116 : c = 116
  · subst e116
    obtain rfl : z = 116 := hz.symm
    go_enter Try.func45, Try.ntmps45
    go_wp2_with fail
    (with_reducible refine (ca _).mono ?_)
    rintro e w' ⟨rfl, rfl⟩
    go_wp2
    go_returns
    exact ⟨Below.refl _ _, 9, 1, 0, rfl, Or.inr ⟨1, rfl, by omega, by omega, fun o t => by rw [HD.out, run_go _ (show QuoP.step .esc o t 116 = .go .text o (t ++ [9]) from rfl)]⟩⟩
  by_cases e34 : c = 34
  · subst e34
    obtain rfl : z = 34 := hz.symm
    go_enter Try.func45, Try.ntmps45
    go_wp2_with fail
    (with_reducible refine (ca _).mono ?_)
    rintro e w' ⟨rfl, rfl⟩
    go_wp2
    go_returns
    exact ⟨Below.refl _ _, 34, 1, 0, rfl, Or.inr ⟨1, rfl, by omega, by omega, fun o t => by rw [HD.out, run_go _ (show QuoP.step .esc o t 34 = .go .text o (t ++ [34]) from rfl)]⟩⟩
  by_cases e92 : c = 92
  · subst e92
    obtain rfl : z = 92 := hz.symm
    go_enter Try.func45, Try.ntmps45
    go_wp2_with fail
    (with_reducible refine (ca _).mono ?_)
    rintro e w' ⟨rfl, rfl⟩
    go_wp2
    go_returns
    exact ⟨Below.refl _ _, 92, 1, 0, rfl, Or.inr ⟨1, rfl, by omega, by omega, fun o t => by rw [HD.out, run_go _ (show QuoP.step .esc o t 92 = .go .text o (t ++ [92]) from rfl)]⟩⟩
  by_cases e36 : c = 36
  · subst e36
    obtain rfl : z = 36 := hz.symm
    go_enter Try.func45, Try.ntmps45
    go_wp2_with fail
    (with_reducible refine (ca _).mono ?_)
    rintro e w' ⟨rfl, rfl⟩
    go_wp2
    go_returns
    exact ⟨Below.refl _ _, 36, 1, 0, rfl, Or.inr ⟨1, rfl, by omega, by omega, fun o t => by rw [HD.out, run_go _ (show QuoP.step .esc o t 36 = .go .text o (t ++ [36]) from rfl)]⟩⟩
  have z110 : (z == 110) = false := by subst hz; rw [beq_eq_false_iff_ne]; intro h; exact e110 (UInt8.toNat_inj.1 (by show c.toNat = 110; omega))
  have z114 : (z == 114) = false := by subst hz; rw [beq_eq_false_iff_ne]; intro h; exact e114 (UInt8.toNat_inj.1 (by show c.toNat = 114; omega))
  have z116 : (z == 116) = false := by subst hz; rw [beq_eq_false_iff_ne]; intro h; exact e116 (UInt8.toNat_inj.1 (by show c.toNat = 116; omega))
  have z34 : (z == 34) = false := by subst hz; rw [beq_eq_false_iff_ne]; intro h; exact e34 (UInt8.toNat_inj.1 (by show c.toNat = 34; omega))
  have z92 : (z == 92) = false := by subst hz; rw [beq_eq_false_iff_ne]; intro h; exact e92 (UInt8.toNat_inj.1 (by show c.toNat = 92; omega))
  have z36 : (z == 36) = false := by subst hz; rw [beq_eq_false_iff_ne]; intro h; exact e36 (UInt8.toNat_inj.1 (by show c.toNat = 36; omega))
  by_cases e120 : c = 120
  · subst e120
    obtain rfl : z = 120 := hz.symm
    clear z110 z114 z116 z34 z92 z36 e110 e114 e116 e34 e92 e36 hz
    have E1 : ∀ o t, run .esc o t (s.data.toList.drop i) = run .hex1 o t (s.data.toList.drop (i + 1)) := fun o t => by rw [HD.out, run_go _ (show QuoP.step .esc o t 120 = .go .hex1 o t from rfl)]
    have HE1 := Lib.hid E1
    clear E1
    by_cases h1 : s.size ≤ i + 1
    · have en : Hid (s.data.toList.drop (i + 1) = []) := Lib.hid (List.drop_eq_nil_of_le (by rw [← Lib.size_eq]; omega))
      go_enter Try.func45, Try.ntmps45
      go_wp2_with fail
      (with_reducible refine (ca _).mono ?_)
      rintro e w' ⟨rfl, rfl⟩
      go_wp2
      refine wp_loop_rounds 3 ?_
      rw [rounds_succ]
      go_wp2
      go_returns
      exact ⟨Below.refl _ _, 0, -1, (i + 1 : Nat), rfl, Or.inl ⟨rfl, i + 1, rfl, by omega, by omega, fun o t => by rw [HE1.out, en.out]; rfl⟩⟩
    have hlt1 : i + 1 < s.size := by omega
    have hd1 := drop_cons s (i + 1) hlt1
    obtain ⟨x, hx⟩ : ∃ x, s[i + 1]'hlt1 = x := ⟨_, rfl⟩
    rw [hx] at hd1
    have HD1 := Lib.hid hd1
    clear hd1
    have cd1 := fun W => digit_c x W
    cases g1 : hexB x
    · rw [show digV x = -1 by simp [digV, g1]] at cd1
      go_enter Try.func45, Try.ntmps45
      go_wp2_with fail
      (with_reducible refine (ca _).mono ?_)
      rintro e w' ⟨rfl, rfl⟩
      go_wp2
      refine wp_loop_rounds 3 ?_
      rw [rounds_succ]
      go_wp2_with (first | (with_reducible refine (cd1 _).mono ?_; rintro e w' ⟨rfl, rfl⟩))
      go_returns
      refine ⟨Below.refl _ _, 0, -1, (i + 1 : Nat), rfl, Or.inl ⟨rfl, i + 1, rfl, by omega, by omega, fun o t => ?_⟩⟩
      rw [HE1.out]
      refine run_stop _ _ _ _ fun c r e => ?_
      rw [HD1.out] at e; injection e with e1 e2; subst e1
      simp [QuoP.step, g1]
    have g1' := hexN_lt x g1
    obtain ⟨a, ha⟩ : ∃ a, hexN x = a := ⟨_, rfl⟩
    rw [show digV x = (hexN x : Int) by simp [digV, g1], ha] at cd1
    rw [ha] at g1'
    have HE2 : Hid (∀ o t, run .esc o t (s.data.toList.drop i) = run (.hex2 x) o t (s.data.toList.drop (i + 2))) := Lib.hid fun o t => by rw [HE1.out, HD1.out, run_go _ (show QuoP.step .hex1 o t x = .go (.hex2 x) o t by simp [QuoP.step, g1])]
    by_cases h2 : s.size ≤ i + 2
    · have en : Hid (s.data.toList.drop (i + 2) = []) := Lib.hid (List.drop_eq_nil_of_le (by rw [← Lib.size_eq]; omega))
      go_enter Try.func45, Try.ntmps45
      go_wp2_with fail
      (with_reducible refine (ca _).mono ?_)
      rintro e w' ⟨rfl, rfl⟩
      go_wp2
      refine wp_loop_rounds 3 ?_
      rw [rounds_succ]
      go_wp2_with (first | (with_reducible refine (cd1 _).mono ?_; rintro e w' ⟨rfl, rfl⟩))
      rw [rounds_succ]
      go_wp2
      go_returns
      exact ⟨Below.refl _ _, 0, -1, (i + 2 : Nat), rfl, Or.inl ⟨rfl, i + 2, rfl, by omega, by omega, fun o t => by rw [HE2.out, en.out]; rfl⟩⟩
    have hlt2 : i + 2 < s.size := by omega
    have hd2 := drop_cons s (i + 2) hlt2
    obtain ⟨y, hy⟩ : ∃ y, s[i + 2]'hlt2 = y := ⟨_, rfl⟩
    rw [hy] at hd2
    have HD2 := Lib.hid hd2
    clear hd2
    have cd2 := fun W => digit_c y W
    cases g2 : hexB y
    · rw [show digV y = -1 by simp [digV, g2]] at cd2
      go_enter Try.func45, Try.ntmps45
      go_wp2_with fail
      (with_reducible refine (ca _).mono ?_)
      rintro e w' ⟨rfl, rfl⟩
      go_wp2
      refine wp_loop_rounds 3 ?_
      rw [rounds_succ]
      go_wp2_with (first | (with_reducible refine (cd1 _).mono ?_; rintro e w' ⟨rfl, rfl⟩))
      rw [rounds_succ]
      go_wp2_with (first | (with_reducible refine (cd2 _).mono ?_; rintro e w' ⟨rfl, rfl⟩))
      go_returns
      refine ⟨Below.refl _ _, 0, -1, (i + 2 : Nat), rfl, Or.inl ⟨rfl, i + 2, rfl, by omega, by omega, fun o t => ?_⟩⟩
      rw [HE2.out]
      refine run_stop _ _ _ _ fun c r e => ?_
      rw [HD2.out] at e; injection e with e1 e2; subst e1
      simp [QuoP.step, g2]
    have g2' := hexN_lt y g2
    obtain ⟨b, hb⟩ : ∃ b, hexN y = b := ⟨_, rfl⟩
    rw [show digV y = (hexN y : Int) by simp [digV, g2], hb] at cd2
    rw [hb] at g2'
    exact rescape_hex s i w x y a b hlt2 hs ca hx hy cd1 cd2 g1' g2' (fun o t => by rw [HE2.out, HD2.out, run_go _ (show QuoP.step (.hex2 x) o t y = .go .text o (t ++ [UInt8.ofNat (hexN x * 16 + hexN y)]) by simp [QuoP.step, g2]), ha, hb])
  · have z120 : (z == 120) = false := by subst hz; rw [beq_eq_false_iff_ne]; intro h; exact e120 (UInt8.toNat_inj.1 (by show c.toNat = 120; omega))
    go_enter Try.func45, Try.ntmps45
    go_wp2_with fail
    (with_reducible refine (ca _).mono ?_)
    rintro e w' ⟨rfl, rfl⟩
    go_wp2
    go_returns
    refine ⟨Below.refl _ _, 0, -1, i, rfl, Or.inl ⟨rfl, i, rfl, Nat.le_refl _, by omega, fun o t => run_stop _ _ _ _ fun d r e => ?_⟩⟩
    rw [HD.out] at e; injection e with e1 e2; subst e1
    simp [QuoP.step, e110, e114, e116, e34, e92, e36, e120]
end QuoE
end Go.Proofs.Ytmhhmdnikopdlaa
