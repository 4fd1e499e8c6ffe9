/- The walk of the reference's reader: a variable. Conditions: texts that fit. -/
import Derived.Test.YtmhhmdnikopdlaaQuoE
namespace Go.Proofs.Ytmhhmdnikopdlaa
open Go.RowKit
namespace QuoE
open QuoP QuoW QuoR
/-- What 'variable' answers. -/
def VPost (s : ByteArray) (i : Nat) (w : World) (e : Ending) (w' : World) : Prop := Below w.heap.size w w' ∧ ∃ (nm : ByteArray) (n k : Int), e = .returned (.tuple #[.string nm, .int .i64 n, .int .i64 k]) ∧
  ((n = -1 ∧ ∃ j : Nat, k = j ∧ i ≤ j ∧ j ≤ s.size ∧ ∀ o t, run .dollar o t (s.data.toList.drop i) = .bad (s.data.toList.drop j)) ∨
  (∃ m : Nat, n = m ∧ 1 ≤ m ∧ i + m ≤ s.size ∧ ∀ o t, run .dollar o t (s.data.toList.drop i) = run .text (o ++ [(nm.data.toList, [])]) t (s.data.toList.drop (i + m))))
theorem atB_no {s : ByteArray} {i : Nat} {x : UInt8} (hx : x ≠ 0) (h : atB s i ≠ x) : ∀ c r, s.data.toList.drop i = c :: r → c ≠ x := by
  intro c r e; rw [atB_is e] at h; exact h
theorem atB_yes {s : ByteArray} {i : Nat} {x : UInt8} (hx : x ≠ 0) (h : atB s i = x) : i < s.size ∧ s.data.toList.drop i = x :: s.data.toList.drop (i + 1) := by
  have hlt : i < s.size := by
    rcases Nat.lt_or_ge i s.size with h' | h'
    · exact h'
    · rw [atB, List.drop_eq_nil_of_le (by rw [← Lib.size_eq]; omega)] at h; exact absurd h.symm hx
  have hd := drop_cons s i hlt
  rw [atB_is hd] at h
  exact ⟨hlt, by rw [hd, h]⟩
theorem int_ne {c : UInt8} {n : Nat} (h : c.toNat ≠ n) : ((c.toNat : Int) == (n : Int)) = false := by rw [beq_eq_false_iff_ne]; omega
set_option maxHeartbeats 3200000 in
theorem rvariable_c (s : ByteArray) (i : Nat) (w : World) (hi : i ≤ s.size) (hs : s.size ≤ 4294967296) : Calls Try.prog 44 #[.string s, .int .i64 (i : Nat)] w (VPost s i w) := by
  have ca0 := fun W => at_c s i W (by omega)
  by_cases e0 : atB s i = 123
  rotate_left
  · obtain ⟨z, hz⟩ : ∃ z : Int, ((atB s i).toNat : Int) = z := ⟨_, rfl⟩
    rw [hz] at ca0
    have z0 : (z == 123) = false := by subst hz; rw [beq_eq_false_iff_ne]; intro h; exact e0 (UInt8.toNat_inj.1 (by show (atB s i).toNat = 123; omega))
    have z1 : (z != 123) = true := by simp [bne, z0]
    go_enter Try.func44, Try.ntmps44
    go_wp2_with fail
    (with_reducible refine (ca0 _).mono ?_)
    rintro e w' ⟨rfl, rfl⟩
    go_wp2
    go_returns
    refine ⟨Below.refl _ _, _, -1, i, rfl, Or.inl ⟨rfl, i, rfl, Nat.le_refl _, hi, fun o t => run_stop _ _ _ _ fun c r e => ?_⟩⟩
    have := atB_no (x := 123) (by decide) e0 c r e
    simp [QuoP.step, this]
  obtain ⟨hlt, hd⟩ := atB_yes (by decide) e0
  rw [e0, show (((123 : UInt8).toNat : Nat) : Int) = 123 from rfl] at ca0
  have HE1 : Hid (∀ o t, run .dollar o t (s.data.toList.drop i) = run .brace o t (s.data.toList.drop (i + 1))) := Lib.hid fun o t => by rw [hd, run_go _ (show QuoP.step .dollar o t 123 = .go .brace o t from rfl)]
  clear hd e0
  have ca1 := fun W => at_c s (i + 1) W (by omega)
  rw [show ((i + 1 : Nat) : Int) = (i : Int) + 1 from by omega] at ca1
  obtain ⟨c, hc⟩ : ∃ c, atB s (i + 1) = c := ⟨_, rfl⟩
  rw [hc] at ca1
  have cs1 := fun W => small_c c W false
  rw [show smallB c false = letterB c by simp [smallB]] at cs1
  by_cases h1 : s.size ≤ i + 1
  · have en : Hid (s.data.toList.drop (i + 1) = []) := Lib.hid (List.drop_eq_nil_of_le (by rw [← Lib.size_eq]; omega))
    go_enter Try.func44, Try.ntmps44
    go_wp2_with (first | (with_reducible refine (ca0 _).mono ?_; rintro e w' ⟨rfl, rfl⟩) | (with_reducible refine (ca1 _).mono ?_; rintro e w' ⟨rfl, rfl⟩))
    go_returns
    exact ⟨Below.refl _ _, _, -1, (i + 1 : Nat), rfl, Or.inl ⟨rfl, i + 1, rfl, by omega, by omega, fun o t => by rw [HE1.out, en.out]; rfl⟩⟩
  have hlt1 : i + 1 < s.size := by omega
  have hd1 := drop_cons s (i + 1) hlt1
  rw [← atB_is hd1, hc] at hd1
  clear hc
  have HD1 := Lib.hid hd1
  clear hd1
  have hcl := c.toNat_lt
  cases hl : letterB c <;> rw [hl] at cs1
  · by_cases h2 : digB c = true
    rotate_left
    · rw [Bool.not_eq_true] at h2
      have NO : Hid (∀ o t, run .brace o t (s.data.toList.drop (i + 1)) = .bad (s.data.toList.drop (i + 1))) := Lib.hid fun o t => run_stop _ _ _ _ fun d r e => by
        rw [HD1.out] at e; injection e with e1 e2; subst e1; simp [QuoP.step, hl, h2]
      have h2' : ¬ (48 ≤ c.toNat ∧ c.toNat ≤ 57) := by simpa [digB] using h2
      clear h2
      by_cases l1 : 48 ≤ c.toNat
      · have d1 : decide ((48 : Int) ≤ (c.toNat : Int)) = true := by simp; omega
        have d2 : decide ((c.toNat : Int) ≤ (57 : Int)) = false := by simp; omega
        go_enter Try.func44, Try.ntmps44
        go_wp2_with (first | (with_reducible refine (ca0 _).mono ?_; rintro e w' ⟨rfl, rfl⟩) | (with_reducible refine (ca1 _).mono ?_; rintro e w' ⟨rfl, rfl⟩) | (with_reducible refine (cs1 _).mono ?_; rintro e w' ⟨rfl, rfl⟩))
        go_returns
        exact ⟨Below.refl _ _, _, -1, (i + 1 : Nat), rfl, Or.inl ⟨rfl, i + 1, rfl, by omega, by omega, fun o t => by rw [HE1.out, NO.out]⟩⟩
      · have d1 : decide ((48 : Int) ≤ (c.toNat : Int)) = false := by simp; omega
        go_enter Try.func44, Try.ntmps44
        go_wp2_with (first | (with_reducible refine (ca0 _).mono ?_; rintro e w' ⟨rfl, rfl⟩) | (with_reducible refine (ca1 _).mono ?_; rintro e w' ⟨rfl, rfl⟩) | (with_reducible refine (cs1 _).mono ?_; rintro e w' ⟨rfl, rfl⟩))
        go_returns
        exact ⟨Below.refl _ _, _, -1, (i + 1 : Nat), rfl, Or.inl ⟨rfl, i + 1, rfl, by omega, by omega, fun o t => by rw [HE1.out, NO.out]⟩⟩
    have h2' : 48 ≤ c.toNat ∧ c.toNat ≤ 57 := by simpa [digB] using h2
    have HE2 : Hid (∀ o t, run .dollar o t (s.data.toList.drop i) = run (.nam [c]) o t (s.data.toList.drop (i + 2))) := Lib.hid fun o t => by rw [HE1.out, HD1.out, run_go _ (show QuoP.step .brace o t c = .go (.nam [c]) o t by simp [QuoP.step, h2])]
    have d1 : decide ((48 : Int) ≤ (c.toNat : Int)) = true := by simp; omega
    have d2 : decide ((c.toNat : Int) ≤ (57 : Int)) = true := by simp; omega
    clear h2
    have ca2 := fun W => at_c s (i + 2) W (by omega)
    rw [show ((i + 2 : Nat) : Int) = (i : Int) + 2 from by omega] at ca2
    by_cases e2 : atB s (i + 2) = 125
    · obtain ⟨hlt2, hd2⟩ := atB_yes (by decide) e2
      rw [e2, show (((125 : UInt8).toNat : Nat) : Int) = 125 from rfl] at ca2
      have HD2 := Lib.hid hd2
      clear hd2 e2
      go_enter Try.func44, Try.ntmps44
      go_wp2_with (first | (with_reducible refine (ca0 _).mono ?_; rintro e w' ⟨rfl, rfl⟩) | (with_reducible refine (ca1 _).mono ?_; rintro e w' ⟨rfl, rfl⟩) | (with_reducible refine (cs1 _).mono ?_; rintro e w' ⟨rfl, rfl⟩) | (with_reducible refine (ca2 _).mono ?_; rintro e w' ⟨rfl, rfl⟩))
      go_returns
      refine ⟨Below.refl _ _, s.extract (i + 1) (i + 2), (i : Int) + 2 + 1 - i, 0, rfl, Or.inr ⟨3, by omega, by omega, by omega, fun o t => ?_⟩⟩
      rw [HE2.out, HD2.out, run_go _ (show QuoP.step (.nam [c]) o t 125 = .go .text (o ++ [([c], [])]) t from rfl), extract_list, HD1.out]
      simp
    · obtain ⟨z, hz⟩ : ∃ z : Int, ((atB s (i + 2)).toNat : Int) = z := ⟨_, rfl⟩
      rw [hz] at ca2
      have z0 : (z == 125) = false := by subst hz; rw [beq_eq_false_iff_ne]; intro h; exact e2 (UInt8.toNat_inj.1 (by show (atB s (i + 2)).toNat = 125; omega))
      have z1 : (z != 125) = true := by simp [bne, z0]
      go_enter Try.func44, Try.ntmps44
      go_wp2_with (first | (with_reducible refine (ca0 _).mono ?_; rintro e w' ⟨rfl, rfl⟩) | (with_reducible refine (ca1 _).mono ?_; rintro e w' ⟨rfl, rfl⟩) | (with_reducible refine (cs1 _).mono ?_; rintro e w' ⟨rfl, rfl⟩) | (with_reducible refine (ca2 _).mono ?_; rintro e w' ⟨rfl, rfl⟩))
      go_returns
      refine ⟨Below.refl _ _, _, -1, (i + 2 : Nat), rfl, Or.inl ⟨rfl, i + 2, rfl, by omega, by omega, fun o t => ?_⟩⟩
      rw [HE2.out]
      refine run_stop _ _ _ _ fun d r e => ?_
      have hn := atB_no (x := 125) (by decide) e2 d r e
      simp [QuoP.step, hn, hl]
  · have HE2 : Hid (∀ o t, run .dollar o t (s.data.toList.drop i) = run (.nam [c]) o t (s.data.toList.drop (i + 2))) := Lib.hid fun o t => by rw [HE1.out, HD1.out, run_go _ (show QuoP.step .brace o t c = .go (.nam [c]) o t by simp [QuoP.step, hl])]
    go_enter Try.func44, Try.ntmps44
    go_wp2_with (first | (with_reducible refine (ca0 _).mono ?_; rintro e w' ⟨rfl, rfl⟩) | (with_reducible refine (ca1 _).mono ?_; rintro e w' ⟨rfl, rfl⟩) | (with_reducible refine (cs1 _).mono ?_; rintro e w' ⟨rfl, rfl⟩))
    go_loop [8] (fun v => ∃ j : Nat, v = .int .i64 j ∧ i + 2 ≤ j ∧ j ≤ s.size ∧ j ≤ i + 9 ∧ Hid (∀ o t, run .dollar o t (s.data.toList.drop i) = run (.nam (nmTo s (i + 1) j)) o t (s.data.toList.drop j))) (fun v => s.size - (intOf v).toNat)
    case atStart => exact ⟨i + 2, rfl, by omega, by omega, by omega, Lib.hid fun o t => by rw [HE2.out, nmTo_one HD1.out]⟩
    case round =>
      obtain ⟨j, rfl, hj0, hj1, hj2, HJ⟩ := hrel
      have caj := fun W => at_c s j W (by omega)
      by_cases g1 : j < s.size
      · have gd1 : decide (j < s.size) = true := by simpa using g1
        by_cases g2 : j < i + 9
        · have hdj := drop_cons s j g1
          obtain ⟨x, hx⟩ : ∃ x, s[j]'g1 = x := ⟨_, rfl⟩
          rw [hx] at hdj
          have csx := fun W => small_c x W true
          rw [show smallB x true = withB x by simp [smallB, withB, Bool.or_assoc]] at csx
          have HX := Lib.hid hdj
          clear hdj
          cases hw : withB x <;> rw [hw] at csx
          · skip
            have EX : Hid (∀ x r, s.data.toList.drop j = x :: r → ((nmTo s (i + 1) j).head?.any letterB && decide ((nmTo s (i + 1) j).length < 8) && withB x) = false) := Lib.hid fun x r e => by
              rw [HX.out] at e; injection e with e1 e2; subst e1; rw [hw, Bool.and_false]
            by_cases e2 : atB s j = 125
            · obtain ⟨hlt2, hd2⟩ := atB_yes (by decide) e2
              rw [e2, show (((125 : UInt8).toNat : Nat) : Int) = 125 from rfl] at caj
              have HD2 := Lib.hid hd2
              clear hd2 e2
              go_wp2_with (first | (with_reducible refine (caj _).mono ?_; rintro e w' ⟨rfl, rfl⟩) | (with_reducible refine (csx _).mono ?_; rintro e w' ⟨rfl, rfl⟩))
              go_returns
              refine ⟨Below.refl _ _, s.extract (i + 1) j, (j : Int) + 1 - i, 0, rfl, Or.inr ⟨j + 1 - i, by omega, by omega, by omega, fun o t => ?_⟩⟩
              rw [HJ.out, HD2.out, run_go _ (show QuoP.step (.nam (nmTo s (i + 1) j)) o t 125 = .go .text (o ++ [(nmTo s (i + 1) j, [])]) t from rfl), extract_list, show i + (j + 1 - i) = j + 1 by omega]
              rfl
            · obtain ⟨z, hz⟩ : ∃ z : Int, ((atB s j).toNat : Int) = z := ⟨_, rfl⟩
              rw [hz] at caj
              have z0 : (z == 125) = false := by subst hz; rw [beq_eq_false_iff_ne]; intro h; exact e2 (UInt8.toNat_inj.1 (by show (atB s j).toNat = 125; omega))
              have z1 : (z != 125) = true := by simp [bne, z0]
              have NO := Lib.hid (atB_no (x := 125) (by decide) e2)
              clear e2 hz
              go_wp2_with (first | (with_reducible refine (caj _).mono ?_; rintro e w' ⟨rfl, rfl⟩) | (with_reducible refine (csx _).mono ?_; rintro e w' ⟨rfl, rfl⟩))
              go_returns
              refine ⟨Below.refl _ _, _, -1, (j : Nat), rfl, Or.inl ⟨rfl, j, rfl, by omega, by omega, fun o t => ?_⟩⟩
              rw [HJ.out]
              refine run_stop _ _ _ _ fun d r e => ?_
              have hn := NO.out d r e
              have h2 := EX.out d r e
              simp only [QuoP.step]
              rw [if_neg hn, h2]; rfl
          · go_wp2_with (first | (with_reducible refine (csx _).mono ?_; rintro e w' ⟨rfl, rfl⟩))
            go_round
            case rel =>
              refine ⟨j + 1, by go_num, by omega, by omega, by omega, Lib.hid fun o t => ?_⟩
              have e2 : QuoP.step (.nam (nmTo s (i + 1) j)) o t x = .go (.nam (nmTo s (i + 1) j ++ [x])) o t := by
                simp only [QuoP.step]
                rw [if_neg (with_not x hw), nmTo_head HD1.out (show i + 1 < j by omega), nmTo_len (by omega) hj1]
                simp [hl, hw]; omega
              rw [HJ.out, HX.out, run_go _ e2, nmTo_more (by omega) g1, hx]
            case measure => simp [intOf]; omega
        · have csx := fun W => small_c c W true
          have gd2 : decide ((j : Int) < (i : Int) + 9) = false := by simp; omega
          have EX : Hid (∀ x r, s.data.toList.drop j = x :: r → ((nmTo s (i + 1) j).head?.any letterB && decide ((nmTo s (i + 1) j).length < 8) && withB x) = false) := Lib.hid fun x r e => by
            rw [nmTo_len (by omega) hj1, show decide (j - (i + 1) < 8) = false by simp; omega, Bool.and_false]; rfl
          by_cases e2 : atB s j = 125
          · obtain ⟨hlt2, hd2⟩ := atB_yes (by decide) e2
            rw [e2, show (((125 : UInt8).toNat : Nat) : Int) = 125 from rfl] at caj
            have HD2 := Lib.hid hd2
            clear hd2 e2
            go_wp2_with (first | (with_reducible refine (caj _).mono ?_; rintro e w' ⟨rfl, rfl⟩) | (with_reducible refine (csx _).mono ?_; rintro e w' ⟨rfl, rfl⟩))
            go_returns
            refine ⟨Below.refl _ _, s.extract (i + 1) j, (j : Int) + 1 - i, 0, rfl, Or.inr ⟨j + 1 - i, by omega, by omega, by omega, fun o t => ?_⟩⟩
            rw [HJ.out, HD2.out, run_go _ (show QuoP.step (.nam (nmTo s (i + 1) j)) o t 125 = .go .text (o ++ [(nmTo s (i + 1) j, [])]) t from rfl), extract_list, show i + (j + 1 - i) = j + 1 by omega]
            rfl
          · obtain ⟨z, hz⟩ : ∃ z : Int, ((atB s j).toNat : Int) = z := ⟨_, rfl⟩
            rw [hz] at caj
            have z0 : (z == 125) = false := by subst hz; rw [beq_eq_false_iff_ne]; intro h; exact e2 (UInt8.toNat_inj.1 (by show (atB s j).toNat = 125; omega))
            have z1 : (z != 125) = true := by simp [bne, z0]
            have NO := Lib.hid (atB_no (x := 125) (by decide) e2)
            clear e2 hz
            go_wp2_with (first | (with_reducible refine (caj _).mono ?_; rintro e w' ⟨rfl, rfl⟩) | (with_reducible refine (csx _).mono ?_; rintro e w' ⟨rfl, rfl⟩))
            go_returns
            refine ⟨Below.refl _ _, _, -1, (j : Nat), rfl, Or.inl ⟨rfl, j, rfl, by omega, by omega, fun o t => ?_⟩⟩
            rw [HJ.out]
            refine run_stop _ _ _ _ fun d r e => ?_
            have hn := NO.out d r e
            have h2 := EX.out d r e
            simp only [QuoP.step]
            rw [if_neg hn, h2]; rfl
      · have csx := fun W => small_c c W true
        have gd1 : decide (j < s.size) = false := by simpa using g1
        have EX : Hid (∀ x r, s.data.toList.drop j = x :: r → ((nmTo s (i + 1) j).head?.any letterB && decide ((nmTo s (i + 1) j).length < 8) && withB x) = false) := Lib.hid fun x r e => by
          rw [List.drop_eq_nil_of_le (by rw [← Lib.size_eq]; omega)] at e; cases e
        by_cases e2 : atB s j = 125
        · obtain ⟨hlt2, hd2⟩ := atB_yes (by decide) e2
          rw [e2, show (((125 : UInt8).toNat : Nat) : Int) = 125 from rfl] at caj
          have HD2 := Lib.hid hd2
          clear hd2 e2
          go_wp2_with (first | (with_reducible refine (caj _).mono ?_; rintro e w' ⟨rfl, rfl⟩) | (with_reducible refine (csx _).mono ?_; rintro e w' ⟨rfl, rfl⟩))
          go_returns
          refine ⟨Below.refl _ _, s.extract (i + 1) j, (j : Int) + 1 - i, 0, rfl, Or.inr ⟨j + 1 - i, by omega, by omega, by omega, fun o t => ?_⟩⟩
          rw [HJ.out, HD2.out, run_go _ (show QuoP.step (.nam (nmTo s (i + 1) j)) o t 125 = .go .text (o ++ [(nmTo s (i + 1) j, [])]) t from rfl), extract_list, show i + (j + 1 - i) = j + 1 by omega]
          rfl
        · obtain ⟨z, hz⟩ : ∃ z : Int, ((atB s j).toNat : Int) = z := ⟨_, rfl⟩
          rw [hz] at caj
          have z0 : (z == 125) = false := by subst hz; rw [beq_eq_false_iff_ne]; intro h; exact e2 (UInt8.toNat_inj.1 (by show (atB s j).toNat = 125; omega))
          have z1 : (z != 125) = true := by simp [bne, z0]
          have NO := Lib.hid (atB_no (x := 125) (by decide) e2)
          clear e2 hz
          go_wp2_with (first | (with_reducible refine (caj _).mono ?_; rintro e w' ⟨rfl, rfl⟩) | (with_reducible refine (csx _).mono ?_; rintro e w' ⟨rfl, rfl⟩))
          go_returns
          refine ⟨Below.refl _ _, _, -1, (j : Nat), rfl, Or.inl ⟨rfl, j, rfl, by omega, by omega, fun o t => ?_⟩⟩
          rw [HJ.out]
          refine run_stop _ _ _ _ fun d r e => ?_
          have hn := NO.out d r e
          have h2 := EX.out d r e
          simp only [QuoP.step]
          rw [if_neg hn, h2]; rfl
end QuoE
end Go.Proofs.Ytmhhmdnikopdlaa
