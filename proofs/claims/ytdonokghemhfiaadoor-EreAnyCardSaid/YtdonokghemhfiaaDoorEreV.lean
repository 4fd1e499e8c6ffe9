/- The walk of the expression reader's times. Conditions: texts that fit. -/
import Derived.Test.YtdonokghemhfiaaDoorEreU
import Derived.Test.YtdonokghemhfiaaDoorEreD
namespace Go.Proofs.YtdonokghemhfiaaDoor
set_option linter.unusedVariables false
set_option linter.unusedSimpArgs false
open Go.RowKit
namespace EreW
open EreP
def TimesPost (s : ByteArray) (R i g : Nat) (w : World) (x : Ending) (w' : World) : Prop :=
  ∃ (lo hi : Int) (k e : Nat), x = .returned (.tuple #[.int .i64 lo, .int .i64 hi]) ∧ Rdr w' R s k g e ∧ k ≤ s.size ∧ Tch (On R) w w' ∧
    ((e = 0 ∧ timesP (rest s i) = .ok ((lo, hi), rest s k)) ∨ (e = 1 ∧ timesP (rest s i) = .error (rest s k, 1)))
abbrev digs : ByteArray := ⟨#[48, 49, 50, 51, 52, 53, 54, 55, 56]⟩
theorem dig_any (c : UInt8) (a : Nat) (ha : a ≤ 8) : (digs.extract a 9).data.toList.contains c = decide (48 + a ≤ c.toNat ∧ c.toNat ≤ 56) := by
  have h : ∀ (x : Fin 256) (y : Fin 9), (digs.extract y.val 9).data.toList.contains (UInt8.ofNat x.val) = decide (48 + y.val ≤ x.val ∧ x.val ≤ 56) := by decide +kernel
  have := h ⟨c.toNat, c.toNat_lt⟩ ⟨a, by omega⟩
  simpa using this
theorem dig_all (c : UInt8) : digs.data.toList.contains c = decide (48 ≤ c.toNat ∧ c.toNat ≤ 56) := by
  have h : ∀ (x : Fin 256), digs.data.toList.contains (UInt8.ofNat x.val) = decide (48 ≤ x.val ∧ x.val ≤ 56) := by decide +kernel
  have := h ⟨c.toNat, c.toNat_lt⟩
  simpa using this
/-- How one byte was looked for. -/
def NeedPost (s : ByteArray) (R i g : Nat) (x : UInt8) (w : World) (e : Ending) (w' : World) : Prop :=
  (∃ c : Nat, e = .returned (.int .u8 c)) ∧ ((∃ h : i < s.size, (s[i]'h) = x ∧ Rdr w' R s (i + 1) g 0) ∨ ((rest s i).head? ≠ some x ∧ Rdr w' R s i g 1)) ∧ Tch (On R) w w'
theorem need_one (R : Nat) (s : ByteArray) (i g : Nat) (x : UInt8) (w : World) (h : Rdr w R s i g 0) (hs : s.size ≤ 4611686018427387904) :
    Calls Tryd.prog 68 #[pt R, .string ⟨#[x]⟩] w (NeedPost s R i g x w) := by
  by_cases hlt : i < s.size
  · by_cases hc : (s[i]'hlt) = x
    · exact (need_ok R s ⟨#[x]⟩ i g w h hlt (by rw [hc]; simp) hs).mono fun e w' ⟨he, hr, ht⟩ => ⟨⟨_, he⟩, Or.inl ⟨hlt, hc, hr⟩, ht⟩
    · have hp : peekB (⟨#[x]⟩ : ByteArray).data.toList (rest s i) 0 = false := by rw [rest_cons s i hlt]; simp [peekB]; exact hc
      exact (need_no R s ⟨#[x]⟩ i g 0 w h hp).mono fun e w' ⟨he, hr, ht⟩ => ⟨⟨0, he⟩, Or.inr ⟨by rw [rest_cons s i hlt]; simp; exact hc, hr⟩, ht⟩
  · have hp : peekB (⟨#[x]⟩ : ByteArray).data.toList (rest s i) 0 = false := by rw [rest_nil s i (by omega)]; rfl
    exact (need_no R s ⟨#[x]⟩ i g 0 w h hp).mono fun e w' ⟨he, hr, ht⟩ => ⟨⟨0, he⟩, Or.inr ⟨by rw [rest_nil s i (by omega)]; simp, hr⟩, ht⟩
theorem needP_of {s : ByteArray} {i : Nat} {x : UInt8} {α : Type} (v : α) (h : i < s.size) (hc : (s[i]'h) = x) : needP x v (rest s i) = .ok (v, rest s (i + 1)) := by
  rw [rest_cons s i h, needP, hc]; simp
theorem needP_no {s : ByteArray} {i : Nat} {x : UInt8} {α : Type} (v : α) (h : (rest s i).head? ≠ some x) : needP x v (rest s i) = .error (rest s i, 1) := by
  cases hr : rest s i with
  | nil => rfl
  | cons c r => rw [hr] at h; simp at h; simp [needP, h]
set_option maxHeartbeats 3200000 in
theorem times_c (R : Nat) (s : ByteArray) (i g : Nat) (w : World) (h : Rdr w R s i g 0) (hi : i ≤ s.size) (hs : s.size ≤ 4611686018427387904) :
    Calls Tryd.prog 58 #[pt R] w (TimesPost s R i g w) := by
  by_cases hd : ∃ hlt : i < s.size, 48 ≤ (s[i]'hlt).toNat ∧ (s[i]'hlt).toNat ≤ 56
  · obtain ⟨hlt, hd1, hd2⟩ := hd
    obtain ⟨a, ha⟩ : ∃ a, (s[i]'hlt).toNat = 48 + a := ⟨(s[i]'hlt).toNat - 48, by omega⟩
    have cn := need_ok R s digs i g w h hlt (by rw [dig_all]; simp; omega) hs
    have hdp : digitP 0 (rest s i) = .ok (a, rest s (i + 1)) := by
      rw [rest_cons s i hlt, digitP, if_pos (by omega), ha]; simp
    rw [ha] at cn
    have e1 : 48 + (a : Int) - 48 = (a : Int) := by omega
    have a8 : a ≤ 8 := by omega
    have HD := Lib.hid hdp
    clear hdp ha hd1 hd2
    go_enter Tryd.func58, Tryd.ntmps58
    go_wp2_with fail
    (with_reducible refine cn.mono ?_)
    rintro x w1 ⟨rfl, h1, t1⟩
    clear cn
    have cp := peek_c R s ⟨#[44]⟩ (i + 1) g 0 w1 h1
    by_cases hcm : ∃ hl : i + 1 < s.size, (s[i + 1]'hl) = 44
    · obtain ⟨hl, hc⟩ := hcm
      have hr1 : rest s (i + 1) = 44 :: rest s (i + 1 + 1) := by rw [rest_cons s (i + 1) hl, hc]
      rw [hr1, show peekB (⟨#[44]⟩ : ByteArray).data.toList (44 :: rest s (i + 1 + 1)) 0 = true from rfl] at cp
      have cx := fun W hW => next_ok R s (i + 1) g W hW hl hs
      have HD2 : Hid (timesP (rest s i) = if (rest s (i + 1 + 1)).head? == some 125 then .ok (((a : Int), -1), (rest s (i + 1 + 1)).tail) else match digitP a (rest s (i + 1 + 1)) with
        | .error e => .error e
        | .ok (b, r2) => needP 125 ((a : Int), (b : Int)) r2) := Lib.hid (by unfold timesP; rw [HD.out, hr1]; rfl)
      clear hr1 hc HD
      go_wp2_with fail
      (with_reducible refine cp.mono ?_)
      rintro x wm ⟨rfl, m, rfl⟩
      have cx' := cx (w1.drewN m) (h1.dn m)
      clear cp cx
      go_wp2_with fail
      (with_reducible refine cx'.mono ?_)
      rintro x w2 ⟨rfl, h2, t2⟩
      have t12 := (t1.drewN m).trans t2
      clear cx'
      have cp2 := peek_c R s ⟨#[125]⟩ (i + 1 + 1) g 0 w2 h2
      cases hp : peekB (⟨#[125]⟩ : ByteArray).data.toList (rest s (i + 1 + 1)) 0
      · rw [hp] at cp2
        have hne : ((rest s (i + 1 + 1)).head? == some 125) = false := by
          cases hr : rest s (i + 1 + 1) with
          | nil => rfl
          | cons c r => rw [hr] at hp; simp [peekB] at hp; simp; exact hp
        rw [hne] at HD2
        clear hne hp
        go_wp2_with fail
        (with_reducible refine cp2.mono ?_)
        rintro x wm ⟨rfl, m2, rfl⟩
        clear cp2
        go_wp2_with fail
        rw [show (min (a : Int) 9).toNat = a by omega]
        by_cases hd2 : ∃ hl2 : i + 1 + 1 < s.size, 48 + a ≤ (s[i + 1 + 1]'hl2).toNat ∧ (s[i + 1 + 1]'hl2).toNat ≤ 56
        · obtain ⟨hl2, hd3, hd4⟩ := hd2
          obtain ⟨b, hb⟩ : ∃ b, (s[i + 1 + 1]'hl2).toNat = 48 + b := ⟨(s[i + 1 + 1]'hl2).toNat - 48, by omega⟩
          have cn2 := need_ok R s (digs.extract a 9) (i + 1 + 1) g (w2.drewN m2) (h2.dn m2) hl2 (by rw [dig_any _ _ a8]; simp; omega) hs
          have hdp : digitP a (rest s (i + 1 + 1)) = .ok (b, rest s (i + 1 + 1 + 1)) := by
            rw [rest_cons s (i + 1 + 1) hl2, digitP, if_pos (by omega), hb]; simp
          rw [hb] at cn2
          have e2 : 48 + (b : Int) - 48 = (b : Int) := by omega
          have b8 : b ≤ 8 := by omega
          have HD3 : Hid (timesP (rest s i) = needP 125 ((a : Int), (b : Int)) (rest s (i + 1 + 1 + 1))) := Lib.hid (by rw [HD2.out, hdp]; rfl)
          clear hdp hb hd3 hd4 HD2
          (with_reducible refine cn2.mono ?_)
          rintro x w3 ⟨rfl, h3, t3⟩
          have cn3 := need_one R s (i + 1 + 1 + 1) g 125 w3 h3 hs
          clear cn2
          go_wp2_with fail
          (with_reducible refine cn3.mono ?_)
          rintro x w4 ⟨⟨c4, rfl⟩, h4, t4⟩
          have T := ((t12.drewN m2).trans t3).trans t4
          clear cn3
          go_wp2
          go_ret2
          rcases h4 with ⟨hl4, hc4, h4⟩ | ⟨hn4, h4⟩
          · exact ⟨a, b, _, 0, rfl, h4, by omega, T, Or.inl ⟨rfl, by rw [HD3.out, needP_of _ hl4 hc4]⟩⟩
          · exact ⟨a, b, _, 1, rfl, h4, by omega, T, Or.inr ⟨rfl, by rw [HD3.out, needP_no _ hn4]⟩⟩
        · have hdp : digitP a (rest s (i + 1 + 1)) = .error (rest s (i + 1 + 1), 1) := by
            by_cases hl2 : i + 1 + 1 < s.size
            · rw [rest_cons s (i + 1 + 1) hl2, digitP, if_neg (fun h => hd2 ⟨hl2, h⟩)]
            · rw [rest_nil s (i + 1 + 1) (by omega)]; rfl
          have hp3 : peekB (digs.extract a 9).data.toList (rest s (i + 1 + 1)) 0 = false := by
            by_cases hl2 : i + 1 + 1 < s.size
            · rw [rest_cons s (i + 1 + 1) hl2]
              show List.contains _ _ = false
              rw [dig_any _ _ a8]
              simp only [decide_eq_false_iff_not]
              exact fun h => hd2 ⟨hl2, h⟩
            · rw [rest_nil s (i + 1 + 1) (by omega)]; rfl
          have cn2 := need_no R s (digs.extract a 9) (i + 1 + 1) g 0 (w2.drewN m2) (h2.dn m2) hp3
          have HD3 : Hid (timesP (rest s i) = .error (rest s (i + 1 + 1), 1)) := Lib.hid (by rw [HD2.out, hdp]; rfl)
          clear hdp hd2 HD2 hp3
          (with_reducible refine cn2.mono ?_)
          rintro x w3 ⟨rfl, h3, t3⟩
          have h3' : Rdr w3 R s (i + 1 + 1) g 1 := h3
          have cn3 := need_no R s ⟨#[125]⟩ (i + 1 + 1) g 1 w3 h3' rfl
          clear cn2 h3
          go_wp2_with fail
          (with_reducible refine cn3.mono ?_)
          rintro x w4 ⟨rfl, h4, t4⟩
          have T := ((t12.drewN m2).trans t3).trans t4
          clear cn3
          go_wp2
          go_ret2
          exact ⟨_, _, _, 1, rfl, h4, by omega, T, Or.inr ⟨rfl, HD3.out⟩⟩
      · rw [hp] at cp2
        have hne : ∃ hl2 : i + 1 + 1 < s.size, (s[i + 1 + 1]'hl2) = 125 := by
          by_cases hl2 : i + 1 + 1 < s.size
          · rw [rest_cons s (i + 1 + 1) hl2] at hp; simp [peekB] at hp; exact ⟨hl2, hp⟩
          · rw [rest_nil s (i + 1 + 1) (by omega)] at hp; cases hp
        obtain ⟨hl2, hc2⟩ := hne
        have HD3 : Hid (timesP (rest s i) = .ok (((a : Int), -1), rest s (i + 1 + 1 + 1))) := Lib.hid (by
          rw [HD2.out, rest_cons s (i + 1 + 1) hl2, hc2]; rfl)
        clear HD2 hp
        go_wp2_with fail
        (with_reducible refine cp2.mono ?_)
        rintro x wm ⟨rfl, m2, rfl⟩
        have cn3 := need_ok R s ⟨#[125]⟩ (i + 1 + 1) g (w2.drewN m2) (h2.dn m2) hl2 (by rw [hc2]; rfl) hs
        clear cp2 hc2
        go_wp2_with fail
        (with_reducible refine cn3.mono ?_)
        rintro x w4 ⟨rfl, h4, t4⟩
        have T := (t12.drewN m2).trans t4
        clear cn3
        go_wp2
        go_ret2
        exact ⟨a, -1, _, 0, rfl, h4, by omega, T, Or.inl ⟨rfl, HD3.out⟩⟩
    · have hp : peekB (⟨#[44]⟩ : ByteArray).data.toList (rest s (i + 1)) 0 = false := by
        by_cases hl : i + 1 < s.size
        · rw [rest_cons s (i + 1) hl]; simp [peekB]; exact fun h => hcm ⟨hl, h⟩
        · rw [rest_nil s (i + 1) (by omega)]; rfl
      have hne : ((rest s (i + 1)).head? == some 44) = false := by
        cases hr : rest s (i + 1) with
        | nil => rfl
        | cons c r => rw [hr] at hp; simp [peekB] at hp; simp; exact hp
      have HD2 : Hid (timesP (rest s i) = needP 125 ((a : Int), (a : Int)) (rest s (i + 1))) := Lib.hid (by unfold timesP; rw [HD.out]; simp only [hne]; rfl)
      rw [hp] at cp
      clear hp hne hcm HD
      go_wp2_with fail
      (with_reducible refine cp.mono ?_)
      rintro x wm ⟨rfl, m, rfl⟩
      have cn3 := need_one R s (i + 1) g 125 (w1.drewN m) (h1.dn m) hs
      clear cp
      go_wp2_with fail
      (with_reducible refine cn3.mono ?_)
      rintro x w4 ⟨⟨c4, rfl⟩, h4, t4⟩
      have T := (t1.drewN m).trans t4
      clear cn3
      go_wp2
      go_ret2
      rcases h4 with ⟨hl4, hc4, h4⟩ | ⟨hn4, h4⟩
      · exact ⟨a, a, _, 0, rfl, h4, by omega, T, Or.inl ⟨rfl, by rw [HD2.out, needP_of _ hl4 hc4]⟩⟩
      · exact ⟨a, a, _, 1, rfl, h4, by omega, T, Or.inr ⟨rfl, by rw [HD2.out, needP_no _ hn4]⟩⟩
  · have hdp : digitP 0 (rest s i) = .error (rest s i, 1) := by
      by_cases hl : i < s.size
      · rw [rest_cons s i hl, digitP, if_neg (fun h => hd ⟨hl, h⟩)]
      · rw [rest_nil s i (by omega)]; rfl
    have hp : peekB digs.data.toList (rest s i) 0 = false := by
      by_cases hl : i < s.size
      · rw [rest_cons s i hl]
        show List.contains _ _ = false
        rw [dig_all]
        simp only [decide_eq_false_iff_not]
        exact fun h => hd ⟨hl, h⟩
      · rw [rest_nil s i (by omega)]; rfl
    have cn := need_no R s digs i g 0 w h hp
    have HD3 : Hid (timesP (rest s i) = .error (rest s i, 1)) := Lib.hid (by unfold timesP; rw [hdp])
    clear hdp hd hp
    go_enter Tryd.func58, Tryd.ntmps58
    go_wp2_with fail
    (with_reducible refine cn.mono ?_)
    rintro x w1 ⟨rfl, h1, t1⟩
    have h1' : Rdr w1 R s i g 1 := h1
    have cp : Calls Tryd.prog 34 #[pt R, .string ⟨#[44]⟩] w1 (PeekPost false w1) := peek_c R s ⟨#[44]⟩ i g 1 w1 h1'
    clear cn h1
    go_wp2_with fail
    (with_reducible refine cp.mono ?_)
    rintro x wm ⟨rfl, m, rfl⟩
    have cn3 := need_no R s ⟨#[125]⟩ i g 1 (w1.drewN m) (h1'.dn m) rfl
    clear cp
    go_wp2_with fail
    (with_reducible refine cn3.mono ?_)
    rintro x w4 ⟨rfl, h4, t4⟩
    have T := (t1.drewN m).trans t4
    clear cn3
    go_wp2
    go_ret2
    exact ⟨_, _, _, 1, rfl, h4, hi, T, Or.inr ⟨rfl, HD3.out⟩⟩
end EreW
end Go.Proofs.YtdonokghemhfiaaDoor
