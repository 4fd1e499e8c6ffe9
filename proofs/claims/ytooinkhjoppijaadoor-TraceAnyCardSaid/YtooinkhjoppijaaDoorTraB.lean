/- A first line read, by the program and by the reference: the walks. Conditions: texts that fit; the tables of strconv. -/
import Derived.Test.YtooinkhjoppijaaDoorTraC
namespace Go.Proofs.YtooinkhjoppijaaDoor
set_option linter.unusedVariables false
set_option linter.unusedSimpArgs false
open Go.RowKit
namespace TraW
open TraP NumP NumW
theorem toList_ba (l : Bs) : (ba l).toList = l := by rw [Lib.toList_data, ba_list]
/-- What is read of a first line. -/
def PurPost (l : Bs) (w : World) (e : Ending) (w' : World) : Prop :=
  ∃ (k n : Int), e = .returned (.tuple #[.int .i64 k, .int .i64 n, .bool (purP l).isSome]) ∧ (∀ d, purP l = some d → d = (k, n)) ∧ Below w.heap.size w w'
theorem pur_none {l : Bs} {w w' : World} {k n : Int} {b : Bool} (h : purP l = none) (hb : b = false) (hw : Below w.heap.size w w') : PurPost l w (.returned (.tuple #[.int .i64 k, .int .i64 n, .bool b])) w' :=
  ⟨k, n, by rw [h, hb]; rfl, (fun d hd => by rw [h] at hd; cases hd), hw⟩
theorem pur_some {l : Bs} {w w' : World} {k n : Int} {b : Bool} (h : purP l = some (k, n)) (hb : b = true) (hw : Below w.heap.size w w') : PurPost l w (.returned (.tuple #[.int .i64 k, .int .i64 n, .bool b])) w' :=
  ⟨k, n, by rw [h, hb]; rfl, (fun d hd => by rw [h] at hd; exact (Option.some.inj hd).symm), hw⟩
theorem cut_le (l : Bs) (b : UInt8) : (Lib.cut l [b]).1.length ≤ l.length ∧ (Lib.cut l [b]).2.1.length ≤ l.length := by
  rcases cut_cases b l with ⟨h, e⟩ | ⟨a, t, rfl, h, e⟩
  · rw [e]; simp
  · rw [e]; simp; omega
set_option maxHeartbeats 3200000 in
theorem purpose_c (s : ByteArray) (w : World) (hs : s.size ≤ 281474976) (hw : Rdy w) : Calls Tryd.prog 26 #[.string s] w (PurPost s.data.toList w) := by
  have cc := fun W => cut_c s 32 W (by omega)
  have hle := cut_le s.data.toList 32
  rw [← Lib.size_eq] at hle
  have HP := Lib.hid (purP.eq_1 s.data.toList)
  obtain ⟨a, ha⟩ : ∃ a, (Lib.cut s.data.toList [32]).1 = a := ⟨_, rfl⟩
  obtain ⟨b, hb⟩ : ∃ b, (Lib.cut s.data.toList [32]).2.1 = b := ⟨_, rfl⟩
  obtain ⟨z, hz⟩ : ∃ z, (Lib.cut s.data.toList [32]).2.2 = z := ⟨_, rfl⟩
  rw [ha, hb, hz] at cc
  rw [ha, hb] at HP
  rw [ha, hb] at hle
  have hbz : (ba b).size ≤ 281474976 := by rw [ba_size]; omega
  clear ha hb hz hle
  have HW := Lib.hid hw
  clear hw
  have ta := toList_ba a
  have tb := toList_ba b
  by_cases h1 : a = wWa
  · have t1 : ((ba a).toList == [119, 97, 108, 107]) = true := by rw [ta, h1]; rfl
    obtain ⟨q, hq⟩ : ∃ q, (s.toList == (ba a).toList) = q := ⟨_, rfl⟩
    have HQ := Lib.hid hq
    have HX : Hid (purP s.data.toList = if s.data.toList = wWa then some (0, 0) else none) := Lib.hid (by rw [HP.out, if_pos h1])
    have H1 := Lib.hid h1
    clear h1 HP ta tb
    generalize hx : ba a = x at *
    have HX2 := Lib.hid hx
    clear hx
    go_enter Tryd.func26, Tryd.ntmps26
    go_wp2_with fail
    (with_reducible refine (cc _).mono ?_)
    rintro e w2 ⟨rfl, b2⟩
    go_wp2
    go_ret3
    cases q
    · refine pur_none ?_ rfl b2
      rw [HX.out, if_neg]
      intro e
      have := HQ.out
      rw [Lib.toList_data, e, ← HX2.out, toList_ba, H1.out] at this
      simp at this
    · refine pur_some ?_ rfl b2
      rw [HX.out, if_pos]
      have := HQ.out
      rw [Lib.toList_data, ← HX2.out, toList_ba, H1.out] at this
      simpa using this
  · have t1 : ((ba a).toList == [119, 97, 108, 107]) = false := by rw [ta]; simpa [wWa] using h1
    have HX : Hid (purP s.data.toList = _) := Lib.hid (HP.out.trans (if_neg h1))
    clear h1 HP
    by_cases h2 : a = wRu
    · have t2 : ((ba a).toList == [114, 117, 108, 101]) = true := by rw [ta, h2]; rfl
      have HX2 : Hid (purP s.data.toList = _) := Lib.hid (HX.out.trans (if_pos h2))
      clear h2 HX
      have cs := fun W h => small_c (ba b) 59 W (by omega) h (by omega)
      rw [ba_list] at cs
      clear ta tb
      generalize ba a = x at *
      generalize ba b = y at *
      go_enter Tryd.func26, Tryd.ntmps26
      go_wp2_with fail
      (with_reducible refine (cc _).mono ?_)
      rintro e w2 ⟨rfl, b2⟩
      go_wp2_with fail
      (with_reducible refine (cs _ (HW.out.below b2)).mono ?_)
      rintro e w3 ⟨v, rfl, hv, b3⟩
      have B3 := via b3 b2
      have HV := Lib.hid hv
      obtain ⟨q, hq⟩ : ∃ q, smallB b 59 = q := ⟨_, rfl⟩
      rw [hq]
      have HQ := Lib.hid hq
      clear hq hv
      go_wp2
      go_ret3
      cases q
      · exact pur_none (by rw [HX2.out, HQ.out]; rfl) rfl B3
      · exact pur_some (by rw [HX2.out, HV.out HQ.out, HQ.out]; rfl) rfl B3
    · have t2 : ((ba a).toList == [114, 117, 108, 101]) = false := by rw [ta]; simpa [wRu] using h2
      have HX2 : Hid (purP s.data.toList = _) := Lib.hid (HX.out.trans (if_neg h2))
      clear h2 HX
      by_cases h3 : a = wFa
      · have t3 : ((ba a).toList == [102, 97, 117, 108, 116]) = true := by rw [ta, h3]; rfl
        have HX3 : Hid (purP s.data.toList = _) := Lib.hid (HX2.out.trans (if_pos h3))
        clear h3 HX2 ta
        generalize ba a = x at *
        have TB := Lib.hid tb
        clear tb
        generalize ba b = y at *
        go_enter Tryd.func26, Tryd.ntmps26
        go_wp2_with fail
        (with_reducible refine (cc _).mono ?_)
        rintro e w2 ⟨rfl, b2⟩
        go_wp2
        go_loopw [10] (fun v wr => ∃ k : Nat, v = .int .i64 k ∧ 1 ≤ k ∧ k ≤ 5 ∧ Hid (∀ j : Nat, 1 ≤ j → j < k → nameF j ≠ b) ∧ Below w.heap.size w wr) (fun v _ => 5 - (intOf v).toNat)
        case atStart => exact ⟨1, rfl, by omega, by omega, Lib.hid (fun j h1 h2 => by omega), b2⟩
        case round =>
          obtain ⟨k, rfl, hk1, hk5, hx, hB⟩ := hrel
          by_cases hlt : k < 5
          · have d : decide ((k : Int) ≤ 4) = true := by simp; omega
            have cn := fun W => name_c (k : Int) (by omega) W
            obtain ⟨N, hN⟩ : ∃ N, ba (nameF (k : Int)) = N := ⟨_, rfl⟩
            rw [hN] at cn
            have HN := Lib.hid hN
            clear hN
            go_wp2_with fail
            (with_reducible refine (cn _).mono ?_)
            rintro e w3 ⟨rfl, b3⟩
            have B3 := via b3 hB
            obtain ⟨q, hq⟩ : ∃ q, (N.toList == y.toList) = q := ⟨_, rfl⟩
            have HQ := Lib.hid hq
            cases q
            · go_wp2
              go_roundw
              case rel =>
                refine ⟨k + 1, by go_num, by omega, by omega, Lib.hid (fun j h1 h2 => ?_), B3⟩
                rcases Nat.lt_or_ge j k with h | h
                · exact hx.out j h1 h
                · obtain rfl : j = k := by omega
                  intro e
                  have := HQ.out
                  rw [TB.out, ← HN.out, toList_ba, e] at this
                  simp at this
              case measure => simp [intOf]; omega
            · go_wp2
              go_ret3
              refine pur_some ?_ rfl B3
              have hh : nameF (k : Int) = b := by
                have := HQ.out
                rw [TB.out, ← HN.out, toList_ba] at this
                simpa using this
              rw [HX3.out]
              have hj := hx.out
              have hk : k = 1 ∨ k = 2 ∨ k = 3 ∨ k = 4 := by omega
              rcases hk with rfl | rfl | rfl | rfl
              · rw [if_pos (show nameF 1 = b from hh)]; rfl
              · rw [if_neg (show ¬ nameF 1 = b from hj 1 (by omega) (by omega)), if_pos (show nameF 2 = b from hh)]; rfl
              · rw [if_neg (show ¬ nameF 1 = b from hj 1 (by omega) (by omega)), if_neg (show ¬ nameF 2 = b from hj 2 (by omega) (by omega)), if_pos (show nameF 3 = b from hh)]; rfl
              · rw [if_neg (show ¬ nameF 1 = b from hj 1 (by omega) (by omega)), if_neg (show ¬ nameF 2 = b from hj 2 (by omega) (by omega)), if_neg (show ¬ nameF 3 = b from hj 3 (by omega) (by omega)), if_pos (show nameF 4 = b from hh)]; rfl
          · have d : decide ((k : Int) ≤ 4) = false := by simp; omega
            go_wp2
            go_ret3
            refine pur_none ?_ rfl hB
            have hj := hx.out
            rw [HX3.out, if_neg (show ¬ nameF 1 = b from hj 1 (by omega) (by omega)), if_neg (show ¬ nameF 2 = b from hj 2 (by omega) (by omega)), if_neg (show ¬ nameF 3 = b from hj 3 (by omega) (by omega)), if_neg (show ¬ nameF 4 = b from hj 4 (by omega) (by omega))]
      · have t3 : ((ba a).toList == [102, 97, 117, 108, 116]) = false := by rw [ta]; simpa [wFa] using h3
        have HX3 : Hid (purP s.data.toList = _) := Lib.hid (HX2.out.trans (if_neg h3))
        clear h3 HX2 ta tb
        generalize ba a = x at *
        generalize ba b = y at *
        go_enter Tryd.func26, Tryd.ntmps26
        go_wp2_with fail
        (with_reducible refine (cc _).mono ?_)
        rintro e w2 ⟨rfl, b2⟩
        go_wp2
        go_ret3
        exact pur_none HX3.out rfl b2
/-- The reference's reading of a first line. -/
def FindPost (l : Bs) (w : World) (e : Ending) (w' : World) : Prop :=
  e = .returned (.tuple #[.int .i64 ((purP l).getD (-1, 0)).1, .int .i64 ((purP l).getD (-1, 0)).2]) ∧ Below w.heap.size w w'
theorem no_more {l : Bs} (h : ∀ k n : Nat, k < 3 → n < 60 → headB k n = true → headL k n ≠ l) : purP l = none := by
  cases e : purP l with
  | none => rfl
  | some d =>
    obtain ⟨k, n⟩ := d
    obtain ⟨h1, h2⟩ := purP_some e
    exfalso
    rcases head_cases h1 with ⟨rfl, rfl⟩ | ⟨rfl, hn⟩ | ⟨rfl, h3, h4⟩
    · exact h 0 0 (by omega) (by omega) h1 h2
    · exact h 1 n.toNat (by omega) (by omega) (by rcases hn with rfl | rfl | rfl | rfl <;> exact h1) (by rcases hn with rfl | rfl | rfl | rfl <;> exact h2)
    · obtain ⟨m, rfl⟩ : ∃ m : Nat, n = m := ⟨n.toNat, by omega⟩
      exact h 2 m (by omega) (by omega) h1 h2
set_option maxHeartbeats 3200000 in
theorem find_c (s : ByteArray) (w : World) : Calls Tryd.prog 31 #[.string s] w (FindPost s.data.toList w) := by
  have hsl := Lib.toList_data s
  have HS := Lib.hid hsl
  clear hsl
  go_enter Tryd.func31, Tryd.ntmps31
  go_wp2
  go_loopw [4] (fun v wr => ∃ k : Nat, v = .int .i64 k ∧ k ≤ 3 ∧ Hid (∀ i n : Nat, i < k → n < 60 → headB i n = true → headL i n ≠ s.data.toList) ∧ Below w.heap.size w wr) (fun v _ => 3 - (intOf v).toNat)
  case atStart => exact ⟨0, rfl, by omega, Lib.hid (fun i n h => by omega), Below.refl _ _⟩
  case round =>
    obtain ⟨k, rfl, hk, hx, hB⟩ := hrel
    by_cases hlt : k < 3
    · have d : decide ((k : Int) < 3) = true := by simp; omega
      go_wp2
      go_loopw [5] (fun v wr => ∃ n : Nat, v = .int .i64 n ∧ n ≤ 60 ∧ Hid (∀ m : Nat, m < n → headB k m = true → headL k m ≠ s.data.toList) ∧ Below w.heap.size w wr) (fun v _ => 60 - (intOf v).toNat)
      case atStart => exact ⟨0, rfl, by omega, Lib.hid (fun i h => by omega), hB⟩
      case round =>
        obtain ⟨n, rfl, hn, hy, hB2⟩ := hrel
        by_cases hlt2 : n < 60
        · have d2 : decide ((n : Int) < 60) = true := by simp; omega
          have cm := fun W => rmay_c (k : Int) (n : Int) none 0 0 [] W Rd.nil (by omega)
          have hm : mayB ((k : Int), (n : Int), []) = headB k n := by unfold mayB; simp
          rw [hm] at cm
          simp only [trV] at cm
          cases hh : headB (k : Int) (n : Int)
          · rw [hh] at cm
            have HH := Lib.hid hh
            clear hh hm
            go_wp2_with fail
            (with_reducible refine (cm _).mono ?_)
            rintro e w2 ⟨rfl, b2⟩
            have B2 := via b2 hB2
            go_wp2
            go_roundw
            case rel =>
              refine ⟨n + 1, by go_num, by omega, Lib.hid (fun m h1 h2 => ?_), B2⟩
              rcases Nat.lt_or_ge m n with h | h
              · exact hy.out m h h2
              · obtain rfl : m = n := by omega
                rw [HH.out] at h2; cases h2
            case measure => simp [intOf]; omega
          · rw [hh] at cm
            have ch := fun W => rhead_c (k : Int) (n : Int) W hh
            obtain ⟨N, hN⟩ : ∃ N, ba (headL (k : Int) (n : Int)) = N := ⟨_, rfl⟩
            rw [hN] at ch
            have HN := Lib.hid hN
            have HH := Lib.hid hh
            clear hN hh hm
            obtain ⟨q, hq⟩ : ∃ q, (N.toList == s.toList) = q := ⟨_, rfl⟩
            have HQ := Lib.hid hq
            cases q
            · go_wp2_with fail
              (with_reducible refine (cm _).mono ?_)
              rintro e w2 ⟨rfl, b2⟩
              have B2 := via b2 hB2
              go_wp2_with fail
              (with_reducible refine (ch _).mono ?_)
              rintro e w3 ⟨rfl, b3⟩
              have B3 := via b3 B2
              go_wp2
              go_roundw
              case rel =>
                refine ⟨n + 1, by go_num, by omega, Lib.hid (fun m h1 h2 => ?_), B3⟩
                rcases Nat.lt_or_ge m n with h | h
                · exact hy.out m h h2
                · obtain rfl : m = n := by omega
                  intro e
                  have := HQ.out
                  rw [HS.out, ← HN.out, toList_ba, e] at this
                  simp at this
              case measure => simp [intOf]; omega
            · go_wp2_with fail
              (with_reducible refine (cm _).mono ?_)
              rintro e w2 ⟨rfl, b2⟩
              have B2 := via b2 hB2
              go_wp2_with fail
              (with_reducible refine (ch _).mono ?_)
              rintro e w3 ⟨rfl, b3⟩
              have B3 := via b3 B2
              go_wp2
              go_ret2
              have hh : headL (k : Int) (n : Int) = s.data.toList := by
                have := HQ.out
                rw [HS.out, ← HN.out, toList_ba] at this
                simpa using this
              have hp := purP_head HH.out
              rw [hh] at hp
              exact ⟨by rw [hp]; rfl, B3⟩
        · have d2 : decide ((n : Int) < 60) = false := by simp; omega
          go_wp2
          go_roundw
          case rel =>
            refine ⟨k + 1, by go_num, by omega, Lib.hid (fun i m h1 h2 h3 => ?_), hB2⟩
            rcases Nat.lt_or_ge i k with h | h
            · exact hx.out i m h h2 h3
            · obtain rfl : i = k := by omega
              exact hy.out m (by omega) h3
          case measure => simp [intOf]; omega
    · have d : decide ((k : Int) < 3) = false := by simp; omega
      obtain rfl : k = 3 := by omega
      have hp : purP s.data.toList = none := no_more (fun i n h1 h2 h3 => hx.out i n h1 h2 h3)
      have HP := Lib.hid hp
      clear hp hx
      go_wp2
      go_ret2
      exact ⟨by rw [HP.out]; rfl, hB⟩
end TraW
end Go.Proofs.YtooinkhjoppijaaDoor
