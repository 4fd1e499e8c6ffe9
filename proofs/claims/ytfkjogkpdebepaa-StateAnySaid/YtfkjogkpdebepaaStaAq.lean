/- The walk of the reference's ages. Conditions: texts that fit. -/
import Derived.Test.YtfkjogkpdebepaaStaIq
namespace Go.Proofs.Ytfkjogkpdebepaa
open Go.RowKit
namespace StaRq
open StaP StaR StaN StaL StaG StaA
/-- What 'ages' answers. -/
def QAPost (s : ByteArray) (R i e : Nat) (w : World) (x : Ending) (w' : World) : Prop :=
  ∃ (v : Value) (o : List Int) (i' e' : Nat), x = .returned v ∧ w'.ownsRow w.heap.size 3 1 v o.length (ints o) ∧ o.length ≤ 65536 ∧ Rdq w' R s i' e' ∧ i' ≤ s.size ∧ Tch (On R) w w' ∧ Run agesP (ab s i e) (ab s i' e') (fun m => m = o)
def QAL (s : ByteArray) (R i er n : Nat) (w : World) (v lv iv : Value) (wr : World) : Prop :=
  ∃ (c m : Nat) (o : List Int) (last : Int) (j e' : Nat), iv = .int .i64 c ∧ lv = .int .i64 last ∧ c ≤ n ∧ wr.ownsRow w.heap.size 3 1 v m (ints o) ∧ Rdq wr R s j e' ∧ j ≤ s.size ∧ Tch (On R) w wr ∧ m ≤ 65536 ∧ Hid (c = 0 → o = []) ∧ Hid (e' = 0 → 0 < c → o.getLast? = some last) ∧ Hid (Stp ageS [] o s i er j e' (n - c))
theorem qa_end {s : ByteArray} {R i er : Nat} {w wr : World} {v : Value} {m : Nat} {o : List Int} {j e' : Nat} (hown : wr.ownsRow w.heap.size 3 1 v m (ints o)) (hr : Rdq wr R s j e') (hj : j ≤ s.size) (ht : Tch (On R) w wr) (hm : m ≤ 65536)
    (h : Run (listS ageS []) (ab s i er) (ab s j e') (fun m => m = o)) : QAPost s R i er w (.returned v) wr := by
  have hl := own_len hown
  rw [List.length_map] at hl
  subst hl
  exact ⟨v, o, j, e', rfl, hown, hm, hr, hj, ht, run_eq age_list h⟩
/-- The count behind its tests. -/
theorem many_age {s : ByteArray} {j i1 k : Nat} {e1 : Nat} {o : List Int} (h : Run (manyP 0 65536) (ab s j 0) (ab s i1 e1) (fun m => m = k)) :
    (e1 ≠ 0 → Run (manyP 1 (65536 - (o.length : Int))) (ab s j 0) (ab s i1 e1) (fun m => m = k)) ∧
    (e1 = 0 → k = 0 → Run (manyP 1 (65536 - (o.length : Int))) (ab s j 0) (ab s j 1) (fun m => m = k)) ∧
    (e1 = 0 → 1 ≤ k → 65536 - (o.length : Int) < k → Run (manyP 1 (65536 - (o.length : Int))) (ab s j 0) (ab s j 2) (fun m => m = k)) ∧
    (e1 = 0 → 1 ≤ k → ¬ 65536 - (o.length : Int) < k → Run (manyP 1 (65536 - (o.length : Int))) (ab s j 0) (ab s i1 e1) (fun m => m = k)) := by
  rw [ab_ok] at h ⊢
  simp only [Run] at h
  rw [manyP] at h
  cases hn : numP (s.data.toList.drop j) with
  | error er =>
    rw [hn] at h
    simp only at h
    refine ⟨fun he => ?_, fun he => ?_, fun he => ?_, fun he => ?_⟩
    · simp only [Run]; rw [manyP, hn]; exact h
    all_goals (subst he; cases h)
  | ok v =>
    obtain ⟨x, r⟩ := v
    rw [hn] at h
    simp only at h
    by_cases h0 : x < 0
    · rw [if_pos h0] at h
      simp only at h
      refine ⟨fun he => ?_, fun he => ?_, fun he => ?_, fun he => ?_⟩
      · simp only [Run]; rw [manyP, hn]; simp only; rw [if_pos (by omega)]; exact h
      all_goals (subst he; cases h)
    rw [if_neg h0] at h
    by_cases h1 : 65536 < x
    · rw [if_pos h1] at h
      simp only at h
      refine ⟨fun he => ?_, fun he => ?_, fun he => ?_, fun he => ?_⟩
      · simp only [Run]; rw [manyP, hn]; simp only; rw [if_neg (by omega), if_pos (by omega)]; exact h
      all_goals (subst he; cases h)
    rw [if_neg h1] at h
    simp only at h
    obtain ⟨h2, h3⟩ := h
    refine ⟨fun he => ?_, fun he hk => ?_, fun he hk hh => ?_, fun he hk hh => ?_⟩
    · rw [ab_bad s i1 he] at h2; cases h2
    · rw [ab_bad s j (e := 1) (by omega)]
      exact Run.err (by rw [manyP, hn]; simp only; rw [if_pos (by omega)])
    · rw [ab_bad s j (e := 2) (by omega)]
      exact Run.err (by rw [manyP, hn]; simp only; rw [if_neg (by omega), if_pos (by omega)])
    · simp only [Run]; rw [manyP, hn]; simp only; rw [if_neg (by omega), if_neg (by omega)]; exact ⟨h2, h3⟩
theorem run_stuck {s : ByteArray} {i1 e1 j2 e2 : Nat} {g : Int → Prop} (h : Run numP (ab s i1 e1) (ab s j2 e2) g) (he : e1 ≠ 0) : e2 ≠ 0 := by
  intro h2
  subst h2
  rw [ab_bad s i1 he, ab_ok] at h
  cases h
set_option maxHeartbeats 12800000 in
set_option maxRecDepth 100000 in
theorem ages_c (R : Nat) (s : ByteArray) (i e : Nat) (w : World) (h : Rdq w R s i e) (his : i ≤ s.size) (hs : s.size ≤ 4611686018427387904) :
    Calls Try.prog 40 #[.pointer (some ⟨R, 0, none⟩)] w (QAPost s R i e w) := by
  obtain ⟨i0, hi0, hz0, hz1, hz2⟩ := info_parts info_Int
  have cm := many_c R s i e w h his hs
  go_enter Try.func40, Try.ntmps40
  go_wp2_with fail
  (with_reducible refine cm.mono ?_)
  rintro x w1 ⟨n, i1, e1, rfl, hn, h1, hi1, t1, hnz, hrun⟩
  have hL : QAL s R i e n w (.slice none 0 0) (.int .i64 0) (.int .i64 0) w1 :=
    ⟨0, 0, [], 0, i1, e1, rfl, rfl, by omega, World.ownsRow_nil _ _ _ _, h1, hi1, t1, by omega, Lib.hid (fun _ => rfl), Lib.hid (fun _ h => absurd h (by omega)), Lib.hid (Stp.start hrun)⟩
  clear hrun cm h1 t1 hnz h
  go_wp2_with fail
  go_loopw [3, 4, 6] (fun v lv iv wr => QAL s R i e n w v lv iv wr) (fun _ _ iv _ => n - (intOf iv).toNat)
  case atStart => exact hL
  case round =>
    clear hL
    obtain ⟨c, m, o, last, j, e', rfl, rfl, hcn, hown, hr, hj, ht, hm, HZ, HLS, HST⟩ := hrel
    have k1 := hr.cell 1
    have k2 := hr.cell 2
    simp only [List.getElem?_toArray, List.getElem?_cons_zero, List.getElem?_cons_succ] at k1 k2
    have hBz := ht.size
    have hol := own_len hown
    rw [List.length_map] at hol
    have HOL := Lib.hid hol
    clear hol
    obtain ⟨oa, oc, rfl⟩ := StaL.own_shape hown
    by_cases hc : c < n
    rotate_left
    · have dk : decide ((c : Int) < (n : Int)) = false := by simp; omega
      have dk2 : ¬ c < n := hc
      go_wp2
      go_ret
      exact qa_end hown hr hj ht hm (by have := HST.out; rw [show n - c = 0 by omega] at this; exact this.stop)
    have dk : decide ((c : Int) < (n : Int)) = true := by simp; omega
    by_cases he : e' = 0
    rotate_left
    · have d : ((e' : Int) == 0) = false := by rw [beq_eq_false_iff_ne]; omega
      go_wp2
      go_ret
      exact qa_end hown hr hj ht hm (HST.out.fail he)
    subst he
    have d0 : (((0 : Nat) : Int) == 0) = true := by simp
    have cm := many_c R s j 0 wr hr hj hs
    go_wp2_with fail
    (with_reducible refine cm.mono ?_)
    rintro x w2 ⟨k, i1, e1, rfl, hk, h2, hi1, t2, hkz, hrun⟩
    obtain ⟨M1, M2, M3, M4⟩ := many_age (o := o) hrun
    have hown2 := own_keep hown (rdq_rows hr t2 (by decide))
    have hT2 := ht.trans t2
    have ST' : Hid (∀ (b2 : List Int) (j2 e2 : Nat), ((e2 ≠ 0 ∧ ageS o (s.data.toList.drop j) = .error (s.data.toList.drop j2, e2)) ∨ (e2 = 0 ∧ ageS o (s.data.toList.drop j) = .ok (b2, s.data.toList.drop j2))) → Stp ageS [] b2 s i e j2 e2 (n - (c + 1))) :=
      Lib.hid (fun b2 j2 e2 hh => by have := HST.out; rw [show n - c = (n - (c + 1)) + 1 by omega] at this; exact this.step hh)
    clear cm k1 k2 hrun HST hown
    have k1 := h2.cell 1
    have k2 := h2.cell 2
    simp only [List.getElem?_toArray, List.getElem?_cons_zero, List.getElem?_cons_succ] at k1 k2
    by_cases he1 : e1 = 0
    rotate_left
    · have RUN1 := Lib.hid (M1 he1)
      have hk0 := hkz he1
      subst hk0
      have d : ((e1 : Int) == 0) = false := by rw [beq_eq_false_iff_ne]; omega
      clear M1 M2 M3 M4 hkz
      have cn := num_c R s i1 e1 w2 h2 hi1 hs
      go_wp2_with fail
      (with_reducible refine cn.mono ?_)
      rintro x w3 ⟨a, j2, e2, rfl, ba, h3, hj2, t3, -, r2⟩
      have he2 := run_stuck r2 he1
      have ST2 := Lib.hid (ST'.out o j2 e2 (by
        rcases two RUN1.out r2 with h | ⟨h, _⟩
        · exact Or.inl h
        · exact absurd h he2))
      have hown3 := own_keep hown2 (rdq_rows h2 t3 (by decide))
      have hT3 := (hT2).trans t3
      clear cn k1 k2 r2 ST' RUN1 d
      have k1 := h3.cell 1
      have k2 := h3.cell 2
      simp only [List.getElem?_toArray, List.getElem?_cons_zero, List.getElem?_cons_succ] at k1 k2
      have d2 : ((e2 : Int) == 0) = false := by rw [beq_eq_false_iff_ne]; omega
      go_wp2_with fail
      refine wp_loop_rounds 1 ?_
      rw [rounds_succ]
      go_wp2
      go_roundw
      case rel => exact ⟨c + 1, m, o, a, j2, e2, by go_num, rfl, by omega, hown3, h3, hj2, hT3, hm, Lib.hid (fun h => absurd h (by omega)), Lib.hid (fun h _ => absurd h he2), ST2⟩
      case measure => simp [intOf] <;> omega
    subst he1
    clear hkz
    by_cases hk0 : k = 0
    · subst hk0
      have RUN1 := Lib.hid (M2 rfl rfl)
      clear M1 M2 M3 M4
      have cf := fail_yes R s i1 j 1 w2 h2
      go_wp2_with fail
      (with_reducible refine cf.mono ?_)
      rintro x wf ⟨rfl, hf, tf⟩
      have hown2 := own_keep hown2 (rdq_rows h2 tf (by decide))
      have hT2 := hT2.trans tf
      clear k1 k2 cf
      have k1 := hf.cell 1
      have k2 := hf.cell 2
      simp only [List.getElem?_toArray, List.getElem?_cons_zero, List.getElem?_cons_succ] at k1 k2
      have d : ((1 : Int) == 0) = false := rfl
      have cn := num_c R s j 1 wf hf hj hs
      go_wp2_with fail
      (with_reducible refine cn.mono ?_)
      rintro x w3 ⟨a, j2, e2, rfl, ba, h3, hj2, t3, -, r2⟩
      have he2 := run_stuck r2 (by omega)
      have ST2 := Lib.hid (ST'.out o j2 e2 (by
        rcases two RUN1.out r2 with h | ⟨h, _⟩
        · exact Or.inl h
        · exact absurd h he2))
      have hown3 := own_keep hown2 (rdq_rows hf t3 (by decide))
      have hT3 := (hT2).trans t3
      clear cn k1 k2 r2 ST' RUN1 d
      have k1 := h3.cell 1
      have k2 := h3.cell 2
      simp only [List.getElem?_toArray, List.getElem?_cons_zero, List.getElem?_cons_succ] at k1 k2
      have d2 : ((e2 : Int) == 0) = false := by rw [beq_eq_false_iff_ne]; omega
      go_wp2_with fail
      refine wp_loop_rounds 1 ?_
      rw [rounds_succ]
      go_wp2
      go_roundw
      case rel => exact ⟨c + 1, m, o, a, j2, e2, by go_num, rfl, by omega, hown3, h3, hj2, hT3, hm, Lib.hid (fun h => absurd h (by omega)), Lib.hid (fun h _ => absurd h he2), ST2⟩
      case measure => simp [intOf] <;> omega
    have dk0 : ((k : Int) == 0) = false := by rw [beq_eq_false_iff_ne]; omega
    have dkp : decide ((0 : Int) < (k : Int)) = true := by simp; omega
    by_cases hbig : 65536 - m < k
    · have RUN1 := Lib.hid (M3 rfl (by omega) (by rw [HOL.out]; omega))
      have db : decide ((65536 : Int) - (m : Int) < (k : Int)) = true := by simp; omega
      clear M1 M2 M3 M4
      have cf := fail_yes R s i1 j 2 w2 h2
      go_wp2_with fail
      (with_reducible refine cf.mono ?_)
      rintro x wf ⟨rfl, hf, tf⟩
      have hown2 := own_keep hown2 (rdq_rows h2 tf (by decide))
      have hT2 := hT2.trans tf
      clear k1 k2 cf
      have k1 := hf.cell 1
      have k2 := hf.cell 2
      simp only [List.getElem?_toArray, List.getElem?_cons_zero, List.getElem?_cons_succ] at k1 k2
      have d : ((2 : Int) == 0) = false := rfl
      have cn := num_c R s j 2 wf hf hj hs
      go_wp2_with fail
      (with_reducible refine cn.mono ?_)
      rintro x w3 ⟨a, j2, e2, rfl, ba, h3, hj2, t3, -, r2⟩
      have he2 := run_stuck r2 (by omega)
      have ST2 := Lib.hid (ST'.out o j2 e2 (by
        rcases two RUN1.out r2 with h | ⟨h, _⟩
        · exact Or.inl h
        · exact absurd h he2))
      have hown3 := own_keep hown2 (rdq_rows hf t3 (by decide))
      have hT3 := (hT2).trans t3
      clear cn k1 k2 r2 ST' RUN1 d
      have k1 := h3.cell 1
      have k2 := h3.cell 2
      simp only [List.getElem?_toArray, List.getElem?_cons_zero, List.getElem?_cons_succ] at k1 k2
      have d2 : ((e2 : Int) == 0) = false := by rw [beq_eq_false_iff_ne]; omega
      go_wp2_with fail
      refine wp_loop_rounds 1 ?_
      rw [rounds_succ]
      go_wp2
      go_roundw
      case rel => exact ⟨c + 1, m, o, a, j2, e2, by go_num, rfl, by omega, hown3, h3, hj2, hT3, hm, Lib.hid (fun h => absurd h (by omega)), Lib.hid (fun h _ => absurd h he2), ST2⟩
      case measure => simp [intOf] <;> omega
    have RUN1 := Lib.hid (M4 rfl (by omega) (by rw [HOL.out]; omega))
    have db : decide ((65536 : Int) - (m : Int) < (k : Int)) = false := by simp; omega
    clear M1 M2 M3 M4
    have cn := num_c R s i1 0 w2 h2 hi1 hs
    go_wp2_with fail
    (with_reducible refine cn.mono ?_)
    rintro x w3 ⟨a, j2, e2, rfl, ba, h3, hj2, t3, -, r2⟩
    have HT := Lib.hid (two RUN1.out r2)
    have hown3 := own_keep hown2 (rdq_rows h2 t3 (by decide))
    have hT3 := hT2.trans t3
    clear cn k1 k2 r2 RUN1
    have k1 := h3.cell 1
    have k2 := h3.cell 2
    simp only [List.getElem?_toArray, List.getElem?_cons_zero, List.getElem?_cons_succ] at k1 k2
    by_cases he2 : e2 = 0
    rotate_left
    · have d2 : ((e2 : Int) == 0) = false := by rw [beq_eq_false_iff_ne]; omega
      have ST2 := Lib.hid (ST'.out o j2 e2 (by
        rcases HT.out with h | ⟨h, _⟩
        · exact Or.inl h
        · exact absurd h he2))
      clear ST'
      go_wp2_with fail
      refine wp_loop_rounds 1 ?_
      rw [rounds_succ]
      go_wp2
      go_roundw
      case rel => exact ⟨c + 1, m, o, a, j2, e2, by go_num, rfl, by omega, hown3, h3, hj2, hT3, hm, Lib.hid (fun h => absurd h (by omega)), Lib.hid (fun h _ => absurd h he2), ST2⟩
      case measure => simp [intOf] <;> omega
    subst he2
    by_cases hdup : 0 < c ∧ a = last
    · obtain ⟨hc0, rfl⟩ := hdup
      have dc : decide ((0 : Int) < (c : Int)) = true := by simp; omega
      have da : (a == a) = true := by simp
      have HD : Hid (ageS o (s.data.toList.drop j) = .error (s.data.toList.drop i1, 1)) := Lib.hid (by
        rcases HT.out with ⟨h, _⟩ | ⟨_, _, h⟩
        · exact absurd rfl h
        · rw [h, if_pos (HLS.out trivial hc0)])
      have cf := fail_yes R s j2 i1 1 w3 h3
      go_wp2_with fail
      (with_reducible refine cf.mono ?_)
      rintro x wf ⟨rfl, hf, tf⟩
      have hown4 := own_keep hown3 (rdq_rows h3 tf (by decide))
      have hT4 := hT3.trans tf
      have ST2 := Lib.hid (ST'.out o i1 1 (Or.inl ⟨by omega, HD.out⟩))
      clear k1 k2 cf ST' HD
      have k1 := hf.cell 1
      have k2 := hf.cell 2
      simp only [List.getElem?_toArray, List.getElem?_cons_zero, List.getElem?_cons_succ] at k1 k2
      go_wp2_with fail
      refine wp_loop_rounds 1 ?_
      rw [rounds_succ]
      go_wp2
      go_roundw
      case rel => exact ⟨c + 1, m, o, a, i1, 1, by go_num, rfl, by omega, hown4, hf, hi1, hT4, hm, Lib.hid (fun h => absurd h (by omega)), Lib.hid (fun h _ => absurd h (by omega)), ST2⟩
      case measure => simp [intOf] <;> omega
    have HD : Hid (ageS o (s.data.toList.drop j) = .ok (o ++ List.replicate k a, s.data.toList.drop j2)) := Lib.hid (by
      rcases HT.out with ⟨h, _⟩ | ⟨_, _, h⟩
      · exact absurd rfl h
      · rw [h, if_neg]
        intro hg
        by_cases hc0 : 0 < c
        · rw [HLS.out trivial hc0] at hg
          injection hg with hg
          exact hdup ⟨hc0, hg.symm⟩
        · rw [HZ.out (by omega)] at hg; cases hg)
    have ST2 := Lib.hid (ST'.out (o ++ List.replicate k a) j2 0 (Or.inr ⟨rfl, HD.out⟩))
    clear ST' HD HT
    have FIN : ∀ (v' : Value) (wr' : World), wr'.ownsRow w.heap.size 3 1 v' (m + k) (ints (o ++ List.replicate k a)) → Rdq wr' R s j2 0 → Tch (On R) w wr' → QAL s R i e n w v' (.int .i64 a) (.int .i64 ((c : Int) + 1)) wr' := fun v' wr' h1 h2 h3 =>
      ⟨c + 1, m + k, o ++ List.replicate k a, a, j2, 0, by go_num, rfl, by omega, h1, h2, hj2, h3, by omega, Lib.hid (fun h => absurd h (by omega)), Lib.hid (fun _ _ => by rw [List.getLast?_append, List.getLast?_replicate, if_neg (by omega)]; rfl), ST2⟩
    by_cases hc0 : 0 < c
    all_goals
      first
        | have dc : decide ((0 : Int) < (c : Int)) = true := by (simp; omega)
        | (have dc : decide ((0 : Int) < (c : Int)) = false := by (simp; omega))
      first
        | (have da : (a == last) = false := by (rw [beq_eq_false_iff_ne]; exact fun h => hdup ⟨hc0, h⟩))
        | skip
      clear hdup
      go_wp2_with fail
      go_loopw [3, 10] (fun v qv wi => ∃ q : Nat, qv = .int .i64 q ∧ q ≤ k ∧ wi.ownsRow w.heap.size 3 1 v (m + q) (ints (o ++ List.replicate q a)) ∧ Rdq wi R s j2 0 ∧ Tch (On R) w wi) (fun _ qv _ => k - (intOf qv).toNat)
      case atStart => exact ⟨0, rfl, by omega, by rw [List.replicate_zero, List.append_nil]; exact hown3, h3, hT3⟩
      case round =>
        obtain ⟨q, rfl, hq, hownq, hrq, hTq⟩ := hrel
        have kq := hrq.cell 2
        simp only [List.getElem?_toArray, List.getElem?_cons_zero, List.getElem?_cons_succ] at kq
        have hzq := hTq.size
        clear k1 k2
        by_cases hqk : q < k
        rotate_left
        · obtain rfl : q = k := by omega
          have dq : decide ((q : Int) < (q : Int)) = false := by simp
          have FF := FIN _ _ hownq hrq hTq
          clear FIN dc
          go_wp2
          refine ⟨FF, ?_⟩
          simp [intOf] <;> omega
        have dq : decide ((q : Int) < (k : Int)) = true := by simp; omega
        clear dc
        obtain ⟨va, vc, rfl⟩ := StaL.own_shape hownq
        go_wp2_with (at_builtin; refine wpList_append_lies _ rfl (.tmp 93) (.tmp 95) 25 rfl w.heap.size 3 i0 (.int .i64 0) 1 8 Try.underlying25 hi0 hz0 hz1 hz2 rfl (by decide) _ (m + q) (ints (o ++ List.replicate q a)) rfl (hownq.alloc _) ⟨wr.heap.size, 0, none⟩ 1 1 [.int .i64 a] rfl rfl (World.news_of_block (heap_alloc_new wr _)) (by intro u hu; simp at hu; subst hu; rfl) (by omega) (by unfold maxLen; omega) (by omega) (by simp; omega) _ rfl ?_)
        intro g cap w5 hown5 hgrow hat hlt5
        have hT5 : Tch (On R) w w5 := tch_grown (hTq.alloc _) hgrow (fun k hk => (hownq.lt k hk).1)
        have keep : ∀ (g : Nat) (c : Array Value) (t : TypeId) (f : Nat × Nat), t ≠ 3 → wr.heap[g]? = some (.cells c t f) → w5.heap[g]? = some (.cells c t f) := fun g c t f h1 hg => grow_keep (hownq.alloc _) hgrow g c t f h1 (alloc_keep _ g c t f hg)
        have h5 : Rdq w5 R s j2 0 := keep _ _ _ _ (by decide) hrq
        have hown6 : w5.ownsRow w.heap.size 3 1 (.slice (some ⟨g, 0, none⟩) (m + q + 1) cap) (m + (q + 1)) (ints (o ++ List.replicate (q + 1) a)) := by
          rw [show ints (o ++ List.replicate (q + 1) a) = List.map (Value.int .i64) o ++ (List.replicate q (Value.int .i64 a) ++ [Value.int .i64 a]) by simp [ints, List.replicate_succ']]; exact hown5
        clear keep hown5 hownq kq
        go_wp2
        go_roundw
        case rel => exact ⟨q + 1, by go_num, by omega, hown6, h5, hT5⟩
        case measure => simp [intOf] <;> omega
end StaRq
end Go.Proofs.Ytfkjogkpdebepaa
