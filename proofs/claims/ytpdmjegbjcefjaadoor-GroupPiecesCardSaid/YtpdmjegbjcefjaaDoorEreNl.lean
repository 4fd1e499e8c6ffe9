/- The reference's alt, at every depth. Conditions: texts that fit. -/
import Derived.Test.YtpdmjegbjcefjaaDoorEreNk
import Derived.Test.YtpdmjegbjcefjaaDoorEreA
namespace Go.Proofs.YtpdmjegbjcefjaaDoor
set_option linter.unusedVariables false
set_option linter.unusedSimpArgs false
open Go.RowKit
namespace EreN
open EreP EreW EreX
set_option maxHeartbeats 6400000 in
set_option maxRecDepth 100000 in
theorem alt_q (d : Nat) (hRow : RowQ d) : AltQ d := by
  intro R B s i g w h hRB hB hi hs hgi
  have hs6 : s.size ≤ 1000000 := by omega
  obtain ⟨SP, hSP⟩ : ∃ SP, altP (grpP (64 - d)) ((rest s i).length + 1) [] (rest s i) g = SP := ⟨_, rfl⟩
  have hGL := grp_len (64 - d)
  have hGM := grp_mono (64 - d)
  obtain ⟨wa, hwa⟩ : ∃ z : World, z = w.alloc (.cells zC 27) := ⟨_, rfl⟩
  have hne : w.heap.size ≠ R := by omega
  have ha : Rdr wa R s i g 0 := by rw [hwa]; exact h.alloc _
  have xa : Blk wa w.heap.size 27 zC := by rw [hwa]; exact Blk.new _ _ _
  have za : wa.heap.size = w.heap.size + 1 := by rw [hwa, World.size_alloc]
  have TA := Lib.hid (show Tch (fun b => b = R ∨ b = w.heap.size) w wa by rw [hwa]; exact (Tch.refl _ _).alloc _)
  have hlR := h.lt
  have cr := hRow R wa.heap.size s i g wa ha ha.lt (Nat.le_refl _) hi hs hgi
  have HSP0 := Lib.hid hSP
  rw [hSP]
  have HGL := Lib.hid hGL
  have HGM := Lib.hid hGM
  clear hSP h hGL hGM
  obtain ⟨i0, hi0, hz0, hz1, hz2⟩ := info_parts info_R
  obtain ⟨BB, hBB⟩ : ∃ BB, BB = wa.heap.size := ⟨_, rfl⟩
  have hBw : w.heap.size < BB := by omega
  have hBa : BB ≤ wa.heap.size := by omega
  have hBa2 : wa.heap.size ≤ BB := by omega
  clear za hBB
  go_enter Tryd.func36, Tryd.ntmps36
  go_wp2_with fail
  rw [← hwa]
  clear hwa
  (with_reducible refine cr.mono ?_)
  rintro x w1 ⟨r, cv, k, g', e, rfl, hrt, h1, hk, t1, hsp⟩
  have x1 := xa.tch t1 (fun e => hne e)
  have z1 := t1.size
  obtain ⟨A, c, rfl, hS, hnil⟩ := hrt.shape
  have HRT := Lib.hid hrt.lt_
  clear cr hrt hnil hS
  generalize hk0 : r.kind = k0 at *
  generalize hk1 : r.set = k1 at *
  generalize hk2 : r.kids.length = k2 at *
  generalize hk3 : r.lo = k3 at *
  generalize hk4 : r.hi = k4 at *
  generalize hk5 : r.n = k5 at *
  clear hk0 hk1 hk2 hk3 hk4 hk5
  obtain ⟨wb, hwb⟩ : ∃ z : World, z = w1.alloc (.cells (reC k0 k1 A k2 c k3 k4 k5).toArray 27) := ⟨_, rfl⟩
  have hbk : Blk wb w1.heap.size 27 (reC k0 k1 A k2 c k3 k4 k5).toArray := by rw [hwb]; exact Blk.new _ _ _
  have hL0 : LstQ BB R w.heap.size s wa (.slice (some ⟨w1.heap.size, 0, none⟩) 1 1) [r] k g' e wb := by
    refine ⟨⟨reC k0 k1 A k2 c k3 k4 k5, ⟨rfl, .inr ⟨w1.heap.size, 1, _, rfl, by omega, hbk, Nat.le_refl _, by decide, rfl, rfl⟩⟩, ?_⟩, by rw [hwb]; exact h1.alloc _, by rw [hwb]; exact x1.alloc _, by rw [hwb]; exact t1.alloc _, hk⟩
    have h0 : Rts wb (Kv BB (.slice (some ⟨w1.heap.size, 0, none⟩) 1 1)) ([] ++ [r]) ([] ++ reC k0 k1 A k2 c k3 k4 k5) := by
      refine Rts.snoc Rts.nil (HRT.out.keep (fun b hb => ⟨by omega, ?_⟩) (fun b hb hl => by rw [hwb]; exact Below.heap_alloc w1 _ b hl))
      intro e2; simp [Value.ownBlock] at e2; omega
    exact h0
  have hS0 : (e = 0 ∧ g' ≤ k ∧ ∃ f, (rest s k).length ≤ f ∧ SP = altS (grpP (64 - d)) f [r] (rest s k) g') ∨ (e ≠ 0 ∧ SP = .error (rest s k, e)) := by
    rw [← HSP0.out]
    rcases hsp with ⟨h2, h3⟩ | ⟨h2, h3⟩
    · left
      have hm := row_mono HGL.out HGM.out ((rest s i).length + 1) [] (rest s i) g
      have hl := row_len HGL.out _ _ _ _ h3
      rw [h3] at hm
      simp only [Mono] at hm
      rw [rest_len, rest_len] at hm
      exact ⟨h2, by omega, (rest s i).length, hl, alt_step h3⟩
    · exact Or.inr ⟨h2, alt_err h3⟩
  have HL0 := Lib.hid hL0
  have HS0 := Lib.hid hS0
  have z2 : w1.heap.size < wb.heap.size := by rw [hwb, World.size_alloc]; omega
  clear hL0 hS0 hsp h1 x1 hbk xa ha
  go_wp2_with fail
  rw [← hwb]
  clear hwb
  obtain ⟨KB, hKB⟩ : ∃ KB, KB = w1.heap.size := ⟨_, rfl⟩
  rw [← hKB] at HL0 ⊢
  clear hKB z2
  clear t1
  go_loopg [5] (s.size - k) (fun gg lv wr => ∃ (acc : List Re) (k g' e : Nat), LstQ BB R w.heap.size s wa lv acc k g' e wr ∧ acc ≠ [] ∧ acc.length ≤ k + 2 ∧ s.size - k ≤ gg ∧
    ((e = 0 ∧ g' ≤ k ∧ ∃ f, (rest s k).length ≤ f ∧ SP = altS (grpP (64 - d)) f acc (rest s k) g') ∨ (e ≠ 0 ∧ SP = .error (rest s k, e))))
  case atStart => exact ⟨[r], k, g', e, HL0.out, by simp, by simp, by simp, HS0.out⟩
  case round =>
    clear HL0 HS0 HRT
    obtain ⟨z0, rfl⟩ : ∃ z : World, z = wr := ⟨_, rfl⟩
    obtain ⟨lv, rfl⟩ : ∃ z : Value, z = u5 := ⟨_, rfl⟩
    clear hk z1
    obtain ⟨acc, k, g', e, hL, hnn, hacc, hgg, hsp⟩ := hrel
    have hk := hL.le
    have ci := is_c R s k g' e 124 z0 hL.rdr hs6
    rw [show (((124 : UInt8).toNat : Nat) : Int) = 124 from rfl] at ci
    have hacc2 : acc.length ≤ 1048576 := by omega
    by_cases hgo : e = 0 ∧ (rest s k).head? = some 124
    rotate_left
    · have hp : isB 124 (rest s k) e = false := by
        by_cases he : e = 0
        · have hno : ¬ (rest s k).head? = some 124 := fun h => hgo ⟨he, h⟩
          subst he; exact isB_no hno
        · unfold isB; rw [show (e == 0) = false by rw [beq_eq_false_iff_ne]; exact he]; rfl
      rw [hp] at ci
      have HFIN := Lib.hid (show (e = 0 ∧ SP = .ok (several 5 acc, rest s k, g')) ∨ (e ≠ 0 ∧ SP = .error (rest s k, e)) by
        rcases hsp with ⟨h1, _, f, _, h2⟩ | h1
        · left
          refine ⟨h1, ?_⟩
          rw [h2]; unfold altS
          rw [if_neg (by simpa using fun h => hgo ⟨h1, h⟩)]
        · exact Or.inr h1)
      clear hp hgo hsp hgg hacc HGL HGM hRow HSP0
      go_wp2_with fail
      (with_reducible refine ci.mono ?_)
      rintro x _ ⟨rfl, m, rfl⟩
      have L9 := Lib.hid (hL.dn m)
      clear ci hL
      generalize z0.drewN m = w9 at *
      obtain ⟨⟨xs9, hown9, hrts9⟩, hLr, hLx, hLt, hLe⟩ := L9.out
      have X9 := Lib.hid hLx
      have H9 := Lib.hid hLr
      have T9 := Lib.hid (TA.out.trans (hLt.more (S' := fun b => b = R ∨ b = w.heap.size) (fun b hb => Or.inl hb)))
      have hw9 := own_ways hown9 (rts_keep hrts9 (K' := (BB ≤ ·)) (fun b hb => hb.1) (fun _ _ _ => rfl))
      have hzs := hLt.size
      clear hown9 hrts9 hLr hLx hLt
      have xg := X9.out
      have p0 := xg.cell 0
      have p1 := xg.cell 1
      have p2 := xg.cell 2
      have p3 := xg.cell 3
      have p4 := xg.cell 4
      have p5 := xg.cell 5
      have p6 := xg.cell 6
      have p7 := xg.cell 7
      have p8 := xg.cell 8
      simp only [List.getElem?_toArray, List.getElem?_cons_zero, List.getElem?_cons_succ] at p0 p1 p2 p3 p4 p5 p6 p7 p8
      have l0 := xg.loose 0
      have l1 := xg.loose 1
      have l2 := xg.loose 2
      have l3 := xg.loose 3
      have l4 := xg.loose 4
      have l5 := xg.loose 5
      have l6 := xg.loose 6
      have l7 := xg.loose 7
      have l8 := xg.loose 8
      have hlx := xg.lt
      clear xg
      rcases hw9 with ⟨rfl, A9, c9, rfl⟩ | ⟨r9, g9, c9, cs9, rfl, rfl, hg9, hl9, hrt9, hat9⟩ | ⟨h29, g9, c9, rfl, hg9, hmany9⟩
      · exact absurd rfl hnn
      · have HRT := Lib.hid hrt9
        obtain ⟨A, cp, hcs, hS, hnil⟩ := hrt9.shape
        have HCS := Lib.hid hcs
        rw [hcs] at hat9
        have q0 := hat9 0 _ rfl
        have q1 := hat9 1 _ rfl
        have q2 := hat9 2 _ rfl
        have q3 := hat9 3 _ rfl
        have q4 := hat9 4 _ rfl
        have q5 := hat9 5 _ rfl
        have q6 := hat9 6 _ rfl
        have q7 := hat9 7 _ rfl
        have q8 := hat9 8 _ rfl
        clear hat9 hcs hS hnil hrt9
        have HF9 := Lib.hid (show (e = 0 ∧ SP = .ok (r9, rest s k, g')) ∨ (e ≠ 0 ∧ SP = .error (rest s k, e)) from HFIN.out)
        clear HFIN
        generalize hk0 : r9.kind = k0 at *
        generalize hk1 : r9.set = k1 at *
        generalize hk2 : r9.kids.length = k2 at *
        generalize hk3 : r9.lo = k3 at *
        generalize hk4 : r9.hi = k4 at *
        generalize hk5 : r9.n = k5 at *
        clear hk0 hk1 hk2 hk3 hk4 hk5
        go_wp2
        first | (refine bodyPost_ret (R := PPq B R s w SP) (v := .agg (reC k0 k1 A k2 cp k3 k4 k5).toArray) (by simp [results, Tryd.results36, go_sem, hlx, p0, p1, p2, p3, p4, p5, p6, p7, p8, q0, q1, q2, q3, q4, q5, q6, q7, q8]) rfl ?_) | fail
        exact ⟨r9, _, k, g', e, rfl, by rw [← HCS.out]; exact HRT.out.keep (fun b hb => by omega) (fun b hb hl => (EreU_tch (X := w.heap.size) (S := (· = w.heap.size)) (Tch.refl _ _) rfl).block b hl (fun e => by have e2 : b = w.heap.size := e; omega)), EreU_far H9.out (fun e => hne e.symm), hLe, tch_in (Tch.refl _ w) (EreU_tch T9.out (Or.inr rfl)) (Nat.le_refl _), HF9.out⟩
      · have HM := Lib.hid (fun W h => hmany9 W h 5)
        have HF9 := Lib.hid (show (e = 0 ∧ SP = .ok (.mk 5 0 acc 0 0 0, rest s k, g')) ∨ (e ≠ 0 ∧ SP = .error (rest s k, e)) by
          have := HFIN.out
          rwa [several_many 5 acc h29] at this)
        clear HFIN hmany9
        obtain ⟨n, hn⟩ : ∃ n, acc.length = n := ⟨_, rfl⟩
        rw [hn] at HM h29 ⊢
        have d0 : ((n : Int) == 0) = false := by rw [beq_eq_false_iff_ne]; omega
        have d1 : ((n : Int) == 1) = false := by rw [beq_eq_false_iff_ne]; omega
        clear hn h29
        go_wp2
        first | (refine bodyPost_ret (R := PPq B R s w SP) (v := .agg (reC 5 0 (some ⟨g9, 0, none⟩) n c9 0 0 0).toArray) (by simp [results, Tryd.results36, go_sem, hlx, p0, p1, p2, p3, p4, p5, p6, p7, p8, word]) rfl ?_) | fail
        exact ⟨.mk 5 0 acc 0 0 0, _, k, g', e, rfl, (HM.out _ (fun b hb hl => (EreU_tch (X := w.heap.size) (S := (· = w.heap.size)) (Tch.refl _ _) rfl).block b hl (fun e => by have e2 : b = w.heap.size := e; omega))).keep (fun b hb => by omega) (fun _ _ _ => rfl), EreU_far H9.out (fun e => hne e.symm), hLe, tch_in (Tch.refl _ w) (EreU_tch T9.out (Or.inr rfl)) (Nat.le_refl _), HF9.out⟩
    obtain ⟨rfl, h124⟩ := hgo
    obtain ⟨hlk, hcons⟩ := rest_some h124
    have hp : isB 124 (rest s k) 0 = true := isB_yes h124
    rw [hp] at ci
    obtain ⟨hgk, f, hfu, hsp⟩ : g' ≤ k ∧ ∃ f, (rest s k).length ≤ f ∧ SP = altS (grpP (64 - d)) f acc (rest s k) g' := by
      rcases hsp with ⟨_, h1⟩ | ⟨h1, _⟩
      · exact h1
      · exact absurd rfl h1
    have hsp2 : SP = altP (grpP (64 - d)) f acc (rest s (k + 1)) g' := by
      rw [hsp]; unfold altS
      rw [if_pos (by rw [h124]; rfl), show (rest s k).tail = rest s (k + 1) by rw [hcons]; rfl]
    obtain ⟨f2, rfl⟩ : ∃ f2, f = f2 + 1 := ⟨f - 1, by rw [rest_len] at hfu; omega⟩
    have hfu2 : (rest s (k + 1)).length ≤ f2 := by rw [rest_len] at hfu ⊢; omega
    have HSP := Lib.hid hsp2
    have hL' := Lib.hid hL
    clear hsp hsp2 hp h124 hcons hfu
    go_wp2_with fail
    (with_reducible refine ci.mono ?_)
    rintro x _ ⟨rfl, m, rfl⟩
    have hLd := hL'.out.dn m
    clear ci hL hL'
    generalize z0.drewN m = wm at *
    obtain ⟨⟨xs, hown, hrts⟩, hLr, hLx, hLt, hLe⟩ := hLd
    obtain ⟨j0, j1, j2, j3⟩ := hLr.cells
    have f1 := hLr.free 1
    have hRB' : R < BB := by omega
    have hltm := hown.lt
    have tn : Tch (On R) wm (wm.setCell ⟨R, 1, none⟩ (.int .i64 ((k + 1 : Nat) : Int))) := Tch.setCell (S := On R) (Tch.refl _ _) (p := ⟨R, 1, none⟩) rfl _
    have hLn := hLr.setAt (k + 1)
    have xn := hLx.tch tn (fun e => hne e)
    have Tn := hLt.trans tn
    have hownn : (wm.setCell ⟨R, 1, none⟩ (.int .i64 ((k + 1 : Nat) : Int))).ownsRow BB 27 9 lv acc.length xs := hown.kept (row := some R) ⟨tn.os, tn.tape, tn.output, tn.size, fun k hk hne => tn.block k hk (fun e => hne (by rw [e]))⟩ (by
      cases hv : lv.ownBlock with
      | none => exact Or.inl rfl
      | some b => right; intro e; injection e with e; have := (hltm b hv).1; omega)
    have hrtsn : Rts (wm.setCell ⟨R, 1, none⟩ (.int .i64 ((k + 1 : Nat) : Int))) (Kv BB lv) acc xs := hrts.tch tn (fun b hb e => by have e2 : b = R := e; have := hb.1; omega)
    have hzn := tn.size
    have hLV0 : ∀ b, lv.ownBlock = some b → b < (wm.setCell ⟨R, 1, none⟩ (.int .i64 ((k + 1 : Nat) : Int))).heap.size := fun b hb => by have := (hltm b hb).2; omega
    obtain ⟨wn, hwn⟩ : ∃ z, z = wm.setCell ⟨R, 1, none⟩ (.int .i64 ((k + 1 : Nat) : Int)) := ⟨_, rfl⟩
    rw [← hwn] at hLn xn Tn hownn hrtsn hzn hLV0
    rw [show ((k + 1 : Nat) : Int) = (k : Int) + 1 from rfl] at hwn
    clear hown hrts hLx hLt hltm tn
    have cr := hRow R wn.heap.size s (k + 1) g' wn hLn hLn.lt (Nat.le_refl _) hlk hs (by omega)
    go_wp2_with fail
    rw [← hwn]
    clear hwn j0 j1 j2 j3 f1 hLr
    (with_reducible refine cr.mono ?_)
    rintro x w1 ⟨r, cv, k', g2, e, rfl, hrt, h1, hk', t1, hspc⟩
    have x1 := xn.tch t1 (fun e => hne e)
    have T1 := Tn.trans t1
    have hlt1 := hownn.lt
    have hown1 : w1.ownsRow BB 27 9 lv acc.length xs := hownn.kept (row := some R) ⟨t1.os, t1.tape, t1.output, t1.size, fun k hk hne => t1.block k hk (fun e => hne (by rw [e]))⟩ (by
      cases hv : lv.ownBlock with
      | none => exact Or.inl rfl
      | some b => right; intro e; injection e with e; have := (hlt1 b hv).1; omega)
    have hrts1 : Rts w1 (Kv BB lv) acc xs := hrtsn.tch t1 (fun b hb e => by have e2 : b = R := e; have := hb.1; omega)
    have hz1' := t1.size
    have hB1 : BB ≤ wn.heap.size := by have := Tn.size; omega
    obtain ⟨A, c, rfl, hS, hnil⟩ := hrt.shape
    have HRT := Lib.hid hrt
    have HRTS := Lib.hid hrts1
    have HSPC := Lib.hid hspc
    have HLV := Lib.hid hLV0
    clear cr hrt hS hnil hrtsn hrts1 hownn hLn xn hspc hlt1 hLV0 Tn
    generalize hk0 : r.kind = k0 at *
    generalize hk1 : r.set = k1 at *
    generalize hk2 : r.kids.length = k2 at *
    generalize hk3 : r.lo = k3 at *
    generalize hk4 : r.hi = k4 at *
    generalize hk5 : r.n = k5 at *
    clear hk0 hk1 hk2 hk3 hk4 hk5
    go_wp2_with (at_builtin; refine wpList_append_lies _ rfl _ _ 25 rfl BB 27 i0 (.agg #[.int .i64 0, .int .u64 0, .int .u64 0, .int .u64 0, .int .u64 0, .slice none 0 0, .int .i64 0, .int .i64 0, .int .i64 0]) 9 88 Tryd.underlying25 hi0 hz0 hz1 hz2 rfl (by decide) _ acc.length xs rfl (hown1.alloc _) ⟨w1.heap.size, 0, none⟩ 1 1 (reC k0 k1 A k2 c k3 k4 k5) rfl rfl (World.news_of_block (heap_alloc_new w1 _)) (by intro u hu; simp at hu; rcases hu with rfl | rfl | rfl | rfl | rfl | rfl | rfl | rfl | rfl <;> rfl) (by omega) (by unfold maxLen; omega) (by omega) (by rw [World.size_alloc]; omega) (w1.heap.size + 1) (by rw [World.size_alloc]) ?_)
    intro g5 cap w5 hown5 hgrow hat hlt5
    have hrts5 := rts_snoc (cap := cap) HRTS.out HRT.out hB1 HLV.out hgrow hat rfl
    have hown1lt := hown1.lt
    have h5 : Rdr w5 R s k' g2 e := by
      have hne : lv.ownBlock ≠ some R := fun e => by have := (hown1lt R e).1; omega
      exact (hgrow.block R (by rw [World.size_alloc]; have := h1.lt; omega) (fun e => hne e.symm)).trans (Below.heap_alloc w1 _ R h1.lt |>.trans h1)
    have x5 : Blk w5 w.heap.size 27 zC := by
      have hne : lv.ownBlock ≠ some w.heap.size := fun e => by have := (hown1lt _ e).1; omega
      exact (hgrow.block w.heap.size (by rw [World.size_alloc]; have := x1.lt; omega) (fun e => hne e.symm)).trans (Below.heap_alloc w1 _ _ x1.lt |>.trans x1)
    have T5 : Tch (On R) wa w5 := by
      refine ⟨hgrow.os.trans T1.os, hgrow.tape.trans T1.tape, hgrow.output.trans T1.output, ?_, fun b hb hs => ?_⟩
      · have := hgrow.size; rw [World.size_alloc] at this; have := T1.size; omega
      · have hne : lv.ownBlock ≠ some b := fun e => by have := (hown1lt b e).1; omega
        have hb1 : b < w1.heap.size := by have := T1.size; omega
        exact (hgrow.block b (by rw [World.size_alloc]; omega) (fun e => hne e.symm)).trans ((Below.heap_alloc w1 _ b hb1).trans (T1.block b hb hs))
    have hlst : LstQ BB R w.heap.size s wa (.slice (some ⟨g5, 0, none⟩) (acc.length + 1) cap) (acc ++ [r]) k' g2 e w5 := by
      refine ⟨⟨_, ?_, hrts5⟩, h5, x5, T5, hk'⟩
      rw [List.length_append]; exact hown5
    have HLST := Lib.hid hlst
    clear hlst hown5 hgrow hat hrts5 h5 x5 T5 hown1 hown1lt x1 T1 h1
    rcases HSPC.out with ⟨rfl, hok⟩ | ⟨he, herr⟩
    · have hm := row_mono HGL.out HGM.out ((rest s (k + 1)).length + 1) [] (rest s (k + 1)) g'
      have hl := row_len HGL.out _ _ _ _ hok
      rw [hok] at hm
      simp only [Mono] at hm
      rw [rest_len, rest_len] at hm hl
      have hs2' : SP = altS (grpP (64 - d)) f2 (acc ++ [r]) (rest s k') g2 := by rw [HSP.out, alt_step hok]
      have hfl : (rest s k').length ≤ f2 := by rw [rest_len]; rw [rest_len] at hfu2; omega
      have HS2 := Lib.hid hs2'
      clear hs2' hok
      go_wp2
      go_roundg (s.size - k')
      case measure => omega
      case rel => exact ⟨acc ++ [r], k', g2, 0, HLST.out, by simp, by rw [List.length_append]; simp; omega, by simp, Or.inl ⟨rfl, by omega, f2, hfl, HS2.out⟩⟩
    · have hm := row_mono HGL.out HGM.out ((rest s (k + 1)).length + 1) [] (rest s (k + 1)) g'
      rw [herr] at hm
      simp only [Mono] at hm
      rw [rest_len, rest_len] at hm
      have hs2' : SP = .error (rest s k', e) := by rw [HSP.out, alt_err herr]
      have HS2 := Lib.hid hs2'
      have HE := Lib.hid he
      clear hs2' herr he
      go_wp2
      go_roundg (s.size - k')
      case measure => omega
      case rel => exact ⟨acc ++ [r], k', g2, e, HLST.out, by simp, by rw [List.length_append]; simp; omega, by simp, Or.inr ⟨HE.out, HS2.out⟩⟩
theorem altq_all : ∀ n d, d + n = 64 → AltQ d := by
  intro n
  induction n with
  | zero => intro d hd; exact alt_q d (row_q d (by omega) (fun h => absurd h (by omega)))
  | succ n ih => intro d hd; exact alt_q d (row_q d (by omega) (fun h => ih (d + 1) (by omega)))
theorem altq_0 : AltQ 0 := altq_all 64 0 (by omega)
end EreN
end Go.Proofs.YtpdmjegbjcefjaaDoor
