/- The reference's row. Conditions: texts that fit; a premise on alt. -/
import Derived.Test.YtpdmjegbjcefjaaDoorEreNj
import Derived.Test.YtpdmjegbjcefjaaDoorEreZ
namespace Go.Proofs.YtpdmjegbjcefjaaDoor
set_option linter.unusedVariables false
set_option linter.unusedSimpArgs false
open Go.RowKit
namespace EreN
open EreP EreW EreX
/-- A row of expressions: none, one, or many. -/
theorem own_ways {w : World} {base : Nat} {l : List Re} {v : Value} {xs : List Value} (h : w.ownsRow base 27 9 v l.length xs) (hr : Rts w (base ≤ ·) l xs) :
    (l = [] ∧ ∃ A c, v = .slice A 0 c) ∨
    (∃ r g c cs, l = [r] ∧ v = .slice (some ⟨g, 0, none⟩) 1 c ∧ base ≤ g ∧ g < w.heap.size ∧ Rt w (base ≤ ·) r cs ∧ ∀ j u, cs[j]? = some u → w.cell? ⟨g, j, none⟩ = some u) ∨
    (2 ≤ l.length ∧ ∃ g c, v = .slice (some ⟨g, 0, none⟩) l.length c ∧ base ≤ g ∧ ∀ W, (∀ b, base ≤ b → b < w.heap.size → W.heap[b]? = w.heap[b]?) → ∀ kind, Rt W (base ≤ ·) (.mk kind 0 l 0 0 0) (reC kind 0 (some ⟨g, 0, none⟩) l.length c 0 0 0)) := by
  by_cases h0 : l.length = 0
  · left
    refine ⟨List.eq_nil_of_length_eq_zero h0, ?_⟩
    rcases h.2 with ⟨rfl, _⟩ | ⟨g, cap, cur, rfl, _⟩
    · exact ⟨none, 0, rfl⟩
    · exact ⟨_, _, by rw [h0]⟩
  right
  rcases h.2 with ⟨_, hl0⟩ | ⟨g, cap, cur, rfl, hg, hblk, hc1, hc2, hc3, htk⟩
  · exact absurd hl0 h0
  have hgl : g < w.heap.size := (Array.getElem?_eq_some_iff.1 hblk).1
  have hcell : ∀ j u, xs[j]? = some u → w.cell? ⟨g, j, none⟩ = some u := by
    intro j u hu
    have hB : Blk w g 27 cur := hblk
    rw [← htk, List.getElem?_take] at hu
    split at hu
    · rw [hB.cell]; simpa using hu
    · cases hu
  by_cases h1 : l.length = 1
  · left
    obtain ⟨r, rfl⟩ : ∃ r, l = [r] := by
      match l, h1 with
      | [r], _ => exact ⟨r, rfl⟩
    obtain ⟨cs, hrt0, hat⟩ := hr.at_ (i := 0) (by simp)
    exact ⟨r, g, cap, cs, rfl, rfl, hg, hgl, hrt0, fun j u hu => hcell j u (by have := hat j u hu; rwa [Nat.zero_mul, Nat.zero_add] at this)⟩
  · right
    refine ⟨by omega, g, cap, rfl, hg, fun W hW kind => ?_⟩
    exact (rts_keep hr (fun _ hb => hb) hW).kind kind 0 0 0 (g := g) (o := 0) (fun _ => rfl) (fun _ => hg) (fun j u hu => by rw [Nat.zero_add]; exact (World.cell?_of_block (a := ⟨g, j, none⟩) (hW g hg hgl)).trans (hcell j u hu)) hc1
/-- How a list of expressions stands in a loop. -/
structure LstQ (B R X : Nat) (s : ByteArray) (w0 : World) (v : Value) (acc : List Re) (k g e : Nat) (wr : World) : Prop where
  own : ∃ xs, wr.ownsRow B 27 9 v acc.length xs ∧ Rts wr (Kv B v) acc xs
  rdr : Rdr wr R s k g e
  res : Blk wr X 27 zC
  tch : Tch (On R) w0 wr
  le : k ≤ s.size
theorem LstQ.dn {B R X k g e : Nat} {s : ByteArray} {w0 wr : World} {v : Value} {acc : List Re} (h : LstQ B R X s w0 v acc k g e wr) (m : Nat) : LstQ B R X s w0 v acc k g e (wr.drewN m) := by
  obtain ⟨⟨xs, h1, h2⟩, h3, h4, h5, h6⟩ := h
  exact ⟨⟨xs, h1, rts_keep h2 (fun _ h => h) (fun _ _ _ => rfl)⟩, h3.dn m, h4.drewN m, h5.drewN m, h6⟩
def RowQ (d : Nat) : Prop := ∀ (R B : Nat) (s : ByteArray) (i g : Nat) (w : World), Rdr w R s i g 0 → R < B → B ≤ w.heap.size → i ≤ s.size → s.size ≤ 200 → g ≤ i →
  Calls Tryd.prog 47 #[pt R, .int .i64 (d : Nat)] w (PPq B R s w (rowP (grpP (64 - d)) ((rest s i).length + 1) [] (rest s i) g))
set_option maxHeartbeats 6400000 in
set_option maxRecDepth 100000 in
theorem row_q (d : Nat) (hd : d ≤ 64) (hA : d < 64 → AltQ (d + 1)) : RowQ d := by
  intro R B s i g w h hRB hB hi hs hgi
  have hs6 : s.size ≤ 1000000 := by omega
  obtain ⟨SP, hSP⟩ : ∃ SP, rowP (grpP (64 - d)) ((rest s i).length + 1) [] (rest s i) g = SP := ⟨_, rfl⟩
  have hGL := grp_len (64 - d)
  have hGM := grp_mono (64 - d)
  obtain ⟨wa, hwa⟩ : ∃ z : World, z = w.alloc (.cells zC 27) := ⟨_, rfl⟩
  have hne : w.heap.size ≠ R := by omega
  have ha : Rdr wa R s i g 0 := by rw [hwa]; exact h.alloc _
  have xa : Blk wa w.heap.size 27 zC := by rw [hwa]; exact Blk.new _ _ _
  have za : wa.heap.size = w.heap.size + 1 := by rw [hwa, World.size_alloc]
  have TA := Lib.hid (show Tch (fun b => b = R ∨ b = w.heap.size) w wa by rw [hwa]; exact (Tch.refl _ _).alloc _)
  have hlR := h.lt
  have hL0 : LstQ wa.heap.size R w.heap.size s wa (.slice none 0 0) [] i g 0 wa := ⟨⟨[], World.ownsRow_nil _ _ _ _, Rts.nil⟩, ha, xa, Tch.refl _ _, hi⟩
  have hS0 : g ≤ i ∧ ∃ fuel, (rest s i).length < fuel ∧ SP = rowP (grpP (64 - d)) fuel [] (rest s i) g := ⟨hgi, _, Nat.lt_succ_self _, hSP.symm⟩
  have HL0 := Lib.hid hL0
  have HS0 := Lib.hid hS0
  rw [hSP]
  have HGL := Lib.hid hGL
  have HGM := Lib.hid hGM
  have hGd := hA
  clear hSP hL0 hS0 h ha xa hGL hGM hA
  obtain ⟨i0, hi0, hz0, hz1, hz2⟩ := info_parts info_R
  obtain ⟨BB, hBB⟩ : ∃ BB, BB = wa.heap.size := ⟨_, rfl⟩
  have hBw : w.heap.size < BB := by omega
  rw [← hBB] at HL0
  have hBa : BB ≤ wa.heap.size := by omega
  have hBa2 : wa.heap.size ≤ BB := by omega
  clear za hBB
  go_enter Tryd.func47, Tryd.ntmps47
  go_wp2_with fail
  rw [← hwa]
  clear hwa
  go_loopg [5] (2 * (s.size - i) + 1) (fun gg lv wr => ∃ (acc : List Re) (k g' e : Nat), LstQ BB R w.heap.size s wa lv acc k g' e wr ∧ acc.length ≤ k + (if e = 0 then 0 else 1) ∧ 2 * (s.size - k) + (if e = 0 then 1 else 0) ≤ gg ∧
    ((e = 0 ∧ g' ≤ k ∧ ∃ fuel, (rest s k).length < fuel ∧ SP = rowP (grpP (64 - d)) fuel acc (rest s k) g') ∨ (e ≠ 0 ∧ SP = .error (rest s k, e))))
  case atStart => exact ⟨[], i, g, 0, HL0.out, by simp, by simp, Or.inl ⟨rfl, HS0.out⟩⟩
  case round =>
    obtain ⟨z0, rfl⟩ : ∃ z : World, z = wr := ⟨_, rfl⟩
    obtain ⟨lv, rfl⟩ : ∃ z : Value, z = u5 := ⟨_, rfl⟩
    obtain ⟨acc, k, g', e, hL, hacc, hgg, hsp⟩ := hrel
    clear HL0 HS0
    have hk := hL.le
    have HL := Lib.hid hL
    have hacc2 : acc.length ≤ 1048576 := by
      have := hacc
      split at this <;> omega
    obtain ⟨j0, j1, j2, j3⟩ := HL.out.rdr.cells
    clear hL
    by_cases hgo : e = 0 ∧ ∃ hlk : k < s.size, s[k]'hlk ≠ 124 ∧ s[k]'hlk ≠ 41
    rotate_left
    · have HFIN := Lib.hid (show (e = 0 ∧ SP = .ok (several 4 acc, rest s k, g')) ∨ (e ≠ 0 ∧ SP = .error (rest s k, e)) by
        rcases hsp with ⟨h1, _, fuel, hfu, h2⟩ | h1
        · left
          refine ⟨h1, ?_⟩
          obtain ⟨f, rfl⟩ : ∃ f, fuel = f + 1 := ⟨fuel - 1, by omega⟩
          rw [h2, rowP, if_pos]
          by_cases hlk : k < s.size
          · rw [rest_cons s k hlk]
            have : s[k]'hlk = 124 ∨ s[k]'hlk = 41 := by
              by_cases h3 : s[k]'hlk = 124
              · exact Or.inl h3
              · right; exact Classical.byContradiction (fun h4 => hgo ⟨h1, hlk, h3, h4⟩)
            rcases this with h | h <;> rw [h] <;> rfl
          · rw [rest_nil s k (by omega)]; rfl
        · exact Or.inr h1)
      have hways : (e ≠ 0) ∨ (e = 0 ∧ ¬ k < s.size) ∨ (e = 0 ∧ ∃ hlk : k < s.size, s[k]'hlk = 124) ∨ (e = 0 ∧ ∃ hlk : k < s.size, s[k]'hlk = 41) := by
        by_cases he : e = 0
        · by_cases hlk : k < s.size
          · by_cases h3 : s[k]'hlk = 124
            · exact Or.inr (Or.inr (Or.inl ⟨he, hlk, h3⟩))
            · exact Or.inr (Or.inr (Or.inr ⟨he, hlk, Classical.byContradiction (fun h4 => hgo ⟨he, hlk, h3, h4⟩)⟩))
          · exact Or.inr (Or.inl ⟨he, hlk⟩)
        · exact Or.inl he
      clear hgo hsp hgg hacc hGd HGL HGM
      rcases hways with he | ⟨he, hlk⟩ | ⟨he, hlk, hcc⟩ | ⟨he, hlk, hcc⟩
      · have d0 : ((e : Int) == 0) = false := by rw [beq_eq_false_iff_ne]; omega
        clear he
        go_wp2_with fail
        go_simp
        go_quiet (fail)
        have L9 := Lib.hid (HL.out.dn nq)
        clear HL j0 j1 j2 j3
        generalize z0.drewN nq = w9 at *
        obtain ⟨⟨xs9, hown9, hrts9⟩, hLr, hLx, hLt, hLe⟩ := L9.out
        have X9 := Lib.hid hLx
        have H9 := Lib.hid hLr
        have T9 := Lib.hid (TA.out.trans (hLt.more (S' := fun b => b = R ∨ b = w.heap.size) (fun b hb => Or.inl hb)))
        have hw9 := own_ways hown9 (rts_keep hrts9 (K' := (BB ≤ ·)) (fun b hb => hb.1) (fun _ _ _ => rfl))
        have hzs := hLt.size
        clear hown9 hrts9 hLr hLx hLt
        have xg := X9.out
        have p0 := xg.cell 0
        have p1 := xg.cell 1
        have p2 := xg.cell 2
        have p3 := xg.cell 3
        have p4 := xg.cell 4
        have p5 := xg.cell 5
        have p6 := xg.cell 6
        have p7 := xg.cell 7
        have p8 := xg.cell 8
        simp only [List.getElem?_toArray, List.getElem?_cons_zero, List.getElem?_cons_succ] at p0 p1 p2 p3 p4 p5 p6 p7 p8
        have l0 := xg.loose 0
        have l1 := xg.loose 1
        have l2 := xg.loose 2
        have l3 := xg.loose 3
        have l4 := xg.loose 4
        have l5 := xg.loose 5
        have l6 := xg.loose 6
        have l7 := xg.loose 7
        have l8 := xg.loose 8
        have hlx := xg.lt
        clear xg
        rcases hw9 with ⟨rfl, A9, c9, rfl⟩ | ⟨r9, g9, c9, cs9, rfl, rfl, hg9, hl9, hrt9, hat9⟩ | ⟨h29, g9, c9, rfl, hg9, hmany9⟩
        · have HF9 := Lib.hid (show (e = 0 ∧ SP = .ok (.mk 0 0 [] 0 0 0, rest s k, g')) ∨ (e ≠ 0 ∧ SP = .error (rest s k, e)) from HFIN.out)
          clear HFIN
          go_wp2
          first | (refine bodyPost_ret (R := PPq B R s w SP) (v := .agg zC) (by simp [results, Tryd.results47, go_sem, hlx, p0, p1, p2, p3, p4, p5, p6, p7, p8, word]) rfl ?_) | fail
          exact ⟨_, _, k, g', e, rfl, zero_rt _ _, EreU_far H9.out (fun e => hne e.symm), hLe, tch_in (Tch.refl _ w) (EreU_tch T9.out (Or.inr rfl)) (Nat.le_refl _), HF9.out⟩
        · have HRT := Lib.hid hrt9
          obtain ⟨A, cp, hcs, hS, hnil⟩ := hrt9.shape
          have HCS := Lib.hid hcs
          rw [hcs] at hat9
          have q0 := hat9 0 _ rfl
          have q1 := hat9 1 _ rfl
          have q2 := hat9 2 _ rfl
          have q3 := hat9 3 _ rfl
          have q4 := hat9 4 _ rfl
          have q5 := hat9 5 _ rfl
          have q6 := hat9 6 _ rfl
          have q7 := hat9 7 _ rfl
          have q8 := hat9 8 _ rfl
          clear hat9 hcs hS hnil hrt9
          have HF9 := Lib.hid (show (e = 0 ∧ SP = .ok (r9, rest s k, g')) ∨ (e ≠ 0 ∧ SP = .error (rest s k, e)) from HFIN.out)
          clear HFIN
          generalize hk0 : r9.kind = k0 at *
          generalize hk1 : r9.set = k1 at *
          generalize hk2 : r9.kids.length = k2 at *
          generalize hk3 : r9.lo = k3 at *
          generalize hk4 : r9.hi = k4 at *
          generalize hk5 : r9.n = k5 at *
          clear hk0 hk1 hk2 hk3 hk4 hk5
          go_wp2
          first | (refine bodyPost_ret (R := PPq B R s w SP) (v := .agg (reC k0 k1 A k2 cp k3 k4 k5).toArray) (by simp [results, Tryd.results47, go_sem, hlx, p0, p1, p2, p3, p4, p5, p6, p7, p8, q0, q1, q2, q3, q4, q5, q6, q7, q8]) rfl ?_) | fail
          exact ⟨r9, _, k, g', e, rfl, by rw [← HCS.out]; exact HRT.out.keep (fun b hb => by omega) (fun b hb hl => (EreU_tch (X := w.heap.size) (S := (· = w.heap.size)) (Tch.refl _ _) rfl).block b hl (fun e => by have e2 : b = w.heap.size := e; omega)), EreU_far H9.out (fun e => hne e.symm), hLe, tch_in (Tch.refl _ w) (EreU_tch T9.out (Or.inr rfl)) (Nat.le_refl _), HF9.out⟩
        · have HM := Lib.hid (fun W h => hmany9 W h 4)
          have HF9 := Lib.hid (show (e = 0 ∧ SP = .ok (.mk 4 0 acc 0 0 0, rest s k, g')) ∨ (e ≠ 0 ∧ SP = .error (rest s k, e)) by
            have := HFIN.out
            rwa [several_many 4 acc h29] at this)
          clear HFIN hmany9
          obtain ⟨n, hn⟩ : ∃ n, acc.length = n := ⟨_, rfl⟩
          rw [hn] at HM h29 ⊢
          have d0 : ((n : Int) == 0) = false := by rw [beq_eq_false_iff_ne]; omega
          have d1 : ((n : Int) == 1) = false := by rw [beq_eq_false_iff_ne]; omega
          clear hn h29
          go_wp2
          first | (refine bodyPost_ret (R := PPq B R s w SP) (v := .agg (reC 4 0 (some ⟨g9, 0, none⟩) n c9 0 0 0).toArray) (by simp [results, Tryd.results47, go_sem, hlx, p0, p1, p2, p3, p4, p5, p6, p7, p8, word]) rfl ?_) | fail
          exact ⟨.mk 4 0 acc 0 0 0, _, k, g', e, rfl, (HM.out _ (fun b hb hl => (EreU_tch (X := w.heap.size) (S := (· = w.heap.size)) (Tch.refl _ _) rfl).block b hl (fun e => by have e2 : b = w.heap.size := e; omega))).keep (fun b hb => by omega) (fun _ _ _ => rfl), EreU_far H9.out (fun e => hne e.symm), hLe, tch_in (Tch.refl _ w) (EreU_tch T9.out (Or.inr rfl)) (Nat.le_refl _), HF9.out⟩
      · have d0 : decide ((k : Int) < (s.size : Int)) = false := by simp; omega
        have d0n : decide (k < s.size) = false := by simp; omega
        have d00 : ((e : Int) == 0) = true := by rw [he]; rfl
        clear hlk he
        go_wp2_with fail
        go_simp
        go_quiet (fail)
        have L9 := Lib.hid (HL.out.dn nq)
        clear HL j0 j1 j2 j3
        generalize z0.drewN nq = w9 at *
        obtain ⟨⟨xs9, hown9, hrts9⟩, hLr, hLx, hLt, hLe⟩ := L9.out
        have X9 := Lib.hid hLx
        have H9 := Lib.hid hLr
        have T9 := Lib.hid (TA.out.trans (hLt.more (S' := fun b => b = R ∨ b = w.heap.size) (fun b hb => Or.inl hb)))
        have hw9 := own_ways hown9 (rts_keep hrts9 (K' := (BB ≤ ·)) (fun b hb => hb.1) (fun _ _ _ => rfl))
        have hzs := hLt.size
        clear hown9 hrts9 hLr hLx hLt
        have xg := X9.out
        have p0 := xg.cell 0
        have p1 := xg.cell 1
        have p2 := xg.cell 2
        have p3 := xg.cell 3
        have p4 := xg.cell 4
        have p5 := xg.cell 5
        have p6 := xg.cell 6
        have p7 := xg.cell 7
        have p8 := xg.cell 8
        simp only [List.getElem?_toArray, List.getElem?_cons_zero, List.getElem?_cons_succ] at p0 p1 p2 p3 p4 p5 p6 p7 p8
        have l0 := xg.loose 0
        have l1 := xg.loose 1
        have l2 := xg.loose 2
        have l3 := xg.loose 3
        have l4 := xg.loose 4
        have l5 := xg.loose 5
        have l6 := xg.loose 6
        have l7 := xg.loose 7
        have l8 := xg.loose 8
        have hlx := xg.lt
        clear xg
        rcases hw9 with ⟨rfl, A9, c9, rfl⟩ | ⟨r9, g9, c9, cs9, rfl, rfl, hg9, hl9, hrt9, hat9⟩ | ⟨h29, g9, c9, rfl, hg9, hmany9⟩
        · have HF9 := Lib.hid (show (e = 0 ∧ SP = .ok (.mk 0 0 [] 0 0 0, rest s k, g')) ∨ (e ≠ 0 ∧ SP = .error (rest s k, e)) from HFIN.out)
          clear HFIN
          go_wp2
          first | (refine bodyPost_ret (R := PPq B R s w SP) (v := .agg zC) (by simp [results, Tryd.results47, go_sem, hlx, p0, p1, p2, p3, p4, p5, p6, p7, p8, word]) rfl ?_) | fail
          exact ⟨_, _, k, g', e, rfl, zero_rt _ _, EreU_far H9.out (fun e => hne e.symm), hLe, tch_in (Tch.refl _ w) (EreU_tch T9.out (Or.inr rfl)) (Nat.le_refl _), HF9.out⟩
        · have HRT := Lib.hid hrt9
          obtain ⟨A, cp, hcs, hS, hnil⟩ := hrt9.shape
          have HCS := Lib.hid hcs
          rw [hcs] at hat9
          have q0 := hat9 0 _ rfl
          have q1 := hat9 1 _ rfl
          have q2 := hat9 2 _ rfl
          have q3 := hat9 3 _ rfl
          have q4 := hat9 4 _ rfl
          have q5 := hat9 5 _ rfl
          have q6 := hat9 6 _ rfl
          have q7 := hat9 7 _ rfl
          have q8 := hat9 8 _ rfl
          clear hat9 hcs hS hnil hrt9
          have HF9 := Lib.hid (show (e = 0 ∧ SP = .ok (r9, rest s k, g')) ∨ (e ≠ 0 ∧ SP = .error (rest s k, e)) from HFIN.out)
          clear HFIN
          generalize hk0 : r9.kind = k0 at *
          generalize hk1 : r9.set = k1 at *
          generalize hk2 : r9.kids.length = k2 at *
          generalize hk3 : r9.lo = k3 at *
          generalize hk4 : r9.hi = k4 at *
          generalize hk5 : r9.n = k5 at *
          clear hk0 hk1 hk2 hk3 hk4 hk5
          go_wp2
          first | (refine bodyPost_ret (R := PPq B R s w SP) (v := .agg (reC k0 k1 A k2 cp k3 k4 k5).toArray) (by simp [results, Tryd.results47, go_sem, hlx, p0, p1, p2, p3, p4, p5, p6, p7, p8, q0, q1, q2, q3, q4, q5, q6, q7, q8]) rfl ?_) | fail
          exact ⟨r9, _, k, g', e, rfl, by rw [← HCS.out]; exact HRT.out.keep (fun b hb => by omega) (fun b hb hl => (EreU_tch (X := w.heap.size) (S := (· = w.heap.size)) (Tch.refl _ _) rfl).block b hl (fun e => by have e2 : b = w.heap.size := e; omega)), EreU_far H9.out (fun e => hne e.symm), hLe, tch_in (Tch.refl _ w) (EreU_tch T9.out (Or.inr rfl)) (Nat.le_refl _), HF9.out⟩
        · have HM := Lib.hid (fun W h => hmany9 W h 4)
          have HF9 := Lib.hid (show (e = 0 ∧ SP = .ok (.mk 4 0 acc 0 0 0, rest s k, g')) ∨ (e ≠ 0 ∧ SP = .error (rest s k, e)) by
            have := HFIN.out
            rwa [several_many 4 acc h29] at this)
          clear HFIN hmany9
          obtain ⟨n, hn⟩ : ∃ n, acc.length = n := ⟨_, rfl⟩
          rw [hn] at HM h29 ⊢
          have d0 : ((n : Int) == 0) = false := by rw [beq_eq_false_iff_ne]; omega
          have d1 : ((n : Int) == 1) = false := by rw [beq_eq_false_iff_ne]; omega
          clear hn h29
          go_wp2
          first | (refine bodyPost_ret (R := PPq B R s w SP) (v := .agg (reC 4 0 (some ⟨g9, 0, none⟩) n c9 0 0 0).toArray) (by simp [results, Tryd.results47, go_sem, hlx, p0, p1, p2, p3, p4, p5, p6, p7, p8, word]) rfl ?_) | fail
          exact ⟨.mk 4 0 acc 0 0 0, _, k, g', e, rfl, (HM.out _ (fun b hb hl => (EreU_tch (X := w.heap.size) (S := (· = w.heap.size)) (Tch.refl _ _) rfl).block b hl (fun e => by have e2 : b = w.heap.size := e; omega))).keep (fun b hb => by omega) (fun _ _ _ => rfl), EreU_far H9.out (fun e => hne e.symm), hLe, tch_in (Tch.refl _ w) (EreU_tch T9.out (Or.inr rfl)) (Nat.le_refl _), HF9.out⟩
      · have d0 : decide ((k : Int) < (s.size : Int)) = true := by simp; omega
        have d0n : decide (k < s.size) = true := by simp; omega
        have d1 : (((s[k]'hlk).toNat : Int) != 124) = false := by rw [hcc]; rfl
        have d00 : ((e : Int) == 0) = true := by rw [he]; rfl
        clear he
        obtain ⟨c, hcq⟩ : ∃ c, s[k]'hlk = c := ⟨_, rfl⟩
        rw [hcq] at d1
        clear hcc
        go_wp2_with fail
        go_simp
        go_quiet (fail)
        have L9 := Lib.hid (HL.out.dn nq)
        clear HL j0 j1 j2 j3 d1 hcq
        generalize z0.drewN nq = w9 at *
        obtain ⟨⟨xs9, hown9, hrts9⟩, hLr, hLx, hLt, hLe⟩ := L9.out
        have X9 := Lib.hid hLx
        have H9 := Lib.hid hLr
        have T9 := Lib.hid (TA.out.trans (hLt.more (S' := fun b => b = R ∨ b = w.heap.size) (fun b hb => Or.inl hb)))
        have hw9 := own_ways hown9 (rts_keep hrts9 (K' := (BB ≤ ·)) (fun b hb => hb.1) (fun _ _ _ => rfl))
        have hzs := hLt.size
        clear hown9 hrts9 hLr hLx hLt
        have xg := X9.out
        have p0 := xg.cell 0
        have p1 := xg.cell 1
        have p2 := xg.cell 2
        have p3 := xg.cell 3
        have p4 := xg.cell 4
        have p5 := xg.cell 5
        have p6 := xg.cell 6
        have p7 := xg.cell 7
        have p8 := xg.cell 8
        simp only [List.getElem?_toArray, List.getElem?_cons_zero, List.getElem?_cons_succ] at p0 p1 p2 p3 p4 p5 p6 p7 p8
        have l0 := xg.loose 0
        have l1 := xg.loose 1
        have l2 := xg.loose 2
        have l3 := xg.loose 3
        have l4 := xg.loose 4
        have l5 := xg.loose 5
        have l6 := xg.loose 6
        have l7 := xg.loose 7
        have l8 := xg.loose 8
        have hlx := xg.lt
        clear xg
        rcases hw9 with ⟨rfl, A9, c9, rfl⟩ | ⟨r9, g9, c9, cs9, rfl, rfl, hg9, hl9, hrt9, hat9⟩ | ⟨h29, g9, c9, rfl, hg9, hmany9⟩
        · have HF9 := Lib.hid (show (e = 0 ∧ SP = .ok (.mk 0 0 [] 0 0 0, rest s k, g')) ∨ (e ≠ 0 ∧ SP = .error (rest s k, e)) from HFIN.out)
          clear HFIN
          go_wp2
          first | (refine bodyPost_ret (R := PPq B R s w SP) (v := .agg zC) (by simp [results, Tryd.results47, go_sem, hlx, p0, p1, p2, p3, p4, p5, p6, p7, p8, word]) rfl ?_) | fail
          exact ⟨_, _, k, g', e, rfl, zero_rt _ _, EreU_far H9.out (fun e => hne e.symm), hLe, tch_in (Tch.refl _ w) (EreU_tch T9.out (Or.inr rfl)) (Nat.le_refl _), HF9.out⟩
        · have HRT := Lib.hid hrt9
          obtain ⟨A, cp, hcs, hS, hnil⟩ := hrt9.shape
          have HCS := Lib.hid hcs
          rw [hcs] at hat9
          have q0 := hat9 0 _ rfl
          have q1 := hat9 1 _ rfl
          have q2 := hat9 2 _ rfl
          have q3 := hat9 3 _ rfl
          have q4 := hat9 4 _ rfl
          have q5 := hat9 5 _ rfl
          have q6 := hat9 6 _ rfl
          have q7 := hat9 7 _ rfl
          have q8 := hat9 8 _ rfl
          clear hat9 hcs hS hnil hrt9
          have HF9 := Lib.hid (show (e = 0 ∧ SP = .ok (r9, rest s k, g')) ∨ (e ≠ 0 ∧ SP = .error (rest s k, e)) from HFIN.out)
          clear HFIN
          generalize hk0 : r9.kind = k0 at *
          generalize hk1 : r9.set = k1 at *
          generalize hk2 : r9.kids.length = k2 at *
          generalize hk3 : r9.lo = k3 at *
          generalize hk4 : r9.hi = k4 at *
          generalize hk5 : r9.n = k5 at *
          clear hk0 hk1 hk2 hk3 hk4 hk5
          go_wp2
          first | (refine bodyPost_ret (R := PPq B R s w SP) (v := .agg (reC k0 k1 A k2 cp k3 k4 k5).toArray) (by simp [results, Tryd.results47, go_sem, hlx, p0, p1, p2, p3, p4, p5, p6, p7, p8, q0, q1, q2, q3, q4, q5, q6, q7, q8]) rfl ?_) | fail
          exact ⟨r9, _, k, g', e, rfl, by rw [← HCS.out]; exact HRT.out.keep (fun b hb => by omega) (fun b hb hl => (EreU_tch (X := w.heap.size) (S := (· = w.heap.size)) (Tch.refl _ _) rfl).block b hl (fun e => by have e2 : b = w.heap.size := e; omega)), EreU_far H9.out (fun e => hne e.symm), hLe, tch_in (Tch.refl _ w) (EreU_tch T9.out (Or.inr rfl)) (Nat.le_refl _), HF9.out⟩
        · have HM := Lib.hid (fun W h => hmany9 W h 4)
          have HF9 := Lib.hid (show (e = 0 ∧ SP = .ok (.mk 4 0 acc 0 0 0, rest s k, g')) ∨ (e ≠ 0 ∧ SP = .error (rest s k, e)) by
            have := HFIN.out
            rwa [several_many 4 acc h29] at this)
          clear HFIN hmany9
          obtain ⟨n, hn⟩ : ∃ n, acc.length = n := ⟨_, rfl⟩
          rw [hn] at HM h29 ⊢
          have d0 : ((n : Int) == 0) = false := by rw [beq_eq_false_iff_ne]; omega
          have d1 : ((n : Int) == 1) = false := by rw [beq_eq_false_iff_ne]; omega
          clear hn h29
          go_wp2
          first | (refine bodyPost_ret (R := PPq B R s w SP) (v := .agg (reC 4 0 (some ⟨g9, 0, none⟩) n c9 0 0 0).toArray) (by simp [results, Tryd.results47, go_sem, hlx, p0, p1, p2, p3, p4, p5, p6, p7, p8, word]) rfl ?_) | fail
          exact ⟨.mk 4 0 acc 0 0 0, _, k, g', e, rfl, (HM.out _ (fun b hb hl => (EreU_tch (X := w.heap.size) (S := (· = w.heap.size)) (Tch.refl _ _) rfl).block b hl (fun e => by have e2 : b = w.heap.size := e; omega))).keep (fun b hb => by omega) (fun _ _ _ => rfl), EreU_far H9.out (fun e => hne e.symm), hLe, tch_in (Tch.refl _ w) (EreU_tch T9.out (Or.inr rfl)) (Nat.le_refl _), HF9.out⟩
      · have d0 : decide ((k : Int) < (s.size : Int)) = true := by simp; omega
        have d0n : decide (k < s.size) = true := by simp; omega
        have d1 : (((s[k]'hlk).toNat : Int) != 124) = true := by rw [hcc]; rfl
        have d2 : (((s[k]'hlk).toNat : Int) != 41) = false := by rw [hcc]; rfl
        have d00 : ((e : Int) == 0) = true := by rw [he]; rfl
        clear he
        obtain ⟨c, hcq⟩ : ∃ c, s[k]'hlk = c := ⟨_, rfl⟩
        rw [hcq] at d1 d2
        clear hcc
        go_wp2_with fail
        go_simp
        go_quiet (fail)
        have L9 := Lib.hid (HL.out.dn nq)
        clear HL j0 j1 j2 j3 d1 d2 hcq
        generalize z0.drewN nq = w9 at *
        obtain ⟨⟨xs9, hown9, hrts9⟩, hLr, hLx, hLt, hLe⟩ := L9.out
        have X9 := Lib.hid hLx
        have H9 := Lib.hid hLr
        have T9 := Lib.hid (TA.out.trans (hLt.more (S' := fun b => b = R ∨ b = w.heap.size) (fun b hb => Or.inl hb)))
        have hw9 := own_ways hown9 (rts_keep hrts9 (K' := (BB ≤ ·)) (fun b hb => hb.1) (fun _ _ _ => rfl))
        have hzs := hLt.size
        clear hown9 hrts9 hLr hLx hLt
        have xg := X9.out
        have p0 := xg.cell 0
        have p1 := xg.cell 1
        have p2 := xg.cell 2
        have p3 := xg.cell 3
        have p4 := xg.cell 4
        have p5 := xg.cell 5
        have p6 := xg.cell 6
        have p7 := xg.cell 7
        have p8 := xg.cell 8
        simp only [List.getElem?_toArray, List.getElem?_cons_zero, List.getElem?_cons_succ] at p0 p1 p2 p3 p4 p5 p6 p7 p8
        have l0 := xg.loose 0
        have l1 := xg.loose 1
        have l2 := xg.loose 2
        have l3 := xg.loose 3
        have l4 := xg.loose 4
        have l5 := xg.loose 5
        have l6 := xg.loose 6
        have l7 := xg.loose 7
        have l8 := xg.loose 8
        have hlx := xg.lt
        clear xg
        rcases hw9 with ⟨rfl, A9, c9, rfl⟩ | ⟨r9, g9, c9, cs9, rfl, rfl, hg9, hl9, hrt9, hat9⟩ | ⟨h29, g9, c9, rfl, hg9, hmany9⟩
        · have HF9 := Lib.hid (show (e = 0 ∧ SP = .ok (.mk 0 0 [] 0 0 0, rest s k, g')) ∨ (e ≠ 0 ∧ SP = .error (rest s k, e)) from HFIN.out)
          clear HFIN
          go_wp2
          first | (refine bodyPost_ret (R := PPq B R s w SP) (v := .agg zC) (by simp [results, Tryd.results47, go_sem, hlx, p0, p1, p2, p3, p4, p5, p6, p7, p8, word]) rfl ?_) | fail
          exact ⟨_, _, k, g', e, rfl, zero_rt _ _, EreU_far H9.out (fun e => hne e.symm), hLe, tch_in (Tch.refl _ w) (EreU_tch T9.out (Or.inr rfl)) (Nat.le_refl _), HF9.out⟩
        · have HRT := Lib.hid hrt9
          obtain ⟨A, cp, hcs, hS, hnil⟩ := hrt9.shape
          have HCS := Lib.hid hcs
          rw [hcs] at hat9
          have q0 := hat9 0 _ rfl
          have q1 := hat9 1 _ rfl
          have q2 := hat9 2 _ rfl
          have q3 := hat9 3 _ rfl
          have q4 := hat9 4 _ rfl
          have q5 := hat9 5 _ rfl
          have q6 := hat9 6 _ rfl
          have q7 := hat9 7 _ rfl
          have q8 := hat9 8 _ rfl
          clear hat9 hcs hS hnil hrt9
          have HF9 := Lib.hid (show (e = 0 ∧ SP = .ok (r9, rest s k, g')) ∨ (e ≠ 0 ∧ SP = .error (rest s k, e)) from HFIN.out)
          clear HFIN
          generalize hk0 : r9.kind = k0 at *
          generalize hk1 : r9.set = k1 at *
          generalize hk2 : r9.kids.length = k2 at *
          generalize hk3 : r9.lo = k3 at *
          generalize hk4 : r9.hi = k4 at *
          generalize hk5 : r9.n = k5 at *
          clear hk0 hk1 hk2 hk3 hk4 hk5
          go_wp2
          first | (refine bodyPost_ret (R := PPq B R s w SP) (v := .agg (reC k0 k1 A k2 cp k3 k4 k5).toArray) (by simp [results, Tryd.results47, go_sem, hlx, p0, p1, p2, p3, p4, p5, p6, p7, p8, q0, q1, q2, q3, q4, q5, q6, q7, q8]) rfl ?_) | fail
          exact ⟨r9, _, k, g', e, rfl, by rw [← HCS.out]; exact HRT.out.keep (fun b hb => by omega) (fun b hb hl => (EreU_tch (X := w.heap.size) (S := (· = w.heap.size)) (Tch.refl _ _) rfl).block b hl (fun e => by have e2 : b = w.heap.size := e; omega)), EreU_far H9.out (fun e => hne e.symm), hLe, tch_in (Tch.refl _ w) (EreU_tch T9.out (Or.inr rfl)) (Nat.le_refl _), HF9.out⟩
        · have HM := Lib.hid (fun W h => hmany9 W h 4)
          have HF9 := Lib.hid (show (e = 0 ∧ SP = .ok (.mk 4 0 acc 0 0 0, rest s k, g')) ∨ (e ≠ 0 ∧ SP = .error (rest s k, e)) by
            have := HFIN.out
            rwa [several_many 4 acc h29] at this)
          clear HFIN hmany9
          obtain ⟨n, hn⟩ : ∃ n, acc.length = n := ⟨_, rfl⟩
          rw [hn] at HM h29 ⊢
          have d0 : ((n : Int) == 0) = false := by rw [beq_eq_false_iff_ne]; omega
          have d1 : ((n : Int) == 1) = false := by rw [beq_eq_false_iff_ne]; omega
          clear hn h29
          go_wp2
          first | (refine bodyPost_ret (R := PPq B R s w SP) (v := .agg (reC 4 0 (some ⟨g9, 0, none⟩) n c9 0 0 0).toArray) (by simp [results, Tryd.results47, go_sem, hlx, p0, p1, p2, p3, p4, p5, p6, p7, p8, word]) rfl ?_) | fail
          exact ⟨.mk 4 0 acc 0 0 0, _, k, g', e, rfl, (HM.out _ (fun b hb hl => (EreU_tch (X := w.heap.size) (S := (· = w.heap.size)) (Tch.refl _ _) rfl).block b hl (fun e => by have e2 : b = w.heap.size := e; omega))).keep (fun b hb => by omega) (fun _ _ _ => rfl), EreU_far H9.out (fun e => hne e.symm), hLe, tch_in (Tch.refl _ w) (EreU_tch T9.out (Or.inr rfl)) (Nat.le_refl _), HF9.out⟩
    obtain ⟨rfl, hlk, hc1, hc2⟩ := hgo
    obtain ⟨_, hgk, fuel, hfu, hsp⟩ : 0 = 0 ∧ g' ≤ k ∧ ∃ fuel, (rest s k).length < fuel ∧ SP = rowP (grpP (64 - d)) fuel acc (rest s k) g' := by
      rcases hsp with h1 | ⟨h1, _⟩
      · exact h1
      · exact absurd rfl h1
    rw [if_pos rfl] at hacc hgg
    obtain ⟨f, rfl⟩ : ∃ f, fuel = f + 1 := ⟨fuel - 1, by omega⟩
    rw [rowP] at hsp
    have hend : rowEnd (rest s k) = false := by
      rw [rest_cons s k hlk]
      simp [rowEnd, hc1, hc2]
    rw [hend] at hsp
    simp only [Bool.false_eq_true, if_false] at hsp
    have HSP := Lib.hid hsp
    have d0 : decide ((k : Int) < (s.size : Int)) = true := by simp; omega
    have nn : ∀ m : UInt8, s[k]'hlk ≠ m → (((s[k]'hlk).toNat : Int) != (m.toNat : Int)) = true := by
      intro m hm
      rw [bne_iff_ne]
      intro h; exact hm (UInt8.toNat_inj.1 (by omega))
    have d1 := nn 124 hc1
    have d2 := nn 41 hc2
    rw [show (((124 : UInt8).toNat : Nat) : Int) = 124 from rfl] at d1
    rw [show (((41 : UInt8).toNat : Nat) : Int) = 41 from rfl] at d2
    obtain ⟨c, hcq⟩ : ∃ c, s[k]'hlk = c := ⟨_, rfl⟩
    rw [hcq] at d1 d2
    clear hsp hend nn hc1 hc2
    go_wp2_with fail
    go_simp
    go_quiet (fail)
    have hLm := HL.out.dn nq
    clear HL j0 j1 j2 j3 d0 d1 d2 hcq
    generalize z0.drewN nq = wm at *
    have cpc := piece_q d R wm.heap.size s k g' wm hLm.rdr hLm.rdr.lt (Nat.le_refl _) hlk hs hgk hd hGd
    go_wp2_with fail
    (with_reducible refine cpc.mono ?_)
    rintro x w1 ⟨r, cv, k', g2, e, rfl, hrt, h1, hk', t1, hspc⟩
    obtain ⟨⟨xs, hown, hrts⟩, hLr, hLx, hLt, hLe⟩ := hLm
    have x1 := hLx.tch t1 (fun e => hne e)
    have T1 := hLt.trans t1
    have hRB' : R < BB := by omega
    have hlt1 := hown.lt
    have hown1 : w1.ownsRow BB 27 9 lv acc.length xs := hown.kept (row := some R) ⟨t1.os, t1.tape, t1.output, t1.size, fun k hk hne => t1.block k hk (fun e => hne (by rw [e]))⟩ (by
      cases hv : lv.ownBlock with
      | none => exact Or.inl rfl
      | some b => right; intro e; injection e with e; have := (hlt1 b hv).1; omega)
    have hrts1 : Rts w1 (Kv BB lv) acc xs := hrts.tch t1 (fun b hb e => by have e2 : b = R := e; have := hb.1; omega)
    have hz1' := t1.size
    have hB1 : BB ≤ wm.heap.size := by have := hLt.size; omega
    obtain ⟨A, c, rfl, hS, hnil⟩ := hrt.shape
    have HRT := Lib.hid hrt
    have HRTS := Lib.hid hrts1
    have HSPC := Lib.hid hspc
    have HLV := Lib.hid (fun b (hb : lv.ownBlock = some b) => (hlt1 b hb).2)
    clear cpc hrt hS hnil hrts hrts1 hown hLr hLx hspc hlt1
    generalize hk0 : r.kind = k0 at *
    generalize hk1 : r.set = k1 at *
    generalize hk2 : r.kids.length = k2 at *
    generalize hk3 : r.lo = k3 at *
    generalize hk4 : r.hi = k4 at *
    generalize hk5 : r.n = k5 at *
    clear hk0 hk1 hk2 hk3 hk4 hk5
    go_wp2_with (at_builtin; refine wpList_append_lies _ rfl _ _ 25 rfl BB 27 i0 (.agg #[.int .i64 0, .int .u64 0, .int .u64 0, .int .u64 0, .int .u64 0, .slice none 0 0, .int .i64 0, .int .i64 0, .int .i64 0]) 9 88 Tryd.underlying25 hi0 hz0 hz1 hz2 rfl (by decide) _ acc.length xs rfl (hown1.alloc _) ⟨w1.heap.size, 0, none⟩ 1 1 (reC k0 k1 A k2 c k3 k4 k5) rfl rfl (World.news_of_block (heap_alloc_new w1 _)) (by intro u hu; simp at hu; rcases hu with rfl | rfl | rfl | rfl | rfl | rfl | rfl | rfl | rfl <;> rfl) (by omega) (by unfold maxLen; omega) (by omega) (by rw [World.size_alloc]; omega) (w1.heap.size + 1) (by rw [World.size_alloc]) ?_)
    intro g5 cap w5 hown5 hgrow hat hlt5
    have hrts5 := rts_snoc (cap := cap) HRTS.out HRT.out hB1 HLV.out hgrow hat rfl
    have hown1lt := hown1.lt
    have h5 : Rdr w5 R s k' g2 e := by
      have hne : lv.ownBlock ≠ some R := fun e => by have := (hown1lt R e).1; omega
      exact (hgrow.block R (by rw [World.size_alloc]; have := h1.lt; omega) (fun e => hne e.symm)).trans (Below.heap_alloc w1 _ R h1.lt |>.trans h1)
    have x5 : Blk w5 w.heap.size 27 zC := by
      have hne : lv.ownBlock ≠ some w.heap.size := fun e => by have := (hown1lt _ e).1; omega
      exact (hgrow.block w.heap.size (by rw [World.size_alloc]; have := x1.lt; omega) (fun e => hne e.symm)).trans (Below.heap_alloc w1 _ _ x1.lt |>.trans x1)
    have T5 : Tch (On R) wa w5 := by
      refine ⟨hgrow.os.trans T1.os, hgrow.tape.trans T1.tape, hgrow.output.trans T1.output, ?_, fun b hb hs => ?_⟩
      · have := hgrow.size; rw [World.size_alloc] at this; have := T1.size; omega
      · have hne : lv.ownBlock ≠ some b := fun e => by have := (hown1lt b e).1; omega
        have hb1 : b < w1.heap.size := by have := T1.size; omega
        exact (hgrow.block b (by rw [World.size_alloc]; omega) (fun e => hne e.symm)).trans ((Below.heap_alloc w1 _ b hb1).trans (T1.block b hb hs))
    have hlst : LstQ BB R w.heap.size s wa (.slice (some ⟨g5, 0, none⟩) (acc.length + 1) cap) (acc ++ [r]) k' g2 e w5 := by
      refine ⟨⟨_, ?_, hrts5⟩, h5, x5, T5, hk'⟩
      rw [List.length_append]; exact hown5
    have HLST := Lib.hid hlst
    clear hlst hown5 hgrow hat hrts5 h5 x5 T5 hown1 hown1lt x1 T1 h1
    rcases HSPC.out with ⟨rfl, hok⟩ | ⟨he, herr⟩
    · have hpl := piece_len HGL.out hok
      rw [rest_len, rest_len] at hpl
      have hpm := piece_mono HGL.out HGM.out (rest s k) g'
      rw [hok] at hpm
      simp only [Mono] at hpm
      rw [rest_len, rest_len] at hpm
      have hs2' : SP = rowP (grpP (64 - d)) f (acc ++ [r]) (rest s k') g2 := by rw [HSP.out, hok]
      have hfl : (rest s k').length < f := by rw [rest_len]; rw [rest_len] at hfu; omega
      have HS2 := Lib.hid hs2'
      clear hs2' hok
      go_wp2
      go_roundg (2 * (s.size - k') + 1)
      case measure => omega
      case rel => exact ⟨acc ++ [r], k', g2, 0, HLST.out, by rw [List.length_append, if_pos rfl]; simp; omega, by simp, Or.inl ⟨rfl, by omega, f, hfl, HS2.out⟩⟩
    · have hpm := piece_mono HGL.out HGM.out (rest s k) g'
      rw [herr] at hpm
      simp only [Mono] at hpm
      rw [rest_len, rest_len] at hpm
      have hs2' : SP = .error (rest s k', e) := by rw [HSP.out, herr]
      have HS2 := Lib.hid hs2'
      have HE := Lib.hid he
      clear hs2' herr he
      go_wp2
      go_roundg (2 * (s.size - k'))
      case measure => omega
      case rel => exact ⟨acc ++ [r], k', g2, e, HLST.out, by rw [List.length_append, if_neg HE.out]; simp; omega, by rw [if_neg HE.out]; omega, Or.inr ⟨HE.out, HS2.out⟩⟩
end EreN
end Go.Proofs.YtpdmjegbjcefjaaDoor
