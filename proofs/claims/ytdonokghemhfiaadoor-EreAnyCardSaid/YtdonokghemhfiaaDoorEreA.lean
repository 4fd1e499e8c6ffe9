/- The walks of the expression reader's alt and group, at all depths. Conditions: texts that fit. -/
import Derived.Test.YtdonokghemhfiaaDoorEreZ
namespace Go.Proofs.YtdonokghemhfiaaDoor
set_option linter.unusedVariables false
set_option linter.unusedSimpArgs false
open Go.RowKit
namespace EreX
open EreP EreW
/-- What a list of rows comes to. -/
def altS (G : Grp) (f : Nat) (acc : List Re) (l : Bs) (g : Nat) : R3 Re := if l.head? == some 124 then altP G f acc l.tail g else .ok (several 5 acc, l, g)
theorem alt_step {G : Grp} {f : Nat} {acc : List Re} {l r : Bs} {g g' : Nat} {x : Re} (h : rowP G (l.length + 1) [] l g = .ok (x, r, g')) : altP G (f + 1) acc l g = altS G f (acc ++ [x]) r g' := by
  rw [altP, h]; rfl
theorem alt_err {G : Grp} {f : Nat} {acc : List Re} {l : Bs} {g : Nat} {e : Bs × Nat} (h : rowP G (l.length + 1) [] l g = .error e) : altP G (f + 1) acc l g = .error e := by
  rw [altP, h]
theorem bar_any (c : UInt8) (r : Bs) : peekB (⟨#[124]⟩ : ByteArray).data.toList (c :: r) 0 = (c == 124) := par_any c 124 r
set_option maxHeartbeats 6400000 in
set_option maxRecDepth 100000 in
theorem alt_c (d : Nat) (hRow : RowC d) : AltC d := by
  intro R B s i g w h hRB hB hi hs hgi
  have hs2 : s.size ≤ 4611686018427387904 := by omega
  obtain ⟨SP, hSP⟩ : ∃ SP, altP (grpP (64 - d)) ((rest s i).length + 1) [] (rest s i) g = SP := ⟨_, rfl⟩
  have hGL := grp_len (64 - d)
  have hGM := grp_mono (64 - d)
  obtain ⟨wa, hwa⟩ : ∃ z : World, z = w.alloc (.cells zC 28) := ⟨_, rfl⟩
  have ha : Rdr wa R s i g 0 := by rw [hwa]; exact h.alloc _
  have xa : Blk wa w.heap.size 28 zC := by rw [hwa]; exact Blk.new _ _ _
  have za : wa.heap.size = w.heap.size + 1 := by rw [hwa, World.size_alloc]
  have ta : Tch (On R) w wa := by rw [hwa]; exact (Tch.refl _ _).alloc _
  have hlR := h.lt
  have cr := hRow R wa.heap.size s i g wa ha ha.lt (Nat.le_refl _) hi hs hgi
  have HSP0 := Lib.hid hSP
  rw [hSP]
  have HGL := Lib.hid hGL
  have HGM := Lib.hid hGM
  clear hSP h hGL hGM
  obtain ⟨i0, hi0, hz0, hz1, hz2⟩ := info_parts info_R
  obtain ⟨BB, hBB⟩ : ∃ BB, BB = wa.heap.size := ⟨_, rfl⟩
  have hBw : w.heap.size < BB := by omega
  have hBa : BB ≤ wa.heap.size := by omega
  have hBa2 : wa.heap.size ≤ BB := by omega
  clear za hBB
  go_enter Tryd.func19, Tryd.ntmps19
  go_wp2_with fail
  rw [← hwa]
  clear hwa
  (with_reducible refine cr.mono ?_)
  rintro x w1 ⟨r, cv, k, g', e, rfl, hrt, h1, hk, t1, hsp⟩
  have x1 := xa.tch t1 (show ¬ (w.heap.size = R) by omega)
  have z1 := t1.size
  obtain ⟨A, c, rfl, hS, hnil⟩ := hrt.shape
  have HRT := Lib.hid hrt.lt_
  clear cr hrt hnil hS
  generalize hk0 : r.kind = k0 at *
  generalize hk1 : r.set = k1 at *
  generalize hk2 : r.kids.length = k2 at *
  generalize hk3 : r.lo = k3 at *
  generalize hk4 : r.hi = k4 at *
  generalize hk5 : r.n = k5 at *
  clear hk0 hk1 hk2 hk3 hk4 hk5
  obtain ⟨wb, hwb⟩ : ∃ z : World, z = w1.alloc (.cells (reC k0 k1 A k2 c k3 k4 k5).toArray 28) := ⟨_, rfl⟩
  have hbk : Blk wb w1.heap.size 28 (reC k0 k1 A k2 c k3 k4 k5).toArray := by rw [hwb]; exact Blk.new _ _ _
  have hL0 : Lst BB R w.heap.size s wa (.slice (some ⟨w1.heap.size, 0, none⟩) 1 1) [r] k g' e wb := by
    refine ⟨⟨reC k0 k1 A k2 c k3 k4 k5, ⟨rfl, .inr ⟨w1.heap.size, 1, _, rfl, by omega, hbk, Nat.le_refl _, by decide, rfl, rfl⟩⟩, ?_⟩, by rw [hwb]; exact h1.alloc _, by rw [hwb]; exact x1.alloc _, by rw [hwb]; exact t1.alloc _, hk⟩
    have h0 : Rts wb (Kv BB (.slice (some ⟨w1.heap.size, 0, none⟩) 1 1)) ([] ++ [r]) ([] ++ reC k0 k1 A k2 c k3 k4 k5) := by
      refine Rts.snoc Rts.nil (HRT.out.keep (fun b hb => ⟨by omega, ?_⟩) (fun b hb hl => by rw [hwb]; exact Below.heap_alloc w1 _ b hl))
      intro e2; simp [Value.ownBlock] at e2; omega
    exact h0
  have hS0 : (e = 0 ∧ g' ≤ k ∧ ∃ f, (rest s k).length ≤ f ∧ SP = altS (grpP (64 - d)) f [r] (rest s k) g') ∨ (e ≠ 0 ∧ SP = .error (rest s k, e)) := by
    rw [← HSP0.out]
    rcases hsp with ⟨h2, h3⟩ | ⟨h2, h3⟩
    · left
      have hm := row_mono HGL.out HGM.out ((rest s i).length + 1) [] (rest s i) g
      have hl := row_len HGL.out _ _ _ _ h3
      rw [h3] at hm
      simp only [Mono] at hm
      rw [rest_len, rest_len] at hm
      exact ⟨h2, by omega, (rest s i).length, hl, alt_step h3⟩
    · exact Or.inr ⟨h2, alt_err h3⟩
  have HL0 := Lib.hid hL0
  have HS0 := Lib.hid hS0
  have z2 : w1.heap.size < wb.heap.size := by rw [hwb, World.size_alloc]; omega
  clear hL0 hS0 hsp h1 x1 hbk xa ha
  go_wp2_with fail
  rw [← hwb]
  clear hwb
  obtain ⟨KB, hKB⟩ : ∃ KB, KB = w1.heap.size := ⟨_, rfl⟩
  rw [← hKB] at HL0 ⊢
  clear hKB z2
  have HT1 := Lib.hid t1
  clear t1
  go_loopg [5] (s.size - k) (fun gg lv wr => ∃ (acc : List Re) (k g' e : Nat), Lst BB R w.heap.size s wa lv acc k g' e wr ∧ acc.length ≤ k + 2 ∧ s.size - k ≤ gg ∧
    ((e = 0 ∧ g' ≤ k ∧ ∃ f, (rest s k).length ≤ f ∧ SP = altS (grpP (64 - d)) f acc (rest s k) g') ∨ (e ≠ 0 ∧ SP = .error (rest s k, e))))
  case atStart => exact ⟨[r], k, g', e, HL0.out, by simp, by simp, HS0.out⟩
  case round =>
    clear HL0 HS0 HRT HT1
    obtain ⟨z0, rfl⟩ : ∃ z : World, z = wr := ⟨_, rfl⟩
    obtain ⟨lv, rfl⟩ : ∃ z : Value, z = u5 := ⟨_, rfl⟩
    clear hk z1
    obtain ⟨acc, k, g', e, hL, hacc, hgg, hsp⟩ := hrel
    have hk := hL.le
    have cp := peek_c R s ⟨#[124]⟩ k g' e z0 hL.rdr
    have hacc2 : acc.length ≤ 1048576 := by omega
    by_cases hgo : e = 0 ∧ (rest s k).head? = some 124
    rotate_left
    · have hp : peekB (⟨#[124]⟩ : ByteArray).data.toList (rest s k) e = false := by
        unfold peekB
        by_cases he : e = 0
        · cases hr : rest s k with
          | nil => simp
          | cons c2 r2 =>
            have : ¬ c2 = 124 := fun h => hgo ⟨he, by rw [hr, h]; rfl⟩
            simp [this]
        · simp [he]
      rw [hp] at cp
      have hfin : (e = 0 ∧ SP = .ok (several 5 acc, rest s k, g')) ∨ (e ≠ 0 ∧ SP = .error (rest s k, e)) := by
        rcases hsp with ⟨h1, _, f, _, h2⟩ | h1
        · left
          refine ⟨h1, ?_⟩
          rw [h2]; unfold altS
          rw [if_neg (by simpa using fun h => hgo ⟨h1, h⟩)]
        · exact Or.inr h1
      have HFS := Lib.hid hfin
      clear hfin hsp hgo hp hgg
      go_wp2_with fail
      (with_reducible refine cp.mono ?_)
      rintro x wm ⟨rfl, m, rfl⟩
      have hLm := hL.dn m
      clear cp hL
      have cs := sev_any (kind := 5) hLm (by omega)
      have hLr := (hLm).rdr
      have hLx := (hLm).res
      have hLt := (hLm).tch
      go_wp2_with fail
      (with_reducible refine cs.mono ?_)
      rintro x w9 ⟨cv, rfl, hrt9, hb9⟩
      have h9 := hLr.next hb9
      have x9 := hLx.next hb9
      have T9 := ta.trans (hLt.trans (Tch.of_below hb9))
      obtain ⟨A, c, rfl, hS9, hnil9⟩ := hrt9.shape
      have HRT := Lib.hid hrt9
      clear cs hrt9 hnil9 hS9
      generalize hk0 : (several 5 acc).kind = k0 at *
      generalize hk1 : (several 5 acc).set = k1 at *
      generalize hk2 : (several 5 acc).kids.length = k2 at *
      generalize hk3 : (several 5 acc).lo = k3 at *
      generalize hk4 : (several 5 acc).hi = k4 at *
      generalize hk5 : (several 5 acc).n = k5 at *
      clear hk0 hk1 hk2 hk3 hk4 hk5
      have p0 := x9.cell 0
      have p1 := x9.cell 1
      have p2 := x9.cell 2
      have p3 := x9.cell 3
      have p4 := x9.cell 4
      have p5 := x9.cell 5
      have p6 := x9.cell 6
      have p7 := x9.cell 7
      have p8 := x9.cell 8
      simp only [List.getElem?_toArray, List.getElem?_cons_zero, List.getElem?_cons_succ] at p0 p1 p2 p3 p4 p5 p6 p7 p8
      have r0 := x9.loose 0
      have r1 := x9.loose 1
      have r2 := x9.loose 2
      have r3 := x9.loose 3
      have r4 := x9.loose 4
      have r5 := x9.loose 5
      have r6 := x9.loose 6
      have r7 := x9.loose 7
      have r8 := x9.loose 8
      go_wp2
      refine bodyPost_ret (v := .agg (reC k0 k1 A k2 c k3 k4 k5).toArray) (by simp [results, Tryd.results19, go_sem, p0, p1, p2, p3, p4, p5, p6, p7, p8]) rfl ?_
      exact ⟨_, _, k, g', e, rfl, tree_x HRT.out (tch9 (S := (· = w.heap.size)) (Tch.refl _ _) rfl) (by omega) (by omega), rdr9 h9 (by omega), hk, tch_new T9 (tch9 (S := (· = w.heap.size)) (Tch.refl _ _) rfl) (fun b hb => by rw [hb]; exact Nat.le_refl _), HFS.out⟩
    obtain ⟨rfl, hd⟩ := hgo
    obtain ⟨_, hgk, f, hf, hsp⟩ : 0 = 0 ∧ g' ≤ k ∧ ∃ f, (rest s k).length ≤ f ∧ SP = altS (grpP (64 - d)) f acc (rest s k) g' := by
      rcases hsp with h1 | ⟨h1, _⟩
      · exact h1
      · exact absurd rfl h1
    have hlt : k < s.size := by
      rcases Nat.lt_or_ge k s.size with h | h
      · exact h
      · rw [rest_nil s k h] at hd; cases hd
    have hc : (s[k]'hlt) = 124 := by rw [rest_cons s k hlt] at hd; simpa using hd
    have hR : rest s k = 124 :: rest s (k + 1) := by rw [rest_cons s k hlt, hc]
    have hsp2 : SP = altP (grpP (64 - d)) f acc (rest s (k + 1)) g' := by rw [hsp, hR]; rfl
    rw [hR] at cp
    rw [show peekB (⟨#[124]⟩ : ByteArray).data.toList (124 :: rest s (k + 1)) 0 = true from rfl] at cp
    rw [rest_len] at hf
    obtain ⟨f', rfl⟩ : ∃ f', f = f' + 1 := ⟨f - 1, by omega⟩
    have cn := fun m => next_ok R s k g' (z0.drewN m) (hL.rdr.dn m) hlt hs2
    have HSP := Lib.hid hsp2
    clear hsp hsp2 hR hc hd
    go_wp2_with fail
    (with_reducible refine cp.mono ?_)
    rintro x wm ⟨rfl, m, rfl⟩
    have cn' := cn m
    have hLm := hL.dn m
    clear cp cn hL
    go_wp2_with fail
    (with_reducible refine cn'.mono ?_)
    rintro x wn ⟨rfl, hn, tn⟩
    have crr := hRow R wn.heap.size s (k + 1) g' wn hn hn.lt (Nat.le_refl _) (by omega) hs (by omega)
    clear cn'
    go_wp2_with fail
    (with_reducible refine crr.mono ?_)
    rintro x w1 ⟨r2, cv, k', g2, e, rfl, hrt, h1, hk', t1, hspc⟩
    obtain ⟨⟨xs, hown, hrts⟩, hLr, hLx, hLt, hLe⟩ := hLm
    have t1n := tn.trans t1
    have x1 := hLx.tch t1n (show ¬ (w.heap.size = R) by omega)
    have T1 := hLt.trans t1n
    have hRB' : R < BB := by omega
    have hlt1 := hown.lt
    have hzd : (z0.drewN m).heap.size ≤ wn.heap.size := tn.size
    have hown1 : w1.ownsRow BB 28 9 lv acc.length xs := hown.kept (row := some R) ⟨t1n.os, t1n.tape, t1n.output, t1n.size, fun k hk hne => t1n.block k hk (fun e => hne (by rw [e]))⟩ (by
      cases hv : lv.ownBlock with
      | none => exact Or.inl rfl
      | some b => right; intro e; injection e with e; have := (hlt1 b hv).1; omega)
    have hrts1 : Rts w1 (Kv BB lv) acc xs := hrts.tch t1n (fun b hb e => by have e2 : b = R := e; have := hb.1; omega)
    have hz1' := t1.size
    have hB1 : BB ≤ wn.heap.size := by have := hLt.size; omega
    obtain ⟨A2, c2, rfl, hS, hnil⟩ := hrt.shape
    have HRT := Lib.hid hrt
    have HRTS := Lib.hid hrts1
    have HSPC := Lib.hid hspc
    have HLV := Lib.hid (fun b (hb : lv.ownBlock = some b) => (show b < wn.heap.size by have := (hlt1 b hb).2; omega))
    clear crr hrt hS hnil hrts hrts1 hown hLr hLx hspc hlt1
    generalize hk0 : r2.kind = k0 at *
    generalize hk1 : r2.set = k1 at *
    generalize hk2 : r2.kids.length = k2 at *
    generalize hk3 : r2.lo = k3 at *
    generalize hk4 : r2.hi = k4 at *
    generalize hk5 : r2.n = k5 at *
    clear hk0 hk1 hk2 hk3 hk4 hk5
    go_wp2_with (at_builtin; refine wpList_append_lies _ rfl _ _ 26 rfl BB 28 i0 (.agg #[.int .i64 0, .int .u64 0, .int .u64 0, .int .u64 0, .int .u64 0, .slice none 0 0, .int .i64 0, .int .i64 0, .int .i64 0]) 9 88 Tryd.underlying26 hi0 hz0 hz1 hz2 rfl (by decide) _ acc.length xs rfl (hown1.alloc _) ⟨w1.heap.size, 0, none⟩ 1 1 (reC k0 k1 A2 k2 c2 k3 k4 k5) rfl rfl (World.news_of_block (heap_alloc_new w1 _)) (by intro u hu; simp at hu; rcases hu with rfl | rfl | rfl | rfl | rfl | rfl | rfl | rfl | rfl <;> rfl) (by omega) (by unfold maxLen; omega) (by omega) (by rw [World.size_alloc]; omega) (w1.heap.size + 1) (by rw [World.size_alloc]) ?_)
    intro g5 cap w5 hown5 hgrow hat hlt5
    have hrts5 := rts_snoc (cap := cap) HRTS.out HRT.out hB1 HLV.out hgrow hat rfl
    have hown1lt := hown1.lt
    have h5 : Rdr w5 R s k' g2 e := by
      have hne : lv.ownBlock ≠ some R := fun e => by have := (hown1lt R e).1; omega
      exact (hgrow.block R (by rw [World.size_alloc]; have := h1.lt; omega) (fun e => hne e.symm)).trans (Below.heap_alloc w1 _ R h1.lt |>.trans h1)
    have x5 : Blk w5 w.heap.size 28 zC := by
      have hne : lv.ownBlock ≠ some w.heap.size := fun e => by have := (hown1lt _ e).1; omega
      exact (hgrow.block w.heap.size (by rw [World.size_alloc]; have := x1.lt; omega) (fun e => hne e.symm)).trans (Below.heap_alloc w1 _ _ x1.lt |>.trans x1)
    have T5 : Tch (On R) wa w5 := by
      refine ⟨hgrow.os.trans T1.os, hgrow.tape.trans T1.tape, hgrow.output.trans T1.output, ?_, fun b hb hs => ?_⟩
      · have := hgrow.size; rw [World.size_alloc] at this; have := T1.size; omega
      · have hne : lv.ownBlock ≠ some b := fun e => by have := (hown1lt b e).1; omega
        have hb1 : b < w1.heap.size := by have := T1.size; omega
        exact (hgrow.block b (by rw [World.size_alloc]; omega) (fun e => hne e.symm)).trans ((Below.heap_alloc w1 _ b hb1).trans (T1.block b hb hs))
    have hlst : Lst BB R w.heap.size s wa (.slice (some ⟨g5, 0, none⟩) (acc.length + 1) cap) (acc ++ [r2]) k' g2 e w5 := by
      refine ⟨⟨_, ?_, hrts5⟩, h5, x5, T5, hk'⟩
      rw [List.length_append]; exact hown5
    have HLST := Lib.hid hlst
    have hfin : k + 1 ≤ k' ∧ ((e = 0 ∧ g2 ≤ k' ∧ ∃ f, (rest s k').length ≤ f ∧ SP = altS (grpP (64 - d)) f (acc ++ [r2]) (rest s k') g2) ∨ (e ≠ 0 ∧ SP = .error (rest s k', e))) := by
      have hm := row_mono HGL.out HGM.out ((rest s (k + 1)).length + 1) [] (rest s (k + 1)) g'
      rw [HSP.out]
      rcases HSPC.out with ⟨h2, h3⟩ | ⟨h2, h3⟩
      · have hl := row_len HGL.out _ _ _ _ h3
        rw [h3] at hm
        simp only [Mono] at hm
        rw [rest_len, rest_len] at hm hl
        exact ⟨by omega, Or.inl ⟨h2, by omega, f', by rw [rest_len]; omega, alt_step h3⟩⟩
      · rw [h3] at hm
        simp only [Mono] at hm
        rw [rest_len, rest_len] at hm
        exact ⟨by omega, Or.inr ⟨h2, alt_err h3⟩⟩
    have hkk := hfin.1
    have HFIN := Lib.hid hfin.2
    clear hfin hlst hown5 hgrow hat hrts5 h5 x5 T5 hown1 hown1lt x1 T1 h1 t1n t1 tn hn
    go_wp2
    go_roundg (s.size - k')
    case measure => omega
    case rel => exact ⟨acc ++ [r2], k', g2, e, HLST.out, by rw [List.length_append]; simp; omega, by simp, HFIN.out⟩
end EreX
end Go.Proofs.YtdonokghemhfiaaDoor
