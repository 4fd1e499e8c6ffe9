/- The reference's atom: groups. Conditions: texts that fit. -/
import Derived.Test.YtpdmjegbjcefjaaDoorEreNh
namespace Go.Proofs.YtpdmjegbjcefjaaDoor
set_option linter.unusedVariables false
set_option linter.unusedSimpArgs false
open Go.RowKit
namespace EreN
open EreP EreW EreX
/-- What alt answers, so deep. -/
def AltQ (d : Nat) : Prop := ∀ (R B : Nat) (s : ByteArray) (i g : Nat) (w : World), Rdr w R s i g 0 → R < B → B ≤ w.heap.size → i ≤ s.size → s.size ≤ 200 → g ≤ i →
  Calls Tryd.prog 36 #[pt R, .int .i64 (d : Nat)] w (PPq B R s w (altP (grpP (64 - d)) ((rest s i).length + 1) [] (rest s i) g))
theorem atom_grp (D : Nat) (l : Bs) (g : Nat) : atomP (grpP (D + 1)) (40 :: l) g = match altP (grpP D) (l.length + 1) [] l (g + 1) with
    | .error e => .error e
    | .ok (x, r', g') => match r' with
      | [] => .error ([], 1)
      | c :: r2 => if c == 41 then .ok (.mk 7 0 [x] 0 0 (numG g), r2, g') else .error (c :: r2, 1) := rfl
set_option maxHeartbeats 3200000 in
set_option maxRecDepth 100000 in
theorem atom_deep (G : Grp) (d R B : Nat) (s : ByteArray) (i g : Nat) (w : World) (h : Rdr w R s i g 0) (hRB : R < B) (hB : B ≤ w.heap.size) (hlt : i < s.size) (hs : s.size ≤ 1000000) (c : UInt8) (hcc : s[i]'hlt = c) (hc : c = 40) (hd : 64 ≤ d) (hdd : d ≤ 64) (hG : G = none) :
    Calls Tryd.prog 73 #[pt R, .int .i64 (d : Nat)] w (PPq B R s w (atomP G (rest s i) g)) := by
  obtain ⟨SP, hSP⟩ : ∃ SP, atomP G (rest s i) g = SP := ⟨_, rfl⟩
  rw [hSP]
  have hE := rest_cons s i hlt
  rw [hcc] at hE
  have hcl := c.toNat_lt
  have tst : ∀ k : UInt8, ((c.toNat : Int) == (k.toNat : Int)) = (c == k) := by
    intro k
    rw [Bool.eq_iff_iff]; simp
    constructor
    · intro h; exact UInt8.toNat_inj.1 (by omega)
    · rintro rfl; rfl
  have t42 := tst 42
  rw [show (((42 : UInt8).toNat : Nat) : Int) = 42 from rfl] at t42
  have t43 := tst 43
  rw [show (((43 : UInt8).toNat : Nat) : Int) = 43 from rfl] at t43
  have t63 := tst 63
  rw [show (((63 : UInt8).toNat : Nat) : Int) = 63 from rfl] at t63
  have t123 := tst 123
  rw [show (((123 : UInt8).toNat : Nat) : Int) = 123 from rfl] at t123
  have t40 := tst 40
  rw [show (((40 : UInt8).toNat : Nat) : Int) = 40 from rfl] at t40
  have t91 := tst 91
  rw [show (((91 : UInt8).toNat : Nat) : Int) = 91 from rfl] at t91
  have t46 := tst 46
  rw [show (((46 : UInt8).toNat : Nat) : Int) = 46 from rfl] at t46
  have t94 := tst 94
  rw [show (((94 : UInt8).toNat : Nat) : Int) = 94 from rfl] at t94
  have t36 := tst 36
  rw [show (((36 : UInt8).toNat : Nat) : Int) = 36 from rfl] at t36
  have t92 := tst 92
  rw [show (((92 : UInt8).toNat : Nat) : Int) = 92 from rfl] at t92
  clear tst
  have HI := Lib.hid (show SP = .error (rest s i, 8) by rw [← hSP, hE, hc, hG, atomP.eq_def]; rfl)
  have d64 : decide ((64 : Int) ≤ (d : Int)) = true := by simp; omega
  rw [show (c == 42) = false from by subst hc; decide] at t42
  rw [show (c == 43) = false from by subst hc; decide] at t43
  rw [show (c == 63) = false from by subst hc; decide] at t63
  rw [show (c == 123) = false from by subst hc; decide] at t123
  rw [show (c == 40) = true from by subst hc; decide] at t40
  rw [show (c == 91) = false from by subst hc; decide] at t91
  rw [show (c == 46) = false from by subst hc; decide] at t46
  rw [show (c == 94) = false from by subst hc; decide] at t94
  rw [show (c == 36) = false from by subst hc; decide] at t36
  rw [show (c == 92) = false from by subst hc; decide] at t92
  clear hSP hE
  obtain ⟨wa, hwa⟩ : ∃ z : World, z = w.alloc (.cells zC 27) := ⟨_, rfl⟩
  have HA := Lib.hid (show Rdr wa R s i g 0 by rw [hwa]; exact h.alloc _)
  have XA := Lib.hid (show Blk wa w.heap.size 27 zC by rw [hwa]; exact Blk.new _ _ _)
  have TA := Lib.hid (show Tch (fun b => b = R ∨ b = w.heap.size) w wa by rw [hwa]; exact (Tch.refl _ _).alloc _)
  have hne : w.heap.size ≠ R := by omega
  clear h
  obtain ⟨j0, j1, j2, j3⟩ := HA.out.cells
  go_enter Tryd.func73, Tryd.ntmps73
  go_wp2_with fail
  rw [← hwa]
  clear hwa
  go_simp
  go_quiet (fail)
  have HB := Lib.hid (HA.out.dn nq)
  have XB := Lib.hid (XA.out.drewN nq)
  have TB := Lib.hid (TA.out.drewN nq)
  clear HA XA TA j0 j1 j2 j3
  generalize wa.drewN nq = wb at *
  have cf := fail_c R s i g 0 8 wb HB.out
  rw [show failS 8 0 = 8 from rfl, show ((8 : Nat) : Int) = 8 from rfl] at cf
  go_wp2_with fail
  (with_reducible refine cf.mono ?_)
  rintro x wg ⟨rfl, hr, ht⟩
  have HG := Lib.hid hr
  have XG := Lib.hid (XB.out.tch ht (fun e => hne e))
  have TG := Lib.hid (TB.out.trans (ht.more (fun b hb => Or.inl hb)))
  clear hr ht cf
  have xg := XG.out
  have p0 := xg.cell 0
  have p1 := xg.cell 1
  have p2 := xg.cell 2
  have p3 := xg.cell 3
  have p4 := xg.cell 4
  have p5 := xg.cell 5
  have p6 := xg.cell 6
  have p7 := xg.cell 7
  have p8 := xg.cell 8
  simp only [List.getElem?_toArray, List.getElem?_cons_zero, List.getElem?_cons_succ] at p0 p1 p2 p3 p4 p5 p6 p7 p8
  have l0 := xg.loose 0
  have l1 := xg.loose 1
  have l2 := xg.loose 2
  have l3 := xg.loose 3
  have l4 := xg.loose 4
  have l5 := xg.loose 5
  have l6 := xg.loose 6
  have l7 := xg.loose 7
  have l8 := xg.loose 8
  have hlx := xg.lt
  clear xg
  go_wp2
  first | (refine bodyPost_ret (R := PPq B R s w SP) (v := .agg zC) (by simp [results, Tryd.results73, go_sem, hlx, p0, p1, p2, p3, p4, p5, p6, p7, p8, word]) rfl ?_) | fail
  exact ⟨_, _, i, g, 8, rfl, zero_rt _ _, EreU_far HG.out (fun e => hne e.symm), by omega, tch_in (Tch.refl _ w) (EreU_tch TG.out (Or.inr rfl)) (Nat.le_refl _), Or.inr ⟨by decide, HI.out⟩⟩
set_option maxHeartbeats 3200000 in
set_option maxRecDepth 100000 in
theorem atom_par1 (G : Grp) (d R B : Nat) (s : ByteArray) (i g : Nat) (w : World) (h : Rdr w R s i g 0) (hRB : R < B) (hB : B ≤ w.heap.size) (hlt : i < s.size) (hs : s.size ≤ 1000000) (c : UInt8) (hcc : s[i]'hlt = c) (hc : c = 40) (hd : d < 64) (hAlt : AltQ (d + 1)) (hgi : g ≤ i) (hs2 : s.size ≤ 200) (hG : G = grpP (64 - d)) (h9 : g + 1 ≤ 9) :
    Calls Tryd.prog 73 #[pt R, .int .i64 (d : Nat)] w (PPq B R s w (atomP G (rest s i) g)) := by
  obtain ⟨SP, hSP⟩ : ∃ SP, atomP G (rest s i) g = SP := ⟨_, rfl⟩
  rw [hSP]
  have hE := rest_cons s i hlt
  rw [hcc] at hE
  have hcl := c.toNat_lt
  have tst : ∀ k : UInt8, ((c.toNat : Int) == (k.toNat : Int)) = (c == k) := by
    intro k
    rw [Bool.eq_iff_iff]; simp
    constructor
    · intro h; exact UInt8.toNat_inj.1 (by omega)
    · rintro rfl; rfl
  have t42 := tst 42
  rw [show (((42 : UInt8).toNat : Nat) : Int) = 42 from rfl] at t42
  have t43 := tst 43
  rw [show (((43 : UInt8).toNat : Nat) : Int) = 43 from rfl] at t43
  have t63 := tst 63
  rw [show (((63 : UInt8).toNat : Nat) : Int) = 63 from rfl] at t63
  have t123 := tst 123
  rw [show (((123 : UInt8).toNat : Nat) : Int) = 123 from rfl] at t123
  have t40 := tst 40
  rw [show (((40 : UInt8).toNat : Nat) : Int) = 40 from rfl] at t40
  have t91 := tst 91
  rw [show (((91 : UInt8).toNat : Nat) : Int) = 91 from rfl] at t91
  have t46 := tst 46
  rw [show (((46 : UInt8).toNat : Nat) : Int) = 46 from rfl] at t46
  have t94 := tst 94
  rw [show (((94 : UInt8).toNat : Nat) : Int) = 94 from rfl] at t94
  have t36 := tst 36
  rw [show (((36 : UInt8).toNat : Nat) : Int) = 36 from rfl] at t36
  have t92 := tst 92
  rw [show (((92 : UInt8).toNat : Nat) : Int) = 92 from rfl] at t92
  clear tst
  have HI := Lib.hid (show SP = match altP (grpP (64 - (d + 1))) ((rest s (i + 1)).length + 1) [] (rest s (i + 1)) (g + 1) with
      | .error e => .error e
      | .ok (x, r', g') => match r' with
        | [] => .error ([], 1)
        | c :: r2 => if c == 41 then .ok (.mk 7 0 [x] 0 0 (((g : Int) + 1)), r2, g') else .error (c :: r2, 1) by
    rw [← hSP, hE, hc, hG, show 64 - d = (64 - (d + 1)) + 1 by omega, atom_grp, show numG g = ((g : Int) + 1) by unfold numG; rw [if_neg (by omega)]; rfl])
  have d64 : decide ((64 : Int) ≤ (d : Int)) = false := by simp; omega
  have d9 : decide ((g : Int) + 1 ≤ 9) = true := by simp; omega
  rw [show (c == 42) = false from by subst hc; decide] at t42
  rw [show (c == 43) = false from by subst hc; decide] at t43
  rw [show (c == 63) = false from by subst hc; decide] at t63
  rw [show (c == 123) = false from by subst hc; decide] at t123
  rw [show (c == 40) = true from by subst hc; decide] at t40
  rw [show (c == 91) = false from by subst hc; decide] at t91
  rw [show (c == 46) = false from by subst hc; decide] at t46
  rw [show (c == 94) = false from by subst hc; decide] at t94
  rw [show (c == 36) = false from by subst hc; decide] at t36
  rw [show (c == 92) = false from by subst hc; decide] at t92
  clear hSP hE
  obtain ⟨wa, hwa⟩ : ∃ z : World, z = w.alloc (.cells zC 27) := ⟨_, rfl⟩
  have HA := Lib.hid (show Rdr wa R s i g 0 by rw [hwa]; exact h.alloc _)
  have XA := Lib.hid (show Blk wa w.heap.size 27 zC by rw [hwa]; exact Blk.new _ _ _)
  have TA := Lib.hid (show Tch (fun b => b = R ∨ b = w.heap.size) w wa by rw [hwa]; exact (Tch.refl _ _).alloc _)
  have hne : w.heap.size ≠ R := by omega
  clear h
  obtain ⟨j0, j1, j2, j3⟩ := HA.out.cells
  go_enter Tryd.func73, Tryd.ntmps73
  go_wp2_with fail
  rw [← hwa]
  clear hwa
  go_simp
  go_quiet (fail)
  have HB := Lib.hid (HA.out.dn nq)
  have XB := Lib.hid (XA.out.drewN nq)
  have TB := Lib.hid (TA.out.drewN nq)
  clear HA XA TA j0 j1 j2 j3
  generalize wa.drewN nq = wb at *
  obtain ⟨j0, j1, j2, j3⟩ := HB.out.cells
  have f1 := HB.out.free 1
  have f2 := HB.out.free 2
  have HC := Lib.hid ((HB.out.setAt (i + 1)).setG (g + 1))
  have XC := Lib.hid ((XB.out.far (p := ⟨R, 1, none⟩) hne (.int .i64 ((i + 1 : Nat) : Int))).far (p := ⟨R, 2, none⟩) hne (.int .i64 ((g + 1 : Nat) : Int)))
  have TC := Lib.hid ((TB.out.setCell (p := ⟨R, 1, none⟩) (Or.inl rfl) (.int .i64 ((i + 1 : Nat) : Int))).setCell (p := ⟨R, 2, none⟩) (Or.inl rfl) (.int .i64 ((g + 1 : Nat) : Int)))
  rw [show ((i + 1 : Nat) : Int) = (i : Int) + 1 from rfl, show ((g + 1 : Nat) : Int) = (g : Int) + 1 from rfl] at HC XC TC
  obtain ⟨wc, hwc⟩ : ∃ z, z = (wb.setCell ⟨R, 1, none⟩ (.int .i64 ((i : Int) + 1))).setCell ⟨R, 2, none⟩ (.int .i64 ((g : Int) + 1)) := ⟨_, rfl⟩
  rw [← hwc] at HC XC TC
  clear HB XB TB
  obtain ⟨ZC, hZC⟩ : ∃ ZC, ZC = wc.heap.size := ⟨_, rfl⟩
  have hz : w.heap.size < ZC := by rw [hZC]; exact XC.out.lt
  have hRC : R < wc.heap.size := HC.out.lt
  have ct := hAlt R wc.heap.size s (i + 1) (g + 1) wc HC.out HC.out.lt (Nat.le_refl _) hlt hs2 (by omega)
  rw [show (((d + 1 : Nat) : Int)) = (d : Int) + 1 from rfl, ← hZC] at ct
  go_wp2_with fail
  rw [← hwc]
  clear hwc j0 j1 j2 j3 f1 f2
  (with_reducible refine ct.mono ?_)
  rintro x w1 ⟨r, cs, k, g', e, rfl, hrt, h1, hk, t1, hsp⟩
  have H1 := Lib.hid h1
  have X1 := Lib.hid (XC.out.tch t1 (fun e => hne e))
  have T1 := Lib.hid (TC.out.trans (t1.more (fun b hb => Or.inl hb)))
  have z1 := t1.size
  rw [← hZC] at z1
  have HSP := Lib.hid hsp
  obtain ⟨A, cp, rfl, hS, hnil⟩ := hrt.shape
  have HRT := Lib.hid hrt.lt_
  clear ct hrt hnil hS HC XC TC t1 hsp h1 hZC hRC
  generalize hk0 : r.kind = k0 at *
  generalize hk1 : r.set = k1 at *
  generalize hk2 : r.kids.length = k2 at *
  generalize hk3 : r.lo = k3 at *
  generalize hk4 : r.hi = k4 at *
  generalize hk5 : r.n = k5 at *
  clear hk0 hk1 hk2 hk3 hk4 hk5
  obtain ⟨w2, hw2⟩ : ∃ z : World, z = w1.alloc (.cells (reC k0 k1 A k2 cp k3 k4 k5).toArray 27) := ⟨_, rfl⟩
  have H2 := Lib.hid (show Rdr w2 R s k g' e by rw [hw2]; exact H1.out.alloc _)
  have X2 := Lib.hid (show Blk w2 w.heap.size 27 zC by rw [hw2]; exact X1.out.alloc _)
  have B2 := Lib.hid (show Blk w2 w1.heap.size 27 (reC k0 k1 A k2 cp k3 k4 k5).toArray by rw [hw2]; exact Blk.new _ _ _)
  have T2 := Lib.hid (show Tch (fun b => b = R ∨ b = w.heap.size) w w2 by rw [hw2]; exact T1.out.alloc _)
  have N2 := Lib.hid (show Tch (fun _ => False) w1 w2 by rw [hw2]; exact (Tch.refl _ _).alloc _)
  have z2 : w1.heap.size < w2.heap.size := by rw [hw2, World.size_alloc]; omega
  have hR1 : R < w1.heap.size := H1.out.lt
  clear H1 X1 T1
  have ci := is_c R s k g' e 41 w2 H2.out hs
  rw [show (((41 : UInt8).toNat : Nat) : Int) = 41 from rfl] at ci
  go_wp2_with fail
  rw [← hw2]
  clear hw2
  obtain ⟨Y, hY⟩ : ∃ Y, Y = w1.heap.size := ⟨_, rfl⟩
  rw [← hY] at z1 z2 hR1 B2 HRT ⊢
  have hYa : w1.heap.size ≤ Y := by omega
  clear hY
  obtain ⟨bb, hbb⟩ : ∃ bb, isB 41 (rest s k) e = bb := ⟨_, rfl⟩
  rw [hbb] at ci
  (with_reducible refine ci.mono ?_)
  rintro x _ ⟨rfl, m, rfl⟩
  have H3 := Lib.hid (H2.out.dn m)
  have X3 := Lib.hid (X2.out.drewN m)
  have B3 := Lib.hid (B2.out.drewN m)
  have T3 := Lib.hid (T2.out.drewN m)
  have N3 := Lib.hid (N2.out.drewN m)
  clear ci H2 X2 B2 T2 N2
  have z3 : w2.heap.size = (w2.drewN m).heap.size := by simp
  generalize w2.drewN m = w3 at *
  cases bb with
  | false =>
    have HI2 := Lib.hid (show failS 1 e ≠ 0 ∧ SP = .error (rest s k, failS 1 e) by
      rw [HI.out]
      rcases HSP.out with ⟨rfl, h⟩ | ⟨he, h⟩
      · rw [h]
        refine ⟨by decide, ?_⟩
        show (match rest s k with | [] => _ | c :: r2 => _) = _
        cases hr2 : rest s k with
        | nil => rfl
        | cons c r2 => 
          rw [hr2] at hbb
          have : (c == 41) = false := by simpa [isB] using hbb
          simp only [this]; rfl
      · rw [h]
        have : failS 1 e = e := by unfold failS; rw [if_neg he]
        rw [this]; exact ⟨he, rfl⟩)
    clear HI HSP
    have cf := fail_c R s k g' e 1 w3 H3.out
    rw [show ((1 : Nat) : Int) = 1 from rfl] at cf
    generalize failS 1 e = EE at cf HI2
    go_wp2_with fail
    (with_reducible refine cf.mono ?_)
    rintro x wg ⟨rfl, hr, ht⟩
    have HG := Lib.hid hr
    have XG := Lib.hid (X3.out.tch ht (fun e => hne e))
    have TG := Lib.hid (T3.out.trans (ht.more (fun b hb => Or.inl hb)))
    clear hr ht cf B3 H3 X3 T3 HRT N3
    have xg := XG.out
    have p0 := xg.cell 0
    have p1 := xg.cell 1
    have p2 := xg.cell 2
    have p3 := xg.cell 3
    have p4 := xg.cell 4
    have p5 := xg.cell 5
    have p6 := xg.cell 6
    have p7 := xg.cell 7
    have p8 := xg.cell 8
    simp only [List.getElem?_toArray, List.getElem?_cons_zero, List.getElem?_cons_succ] at p0 p1 p2 p3 p4 p5 p6 p7 p8
    have l0 := xg.loose 0
    have l1 := xg.loose 1
    have l2 := xg.loose 2
    have l3 := xg.loose 3
    have l4 := xg.loose 4
    have l5 := xg.loose 5
    have l6 := xg.loose 6
    have l7 := xg.loose 7
    have l8 := xg.loose 8
    have hlx := xg.lt
    clear xg
    go_wp2
    first | (refine bodyPost_ret (R := PPq B R s w SP) (v := .agg zC) (by simp [results, Tryd.results73, go_sem, hlx, p0, p1, p2, p3, p4, p5, p6, p7, p8, word]) rfl ?_) | fail
    exact ⟨_, _, k, g', EE, rfl, zero_rt _ _, EreU_far HG.out (fun e => hne e.symm), hk, tch_in (Tch.refl _ w) (EreU_tch TG.out (Or.inr rfl)) (Nat.le_refl _), Or.inr HI2.out⟩
  | true =>
    have hbb2 : e = 0 ∧ (rest s k).head? = some 41 := by first | (simpa [isB] using hbb) | (simpa [isB, and_comm] using hbb)
    obtain ⟨rfl, h41⟩ := hbb2
    obtain ⟨hk1, hcons⟩ := rest_some h41
    have HI2 := Lib.hid (show SP = .ok (.mk 7 0 [r] 0 0 (((g : Int) + 1)), rest s (k + 1), g') by
      rw [HI.out]
      rcases HSP.out with ⟨_, h⟩ | ⟨he, h⟩
      · rw [h, hcons]; rfl
      · exact absurd rfl he)
    clear HI HSP hbb h41 hcons
    have H4 := Lib.hid (H3.out.setAt (k + 1))
    have X4 := Lib.hid (X3.out.far (p := ⟨R, 1, none⟩) hne (.int .i64 ((k + 1 : Nat) : Int)))
    have B4 := Lib.hid (B3.out.far (p := ⟨R, 1, none⟩) (show Y ≠ R by omega) (.int .i64 ((k + 1 : Nat) : Int)))
    have T4 := Lib.hid (T3.out.setCell (p := ⟨R, 1, none⟩) (Or.inl rfl) (.int .i64 ((k + 1 : Nat) : Int)))
    have N4 := Lib.hid ((N3.out.more (S' := On R) (fun b hb => hb.elim)).setCell (p := ⟨R, 1, none⟩) rfl (.int .i64 ((k + 1 : Nat) : Int)))
    rw [show ((k + 1 : Nat) : Int) = (k : Int) + 1 from rfl] at H4 X4 B4 T4 N4
    obtain ⟨j0, j1, j2, j3⟩ := H3.out.cells
    have f1 := H3.out.free 1
    obtain ⟨w4, hw4⟩ : ∃ z, z = w3.setCell ⟨R, 1, none⟩ (.int .i64 ((k : Int) + 1)) := ⟨_, rfl⟩
    rw [← hw4] at H4 X4 B4 T4 N4
    have z4 : w3.heap.size = w4.heap.size := by rw [hw4]; simp [World.setCell]
    have hb4 := B4.out
    have q0 := hb4.cell 0
    have q1 := hb4.cell 1
    have q2 := hb4.cell 2
    have q3 := hb4.cell 3
    have q4 := hb4.cell 4
    have q5 := hb4.cell 5
    have q6 := hb4.cell 6
    have q7 := hb4.cell 7
    have q8 := hb4.cell 8
    simp only [List.getElem?_toArray, List.getElem?_cons_zero, List.getElem?_cons_succ] at q0 q1 q2 q3 q4 q5 q6 q7 q8
    rw [hw4] at q0 q1 q2 q3 q4 q5 q6 q7 q8
    clear hb4 H3 X3 B3 T3 N3
    have x5 := X4.out.alloc (.cells (reC k0 k1 A k2 cp k3 k4 k5).toArray 27)
    have p0 := x5.cell 0
    have p1 := x5.cell 1
    have p2 := x5.cell 2
    have p3 := x5.cell 3
    have p4 := x5.cell 4
    have p5 := x5.cell 5
    have p6 := x5.cell 6
    have p7 := x5.cell 7
    have p8 := x5.cell 8
    simp only [List.getElem?_toArray, List.getElem?_cons_zero, List.getElem?_cons_succ] at p0 p1 p2 p3 p4 p5 p6 p7 p8
    have l0 := x5.loose 0
    have l1 := x5.loose 1
    have l2 := x5.loose 2
    have l3 := x5.loose 3
    have l4 := x5.loose 4
    have l5 := x5.loose 5
    have l6 := x5.loose 6
    have l7 := x5.loose 7
    have l8 := x5.loose 8
    have hlx := x5.lt
    have fin : ∀ W, Tch (fun b => b = w.heap.size) (w4.alloc (.cells (reC k0 k1 A k2 cp k3 k4 k5).toArray 27)) W → Rdr W R s (k + 1) g' 0 → PPq B R s w SP (.returned (.agg ((reC 7 0 (some ⟨w4.heap.size, 0, none⟩) 1 1 0 0 (((g : Int) + 1)))).toArray)) W := fun W hT hr =>
      ⟨.mk 7 0 [r] 0 0 (((g : Int) + 1)), (reC 7 0 (some ⟨w4.heap.size, 0, none⟩) 1 1 0 0 (((g : Int) + 1))), k + 1, g', 0, rfl, one_kid (tree_k (HRT.out.tch N4.out (fun b hb e => by have e2 : b = R := e; omega)) ((Tch.refl _ _).alloc _ |>.trans hT) (fun b hb e => by omega) (fun b hb => by omega)) ((Blk.new _ _ _).tch hT (by omega)) (by omega) 7 0 0 (((g : Int) + 1)) 1, hr, hk1, tch_in (Tch.refl _ w) ((T4.out.alloc _).trans (hT.more (fun b hb => Or.inr hb))) (Nat.le_refl _), Or.inl ⟨rfl, HI2.out⟩⟩
    have FIN := Lib.hid fin
    clear fin x5
    go_wp2
    rw [← hw4]
    clear hw4
    go_simp
    go_wp2_with fail
    first | (refine bodyPost_ret (R := PPq B R s w SP) (v := .agg ((reC 7 0 (some ⟨w4.heap.size, 0, none⟩) 1 1 0 0 (((g : Int) + 1)))).toArray) (by simp [results, Tryd.results73, go_sem, hlx, p0, p1, p2, p3, p4, p5, p6, p7, p8]; exact ⟨rfl, rfl, rfl, rfl⟩) rfl ?_) | fail
    exact FIN.out _ (tch9 (X := w.heap.size) (Tch.refl _ _) rfl) (EreU_far (H4.out.alloc _) (fun e => hne e.symm))
set_option maxHeartbeats 3200000 in
set_option maxRecDepth 100000 in
theorem atom_par0 (G : Grp) (d R B : Nat) (s : ByteArray) (i g : Nat) (w : World) (h : Rdr w R s i g 0) (hRB : R < B) (hB : B ≤ w.heap.size) (hlt : i < s.size) (hs : s.size ≤ 1000000) (c : UInt8) (hcc : s[i]'hlt = c) (hc : c = 40) (hd : d < 64) (hAlt : AltQ (d + 1)) (hgi : g ≤ i) (hs2 : s.size ≤ 200) (hG : G = grpP (64 - d)) (h9 : ¬ g + 1 ≤ 9) :
    Calls Tryd.prog 73 #[pt R, .int .i64 (d : Nat)] w (PPq B R s w (atomP G (rest s i) g)) := by
  obtain ⟨SP, hSP⟩ : ∃ SP, atomP G (rest s i) g = SP := ⟨_, rfl⟩
  rw [hSP]
  have hE := rest_cons s i hlt
  rw [hcc] at hE
  have hcl := c.toNat_lt
  have tst : ∀ k : UInt8, ((c.toNat : Int) == (k.toNat : Int)) = (c == k) := by
    intro k
    rw [Bool.eq_iff_iff]; simp
    constructor
    · intro h; exact UInt8.toNat_inj.1 (by omega)
    · rintro rfl; rfl
  have t42 := tst 42
  rw [show (((42 : UInt8).toNat : Nat) : Int) = 42 from rfl] at t42
  have t43 := tst 43
  rw [show (((43 : UInt8).toNat : Nat) : Int) = 43 from rfl] at t43
  have t63 := tst 63
  rw [show (((63 : UInt8).toNat : Nat) : Int) = 63 from rfl] at t63
  have t123 := tst 123
  rw [show (((123 : UInt8).toNat : Nat) : Int) = 123 from rfl] at t123
  have t40 := tst 40
  rw [show (((40 : UInt8).toNat : Nat) : Int) = 40 from rfl] at t40
  have t91 := tst 91
  rw [show (((91 : UInt8).toNat : Nat) : Int) = 91 from rfl] at t91
  have t46 := tst 46
  rw [show (((46 : UInt8).toNat : Nat) : Int) = 46 from rfl] at t46
  have t94 := tst 94
  rw [show (((94 : UInt8).toNat : Nat) : Int) = 94 from rfl] at t94
  have t36 := tst 36
  rw [show (((36 : UInt8).toNat : Nat) : Int) = 36 from rfl] at t36
  have t92 := tst 92
  rw [show (((92 : UInt8).toNat : Nat) : Int) = 92 from rfl] at t92
  clear tst
  have HI := Lib.hid (show SP = match altP (grpP (64 - (d + 1))) ((rest s (i + 1)).length + 1) [] (rest s (i + 1)) (g + 1) with
      | .error e => .error e
      | .ok (x, r', g') => match r' with
        | [] => .error ([], 1)
        | c :: r2 => if c == 41 then .ok (.mk 7 0 [x] 0 0 (0), r2, g') else .error (c :: r2, 1) by
    rw [← hSP, hE, hc, hG, show 64 - d = (64 - (d + 1)) + 1 by omega, atom_grp, show numG g = 0 by unfold numG; rw [if_pos (by omega)]])
  have d64 : decide ((64 : Int) ≤ (d : Int)) = false := by simp; omega
  have d9 : decide ((g : Int) + 1 ≤ 9) = false := by simp; omega
  rw [show (c == 42) = false from by subst hc; decide] at t42
  rw [show (c == 43) = false from by subst hc; decide] at t43
  rw [show (c == 63) = false from by subst hc; decide] at t63
  rw [show (c == 123) = false from by subst hc; decide] at t123
  rw [show (c == 40) = true from by subst hc; decide] at t40
  rw [show (c == 91) = false from by subst hc; decide] at t91
  rw [show (c == 46) = false from by subst hc; decide] at t46
  rw [show (c == 94) = false from by subst hc; decide] at t94
  rw [show (c == 36) = false from by subst hc; decide] at t36
  rw [show (c == 92) = false from by subst hc; decide] at t92
  clear hSP hE
  obtain ⟨wa, hwa⟩ : ∃ z : World, z = w.alloc (.cells zC 27) := ⟨_, rfl⟩
  have HA := Lib.hid (show Rdr wa R s i g 0 by rw [hwa]; exact h.alloc _)
  have XA := Lib.hid (show Blk wa w.heap.size 27 zC by rw [hwa]; exact Blk.new _ _ _)
  have TA := Lib.hid (show Tch (fun b => b = R ∨ b = w.heap.size) w wa by rw [hwa]; exact (Tch.refl _ _).alloc _)
  have hne : w.heap.size ≠ R := by omega
  clear h
  obtain ⟨j0, j1, j2, j3⟩ := HA.out.cells
  go_enter Tryd.func73, Tryd.ntmps73
  go_wp2_with fail
  rw [← hwa]
  clear hwa
  go_simp
  go_quiet (fail)
  have HB := Lib.hid (HA.out.dn nq)
  have XB := Lib.hid (XA.out.drewN nq)
  have TB := Lib.hid (TA.out.drewN nq)
  clear HA XA TA j0 j1 j2 j3
  generalize wa.drewN nq = wb at *
  obtain ⟨j0, j1, j2, j3⟩ := HB.out.cells
  have f1 := HB.out.free 1
  have f2 := HB.out.free 2
  have HC := Lib.hid ((HB.out.setAt (i + 1)).setG (g + 1))
  have XC := Lib.hid ((XB.out.far (p := ⟨R, 1, none⟩) hne (.int .i64 ((i + 1 : Nat) : Int))).far (p := ⟨R, 2, none⟩) hne (.int .i64 ((g + 1 : Nat) : Int)))
  have TC := Lib.hid ((TB.out.setCell (p := ⟨R, 1, none⟩) (Or.inl rfl) (.int .i64 ((i + 1 : Nat) : Int))).setCell (p := ⟨R, 2, none⟩) (Or.inl rfl) (.int .i64 ((g + 1 : Nat) : Int)))
  rw [show ((i + 1 : Nat) : Int) = (i : Int) + 1 from rfl, show ((g + 1 : Nat) : Int) = (g : Int) + 1 from rfl] at HC XC TC
  obtain ⟨wc, hwc⟩ : ∃ z, z = (wb.setCell ⟨R, 1, none⟩ (.int .i64 ((i : Int) + 1))).setCell ⟨R, 2, none⟩ (.int .i64 ((g : Int) + 1)) := ⟨_, rfl⟩
  rw [← hwc] at HC XC TC
  clear HB XB TB
  obtain ⟨ZC, hZC⟩ : ∃ ZC, ZC = wc.heap.size := ⟨_, rfl⟩
  have hz : w.heap.size < ZC := by rw [hZC]; exact XC.out.lt
  have hRC : R < wc.heap.size := HC.out.lt
  have ct := hAlt R wc.heap.size s (i + 1) (g + 1) wc HC.out HC.out.lt (Nat.le_refl _) hlt hs2 (by omega)
  rw [show (((d + 1 : Nat) : Int)) = (d : Int) + 1 from rfl, ← hZC] at ct
  go_wp2_with fail
  rw [← hwc]
  clear hwc j0 j1 j2 j3 f1 f2
  (with_reducible refine ct.mono ?_)
  rintro x w1 ⟨r, cs, k, g', e, rfl, hrt, h1, hk, t1, hsp⟩
  have H1 := Lib.hid h1
  have X1 := Lib.hid (XC.out.tch t1 (fun e => hne e))
  have T1 := Lib.hid (TC.out.trans (t1.more (fun b hb => Or.inl hb)))
  have z1 := t1.size
  rw [← hZC] at z1
  have HSP := Lib.hid hsp
  obtain ⟨A, cp, rfl, hS, hnil⟩ := hrt.shape
  have HRT := Lib.hid hrt.lt_
  clear ct hrt hnil hS HC XC TC t1 hsp h1 hZC hRC
  generalize hk0 : r.kind = k0 at *
  generalize hk1 : r.set = k1 at *
  generalize hk2 : r.kids.length = k2 at *
  generalize hk3 : r.lo = k3 at *
  generalize hk4 : r.hi = k4 at *
  generalize hk5 : r.n = k5 at *
  clear hk0 hk1 hk2 hk3 hk4 hk5
  obtain ⟨w2, hw2⟩ : ∃ z : World, z = w1.alloc (.cells (reC k0 k1 A k2 cp k3 k4 k5).toArray 27) := ⟨_, rfl⟩
  have H2 := Lib.hid (show Rdr w2 R s k g' e by rw [hw2]; exact H1.out.alloc _)
  have X2 := Lib.hid (show Blk w2 w.heap.size 27 zC by rw [hw2]; exact X1.out.alloc _)
  have B2 := Lib.hid (show Blk w2 w1.heap.size 27 (reC k0 k1 A k2 cp k3 k4 k5).toArray by rw [hw2]; exact Blk.new _ _ _)
  have T2 := Lib.hid (show Tch (fun b => b = R ∨ b = w.heap.size) w w2 by rw [hw2]; exact T1.out.alloc _)
  have N2 := Lib.hid (show Tch (fun _ => False) w1 w2 by rw [hw2]; exact (Tch.refl _ _).alloc _)
  have z2 : w1.heap.size < w2.heap.size := by rw [hw2, World.size_alloc]; omega
  have hR1 : R < w1.heap.size := H1.out.lt
  clear H1 X1 T1
  have ci := is_c R s k g' e 41 w2 H2.out hs
  rw [show (((41 : UInt8).toNat : Nat) : Int) = 41 from rfl] at ci
  go_wp2_with fail
  rw [← hw2]
  clear hw2
  obtain ⟨Y, hY⟩ : ∃ Y, Y = w1.heap.size := ⟨_, rfl⟩
  rw [← hY] at z1 z2 hR1 B2 HRT ⊢
  have hYa : w1.heap.size ≤ Y := by omega
  clear hY
  obtain ⟨bb, hbb⟩ : ∃ bb, isB 41 (rest s k) e = bb := ⟨_, rfl⟩
  rw [hbb] at ci
  (with_reducible refine ci.mono ?_)
  rintro x _ ⟨rfl, m, rfl⟩
  have H3 := Lib.hid (H2.out.dn m)
  have X3 := Lib.hid (X2.out.drewN m)
  have B3 := Lib.hid (B2.out.drewN m)
  have T3 := Lib.hid (T2.out.drewN m)
  have N3 := Lib.hid (N2.out.drewN m)
  clear ci H2 X2 B2 T2 N2
  have z3 : w2.heap.size = (w2.drewN m).heap.size := by simp
  generalize w2.drewN m = w3 at *
  cases bb with
  | false =>
    have HI2 := Lib.hid (show failS 1 e ≠ 0 ∧ SP = .error (rest s k, failS 1 e) by
      rw [HI.out]
      rcases HSP.out with ⟨rfl, h⟩ | ⟨he, h⟩
      · rw [h]
        refine ⟨by decide, ?_⟩
        show (match rest s k with | [] => _ | c :: r2 => _) = _
        cases hr2 : rest s k with
        | nil => rfl
        | cons c r2 => 
          rw [hr2] at hbb
          have : (c == 41) = false := by simpa [isB] using hbb
          simp only [this]; rfl
      · rw [h]
        have : failS 1 e = e := by unfold failS; rw [if_neg he]
        rw [this]; exact ⟨he, rfl⟩)
    clear HI HSP
    have cf := fail_c R s k g' e 1 w3 H3.out
    rw [show ((1 : Nat) : Int) = 1 from rfl] at cf
    generalize failS 1 e = EE at cf HI2
    go_wp2_with fail
    (with_reducible refine cf.mono ?_)
    rintro x wg ⟨rfl, hr, ht⟩
    have HG := Lib.hid hr
    have XG := Lib.hid (X3.out.tch ht (fun e => hne e))
    have TG := Lib.hid (T3.out.trans (ht.more (fun b hb => Or.inl hb)))
    clear hr ht cf B3 H3 X3 T3 HRT N3
    have xg := XG.out
    have p0 := xg.cell 0
    have p1 := xg.cell 1
    have p2 := xg.cell 2
    have p3 := xg.cell 3
    have p4 := xg.cell 4
    have p5 := xg.cell 5
    have p6 := xg.cell 6
    have p7 := xg.cell 7
    have p8 := xg.cell 8
    simp only [List.getElem?_toArray, List.getElem?_cons_zero, List.getElem?_cons_succ] at p0 p1 p2 p3 p4 p5 p6 p7 p8
    have l0 := xg.loose 0
    have l1 := xg.loose 1
    have l2 := xg.loose 2
    have l3 := xg.loose 3
    have l4 := xg.loose 4
    have l5 := xg.loose 5
    have l6 := xg.loose 6
    have l7 := xg.loose 7
    have l8 := xg.loose 8
    have hlx := xg.lt
    clear xg
    go_wp2
    first | (refine bodyPost_ret (R := PPq B R s w SP) (v := .agg zC) (by simp [results, Tryd.results73, go_sem, hlx, p0, p1, p2, p3, p4, p5, p6, p7, p8, word]) rfl ?_) | fail
    exact ⟨_, _, k, g', EE, rfl, zero_rt _ _, EreU_far HG.out (fun e => hne e.symm), hk, tch_in (Tch.refl _ w) (EreU_tch TG.out (Or.inr rfl)) (Nat.le_refl _), Or.inr HI2.out⟩
  | true =>
    have hbb2 : e = 0 ∧ (rest s k).head? = some 41 := by first | (simpa [isB] using hbb) | (simpa [isB, and_comm] using hbb)
    obtain ⟨rfl, h41⟩ := hbb2
    obtain ⟨hk1, hcons⟩ := rest_some h41
    have HI2 := Lib.hid (show SP = .ok (.mk 7 0 [r] 0 0 (0), rest s (k + 1), g') by
      rw [HI.out]
      rcases HSP.out with ⟨_, h⟩ | ⟨he, h⟩
      · rw [h, hcons]; rfl
      · exact absurd rfl he)
    clear HI HSP hbb h41 hcons
    have H4 := Lib.hid (H3.out.setAt (k + 1))
    have X4 := Lib.hid (X3.out.far (p := ⟨R, 1, none⟩) hne (.int .i64 ((k + 1 : Nat) : Int)))
    have B4 := Lib.hid (B3.out.far (p := ⟨R, 1, none⟩) (show Y ≠ R by omega) (.int .i64 ((k + 1 : Nat) : Int)))
    have T4 := Lib.hid (T3.out.setCell (p := ⟨R, 1, none⟩) (Or.inl rfl) (.int .i64 ((k + 1 : Nat) : Int)))
    have N4 := Lib.hid ((N3.out.more (S' := On R) (fun b hb => hb.elim)).setCell (p := ⟨R, 1, none⟩) rfl (.int .i64 ((k + 1 : Nat) : Int)))
    rw [show ((k + 1 : Nat) : Int) = (k : Int) + 1 from rfl] at H4 X4 B4 T4 N4
    obtain ⟨j0, j1, j2, j3⟩ := H3.out.cells
    have f1 := H3.out.free 1
    obtain ⟨w4, hw4⟩ : ∃ z, z = w3.setCell ⟨R, 1, none⟩ (.int .i64 ((k : Int) + 1)) := ⟨_, rfl⟩
    rw [← hw4] at H4 X4 B4 T4 N4
    have z4 : w3.heap.size = w4.heap.size := by rw [hw4]; simp [World.setCell]
    have hb4 := B4.out
    have q0 := hb4.cell 0
    have q1 := hb4.cell 1
    have q2 := hb4.cell 2
    have q3 := hb4.cell 3
    have q4 := hb4.cell 4
    have q5 := hb4.cell 5
    have q6 := hb4.cell 6
    have q7 := hb4.cell 7
    have q8 := hb4.cell 8
    simp only [List.getElem?_toArray, List.getElem?_cons_zero, List.getElem?_cons_succ] at q0 q1 q2 q3 q4 q5 q6 q7 q8
    rw [hw4] at q0 q1 q2 q3 q4 q5 q6 q7 q8
    clear hb4 H3 X3 B3 T3 N3
    have x5 := X4.out.alloc (.cells (reC k0 k1 A k2 cp k3 k4 k5).toArray 27)
    have p0 := x5.cell 0
    have p1 := x5.cell 1
    have p2 := x5.cell 2
    have p3 := x5.cell 3
    have p4 := x5.cell 4
    have p5 := x5.cell 5
    have p6 := x5.cell 6
    have p7 := x5.cell 7
    have p8 := x5.cell 8
    simp only [List.getElem?_toArray, List.getElem?_cons_zero, List.getElem?_cons_succ] at p0 p1 p2 p3 p4 p5 p6 p7 p8
    have l0 := x5.loose 0
    have l1 := x5.loose 1
    have l2 := x5.loose 2
    have l3 := x5.loose 3
    have l4 := x5.loose 4
    have l5 := x5.loose 5
    have l6 := x5.loose 6
    have l7 := x5.loose 7
    have l8 := x5.loose 8
    have hlx := x5.lt
    have fin : ∀ W, Tch (fun b => b = w.heap.size) (w4.alloc (.cells (reC k0 k1 A k2 cp k3 k4 k5).toArray 27)) W → Rdr W R s (k + 1) g' 0 → PPq B R s w SP (.returned (.agg ((reC 7 0 (some ⟨w4.heap.size, 0, none⟩) 1 1 0 0 (0))).toArray)) W := fun W hT hr =>
      ⟨.mk 7 0 [r] 0 0 (0), (reC 7 0 (some ⟨w4.heap.size, 0, none⟩) 1 1 0 0 (0)), k + 1, g', 0, rfl, one_kid (tree_k (HRT.out.tch N4.out (fun b hb e => by have e2 : b = R := e; omega)) ((Tch.refl _ _).alloc _ |>.trans hT) (fun b hb e => by omega) (fun b hb => by omega)) ((Blk.new _ _ _).tch hT (by omega)) (by omega) 7 0 0 (0) 1, hr, hk1, tch_in (Tch.refl _ w) ((T4.out.alloc _).trans (hT.more (fun b hb => Or.inr hb))) (Nat.le_refl _), Or.inl ⟨rfl, HI2.out⟩⟩
    have FIN := Lib.hid fin
    clear fin x5
    go_wp2
    rw [← hw4]
    clear hw4
    go_simp
    go_wp2_with fail
    first | (refine bodyPost_ret (R := PPq B R s w SP) (v := .agg ((reC 7 0 (some ⟨w4.heap.size, 0, none⟩) 1 1 0 0 (0))).toArray) (by simp [results, Tryd.results73, go_sem, hlx, p0, p1, p2, p3, p4, p5, p6, p7, p8]; exact ⟨rfl, rfl, rfl, rfl⟩) rfl ?_) | fail
    exact FIN.out _ (tch9 (X := w.heap.size) (Tch.refl _ _) rfl) (EreU_far (H4.out.alloc _) (fun e => hne e.symm))
end EreN
end Go.Proofs.YtpdmjegbjcefjaaDoor
