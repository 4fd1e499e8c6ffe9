/- The reference's atom, all ways, and its piece. Conditions: texts that fit; a premise on alt. -/
import Derived.Test.YtpdmjegbjcefjaaDoorEreNi
namespace Go.Proofs.YtpdmjegbjcefjaaDoor
set_option linter.unusedVariables false
set_option linter.unusedSimpArgs false
open Go.RowKit
namespace EreN
open EreP EreW EreX
theorem atom_q (d R B : Nat) (s : ByteArray) (i g : Nat) (w : World) (h : Rdr w R s i g 0) (hRB : R < B) (hB : B ≤ w.heap.size) (hlt : i < s.size) (hs : s.size ≤ 200) (hgi : g ≤ i) (hd : d ≤ 64) (hA : d < 64 → AltQ (d + 1)) :
    Calls Tryd.prog 73 #[pt R, .int .i64 (d : Nat)] w (PPq B R s w (atomP (grpP (64 - d)) (rest s i) g)) := by
  have hs6 : s.size ≤ 1000000 := by omega
  obtain ⟨c, hcc⟩ : ∃ c, s[i]'hlt = c := ⟨_, rfl⟩
  cases c1 : isRep c
  rotate_left
  · exact atom_rep _ d R B s i g w h hRB hB hlt hs6 c hcc c1
  have n42 : c ≠ 42 := by rintro rfl; cases c1
  have n43 : c ≠ 43 := by rintro rfl; cases c1
  have n63 : c ≠ 63 := by rintro rfl; cases c1
  have n123 : c ≠ 123 := by rintro rfl; cases c1
  by_cases c2 : c = 40
  · by_cases hd2 : d < 64
    · by_cases h9 : g + 1 ≤ 9
      · exact atom_par1 _ d R B s i g w h hRB hB hlt hs6 c hcc c2 hd2 (hA hd2) hgi hs rfl h9
      · exact atom_par0 _ d R B s i g w h hRB hB hlt hs6 c hcc c2 hd2 (hA hd2) hgi hs rfl h9
    · exact atom_deep _ d R B s i g w h hRB hB hlt hs6 c hcc c2 (by omega) hd (by rw [show 64 - d = 0 by omega]; rfl)
  by_cases c3 : c = 91
  · exact atom_set _ d R B s i g w h hRB hB hlt hs6 c hcc c3
  by_cases c4 : c = 46
  · exact atom_dot _ d R B s i g w h hRB hB hlt hs6 c hcc c4
  by_cases c5 : c = 94
  · exact atom_beg _ d R B s i g w h hRB hB hlt hs6 c hcc c5
  by_cases c6 : c = 36
  · exact atom_end _ d R B s i g w h hRB hB hlt hs6 c hcc c6
  by_cases c7 : c = 92
  · by_cases hl2 : i + 1 < s.size
    · exact atom_quote _ d R B s i g w h hRB hB hlt hs6 c hcc c7 hl2 _ rfl
    · exact atom_end92 _ d R B s i g w h hRB hB hlt hs6 c hcc c7 hl2
  · exact atom_byte _ d R B s i g w h hRB hB hlt hs6 c hcc n42 n43 n63 n123 c2 c3 c4 c5 c6 c7
set_option maxHeartbeats 6400000 in
set_option maxRecDepth 100000 in
theorem piece_q (d R B : Nat) (s : ByteArray) (i g : Nat) (w : World) (h : Rdr w R s i g 0) (hRB : R < B) (hB : B ≤ w.heap.size) (hlt : i < s.size) (hs : s.size ≤ 200) (hgi : g ≤ i) (hd : d ≤ 64) (hA : d < 64 → AltQ (d + 1)) :
    Calls Tryd.prog 57 #[pt R, .int .i64 (d : Nat)] w (PPq B R s w (pieceP (grpP (64 - d)) (rest s i) g)) := by
  obtain ⟨SP, hSP⟩ : ∃ SP, pieceP (grpP (64 - d)) (rest s i) g = SP := ⟨_, rfl⟩
  obtain ⟨AP, hAP⟩ : ∃ AP, atomP (grpP (64 - d)) (rest s i) g = AP := ⟨_, rfl⟩
  have hne : w.heap.size ≠ R := by omega
  obtain ⟨wa, hwa⟩ : ∃ z : World, z = w.alloc (.cells zC 27) := ⟨_, rfl⟩
  have HA := Lib.hid (show Rdr wa R s i g 0 by rw [hwa]; exact h.alloc _)
  have XA := Lib.hid (show Blk wa w.heap.size 27 zC by rw [hwa]; exact Blk.new _ _ _)
  have TA := Lib.hid (show Tch (fun b => b = R ∨ b = w.heap.size) w wa by rw [hwa]; exact (Tch.refl _ _).alloc _)
  have za : w.heap.size < wa.heap.size := by rw [hwa, World.size_alloc]; omega
  have ct := atom_q d R wa.heap.size s i g wa HA.out HA.out.lt (Nat.le_refl _) hlt hs hgi hd hA
  rw [hSP]
  rw [hAP] at ct
  have HSP := Lib.hid hSP
  have HAP := Lib.hid hAP
  clear hSP hAP h hA
  go_enter Tryd.func57, Tryd.ntmps57
  go_wp2_with fail
  rw [← hwa]
  clear hwa
  (with_reducible refine ct.mono ?_)
  rintro x w1 ⟨r, cs, k, g', e, rfl, hrt, h1, hk, t1, hsp⟩
  have H1 := Lib.hid h1
  have X1 := Lib.hid (XA.out.tch t1 (fun e => hne e))
  have T1 := Lib.hid (TA.out.trans (t1.more (fun b hb => Or.inl hb)))
  have z1 := t1.size
  obtain ⟨A, cp, rfl, hS, hnil⟩ := hrt.shape
  have HRT := Lib.hid hrt.lt_
  clear ct hrt hnil hS HA XA TA t1 h1
  obtain ⟨k0, hk0⟩ : ∃ x, r.kind = x := ⟨_, rfl⟩
  rw [hk0] at HRT ⊢
  generalize hk1 : r.set = k1 at *
  generalize hk2 : r.kids.length = k2 at *
  generalize hk3 : r.lo = k3 at *
  generalize hk4 : r.hi = k4 at *
  generalize hk5 : r.n = k5 at *
  have HK0 := Lib.hid hk0
  clear hk0 hk1 hk2 hk3 hk4 hk5
  obtain ⟨wb, hwb⟩ : ∃ z : World, z = w1.alloc (.cells (reC k0 k1 A k2 cp k3 k4 k5).toArray 27) := ⟨_, rfl⟩
  have H2 := Lib.hid (show Rdr wb R s k g' e by rw [hwb]; exact H1.out.alloc _)
  have X2 := Lib.hid (show Blk wb w.heap.size 27 zC by rw [hwb]; exact X1.out.alloc _)
  have Y2 := Lib.hid (show Blk wb w1.heap.size 27 (reC k0 k1 A k2 cp k3 k4 k5).toArray by rw [hwb]; exact Blk.new _ _ _)
  have T2 := Lib.hid (show Tch (fun b => b = R ∨ b = w.heap.size) w wb by rw [hwb]; exact T1.out.alloc _)
  have N2 := Lib.hid (show Tch (fun b => b = R ∨ b = w.heap.size) w1 wb by rw [hwb]; exact (Tch.refl _ _).alloc _)
  have z2 : w1.heap.size < wb.heap.size := by rw [hwb, World.size_alloc]; omega
  have hR1 : R < w1.heap.size := H1.out.lt
  clear H1 X1 T1
  obtain ⟨j0, j1, j2, j3⟩ := H2.out.cells
  go_wp2_with fail
  rw [← hwb]
  clear hwb
  obtain ⟨Y, hY⟩ : ∃ Y, Y = w1.heap.size := ⟨_, rfl⟩
  rw [← hY] at z2 Y2 ⊢
  have hYa : w1.heap.size ≤ Y := by omega
  have hYb : Y ≤ w1.heap.size := by omega
  clear hY
  rcases hsp with ⟨rfl, hok⟩ | ⟨he, herr⟩
  rotate_left
  · have HI := Lib.hid (show e ≠ 0 ∧ SP = .error (rest s k, e) by rw [← HSP.out]; exact ⟨he, piece_err (HAP.out.trans herr)⟩)
    have e1 : ((e : Int) == 0) = false := by rw [beq_eq_false_iff_ne]; omega
    have e2 : ((e : Int) != 0) = true := by rw [bne_iff_ne]; omega
    clear he herr
    go_simp
    go_quiet (fail)
    have H3 := Lib.hid (H2.out.dn nq)
    have X3 := Lib.hid (X2.out.drewN nq)
    have Y3 := Lib.hid (Y2.out.drewN nq)
    have T3 := Lib.hid (T2.out.drewN nq)
    have N3 := Lib.hid (N2.out.drewN nq)
    clear H2 X2 Y2 T2 N2 j0 j1 j2 j3
    generalize wb.drewN nq = wc at *
    have xg := X3.out
    have yg := Y3.out
    have p0 := xg.cell 0
    have p1 := xg.cell 1
    have p2 := xg.cell 2
    have p3 := xg.cell 3
    have p4 := xg.cell 4
    have p5 := xg.cell 5
    have p6 := xg.cell 6
    have p7 := xg.cell 7
    have p8 := xg.cell 8
    simp only [List.getElem?_toArray, List.getElem?_cons_zero, List.getElem?_cons_succ] at p0 p1 p2 p3 p4 p5 p6 p7 p8
    have l0 := xg.loose 0
    have l1 := xg.loose 1
    have l2 := xg.loose 2
    have l3 := xg.loose 3
    have l4 := xg.loose 4
    have l5 := xg.loose 5
    have l6 := xg.loose 6
    have l7 := xg.loose 7
    have l8 := xg.loose 8
    have q0 := yg.cell 0
    have q1 := yg.cell 1
    have q2 := yg.cell 2
    have q3 := yg.cell 3
    have q4 := yg.cell 4
    have q5 := yg.cell 5
    have q6 := yg.cell 6
    have q7 := yg.cell 7
    have q8 := yg.cell 8
    simp only [List.getElem?_toArray, List.getElem?_cons_zero, List.getElem?_cons_succ] at q0 q1 q2 q3 q4 q5 q6 q7 q8
    have hlx := xg.lt
    have hly := yg.lt
    clear xg yg
    go_wp2
    first | (refine bodyPost_ret (R := PPq B R s w SP) (v := .agg (reC k0 k1 A k2 cp k3 k4 k5).toArray) (by simp [results, Tryd.results57, go_sem, hlx, p0, p1, p2, p3, p4, p5, p6, p7, p8, q0, q1, q2, q3, q4, q5, q6, q7, q8]) rfl ?_) | fail
    exact ⟨r, _, k, g', e, rfl, tree_k HRT.out (N3.out.trans (EreU_tch (X := w.heap.size) (Tch.refl _ _) (Or.inr rfl))) (fun b hb e => by rcases e with e | e <;> omega) (fun b hb => by omega), EreU_far H3.out (fun e => hne e.symm), hk, tch_in (Tch.refl _ w) (EreU_tch T3.out (Or.inr rfl)) (Nat.le_refl _), Or.inr HI.out⟩
  by_cases hlk : k < s.size
  rotate_left
  · have HI := Lib.hid (show SP = .ok (r, rest s k, g') by rw [← HSP.out]; exact piece_no (HAP.out.trans hok) (fun c r' e => by rw [rest_nil s k (by omega)] at e; cases e))
    have e1 : decide ((s.size : Int) ≤ (k : Int)) = true := by simp; omega
    have e1n : decide (s.size ≤ k) = true := by simp; omega
    clear hok hlk
    go_simp
    go_quiet (fail)
    have H3 := Lib.hid (H2.out.dn nq)
    have X3 := Lib.hid (X2.out.drewN nq)
    have Y3 := Lib.hid (Y2.out.drewN nq)
    have T3 := Lib.hid (T2.out.drewN nq)
    have N3 := Lib.hid (N2.out.drewN nq)
    clear H2 X2 Y2 T2 N2 j0 j1 j2 j3
    generalize wb.drewN nq = wc at *
    have xg := X3.out
    have yg := Y3.out
    have p0 := xg.cell 0
    have p1 := xg.cell 1
    have p2 := xg.cell 2
    have p3 := xg.cell 3
    have p4 := xg.cell 4
    have p5 := xg.cell 5
    have p6 := xg.cell 6
    have p7 := xg.cell 7
    have p8 := xg.cell 8
    simp only [List.getElem?_toArray, List.getElem?_cons_zero, List.getElem?_cons_succ] at p0 p1 p2 p3 p4 p5 p6 p7 p8
    have l0 := xg.loose 0
    have l1 := xg.loose 1
    have l2 := xg.loose 2
    have l3 := xg.loose 3
    have l4 := xg.loose 4
    have l5 := xg.loose 5
    have l6 := xg.loose 6
    have l7 := xg.loose 7
    have l8 := xg.loose 8
    have q0 := yg.cell 0
    have q1 := yg.cell 1
    have q2 := yg.cell 2
    have q3 := yg.cell 3
    have q4 := yg.cell 4
    have q5 := yg.cell 5
    have q6 := yg.cell 6
    have q7 := yg.cell 7
    have q8 := yg.cell 8
    simp only [List.getElem?_toArray, List.getElem?_cons_zero, List.getElem?_cons_succ] at q0 q1 q2 q3 q4 q5 q6 q7 q8
    have hlx := xg.lt
    have hly := yg.lt
    clear xg yg
    go_wp2
    first | (refine bodyPost_ret (R := PPq B R s w SP) (v := .agg (reC k0 k1 A k2 cp k3 k4 k5).toArray) (by simp [results, Tryd.results57, go_sem, hlx, p0, p1, p2, p3, p4, p5, p6, p7, p8, q0, q1, q2, q3, q4, q5, q6, q7, q8]) rfl ?_) | fail
    exact ⟨r, _, k, g', 0, rfl, tree_k HRT.out (N3.out.trans (EreU_tch (X := w.heap.size) (Tch.refl _ _) (Or.inr rfl))) (fun b hb e => by rcases e with e | e <;> omega) (fun b hb => by omega), EreU_far H3.out (fun e => hne e.symm), hk, tch_in (Tch.refl _ w) (EreU_tch T3.out (Or.inr rfl)) (Nat.le_refl _), Or.inl ⟨rfl, HI.out⟩⟩
  have e1 : decide ((s.size : Int) ≤ (k : Int)) = false := by simp; omega
  have e1n : decide (s.size ≤ k) = false := by simp; omega
  have hcons := rest_cons s k hlk
  obtain ⟨c, hcc⟩ : ∃ c, s[k]'hlk = c := ⟨_, rfl⟩
  rw [hcc] at hcons
  have hcl := c.toNat_lt
  go_simp
  go_quiet (fail)
  have H3 := Lib.hid (H2.out.dn nq)
  have X3 := Lib.hid (X2.out.drewN nq)
  have Y3 := Lib.hid (Y2.out.drewN nq)
  have T3 := Lib.hid (T2.out.drewN nq)
  have N3 := Lib.hid (N2.out.drewN nq)
  clear H2 X2 Y2 T2 N2 j0 j1 j2 j3
  generalize wb.drewN nq = wc at *
  clear e1 e1n
  have tst : ∀ k : UInt8, ((c.toNat : Int) == (k.toNat : Int)) = (c == k) := by
    intro k
    rw [Bool.eq_iff_iff]; simp
    constructor
    · intro h; exact UInt8.toNat_inj.1 (by omega)
    · rintro rfl; rfl
  have tsn : ∀ k : UInt8, ((c.toNat : Int) != (k.toNat : Int)) = (c != k) := by
    intro k
    unfold bne; rw [tst k]
  have t42 := tst 42
  rw [show (((42 : UInt8).toNat : Nat) : Int) = 42 from rfl] at t42
  have u42 := tsn 42
  rw [show (((42 : UInt8).toNat : Nat) : Int) = 42 from rfl] at u42
  have t43 := tst 43
  rw [show (((43 : UInt8).toNat : Nat) : Int) = 43 from rfl] at t43
  have u43 := tsn 43
  rw [show (((43 : UInt8).toNat : Nat) : Int) = 43 from rfl] at u43
  have t63 := tst 63
  rw [show (((63 : UInt8).toNat : Nat) : Int) = 63 from rfl] at t63
  have u63 := tsn 63
  rw [show (((63 : UInt8).toNat : Nat) : Int) = 63 from rfl] at u63
  have t123 := tst 123
  rw [show (((123 : UInt8).toNat : Nat) : Int) = 123 from rfl] at t123
  have u123 := tsn 123
  rw [show (((123 : UInt8).toNat : Nat) : Int) = 123 from rfl] at u123
  clear tst tsn
  obtain ⟨j0, j1, j2, j3⟩ := H3.out.cells
  go_wp2_with fail
  go_simp
  go_quiet (fail)
  have H4 := Lib.hid (H3.out.dn nq)
  have X4 := Lib.hid (X3.out.drewN nq)
  have Y4 := Lib.hid (Y3.out.drewN nq)
  have T4 := Lib.hid (T3.out.drewN nq)
  have N4 := Lib.hid (N3.out.drewN nq)
  clear H3 X3 Y3 T3 N3 j0 j1 j2 j3
  generalize wc.drewN nq = wd at *
  have HC := Lib.hid hcc
  clear hcc
  cases hrep : isRep c
  · have HI := Lib.hid (show SP = .ok (r, rest s k, g') by
      rw [← HSP.out]
      refine piece_no (HAP.out.trans hok) (fun c2 r' e => ?_)
      rw [hcons] at e; injection e with e1 e2; rw [← e1]; exact hrep)
    have n42 : (c == 42) = false := by rw [beq_eq_false_iff_ne]; rintro rfl; cases hrep
    have m42 : (c != 42) = true := by rw [bne, n42]; rfl
    rw [n42] at t42
    rw [m42] at u42
    clear n42 m42
    have n43 : (c == 43) = false := by rw [beq_eq_false_iff_ne]; rintro rfl; cases hrep
    have m43 : (c != 43) = true := by rw [bne, n43]; rfl
    rw [n43] at t43
    rw [m43] at u43
    clear n43 m43
    have n63 : (c == 63) = false := by rw [beq_eq_false_iff_ne]; rintro rfl; cases hrep
    have m63 : (c != 63) = true := by rw [bne, n63]; rfl
    rw [n63] at t63
    rw [m63] at u63
    clear n63 m63
    have n123 : (c == 123) = false := by rw [beq_eq_false_iff_ne]; rintro rfl; cases hrep
    have m123 : (c != 123) = true := by rw [bne, n123]; rfl
    rw [n123] at t123
    rw [m123] at u123
    clear n123 m123
    clear hok hrep hcons
    have xg := X4.out
    have yg := Y4.out
    have p0 := xg.cell 0
    have p1 := xg.cell 1
    have p2 := xg.cell 2
    have p3 := xg.cell 3
    have p4 := xg.cell 4
    have p5 := xg.cell 5
    have p6 := xg.cell 6
    have p7 := xg.cell 7
    have p8 := xg.cell 8
    simp only [List.getElem?_toArray, List.getElem?_cons_zero, List.getElem?_cons_succ] at p0 p1 p2 p3 p4 p5 p6 p7 p8
    have l0 := xg.loose 0
    have l1 := xg.loose 1
    have l2 := xg.loose 2
    have l3 := xg.loose 3
    have l4 := xg.loose 4
    have l5 := xg.loose 5
    have l6 := xg.loose 6
    have l7 := xg.loose 7
    have l8 := xg.loose 8
    have q0 := yg.cell 0
    have q1 := yg.cell 1
    have q2 := yg.cell 2
    have q3 := yg.cell 3
    have q4 := yg.cell 4
    have q5 := yg.cell 5
    have q6 := yg.cell 6
    have q7 := yg.cell 7
    have q8 := yg.cell 8
    simp only [List.getElem?_toArray, List.getElem?_cons_zero, List.getElem?_cons_succ] at q0 q1 q2 q3 q4 q5 q6 q7 q8
    have hlx := xg.lt
    have hly := yg.lt
    clear xg yg
    go_wp2
    first | (refine bodyPost_ret (R := PPq B R s w SP) (v := .agg (reC k0 k1 A k2 cp k3 k4 k5).toArray) (by simp [results, Tryd.results57, go_sem, hlx, p0, p1, p2, p3, p4, p5, p6, p7, p8, q0, q1, q2, q3, q4, q5, q6, q7, q8]) rfl ?_) | fail
    exact ⟨r, _, k, g', 0, rfl, tree_k HRT.out (N4.out.trans (EreU_tch (X := w.heap.size) (Tch.refl _ _) (Or.inr rfl))) (fun b hb e => by rcases e with e | e <;> omega) (fun b hb => by omega), EreU_far H4.out (fun e => hne e.symm), hk, tch_in (Tch.refl _ w) (EreU_tch T4.out (Or.inr rfl)) (Nat.le_refl _), Or.inl ⟨rfl, HI.out⟩⟩
  have hw : c = 42 ∨ c = 43 ∨ c = 63 ∨ c = 123 := by simpa [isRep, or_assoc] using hrep
  by_cases hfix : k0 = 2 ∨ k0 = 3
  · have HI := Lib.hid (show SP = .error (rest s k, 1) by
      rw [← HSP.out, hcons]
      exact piece_fix (HAP.out.trans (hok.trans (by rw [hcons]))) hrep (by rw [HK0.out]; exact hfix))
    have hf2 : (k0 == 2) = true ∨ ((k0 == 2) = false ∧ (k0 == 3) = true) := by
      by_cases h2 : k0 = 2
      · left; simpa using h2
      · right; rcases hfix with h | h
        · exact absurd h h2
        · exact ⟨by simpa using h2, by simpa using h⟩
    clear hok hrep hcons hfix
    have cf := fail_c R s k g' 0 1 wd H4.out
    rw [show failS 1 0 = 1 from rfl, show ((1 : Nat) : Int) = 1 from rfl] at cf
    have yg := Y4.out
    have q0 := yg.cell 0
    have q1 := yg.cell 1
    have q2 := yg.cell 2
    have q3 := yg.cell 3
    have q4 := yg.cell 4
    have q5 := yg.cell 5
    have q6 := yg.cell 6
    have q7 := yg.cell 7
    have q8 := yg.cell 8
    simp only [List.getElem?_toArray, List.getElem?_cons_zero, List.getElem?_cons_succ] at q0 q1 q2 q3 q4 q5 q6 q7 q8
    have hly := yg.lt
    clear yg
    rcases hw with hw | hw | hw | hw
    · rw [show (c == 42) = true by rw [hw]; decide] at t42
      rw [show (c != 42) = false by rw [hw]; decide] at u42
      rw [show (c == 43) = false by rw [hw]; decide] at t43
      rw [show (c != 43) = true by rw [hw]; decide] at u43
      rw [show (c == 63) = false by rw [hw]; decide] at t63
      rw [show (c != 63) = true by rw [hw]; decide] at u63
      rw [show (c == 123) = false by rw [hw]; decide] at t123
      rw [show (c != 123) = true by rw [hw]; decide] at u123
      clear hw
      rcases hf2 with f2 | ⟨f2, f3⟩
      all_goals
        go_wp2_with fail
        (with_reducible refine cf.mono ?_)
        rintro x wg ⟨rfl, hr, ht⟩
        have H5 := Lib.hid hr
        have X5 := Lib.hid (X4.out.tch ht (fun e => hne e))
        have Y5 := Lib.hid (Y4.out.tch ht (show ¬ Y = R by omega))
        have T5 := Lib.hid (T4.out.trans (ht.more (fun b hb => Or.inl hb)))
        have N5 := Lib.hid (N4.out.trans (ht.more (fun b hb => Or.inl hb)))
        clear hr ht cf q0 q1 q2 q3 q4 q5 q6 q7 q8
        have xg := X5.out
        have yg := Y5.out
        have p0 := xg.cell 0
        have p1 := xg.cell 1
        have p2 := xg.cell 2
        have p3 := xg.cell 3
        have p4 := xg.cell 4
        have p5 := xg.cell 5
        have p6 := xg.cell 6
        have p7 := xg.cell 7
        have p8 := xg.cell 8
        simp only [List.getElem?_toArray, List.getElem?_cons_zero, List.getElem?_cons_succ] at p0 p1 p2 p3 p4 p5 p6 p7 p8
        have l0 := xg.loose 0
        have l1 := xg.loose 1
        have l2 := xg.loose 2
        have l3 := xg.loose 3
        have l4 := xg.loose 4
        have l5 := xg.loose 5
        have l6 := xg.loose 6
        have l7 := xg.loose 7
        have l8 := xg.loose 8
        have q0 := yg.cell 0
        have q1 := yg.cell 1
        have q2 := yg.cell 2
        have q3 := yg.cell 3
        have q4 := yg.cell 4
        have q5 := yg.cell 5
        have q6 := yg.cell 6
        have q7 := yg.cell 7
        have q8 := yg.cell 8
        simp only [List.getElem?_toArray, List.getElem?_cons_zero, List.getElem?_cons_succ] at q0 q1 q2 q3 q4 q5 q6 q7 q8
        have hlx := xg.lt
        have hly := yg.lt
        clear xg yg
        go_wp2
        first | (refine bodyPost_ret (R := PPq B R s w SP) (v := .agg (reC k0 k1 A k2 cp k3 k4 k5).toArray) (by simp [results, Tryd.results57, go_sem, hlx, p0, p1, p2, p3, p4, p5, p6, p7, p8, q0, q1, q2, q3, q4, q5, q6, q7, q8]) rfl ?_) | fail
        exact ⟨r, _, k, g', 1, rfl, tree_k HRT.out (N5.out.trans (EreU_tch (X := w.heap.size) (Tch.refl _ _) (Or.inr rfl))) (fun b hb e => by rcases e with e | e <;> omega) (fun b hb => by omega), EreU_far H5.out (fun e => hne e.symm), hk, tch_in (Tch.refl _ w) (EreU_tch T5.out (Or.inr rfl)) (Nat.le_refl _), Or.inr ⟨by decide, HI.out⟩⟩
    · rw [show (c == 42) = false by rw [hw]; decide] at t42
      rw [show (c != 42) = true by rw [hw]; decide] at u42
      rw [show (c == 43) = true by rw [hw]; decide] at t43
      rw [show (c != 43) = false by rw [hw]; decide] at u43
      rw [show (c == 63) = false by rw [hw]; decide] at t63
      rw [show (c != 63) = true by rw [hw]; decide] at u63
      rw [show (c == 123) = false by rw [hw]; decide] at t123
      rw [show (c != 123) = true by rw [hw]; decide] at u123
      clear hw
      rcases hf2 with f2 | ⟨f2, f3⟩
      all_goals
        go_wp2_with fail
        (with_reducible refine cf.mono ?_)
        rintro x wg ⟨rfl, hr, ht⟩
        have H5 := Lib.hid hr
        have X5 := Lib.hid (X4.out.tch ht (fun e => hne e))
        have Y5 := Lib.hid (Y4.out.tch ht (show ¬ Y = R by omega))
        have T5 := Lib.hid (T4.out.trans (ht.more (fun b hb => Or.inl hb)))
        have N5 := Lib.hid (N4.out.trans (ht.more (fun b hb => Or.inl hb)))
        clear hr ht cf q0 q1 q2 q3 q4 q5 q6 q7 q8
        have xg := X5.out
        have yg := Y5.out
        have p0 := xg.cell 0
        have p1 := xg.cell 1
        have p2 := xg.cell 2
        have p3 := xg.cell 3
        have p4 := xg.cell 4
        have p5 := xg.cell 5
        have p6 := xg.cell 6
        have p7 := xg.cell 7
        have p8 := xg.cell 8
        simp only [List.getElem?_toArray, List.getElem?_cons_zero, List.getElem?_cons_succ] at p0 p1 p2 p3 p4 p5 p6 p7 p8
        have l0 := xg.loose 0
        have l1 := xg.loose 1
        have l2 := xg.loose 2
        have l3 := xg.loose 3
        have l4 := xg.loose 4
        have l5 := xg.loose 5
        have l6 := xg.loose 6
        have l7 := xg.loose 7
        have l8 := xg.loose 8
        have q0 := yg.cell 0
        have q1 := yg.cell 1
        have q2 := yg.cell 2
        have q3 := yg.cell 3
        have q4 := yg.cell 4
        have q5 := yg.cell 5
        have q6 := yg.cell 6
        have q7 := yg.cell 7
        have q8 := yg.cell 8
        simp only [List.getElem?_toArray, List.getElem?_cons_zero, List.getElem?_cons_succ] at q0 q1 q2 q3 q4 q5 q6 q7 q8
        have hlx := xg.lt
        have hly := yg.lt
        clear xg yg
        go_wp2
        first | (refine bodyPost_ret (R := PPq B R s w SP) (v := .agg (reC k0 k1 A k2 cp k3 k4 k5).toArray) (by simp [results, Tryd.results57, go_sem, hlx, p0, p1, p2, p3, p4, p5, p6, p7, p8, q0, q1, q2, q3, q4, q5, q6, q7, q8]) rfl ?_) | fail
        exact ⟨r, _, k, g', 1, rfl, tree_k HRT.out (N5.out.trans (EreU_tch (X := w.heap.size) (Tch.refl _ _) (Or.inr rfl))) (fun b hb e => by rcases e with e | e <;> omega) (fun b hb => by omega), EreU_far H5.out (fun e => hne e.symm), hk, tch_in (Tch.refl _ w) (EreU_tch T5.out (Or.inr rfl)) (Nat.le_refl _), Or.inr ⟨by decide, HI.out⟩⟩
    · rw [show (c == 42) = false by rw [hw]; decide] at t42
      rw [show (c != 42) = true by rw [hw]; decide] at u42
      rw [show (c == 43) = false by rw [hw]; decide] at t43
      rw [show (c != 43) = true by rw [hw]; decide] at u43
      rw [show (c == 63) = true by rw [hw]; decide] at t63
      rw [show (c != 63) = false by rw [hw]; decide] at u63
      rw [show (c == 123) = false by rw [hw]; decide] at t123
      rw [show (c != 123) = true by rw [hw]; decide] at u123
      clear hw
      rcases hf2 with f2 | ⟨f2, f3⟩
      all_goals
        go_wp2_with fail
        (with_reducible refine cf.mono ?_)
        rintro x wg ⟨rfl, hr, ht⟩
        have H5 := Lib.hid hr
        have X5 := Lib.hid (X4.out.tch ht (fun e => hne e))
        have Y5 := Lib.hid (Y4.out.tch ht (show ¬ Y = R by omega))
        have T5 := Lib.hid (T4.out.trans (ht.more (fun b hb => Or.inl hb)))
        have N5 := Lib.hid (N4.out.trans (ht.more (fun b hb => Or.inl hb)))
        clear hr ht cf q0 q1 q2 q3 q4 q5 q6 q7 q8
        have xg := X5.out
        have yg := Y5.out
        have p0 := xg.cell 0
        have p1 := xg.cell 1
        have p2 := xg.cell 2
        have p3 := xg.cell 3
        have p4 := xg.cell 4
        have p5 := xg.cell 5
        have p6 := xg.cell 6
        have p7 := xg.cell 7
        have p8 := xg.cell 8
        simp only [List.getElem?_toArray, List.getElem?_cons_zero, List.getElem?_cons_succ] at p0 p1 p2 p3 p4 p5 p6 p7 p8
        have l0 := xg.loose 0
        have l1 := xg.loose 1
        have l2 := xg.loose 2
        have l3 := xg.loose 3
        have l4 := xg.loose 4
        have l5 := xg.loose 5
        have l6 := xg.loose 6
        have l7 := xg.loose 7
        have l8 := xg.loose 8
        have q0 := yg.cell 0
        have q1 := yg.cell 1
        have q2 := yg.cell 2
        have q3 := yg.cell 3
        have q4 := yg.cell 4
        have q5 := yg.cell 5
        have q6 := yg.cell 6
        have q7 := yg.cell 7
        have q8 := yg.cell 8
        simp only [List.getElem?_toArray, List.getElem?_cons_zero, List.getElem?_cons_succ] at q0 q1 q2 q3 q4 q5 q6 q7 q8
        have hlx := xg.lt
        have hly := yg.lt
        clear xg yg
        go_wp2
        first | (refine bodyPost_ret (R := PPq B R s w SP) (v := .agg (reC k0 k1 A k2 cp k3 k4 k5).toArray) (by simp [results, Tryd.results57, go_sem, hlx, p0, p1, p2, p3, p4, p5, p6, p7, p8, q0, q1, q2, q3, q4, q5, q6, q7, q8]) rfl ?_) | fail
        exact ⟨r, _, k, g', 1, rfl, tree_k HRT.out (N5.out.trans (EreU_tch (X := w.heap.size) (Tch.refl _ _) (Or.inr rfl))) (fun b hb e => by rcases e with e | e <;> omega) (fun b hb => by omega), EreU_far H5.out (fun e => hne e.symm), hk, tch_in (Tch.refl _ w) (EreU_tch T5.out (Or.inr rfl)) (Nat.le_refl _), Or.inr ⟨by decide, HI.out⟩⟩
    · rw [show (c == 42) = false by rw [hw]; decide] at t42
      rw [show (c != 42) = true by rw [hw]; decide] at u42
      rw [show (c == 43) = false by rw [hw]; decide] at t43
      rw [show (c != 43) = true by rw [hw]; decide] at u43
      rw [show (c == 63) = false by rw [hw]; decide] at t63
      rw [show (c != 63) = true by rw [hw]; decide] at u63
      rw [show (c == 123) = true by rw [hw]; decide] at t123
      rw [show (c != 123) = false by rw [hw]; decide] at u123
      clear hw
      rcases hf2 with f2 | ⟨f2, f3⟩
      all_goals
        go_wp2_with fail
        (with_reducible refine cf.mono ?_)
        rintro x wg ⟨rfl, hr, ht⟩
        have H5 := Lib.hid hr
        have X5 := Lib.hid (X4.out.tch ht (fun e => hne e))
        have Y5 := Lib.hid (Y4.out.tch ht (show ¬ Y = R by omega))
        have T5 := Lib.hid (T4.out.trans (ht.more (fun b hb => Or.inl hb)))
        have N5 := Lib.hid (N4.out.trans (ht.more (fun b hb => Or.inl hb)))
        clear hr ht cf q0 q1 q2 q3 q4 q5 q6 q7 q8
        have xg := X5.out
        have yg := Y5.out
        have p0 := xg.cell 0
        have p1 := xg.cell 1
        have p2 := xg.cell 2
        have p3 := xg.cell 3
        have p4 := xg.cell 4
        have p5 := xg.cell 5
        have p6 := xg.cell 6
        have p7 := xg.cell 7
        have p8 := xg.cell 8
        simp only [List.getElem?_toArray, List.getElem?_cons_zero, List.getElem?_cons_succ] at p0 p1 p2 p3 p4 p5 p6 p7 p8
        have l0 := xg.loose 0
        have l1 := xg.loose 1
        have l2 := xg.loose 2
        have l3 := xg.loose 3
        have l4 := xg.loose 4
        have l5 := xg.loose 5
        have l6 := xg.loose 6
        have l7 := xg.loose 7
        have l8 := xg.loose 8
        have q0 := yg.cell 0
        have q1 := yg.cell 1
        have q2 := yg.cell 2
        have q3 := yg.cell 3
        have q4 := yg.cell 4
        have q5 := yg.cell 5
        have q6 := yg.cell 6
        have q7 := yg.cell 7
        have q8 := yg.cell 8
        simp only [List.getElem?_toArray, List.getElem?_cons_zero, List.getElem?_cons_succ] at q0 q1 q2 q3 q4 q5 q6 q7 q8
        have hlx := xg.lt
        have hly := yg.lt
        clear xg yg
        go_wp2
        first | (refine bodyPost_ret (R := PPq B R s w SP) (v := .agg (reC k0 k1 A k2 cp k3 k4 k5).toArray) (by simp [results, Tryd.results57, go_sem, hlx, p0, p1, p2, p3, p4, p5, p6, p7, p8, q0, q1, q2, q3, q4, q5, q6, q7, q8]) rfl ?_) | fail
        exact ⟨r, _, k, g', 1, rfl, tree_k HRT.out (N5.out.trans (EreU_tch (X := w.heap.size) (Tch.refl _ _) (Or.inr rfl))) (fun b hb e => by rcases e with e | e <;> omega) (fun b hb => by omega), EreU_far H5.out (fun e => hne e.symm), hk, tch_in (Tch.refl _ w) (EreU_tch T5.out (Or.inr rfl)) (Nat.le_refl _), Or.inr ⟨by decide, HI.out⟩⟩
  have hk2' : k0 ≠ 2 := fun h => hfix (Or.inl h)
  have hk3' : k0 ≠ 3 := fun h => hfix (Or.inr h)
  have f2 : (k0 == 2) = false := by simpa using hk2'
  have f3 : (k0 == 3) = false := by simpa using hk3'
  clear hfix hrep
  have hz2 : r.kind ≠ 2 := by rw [HK0.out]; exact hk2'
  have hz3 : r.kind ≠ 3 := by rw [HK0.out]; exact hk3'
  have hok2 := hok
  rw [hcons] at hok2
  have HOK := Lib.hid (HAP.out.trans hok2)
  clear hok hok2 hcons hk2' hk3'
  have HC4 := Lib.hid (H4.out.setAt (k + 1))
  have XC4 := Lib.hid (X4.out.far (p := ⟨R, 1, none⟩) hne (.int .i64 ((k + 1 : Nat) : Int)))
  have YC4 := Lib.hid (Y4.out.far (p := ⟨R, 1, none⟩) (show Y ≠ R by omega) (.int .i64 ((k + 1 : Nat) : Int)))
  have TC4 := Lib.hid (T4.out.setCell (p := ⟨R, 1, none⟩) (Or.inl rfl) (.int .i64 ((k + 1 : Nat) : Int)))
  have NC4 := Lib.hid (N4.out.setCell (p := ⟨R, 1, none⟩) (Or.inl rfl) (.int .i64 ((k + 1 : Nat) : Int)))
  rw [show ((k + 1 : Nat) : Int) = (k : Int) + 1 from rfl] at HC4 XC4 YC4 TC4 NC4
  obtain ⟨we, hwe⟩ : ∃ z, z = wd.setCell ⟨R, 1, none⟩ (.int .i64 ((k : Int) + 1)) := ⟨_, rfl⟩
  rw [← hwe] at HC4 XC4 YC4 TC4 NC4
  have ze : w1.heap.size ≤ we.heap.size := NC4.out.size
  obtain ⟨j0, j1, j2, j3⟩ := H4.out.cells
  have f1 := H4.out.free 1
  have yd := Y4.out
  have q0 := yd.cell 0
  have q1 := yd.cell 1
  have q2 := yd.cell 2
  have q3 := yd.cell 3
  have q4 := yd.cell 4
  have q5 := yd.cell 5
  have q6 := yd.cell 6
  have q7 := yd.cell 7
  have q8 := yd.cell 8
  simp only [List.getElem?_toArray, List.getElem?_cons_zero, List.getElem?_cons_succ] at q0 q1 q2 q3 q4 q5 q6 q7 q8
  have hlyd := yd.lt
  clear yd
  have yg := YC4.out
  have y0 := yg.cell 0
  have y1 := yg.cell 1
  have y2 := yg.cell 2
  have y3 := yg.cell 3
  have y4 := yg.cell 4
  have y5 := yg.cell 5
  have y6 := yg.cell 6
  have y7 := yg.cell 7
  have y8 := yg.cell 8
  simp only [List.getElem?_toArray, List.getElem?_cons_zero, List.getElem?_cons_succ] at y0 y1 y2 y3 y4 y5 y6 y7 y8
  have hly := yg.lt
  clear yg
  rcases hw with hw | hw | hw | hw
  · have HI := Lib.hid (show SP = .ok (.mk 6 0 [r] 0 (-1) 0, rest s (k + 1), g') by rw [← HSP.out]; exact piece_star (by rw [← hw]; exact HOK.out) hz2 hz3)
    have HK1 : k + 1 ≤ s.size := hlk
    rw [show (c == 42) = true by rw [hw]; decide] at t42
    rw [show (c != 42) = false by rw [hw]; decide] at u42
    rw [show (c == 43) = false by rw [hw]; decide] at t43
    rw [show (c != 43) = true by rw [hw]; decide] at u43
    rw [show (c == 63) = false by rw [hw]; decide] at t63
    rw [show (c != 63) = true by rw [hw]; decide] at u63
    rw [show (c == 123) = false by rw [hw]; decide] at t123
    rw [show (c != 123) = true by rw [hw]; decide] at u123
    clear hw
    have x5 := XC4.out.alloc (.cells (reC k0 k1 A k2 cp k3 k4 k5).toArray 27)
    have p0 := x5.cell 0
    have p1 := x5.cell 1
    have p2 := x5.cell 2
    have p3 := x5.cell 3
    have p4 := x5.cell 4
    have p5 := x5.cell 5
    have p6 := x5.cell 6
    have p7 := x5.cell 7
    have p8 := x5.cell 8
    simp only [List.getElem?_toArray, List.getElem?_cons_zero, List.getElem?_cons_succ] at p0 p1 p2 p3 p4 p5 p6 p7 p8
    have l0 := x5.loose 0
    have l1 := x5.loose 1
    have l2 := x5.loose 2
    have l3 := x5.loose 3
    have l4 := x5.loose 4
    have l5 := x5.loose 5
    have l6 := x5.loose 6
    have l7 := x5.loose 7
    have l8 := x5.loose 8
    have hlx := x5.lt
    have fin : ∀ W, Tch (fun b => b = w.heap.size) (we.alloc (.cells (reC k0 k1 A k2 cp k3 k4 k5).toArray 27)) W → Rdr W R s (k + 1) g' 0 → PPq B R s w SP (.returned (.agg (reC 6 0 (some ⟨we.heap.size, 0, none⟩) 1 1 0 (-1) 0).toArray)) W := fun W hT hr =>
      ⟨.mk 6 0 [r] 0 (-1) 0, reC 6 0 (some ⟨we.heap.size, 0, none⟩) 1 1 0 (-1) 0, (k + 1), g', 0, rfl, one_kid (tree_k (HRT.out.tch NC4.out (fun b hb e => by rcases e with e | e <;> omega)) ((Tch.refl _ _).alloc _ |>.trans hT) (fun b hb e => by omega) (fun b hb => by omega)) ((Blk.new _ _ _).tch hT (by have := XC4.out.lt; omega)) (by omega) 6 0 (-1) 0 1, hr, HK1, tch_in (Tch.refl _ w) ((TC4.out.alloc _).trans (hT.more (fun b hb => Or.inr hb))) (Nat.le_refl _), Or.inl ⟨rfl, HI.out⟩⟩
    have FIN := Lib.hid fin
    clear fin x5
    rw [hwe] at p0 l0 p1 l1 p2 l2 p3 l3 p4 l4 p5 l5 p6 l6 p7 l7 p8 l8 hlx y0 y1 y2 y3 y4 y5 y6 y7 y8 hly
    have hsz : we.heap.size = wd.heap.size := by rw [hwe]; simp [World.setCell]
    have HSZ := Lib.hid hsz
    clear hsz
    go_wp2
    rw [← hwe, ← HSZ.out]
    rw [← hwe] at p0 p1 p2 p3 p4 p5 p6 p7 p8 hlx
    first | (refine bodyPost_ret (R := PPq B R s w SP) (v := .agg (reC 6 0 (some ⟨we.heap.size, 0, none⟩) 1 1 0 (-1) 0).toArray) (by simp [results, Tryd.results57, go_sem, hlx, p0, p1, p2, p3, p4, p5, p6, p7, p8]; exact ⟨rfl, rfl, rfl, rfl⟩) rfl ?_) | fail
    exact FIN.out _ (tch9 (X := w.heap.size) (Tch.refl _ _) rfl) (EreU_far (HC4.out.alloc _) (fun e => hne e.symm))
  · have HI := Lib.hid (show SP = .ok (.mk 6 0 [r] 1 (-1) 0, rest s (k + 1), g') by rw [← HSP.out]; exact piece_plus (by rw [← hw]; exact HOK.out) hz2 hz3)
    have HK1 : k + 1 ≤ s.size := hlk
    rw [show (c == 42) = false by rw [hw]; decide] at t42
    rw [show (c != 42) = true by rw [hw]; decide] at u42
    rw [show (c == 43) = true by rw [hw]; decide] at t43
    rw [show (c != 43) = false by rw [hw]; decide] at u43
    rw [show (c == 63) = false by rw [hw]; decide] at t63
    rw [show (c != 63) = true by rw [hw]; decide] at u63
    rw [show (c == 123) = false by rw [hw]; decide] at t123
    rw [show (c != 123) = true by rw [hw]; decide] at u123
    clear hw
    have x5 := XC4.out.alloc (.cells (reC k0 k1 A k2 cp k3 k4 k5).toArray 27)
    have p0 := x5.cell 0
    have p1 := x5.cell 1
    have p2 := x5.cell 2
    have p3 := x5.cell 3
    have p4 := x5.cell 4
    have p5 := x5.cell 5
    have p6 := x5.cell 6
    have p7 := x5.cell 7
    have p8 := x5.cell 8
    simp only [List.getElem?_toArray, List.getElem?_cons_zero, List.getElem?_cons_succ] at p0 p1 p2 p3 p4 p5 p6 p7 p8
    have l0 := x5.loose 0
    have l1 := x5.loose 1
    have l2 := x5.loose 2
    have l3 := x5.loose 3
    have l4 := x5.loose 4
    have l5 := x5.loose 5
    have l6 := x5.loose 6
    have l7 := x5.loose 7
    have l8 := x5.loose 8
    have hlx := x5.lt
    have fin : ∀ W, Tch (fun b => b = w.heap.size) (we.alloc (.cells (reC k0 k1 A k2 cp k3 k4 k5).toArray 27)) W → Rdr W R s (k + 1) g' 0 → PPq B R s w SP (.returned (.agg (reC 6 0 (some ⟨we.heap.size, 0, none⟩) 1 1 1 (-1) 0).toArray)) W := fun W hT hr =>
      ⟨.mk 6 0 [r] 1 (-1) 0, reC 6 0 (some ⟨we.heap.size, 0, none⟩) 1 1 1 (-1) 0, (k + 1), g', 0, rfl, one_kid (tree_k (HRT.out.tch NC4.out (fun b hb e => by rcases e with e | e <;> omega)) ((Tch.refl _ _).alloc _ |>.trans hT) (fun b hb e => by omega) (fun b hb => by omega)) ((Blk.new _ _ _).tch hT (by have := XC4.out.lt; omega)) (by omega) 6 1 (-1) 0 1, hr, HK1, tch_in (Tch.refl _ w) ((TC4.out.alloc _).trans (hT.more (fun b hb => Or.inr hb))) (Nat.le_refl _), Or.inl ⟨rfl, HI.out⟩⟩
    have FIN := Lib.hid fin
    clear fin x5
    rw [hwe] at p0 l0 p1 l1 p2 l2 p3 l3 p4 l4 p5 l5 p6 l6 p7 l7 p8 l8 hlx y0 y1 y2 y3 y4 y5 y6 y7 y8 hly
    have hsz : we.heap.size = wd.heap.size := by rw [hwe]; simp [World.setCell]
    have HSZ := Lib.hid hsz
    clear hsz
    go_wp2
    rw [← hwe, ← HSZ.out]
    rw [← hwe] at p0 p1 p2 p3 p4 p5 p6 p7 p8 hlx
    first | (refine bodyPost_ret (R := PPq B R s w SP) (v := .agg (reC 6 0 (some ⟨we.heap.size, 0, none⟩) 1 1 1 (-1) 0).toArray) (by simp [results, Tryd.results57, go_sem, hlx, p0, p1, p2, p3, p4, p5, p6, p7, p8]; exact ⟨rfl, rfl, rfl, rfl⟩) rfl ?_) | fail
    exact FIN.out _ (tch9 (X := w.heap.size) (Tch.refl _ _) rfl) (EreU_far (HC4.out.alloc _) (fun e => hne e.symm))
  · have HI := Lib.hid (show SP = .ok (.mk 6 0 [r] 0 1 0, rest s (k + 1), g') by rw [← HSP.out]; exact piece_opt (by rw [← hw]; exact HOK.out) hz2 hz3)
    have HK1 : k + 1 ≤ s.size := hlk
    rw [show (c == 42) = false by rw [hw]; decide] at t42
    rw [show (c != 42) = true by rw [hw]; decide] at u42
    rw [show (c == 43) = false by rw [hw]; decide] at t43
    rw [show (c != 43) = true by rw [hw]; decide] at u43
    rw [show (c == 63) = true by rw [hw]; decide] at t63
    rw [show (c != 63) = false by rw [hw]; decide] at u63
    rw [show (c == 123) = false by rw [hw]; decide] at t123
    rw [show (c != 123) = true by rw [hw]; decide] at u123
    clear hw
    have x5 := XC4.out.alloc (.cells (reC k0 k1 A k2 cp k3 k4 k5).toArray 27)
    have p0 := x5.cell 0
    have p1 := x5.cell 1
    have p2 := x5.cell 2
    have p3 := x5.cell 3
    have p4 := x5.cell 4
    have p5 := x5.cell 5
    have p6 := x5.cell 6
    have p7 := x5.cell 7
    have p8 := x5.cell 8
    simp only [List.getElem?_toArray, List.getElem?_cons_zero, List.getElem?_cons_succ] at p0 p1 p2 p3 p4 p5 p6 p7 p8
    have l0 := x5.loose 0
    have l1 := x5.loose 1
    have l2 := x5.loose 2
    have l3 := x5.loose 3
    have l4 := x5.loose 4
    have l5 := x5.loose 5
    have l6 := x5.loose 6
    have l7 := x5.loose 7
    have l8 := x5.loose 8
    have hlx := x5.lt
    have fin : ∀ W, Tch (fun b => b = w.heap.size) (we.alloc (.cells (reC k0 k1 A k2 cp k3 k4 k5).toArray 27)) W → Rdr W R s (k + 1) g' 0 → PPq B R s w SP (.returned (.agg (reC 6 0 (some ⟨we.heap.size, 0, none⟩) 1 1 0 1 0).toArray)) W := fun W hT hr =>
      ⟨.mk 6 0 [r] 0 1 0, reC 6 0 (some ⟨we.heap.size, 0, none⟩) 1 1 0 1 0, (k + 1), g', 0, rfl, one_kid (tree_k (HRT.out.tch NC4.out (fun b hb e => by rcases e with e | e <;> omega)) ((Tch.refl _ _).alloc _ |>.trans hT) (fun b hb e => by omega) (fun b hb => by omega)) ((Blk.new _ _ _).tch hT (by have := XC4.out.lt; omega)) (by omega) 6 0 1 0 1, hr, HK1, tch_in (Tch.refl _ w) ((TC4.out.alloc _).trans (hT.more (fun b hb => Or.inr hb))) (Nat.le_refl _), Or.inl ⟨rfl, HI.out⟩⟩
    have FIN := Lib.hid fin
    clear fin x5
    rw [hwe] at p0 l0 p1 l1 p2 l2 p3 l3 p4 l4 p5 l5 p6 l6 p7 l7 p8 l8 hlx y0 y1 y2 y3 y4 y5 y6 y7 y8 hly
    have hsz : we.heap.size = wd.heap.size := by rw [hwe]; simp [World.setCell]
    have HSZ := Lib.hid hsz
    clear hsz
    go_wp2
    rw [← hwe, ← HSZ.out]
    rw [← hwe] at p0 p1 p2 p3 p4 p5 p6 p7 p8 hlx
    first | (refine bodyPost_ret (R := PPq B R s w SP) (v := .agg (reC 6 0 (some ⟨we.heap.size, 0, none⟩) 1 1 0 1 0).toArray) (by simp [results, Tryd.results57, go_sem, hlx, p0, p1, p2, p3, p4, p5, p6, p7, p8]; exact ⟨rfl, rfl, rfl, rfl⟩) rfl ?_) | fail
    exact FIN.out _ (tch9 (X := w.heap.size) (Tch.refl _ _) rfl) (EreU_far (HC4.out.alloc _) (fun e => hne e.symm))
  · have HI := Lib.hid (show SP = match timesP (rest s (k + 1)) with | .error e => .error e | .ok ((a, b), r2) => .ok (.mk 6 0 [r] a b 0, r2, g') by rw [← HSP.out]; exact piece_times (by rw [← hw]; exact HOK.out) hz2 hz3)
    rw [show (c == 42) = false by rw [hw]; decide] at t42
    rw [show (c != 42) = true by rw [hw]; decide] at u42
    rw [show (c == 43) = false by rw [hw]; decide] at t43
    rw [show (c != 43) = true by rw [hw]; decide] at u43
    rw [show (c == 63) = false by rw [hw]; decide] at t63
    rw [show (c != 63) = true by rw [hw]; decide] at u63
    rw [show (c == 123) = true by rw [hw]; decide] at t123
    rw [show (c != 123) = false by rw [hw]; decide] at u123
    clear hw
    have cb := braces_c R s (k + 1) g' we HC4.out hlk (by omega)
    obtain ⟨TP, hTP⟩ : ∃ TP, timesP (rest s (k + 1)) = TP := ⟨_, rfl⟩
    rw [hTP] at cb HI
    clear hTP
    unfold BPost at cb
    go_wp2_with fail
    rw [← hwe]
    clear hwe j0 j1 j2 j3 f1 q0 q1 q2 q3 q4 q5 q6 q7 q8 hlyd y0 y1 y2 y3 y4 y5 y6 y7 y8 hly
    (with_reducible refine cb.mono ?_)
    rintro x wf (⟨a, b, k2', rfl, hr, hk2', ht, he⟩ | ⟨k2', rfl, hr, hk2', ht, he⟩)
    · have HI := Lib.hid (show SP = .ok (.mk 6 0 [r] a b 0, rest s k2', g') by rw [HI.out, he])
      have HK1 : k2' ≤ s.size := hk2'
      have HC5 := Lib.hid hr
      have XC5 := Lib.hid (XC4.out.tch ht (fun e => hne e))
      have YC5 := Lib.hid (YC4.out.tch ht (show ¬ Y = R by omega))
      have TC5 := Lib.hid (TC4.out.trans (ht.more (fun b hb => Or.inl hb)))
      have NC5 := Lib.hid (NC4.out.trans (ht.more (fun b hb => Or.inl hb)))
      have ze5 : w1.heap.size ≤ wf.heap.size := NC5.out.size
      clear hr ht he hk2' cb HC4 XC4 YC4 TC4 NC4
      have yg := YC5.out
      have y0 := yg.cell 0
      have y1 := yg.cell 1
      have y2 := yg.cell 2
      have y3 := yg.cell 3
      have y4 := yg.cell 4
      have y5 := yg.cell 5
      have y6 := yg.cell 6
      have y7 := yg.cell 7
      have y8 := yg.cell 8
      simp only [List.getElem?_toArray, List.getElem?_cons_zero, List.getElem?_cons_succ] at y0 y1 y2 y3 y4 y5 y6 y7 y8
      have hly := yg.lt
      clear yg
      have x5 := XC5.out.alloc (.cells (reC k0 k1 A k2 cp k3 k4 k5).toArray 27)
      have p0 := x5.cell 0
      have p1 := x5.cell 1
      have p2 := x5.cell 2
      have p3 := x5.cell 3
      have p4 := x5.cell 4
      have p5 := x5.cell 5
      have p6 := x5.cell 6
      have p7 := x5.cell 7
      have p8 := x5.cell 8
      simp only [List.getElem?_toArray, List.getElem?_cons_zero, List.getElem?_cons_succ] at p0 p1 p2 p3 p4 p5 p6 p7 p8
      have l0 := x5.loose 0
      have l1 := x5.loose 1
      have l2 := x5.loose 2
      have l3 := x5.loose 3
      have l4 := x5.loose 4
      have l5 := x5.loose 5
      have l6 := x5.loose 6
      have l7 := x5.loose 7
      have l8 := x5.loose 8
      have hlx := x5.lt
      have fin : ∀ W, Tch (fun b => b = w.heap.size) (wf.alloc (.cells (reC k0 k1 A k2 cp k3 k4 k5).toArray 27)) W → Rdr W R s k2' g' 0 → PPq B R s w SP (.returned (.agg (reC 6 0 (some ⟨wf.heap.size, 0, none⟩) 1 1 a b 0).toArray)) W := fun W hT hr =>
        ⟨.mk 6 0 [r] a b 0, reC 6 0 (some ⟨wf.heap.size, 0, none⟩) 1 1 a b 0, k2', g', 0, rfl, one_kid (tree_k (HRT.out.tch NC5.out (fun b hb e => by rcases e with e | e <;> omega)) ((Tch.refl _ _).alloc _ |>.trans hT) (fun b hb e => by omega) (fun b hb => by omega)) ((Blk.new _ _ _).tch hT (by have := XC5.out.lt; omega)) (by omega) 6 a b 0 1, hr, HK1, tch_in (Tch.refl _ w) ((TC5.out.alloc _).trans (hT.more (fun b hb => Or.inr hb))) (Nat.le_refl _), Or.inl ⟨rfl, HI.out⟩⟩
      have FIN := Lib.hid fin
      clear fin x5
      go_wp2
      first | (refine bodyPost_ret (R := PPq B R s w SP) (v := .agg (reC 6 0 (some ⟨wf.heap.size, 0, none⟩) 1 1 a b 0).toArray) (by simp [results, Tryd.results57, go_sem, hlx, p0, p1, p2, p3, p4, p5, p6, p7, p8]; exact ⟨rfl, rfl, rfl, rfl⟩) rfl ?_) | fail
      exact FIN.out _ (tch9 (X := w.heap.size) (Tch.refl _ _) rfl) (EreU_far (HC5.out.alloc _) (fun e => hne e.symm))
    · have HI := Lib.hid (show SP = .error (rest s k2', 1) by rw [HI.out, he])
      have HK1 : k2' ≤ s.size := hk2'
      have HC5 := Lib.hid hr
      have XC5 := Lib.hid (XC4.out.tch ht (fun e => hne e))
      have YC5 := Lib.hid (YC4.out.tch ht (show ¬ Y = R by omega))
      have TC5 := Lib.hid (TC4.out.trans (ht.more (fun b hb => Or.inl hb)))
      have NC5 := Lib.hid (NC4.out.trans (ht.more (fun b hb => Or.inl hb)))
      have ze5 : w1.heap.size ≤ wf.heap.size := NC5.out.size
      clear hr ht he hk2' cb HC4 XC4 YC4 TC4 NC4
      have yg := YC5.out
      have y0 := yg.cell 0
      have y1 := yg.cell 1
      have y2 := yg.cell 2
      have y3 := yg.cell 3
      have y4 := yg.cell 4
      have y5 := yg.cell 5
      have y6 := yg.cell 6
      have y7 := yg.cell 7
      have y8 := yg.cell 8
      simp only [List.getElem?_toArray, List.getElem?_cons_zero, List.getElem?_cons_succ] at y0 y1 y2 y3 y4 y5 y6 y7 y8
      have hly := yg.lt
      clear yg
      have x5 := XC5.out.alloc (.cells (reC k0 k1 A k2 cp k3 k4 k5).toArray 27)
      have p0 := x5.cell 0
      have p1 := x5.cell 1
      have p2 := x5.cell 2
      have p3 := x5.cell 3
      have p4 := x5.cell 4
      have p5 := x5.cell 5
      have p6 := x5.cell 6
      have p7 := x5.cell 7
      have p8 := x5.cell 8
      simp only [List.getElem?_toArray, List.getElem?_cons_zero, List.getElem?_cons_succ] at p0 p1 p2 p3 p4 p5 p6 p7 p8
      have l0 := x5.loose 0
      have l1 := x5.loose 1
      have l2 := x5.loose 2
      have l3 := x5.loose 3
      have l4 := x5.loose 4
      have l5 := x5.loose 5
      have l6 := x5.loose 6
      have l7 := x5.loose 7
      have l8 := x5.loose 8
      have hlx := x5.lt
      have fin : ∀ W, Tch (fun b => b = w.heap.size) (wf.alloc (.cells (reC k0 k1 A k2 cp k3 k4 k5).toArray 27)) W → Rdr W R s k2' g' 1 → PPq B R s w SP (.returned (.agg (reC 6 0 (some ⟨wf.heap.size, 0, none⟩) 1 1 0 0 0).toArray)) W := fun W hT hr =>
        ⟨.mk 6 0 [r] 0 0 0, reC 6 0 (some ⟨wf.heap.size, 0, none⟩) 1 1 0 0 0, k2', g', 1, rfl, one_kid (tree_k (HRT.out.tch NC5.out (fun b hb e => by rcases e with e | e <;> omega)) ((Tch.refl _ _).alloc _ |>.trans hT) (fun b hb e => by omega) (fun b hb => by omega)) ((Blk.new _ _ _).tch hT (by have := XC5.out.lt; omega)) (by omega) 6 0 0 0 1, hr, HK1, tch_in (Tch.refl _ w) ((TC5.out.alloc _).trans (hT.more (fun b hb => Or.inr hb))) (Nat.le_refl _), Or.inr ⟨by decide, HI.out⟩⟩
      have FIN := Lib.hid fin
      clear fin x5
      go_wp2
      first | (refine bodyPost_ret (R := PPq B R s w SP) (v := .agg (reC 6 0 (some ⟨wf.heap.size, 0, none⟩) 1 1 0 0 0).toArray) (by simp [results, Tryd.results57, go_sem, hlx, p0, p1, p2, p3, p4, p5, p6, p7, p8]; exact ⟨rfl, rfl, rfl, rfl⟩) rfl ?_) | fail
      exact FIN.out _ (tch9 (X := w.heap.size) (Tch.refl _ _) rfl) (EreU_far (HC5.out.alloc _) (fun e => hne e.symm))
end EreN
end Go.Proofs.YtpdmjegbjcefjaaDoor
