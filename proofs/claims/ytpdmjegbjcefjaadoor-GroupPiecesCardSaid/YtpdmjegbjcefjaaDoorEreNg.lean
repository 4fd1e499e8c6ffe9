/- The walk of the reference's class. Conditions: texts that fit. -/
import Derived.Test.YtpdmjegbjcefjaaDoorEreNb
namespace Go.Proofs.YtpdmjegbjcefjaaDoor
set_option linter.unusedVariables false
set_option linter.unusedSimpArgs false
open Go.RowKit
namespace EreN
open EreP EreW EreX
theorem own_far {w : World} {B n : Nat} {lv : Value} {xs : List Value} {R : Nat} {o : Nat} {u : Value} (h : w.ownsRow B 120 2 lv n xs) (hR : R < B) : (w.setCell ⟨R, o, none⟩ u).ownsRow B 120 2 lv n xs := by
  refine ⟨h.1, ?_⟩
  rcases h.2 with ⟨h1, h2⟩ | ⟨g, cap, cur, h1, h2, h3, h4⟩
  · exact Or.inl ⟨h1, h2⟩
  · exact Or.inr ⟨g, cap, cur, h1, h2, (Blk.far (p := ⟨R, o, none⟩) h3 (by show g ≠ R; omega) u), h4⟩
theorem EreU_far {w : World} {R i g e X : Nat} {s : ByteArray} {v0 v1 v2 v3 v4 v5 v6 v7 v8 : Value} (h : Rdr w R s i g e) (hg : R ≠ X) : Rdr (((((((((w.setCell ⟨X, 0, none⟩ v0).setCell ⟨X, 1, none⟩ v1).setCell ⟨X, 2, none⟩ v2).setCell ⟨X, 3, none⟩ v3).setCell ⟨X, 4, none⟩ v4).setCell ⟨X, 5, none⟩ v5).setCell ⟨X, 6, none⟩ v6).setCell ⟨X, 7, none⟩ v7).setCell ⟨X, 8, none⟩ v8) R s i g e := EreW.far9 h hg
theorem EreU_tch {S : Nat → Prop} {w0 w : World} {X : Nat} {v0 v1 v2 v3 v4 v5 v6 v7 v8 : Value} (h : Tch S w0 w) (hS : S X) : Tch S w0 (((((((((w.setCell ⟨X, 0, none⟩ v0).setCell ⟨X, 1, none⟩ v1).setCell ⟨X, 2, none⟩ v2).setCell ⟨X, 3, none⟩ v3).setCell ⟨X, 4, none⟩ v4).setCell ⟨X, 5, none⟩ v5).setCell ⟨X, 6, none⟩ v6).setCell ⟨X, 7, none⟩ v7).setCell ⟨X, 8, none⟩ v8) := EreW.tch9 h hS
theorem tch_in {R B : Nat} {w w0 w1 : World} (t0 : Tch (On R) w w0) (t1 : Tch (fun b => b = R ∨ b = B) w0 w1) (hB : w.heap.size ≤ B) : Tch (On R) w w1 :=
  ⟨t1.os.trans t0.os, t1.tape.trans t0.tape, t1.output.trans t0.output, Nat.le_trans t0.size t1.size, fun k hk hs => (t1.block k (by have := t0.size; omega) (fun e => by rcases e with e | e; exact hs e; omega)).trans (t0.block k hk hs)⟩
theorem class_list (l : Bs) (nt : Bool) (h : nt = (l.head? == some 94)) : classP l = match listP ((if nt = true then l.tail else l).length + 1) [] (if nt = true then l.tail else l) with
    | .error e => .error e
    | .ok (out, r) => .ok (ofS out nt, r) := by
  have key := fun l' : Bs => items_list (l'.length + 1) [] l'
  unfold classP ofS
  subst h
  by_cases hc : (l.head? == some 94) = true
  · rw [if_pos hc, if_pos hc]
    have := key l.tail
    rw [show itemsP (l.tail.length + 1) true 0 l.tail = _ from this]
    cases listP (l.tail.length + 1) [] l.tail with
    | error e => rfl
    | ok b => simp [hc]
  · rw [if_neg hc, if_neg hc]
    have := key l
    rw [show itemsP (l.length + 1) true 0 l = _ from this]
    cases listP (l.length + 1) [] l with
    | error e => rfl
    | ok b => simp [hc]
set_option maxHeartbeats 6400000 in
set_option maxRecDepth 100000 in
theorem class_c (R : Nat) (s : ByteArray) (i g : Nat) (w : World) (h : Rdr w R s i g 0) (hi : i ≤ s.size) (hs : s.size ≤ 1000000) :
    Calls Tryd.prog 85 #[pt R] w (CPost R s g w (classP (rest s i))) := by
  obtain ⟨SP, hSP⟩ : ∃ SP, classP (rest s i) = SP := ⟨_, rfl⟩
  rw [hSP]
  have HCL := Lib.hid hSP
  have hRw := h.lt
  obtain ⟨wa, hwa⟩ : ∃ z : World, z = w.alloc (.cells zC 27) := ⟨_, rfl⟩
  have ha : Rdr wa R s i g 0 := by rw [hwa]; exact h.alloc _
  have xa : Blk wa w.heap.size 27 zC := by rw [hwa]; exact Blk.new _ _ _
  have ta : Tch (fun b => b = R ∨ b = w.heap.size) w wa := by rw [hwa]; exact (Tch.refl _ _).alloc _
  have ci := is_c R s i g 0 94 wa ha hs
  rw [show (((94 : UInt8).toNat : Nat) : Int) = 94 from rfl] at ci
  have HA := Lib.hid ha
  have XA := Lib.hid xa
  have TA := Lib.hid ta
  clear hSP h ha xa ta
  go_enter Tryd.func85, Tryd.ntmps85
  go_wp2_with fail
  rw [← hwa]
  clear hwa
  by_cases h94 : (rest s i).head? = some 94
  · rw [isB_yes h94] at ci
    have hcl := class_list (rest s i) true (by rw [h94]; rfl)
    obtain ⟨hi1, hcons⟩ := rest_some h94
    have htl : (rest s i).tail = rest s (i + 1) := by rw [hcons]; rfl
    rw [if_pos rfl, htl] at hcl
    (with_reducible refine ci.mono ?_)
    rintro x _ ⟨rfl, m, rfl⟩
    have HB := Lib.hid (HA.out.dn m)
    have XB := Lib.hid (XA.out.drewN m)
    have TB := Lib.hid (TA.out.drewN m)
    clear ci HA XA TA
    generalize wa.drewN m = wb at *
    have HC := Lib.hid (HB.out.setAt (i + 1))
    have XC := Lib.hid (XB.out.far (p := ⟨R, 1, none⟩) (by show w.heap.size ≠ R; omega) (.int .i64 ((i + 1 : Nat) : Int)))
    have TC := Lib.hid (TB.out.setCell (p := ⟨R, 1, none⟩) (Or.inl rfl) (.int .i64 ((i + 1 : Nat) : Int)))
    rw [show ((i + 1 : Nat) : Int) = (i : Int) + 1 from rfl] at HC XC TC
    obtain ⟨j0, j1, j2, j3⟩ := HB.out.cells
    have f1 := HB.out.free 1
    have hj : i + 1 ≤ s.size := hi1
    go_wp2_with fail
    clear j0 j1 j2 j3 f1 HB XB TB
    generalize wb.setCell ⟨R, 1, none⟩ (.int .i64 ((i : Int) + 1)) = wc at *
    -- at world wc: HC: the reader at j; XC: the result's block; TC: what was touched
    have cs := spansq_c s (i + 1) wc.drew hj hs
    unfold SPost at cs
    have cs2 : Calls Tryd.prog 95 #[.string s, .int .i64 ((i : Int) + 1)] wc.drew fun x w' => ∃ (lv : Value) (n b : Int), x = .returned (.tuple #[lv, .int .i64 n, .int .i64 b]) ∧ Below wc.heap.size wc w' ∧
        ((∃ (out : List (Nat × Nat)) (k : Nat), n = k ∧ w'.ownsRow wc.heap.size 120 2 lv out.length (spCells out) ∧ listP ((rest s (i + 1)).length + 1) [] (rest s (i + 1)) = .ok (out, rest s k) ∧ k ≤ s.size ∧ out.length ≤ s.size) ∨
         (∃ k : Nat, n = -1 ∧ b = k ∧ listP ((rest s (i + 1)).length + 1) [] (rest s (i + 1)) = .error (rest s k, 1) ∧ k ≤ s.size)) := by
      refine cs.mono ?_
      rintro x w' ⟨hb, ⟨out, lv, k, rfl, hown, he, hk, ho⟩ | ⟨k, rfl, he, hk⟩⟩
      · exact ⟨_, _, _, rfl, ⟨hb.os, hb.tape, hb.output, hb.size, hb.block⟩, Or.inl ⟨out, k, rfl, hown, he, hk, ho⟩⟩
      · exact ⟨_, _, _, rfl, ⟨hb.os, hb.tape, hb.output, hb.size, hb.block⟩, Or.inr ⟨k, rfl, rfl, he, hk⟩⟩
    clear cs
    obtain ⟨j0, j1, j2, j3⟩ := HC.out.cells
    go_wp2_with fail
    go_region_law (first
      | (go_simp
         go_at_call 95
         (with_reducible refine cs2.mono ?_)
         rintro x we ⟨lv, n, b, rfl, hbe, hd⟩))
    all_goals
      clear cs2
      have HE := Lib.hid (HC.out.next hbe)
      have XE := Lib.hid (XC.out.next hbe)
      have TE := Lib.hid (TC.out.trans (Tch.of_below (S := fun b => b = R ∨ b = w.heap.size) hbe))
      have hne : w.heap.size ≠ R := by omega
      rcases hd with ⟨out, k, rfl, hown, he, hk, ho⟩ | ⟨k, rfl, rfl, he, hk⟩
      rotate_left
      · have f1 := HE.out.free 1
        obtain ⟨g0, g1, g2, g3⟩ := HE.out.cells
        have HF := Lib.hid (HE.out.setAt k)
        have XF := Lib.hid (XE.out.far (p := ⟨R, 1, none⟩) hne (.int .i64 (k : Int)))
        have TF := Lib.hid (TE.out.setCell (p := ⟨R, 1, none⟩) (Or.inl rfl) (.int .i64 (k : Int)))
        obtain ⟨wf, hwf⟩ : ∃ z, z = we.setCell ⟨R, 1, none⟩ (.int .i64 (k : Int)) := ⟨_, rfl⟩
        rw [← hwf] at HF XF TF
        have cf := fail_c R s k g 0 1 wf HF.out
        rw [show failS 1 0 = 1 from rfl, show ((1 : Nat) : Int) = 1 from rfl] at cf
        have HSP := Lib.hid (show SP = .error (rest s k, 1) by rw [← HCL.out]; rw [hcl, he])
        clear he HE XE TE HCL
        go_wp2_with fail
        rw [← hwf]
        clear hwf g0 g1 g2 g3 f1
        (with_reducible refine cf.mono ?_)
        rintro x wg ⟨rfl, hr, ht⟩
        have HG := Lib.hid hr
        have XG := Lib.hid (XF.out.tch ht (fun e => hne e))
        have TG := Lib.hid (TF.out.trans (ht.more (fun b hb => Or.inl hb)))
        clear hr ht cf HF XF TF
        have xg := XG.out
        have p0 := xg.cell 0
        have p1 := xg.cell 1
        have p2 := xg.cell 2
        have p3 := xg.cell 3
        have p4 := xg.cell 4
        have p5 := xg.cell 5
        have p6 := xg.cell 6
        have p7 := xg.cell 7
        have p8 := xg.cell 8
        simp only [List.getElem?_toArray, List.getElem?_cons_zero, List.getElem?_cons_succ] at p0 p1 p2 p3 p4 p5 p6 p7 p8
        have lp0 := xg.loose 0
        have lp1 := xg.loose 1
        have lp2 := xg.loose 2
        have lp3 := xg.loose 3
        have lp4 := xg.loose 4
        have lp5 := xg.loose 5
        have lp6 := xg.loose 6
        have lp7 := xg.loose 7
        have lp8 := xg.loose 8
        have hlx := xg.lt
        clear xg
        go_wp2
        first | (refine bodyPost_ret (R := CPost R s g w SP) (v := .agg zC) (by simp [results, Tryd.results85, go_sem, hlx, p0, p1, p2, p3, p4, p5, p6, p7, p8]) rfl ?_) | fail
        exact Or.inr ⟨k, rfl, EreU_far HG.out (fun e => hne e.symm), hk, tch_in (Tch.refl _ w) (EreU_tch TG.out (Or.inr rfl)) (Nat.le_refl _), HSP.out⟩
      · have hk2 : decide ((k : Int) < 0) = false := by simp
        have f1 := HE.out.free 1
        obtain ⟨g0, g1, g2, g3⟩ := HE.out.cells
        have HF := Lib.hid (HE.out.setAt k)
        have XF := Lib.hid (XE.out.far (p := ⟨R, 1, none⟩) hne (.int .i64 (k : Int)))
        have TF := Lib.hid (TE.out.setCell (p := ⟨R, 1, none⟩) (Or.inl rfl) (.int .i64 (k : Int)))
        have hR : R < wc.heap.size := HC.out.lt
        have hownf : (we.setCell ⟨R, 1, none⟩ (.int .i64 (k : Int))).ownsRow wc.heap.size 120 2 lv out.length (spCells out) := own_far hown hR
        obtain ⟨wf, hwf⟩ : ∃ z, z = we.setCell ⟨R, 1, none⟩ (.int .i64 (k : Int)) := ⟨_, rfl⟩
        rw [← hwf] at HF XF TF hownf
        have cf := of_c out true lv wc.heap.size wf hownf (list_bytes _ _ _ _ _ (by simp) he) (by omega)
        have hofl := of_lt out true (fun p hp => (list_bytes _ _ _ _ _ (by simp) he p hp).2)
        have HSP := Lib.hid (show SP = .ok (ofS out true, rest s k) by rw [← HCL.out]; rw [hcl, he])
        generalize ofS out true = SS at *
        clear he HE XE TE hown hownf HCL
        go_wp2_with fail
        rw [← hwf]
        clear hwf g0 g1 g2 g3 f1
        (with_reducible refine cf.mono ?_)
        rintro x wg ⟨rfl, hbg⟩
        have HG := Lib.hid (HF.out.next hbg)
        have XG := Lib.hid (XF.out.next hbg)
        have TG := Lib.hid (TF.out.trans (Tch.of_below (S := fun b => b = R ∨ b = w.heap.size) hbg))
        clear hbg cf HF XF TF
        have xg := XG.out
        have p0 := xg.cell 0
        have p1 := xg.cell 1
        have p2 := xg.cell 2
        have p3 := xg.cell 3
        have p4 := xg.cell 4
        have p5 := xg.cell 5
        have p6 := xg.cell 6
        have p7 := xg.cell 7
        have p8 := xg.cell 8
        simp only [List.getElem?_toArray, List.getElem?_cons_zero, List.getElem?_cons_succ] at p0 p1 p2 p3 p4 p5 p6 p7 p8
        have lp0 := xg.loose 0
        have lp1 := xg.loose 1
        have lp2 := xg.loose 2
        have lp3 := xg.loose 3
        have lp4 := xg.loose 4
        have lp5 := xg.loose 5
        have lp6 := xg.loose 6
        have lp7 := xg.loose 7
        have lp8 := xg.loose 8
        have hlx := xg.lt
        clear xg
        go_wp2
        first | (refine bodyPost_ret (R := CPost R s g w SP) (v := .agg (reC 1 SS none 0 0 0 0 0).toArray) (by simp [results, Tryd.results85, go_sem, hlx, p0, p1, p2, p3, p4, p5, p6, p7, p8]) rfl ?_) | fail
        exact Or.inl ⟨SS, k, rfl, hofl, EreU_far HG.out (fun e => hne e.symm), hk, tch_in (Tch.refl _ w) (EreU_tch TG.out (Or.inr rfl)) (Nat.le_refl _), HSP.out⟩
  · rw [isB_no h94] at ci
    have hcl := class_list (rest s i) false (by rw [eq_comm]; simpa using h94)
    rw [if_neg (by decide)] at hcl
    (with_reducible refine ci.mono ?_)
    rintro x _ ⟨rfl, m, rfl⟩
    have HC := Lib.hid (HA.out.dn m)
    have XC := Lib.hid (XA.out.drewN m)
    have TC := Lib.hid (TA.out.drewN m)
    clear ci HA XA TA
    generalize wa.drewN m = wc at *
    have hj : i ≤ s.size := hi
    -- at world wc: HC: the reader at j; XC: the result's block; TC: what was touched
    have cs := spansq_c s i wc.drew hj hs
    unfold SPost at cs
    have cs2 : Calls Tryd.prog 95 #[.string s, .int .i64 ((i : Int))] wc.drew fun x w' => ∃ (lv : Value) (n b : Int), x = .returned (.tuple #[lv, .int .i64 n, .int .i64 b]) ∧ Below wc.heap.size wc w' ∧
        ((∃ (out : List (Nat × Nat)) (k : Nat), n = k ∧ w'.ownsRow wc.heap.size 120 2 lv out.length (spCells out) ∧ listP ((rest s i).length + 1) [] (rest s i) = .ok (out, rest s k) ∧ k ≤ s.size ∧ out.length ≤ s.size) ∨
         (∃ k : Nat, n = -1 ∧ b = k ∧ listP ((rest s i).length + 1) [] (rest s i) = .error (rest s k, 1) ∧ k ≤ s.size)) := by
      refine cs.mono ?_
      rintro x w' ⟨hb, ⟨out, lv, k, rfl, hown, he, hk, ho⟩ | ⟨k, rfl, he, hk⟩⟩
      · exact ⟨_, _, _, rfl, ⟨hb.os, hb.tape, hb.output, hb.size, hb.block⟩, Or.inl ⟨out, k, rfl, hown, he, hk, ho⟩⟩
      · exact ⟨_, _, _, rfl, ⟨hb.os, hb.tape, hb.output, hb.size, hb.block⟩, Or.inr ⟨k, rfl, rfl, he, hk⟩⟩
    clear cs
    obtain ⟨j0, j1, j2, j3⟩ := HC.out.cells
    go_wp2_with fail
    go_region_law (first
      | (go_simp
         go_at_call 95
         (with_reducible refine cs2.mono ?_)
         rintro x we ⟨lv, n, b, rfl, hbe, hd⟩))
    all_goals
      clear cs2
      have HE := Lib.hid (HC.out.next hbe)
      have XE := Lib.hid (XC.out.next hbe)
      have TE := Lib.hid (TC.out.trans (Tch.of_below (S := fun b => b = R ∨ b = w.heap.size) hbe))
      have hne : w.heap.size ≠ R := by omega
      rcases hd with ⟨out, k, rfl, hown, he, hk, ho⟩ | ⟨k, rfl, rfl, he, hk⟩
      rotate_left
      · have f1 := HE.out.free 1
        obtain ⟨g0, g1, g2, g3⟩ := HE.out.cells
        have HF := Lib.hid (HE.out.setAt k)
        have XF := Lib.hid (XE.out.far (p := ⟨R, 1, none⟩) hne (.int .i64 (k : Int)))
        have TF := Lib.hid (TE.out.setCell (p := ⟨R, 1, none⟩) (Or.inl rfl) (.int .i64 (k : Int)))
        obtain ⟨wf, hwf⟩ : ∃ z, z = we.setCell ⟨R, 1, none⟩ (.int .i64 (k : Int)) := ⟨_, rfl⟩
        rw [← hwf] at HF XF TF
        have cf := fail_c R s k g 0 1 wf HF.out
        rw [show failS 1 0 = 1 from rfl, show ((1 : Nat) : Int) = 1 from rfl] at cf
        have HSP := Lib.hid (show SP = .error (rest s k, 1) by rw [← HCL.out]; rw [hcl, he])
        clear he HE XE TE HCL
        go_wp2_with fail
        rw [← hwf]
        clear hwf g0 g1 g2 g3 f1
        (with_reducible refine cf.mono ?_)
        rintro x wg ⟨rfl, hr, ht⟩
        have HG := Lib.hid hr
        have XG := Lib.hid (XF.out.tch ht (fun e => hne e))
        have TG := Lib.hid (TF.out.trans (ht.more (fun b hb => Or.inl hb)))
        clear hr ht cf HF XF TF
        have xg := XG.out
        have p0 := xg.cell 0
        have p1 := xg.cell 1
        have p2 := xg.cell 2
        have p3 := xg.cell 3
        have p4 := xg.cell 4
        have p5 := xg.cell 5
        have p6 := xg.cell 6
        have p7 := xg.cell 7
        have p8 := xg.cell 8
        simp only [List.getElem?_toArray, List.getElem?_cons_zero, List.getElem?_cons_succ] at p0 p1 p2 p3 p4 p5 p6 p7 p8
        have lp0 := xg.loose 0
        have lp1 := xg.loose 1
        have lp2 := xg.loose 2
        have lp3 := xg.loose 3
        have lp4 := xg.loose 4
        have lp5 := xg.loose 5
        have lp6 := xg.loose 6
        have lp7 := xg.loose 7
        have lp8 := xg.loose 8
        have hlx := xg.lt
        clear xg
        go_wp2
        first | (refine bodyPost_ret (R := CPost R s g w SP) (v := .agg zC) (by simp [results, Tryd.results85, go_sem, hlx, p0, p1, p2, p3, p4, p5, p6, p7, p8]) rfl ?_) | fail
        exact Or.inr ⟨k, rfl, EreU_far HG.out (fun e => hne e.symm), hk, tch_in (Tch.refl _ w) (EreU_tch TG.out (Or.inr rfl)) (Nat.le_refl _), HSP.out⟩
      · have hk2 : decide ((k : Int) < 0) = false := by simp
        have f1 := HE.out.free 1
        obtain ⟨g0, g1, g2, g3⟩ := HE.out.cells
        have HF := Lib.hid (HE.out.setAt k)
        have XF := Lib.hid (XE.out.far (p := ⟨R, 1, none⟩) hne (.int .i64 (k : Int)))
        have TF := Lib.hid (TE.out.setCell (p := ⟨R, 1, none⟩) (Or.inl rfl) (.int .i64 (k : Int)))
        have hR : R < wc.heap.size := HC.out.lt
        have hownf : (we.setCell ⟨R, 1, none⟩ (.int .i64 (k : Int))).ownsRow wc.heap.size 120 2 lv out.length (spCells out) := own_far hown hR
        obtain ⟨wf, hwf⟩ : ∃ z, z = we.setCell ⟨R, 1, none⟩ (.int .i64 (k : Int)) := ⟨_, rfl⟩
        rw [← hwf] at HF XF TF hownf
        have cf := of_c out false lv wc.heap.size wf hownf (list_bytes _ _ _ _ _ (by simp) he) (by omega)
        have hofl := of_lt out false (fun p hp => (list_bytes _ _ _ _ _ (by simp) he p hp).2)
        have HSP := Lib.hid (show SP = .ok (ofS out false, rest s k) by rw [← HCL.out]; rw [hcl, he])
        generalize ofS out false = SS at *
        clear he HE XE TE hown hownf HCL
        go_wp2_with fail
        rw [← hwf]
        clear hwf g0 g1 g2 g3 f1
        (with_reducible refine cf.mono ?_)
        rintro x wg ⟨rfl, hbg⟩
        have HG := Lib.hid (HF.out.next hbg)
        have XG := Lib.hid (XF.out.next hbg)
        have TG := Lib.hid (TF.out.trans (Tch.of_below (S := fun b => b = R ∨ b = w.heap.size) hbg))
        clear hbg cf HF XF TF
        have xg := XG.out
        have p0 := xg.cell 0
        have p1 := xg.cell 1
        have p2 := xg.cell 2
        have p3 := xg.cell 3
        have p4 := xg.cell 4
        have p5 := xg.cell 5
        have p6 := xg.cell 6
        have p7 := xg.cell 7
        have p8 := xg.cell 8
        simp only [List.getElem?_toArray, List.getElem?_cons_zero, List.getElem?_cons_succ] at p0 p1 p2 p3 p4 p5 p6 p7 p8
        have lp0 := xg.loose 0
        have lp1 := xg.loose 1
        have lp2 := xg.loose 2
        have lp3 := xg.loose 3
        have lp4 := xg.loose 4
        have lp5 := xg.loose 5
        have lp6 := xg.loose 6
        have lp7 := xg.loose 7
        have lp8 := xg.loose 8
        have hlx := xg.lt
        clear xg
        go_wp2
        first | (refine bodyPost_ret (R := CPost R s g w SP) (v := .agg (reC 1 SS none 0 0 0 0 0).toArray) (by simp [results, Tryd.results85, go_sem, hlx, p0, p1, p2, p3, p4, p5, p6, p7, p8]) rfl ?_) | fail
        exact Or.inl ⟨SS, k, rfl, hofl, EreU_far HG.out (fun e => hne e.symm), hk, tch_in (Tch.refl _ w) (EreU_tch TG.out (Or.inr rfl)) (Nat.le_refl _), HSP.out⟩
end EreN
end Go.Proofs.YtpdmjegbjcefjaaDoor
