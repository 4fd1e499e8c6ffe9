/- The reference's atom, but for groups. Conditions: texts that fit. -/
import Derived.Test.YtpdmjegbjcefjaaDoorEreNg
namespace Go.Proofs.YtpdmjegbjcefjaaDoor
set_option linter.unusedVariables false
set_option linter.unusedSimpArgs false
open Go.RowKit
namespace EreN
open EreP EreW EreX
/-- What a method of the reader leaves. -/
def PPq (B R : Nat) (s : ByteArray) (w : World) (spec : R3 Re) (x : Ending) (w' : World) : Prop :=
  ∃ (r : Re) (cs : List Value) (k g e : Nat), x = .returned (.agg cs.toArray) ∧ Rt w' (B ≤ ·) r cs ∧ Rdr w' R s k g e ∧ k ≤ s.size ∧ Tch (On R) w w' ∧
    ((e = 0 ∧ spec = .ok (r, rest s k, g)) ∨ (e ≠ 0 ∧ spec = .error (rest s k, e)))
theorem zero_rt (w : World) (B : Nat) : Rt w (B ≤ ·) (.mk 0 0 [] 0 0 0) zC.toList := Rt.leaf 0 0 0 0 0 0 (by decide)
theorem of_all : ofS [] true = allS := by unfold ofS; rw [if_pos rfl]; show notS 0 = allS; unfold notS; rw [Nat.xor_zero]
set_option maxHeartbeats 3200000 in
set_option maxRecDepth 100000 in
theorem atom_rep (G : Grp) (d R B : Nat) (s : ByteArray) (i g : Nat) (w : World) (h : Rdr w R s i g 0) (hRB : R < B) (hB : B ≤ w.heap.size) (hlt : i < s.size) (hs : s.size ≤ 1000000) (c : UInt8) (hcc : s[i]'hlt = c) (hc : isRep c = true) :
    Calls Tryd.prog 73 #[pt R, .int .i64 (d : Nat)] w (PPq B R s w (atomP G (rest s i) g)) := by
  obtain ⟨SP, hSP⟩ : ∃ SP, atomP G (rest s i) g = SP := ⟨_, rfl⟩
  rw [hSP]
  have hE := rest_cons s i hlt
  rw [hcc] at hE
  have hcl := c.toNat_lt
  have tst : ∀ k : UInt8, ((c.toNat : Int) == (k.toNat : Int)) = (c == k) := by
    intro k
    rw [Bool.eq_iff_iff]; simp
    constructor
    · intro h; exact UInt8.toNat_inj.1 (by omega)
    · rintro rfl; rfl
  have t42 := tst 42
  rw [show (((42 : UInt8).toNat : Nat) : Int) = 42 from rfl] at t42
  have t43 := tst 43
  rw [show (((43 : UInt8).toNat : Nat) : Int) = 43 from rfl] at t43
  have t63 := tst 63
  rw [show (((63 : UInt8).toNat : Nat) : Int) = 63 from rfl] at t63
  have t123 := tst 123
  rw [show (((123 : UInt8).toNat : Nat) : Int) = 123 from rfl] at t123
  have t40 := tst 40
  rw [show (((40 : UInt8).toNat : Nat) : Int) = 40 from rfl] at t40
  have t91 := tst 91
  rw [show (((91 : UInt8).toNat : Nat) : Int) = 91 from rfl] at t91
  have t46 := tst 46
  rw [show (((46 : UInt8).toNat : Nat) : Int) = 46 from rfl] at t46
  have t94 := tst 94
  rw [show (((94 : UInt8).toNat : Nat) : Int) = 94 from rfl] at t94
  have t36 := tst 36
  rw [show (((36 : UInt8).toNat : Nat) : Int) = 36 from rfl] at t36
  have t92 := tst 92
  rw [show (((92 : UInt8).toNat : Nat) : Int) = 92 from rfl] at t92
  clear tst
  have HI := Lib.hid (show SP = .error (rest s i, 1) by rw [← hSP, hE, atomP.eq_def]; simp only; rw [if_pos hc])
  have hw : c = 42 ∨ c = 43 ∨ c = 63 ∨ c = 123 := by simpa [isRep, or_assoc] using hc
  clear hSP hE
  obtain ⟨wa, hwa⟩ : ∃ z : World, z = w.alloc (.cells zC 27) := ⟨_, rfl⟩
  have HA := Lib.hid (show Rdr wa R s i g 0 by rw [hwa]; exact h.alloc _)
  have XA := Lib.hid (show Blk wa w.heap.size 27 zC by rw [hwa]; exact Blk.new _ _ _)
  have TA := Lib.hid (show Tch (fun b => b = R ∨ b = w.heap.size) w wa by rw [hwa]; exact (Tch.refl _ _).alloc _)
  have hne : w.heap.size ≠ R := by omega
  clear h
  obtain ⟨j0, j1, j2, j3⟩ := HA.out.cells
  go_enter Tryd.func73, Tryd.ntmps73
  go_wp2_with fail
  rw [← hwa]
  clear hwa
  go_simp
  go_quiet (fail)
  have HB := Lib.hid (HA.out.dn nq)
  have XB := Lib.hid (XA.out.drewN nq)
  have TB := Lib.hid (TA.out.drewN nq)
  clear HA XA TA j0 j1 j2 j3
  generalize wa.drewN nq = wb at *
  rcases hw with rfl | rfl | rfl | rfl
  all_goals
    have cf := fail_c R s i g 0 1 wb HB.out
    rw [show failS 1 0 = 1 from rfl, show ((1 : Nat) : Int) = 1 from rfl] at cf
    go_wp2_with fail
    (with_reducible refine cf.mono ?_)
    rintro x wg ⟨rfl, hr, ht⟩
    have HG := Lib.hid hr
    have XG := Lib.hid (XB.out.tch ht (fun e => hne e))
    have TG := Lib.hid (TB.out.trans (ht.more (fun b hb => Or.inl hb)))
    clear hr ht cf
    have xg := XG.out
    have p0 := xg.cell 0
    have p1 := xg.cell 1
    have p2 := xg.cell 2
    have p3 := xg.cell 3
    have p4 := xg.cell 4
    have p5 := xg.cell 5
    have p6 := xg.cell 6
    have p7 := xg.cell 7
    have p8 := xg.cell 8
    simp only [List.getElem?_toArray, List.getElem?_cons_zero, List.getElem?_cons_succ] at p0 p1 p2 p3 p4 p5 p6 p7 p8
    have l0 := xg.loose 0
    have l1 := xg.loose 1
    have l2 := xg.loose 2
    have l3 := xg.loose 3
    have l4 := xg.loose 4
    have l5 := xg.loose 5
    have l6 := xg.loose 6
    have l7 := xg.loose 7
    have l8 := xg.loose 8
    have hlx := xg.lt
    clear xg
    go_wp2
    first | (refine bodyPost_ret (R := PPq B R s w SP) (v := .agg zC) (by simp [results, Tryd.results73, go_sem, hlx, p0, p1, p2, p3, p4, p5, p6, p7, p8, word]) rfl ?_) | fail
    exact ⟨_, _, i, g, 1, rfl, zero_rt _ _, EreU_far HG.out (fun e => hne e.symm), by omega, tch_in (Tch.refl _ w) (EreU_tch TG.out (Or.inr rfl)) (Nat.le_refl _), Or.inr ⟨by decide, HI.out⟩⟩
set_option maxHeartbeats 3200000 in
set_option maxRecDepth 100000 in
theorem atom_dot (G : Grp) (d R B : Nat) (s : ByteArray) (i g : Nat) (w : World) (h : Rdr w R s i g 0) (hRB : R < B) (hB : B ≤ w.heap.size) (hlt : i < s.size) (hs : s.size ≤ 1000000) (c : UInt8) (hcc : s[i]'hlt = c) (hc : c = 46) :
    Calls Tryd.prog 73 #[pt R, .int .i64 (d : Nat)] w (PPq B R s w (atomP G (rest s i) g)) := by
  obtain ⟨SP, hSP⟩ : ∃ SP, atomP G (rest s i) g = SP := ⟨_, rfl⟩
  rw [hSP]
  have hE := rest_cons s i hlt
  rw [hcc] at hE
  have hcl := c.toNat_lt
  have tst : ∀ k : UInt8, ((c.toNat : Int) == (k.toNat : Int)) = (c == k) := by
    intro k
    rw [Bool.eq_iff_iff]; simp
    constructor
    · intro h; exact UInt8.toNat_inj.1 (by omega)
    · rintro rfl; rfl
  have t42 := tst 42
  rw [show (((42 : UInt8).toNat : Nat) : Int) = 42 from rfl] at t42
  have t43 := tst 43
  rw [show (((43 : UInt8).toNat : Nat) : Int) = 43 from rfl] at t43
  have t63 := tst 63
  rw [show (((63 : UInt8).toNat : Nat) : Int) = 63 from rfl] at t63
  have t123 := tst 123
  rw [show (((123 : UInt8).toNat : Nat) : Int) = 123 from rfl] at t123
  have t40 := tst 40
  rw [show (((40 : UInt8).toNat : Nat) : Int) = 40 from rfl] at t40
  have t91 := tst 91
  rw [show (((91 : UInt8).toNat : Nat) : Int) = 91 from rfl] at t91
  have t46 := tst 46
  rw [show (((46 : UInt8).toNat : Nat) : Int) = 46 from rfl] at t46
  have t94 := tst 94
  rw [show (((94 : UInt8).toNat : Nat) : Int) = 94 from rfl] at t94
  have t36 := tst 36
  rw [show (((36 : UInt8).toNat : Nat) : Int) = 36 from rfl] at t36
  have t92 := tst 92
  rw [show (((92 : UInt8).toNat : Nat) : Int) = 92 from rfl] at t92
  clear tst
  have HI := Lib.hid (show SP = .ok (.mk 1 allS [] 0 0 0, rest s (i + 1), g) by rw [← hSP, hE, hc, atomP.eq_def]; rfl)
  rw [show (c == 42) = false from by subst hc; decide] at t42
  rw [show (c == 43) = false from by subst hc; decide] at t43
  rw [show (c == 63) = false from by subst hc; decide] at t63
  rw [show (c == 123) = false from by subst hc; decide] at t123
  rw [show (c == 40) = false from by subst hc; decide] at t40
  rw [show (c == 91) = false from by subst hc; decide] at t91
  rw [show (c == 46) = true from by subst hc; decide] at t46
  rw [show (c == 94) = false from by subst hc; decide] at t94
  rw [show (c == 36) = false from by subst hc; decide] at t36
  rw [show (c == 92) = false from by subst hc; decide] at t92
  clear hSP hE
  obtain ⟨wa, hwa⟩ : ∃ z : World, z = w.alloc (.cells zC 27) := ⟨_, rfl⟩
  have HA := Lib.hid (show Rdr wa R s i g 0 by rw [hwa]; exact h.alloc _)
  have XA := Lib.hid (show Blk wa w.heap.size 27 zC by rw [hwa]; exact Blk.new _ _ _)
  have TA := Lib.hid (show Tch (fun b => b = R ∨ b = w.heap.size) w wa by rw [hwa]; exact (Tch.refl _ _).alloc _)
  have hne : w.heap.size ≠ R := by omega
  clear h
  obtain ⟨j0, j1, j2, j3⟩ := HA.out.cells
  go_enter Tryd.func73, Tryd.ntmps73
  go_wp2_with fail
  rw [← hwa]
  clear hwa
  go_simp
  go_quiet (fail)
  have HB := Lib.hid (HA.out.dn nq)
  have XB := Lib.hid (XA.out.drewN nq)
  have TB := Lib.hid (TA.out.drewN nq)
  clear HA XA TA j0 j1 j2 j3
  generalize wa.drewN nq = wb at *
  have HC := Lib.hid (HB.out.setAt (i + 1))
  have XC := Lib.hid (XB.out.far (p := ⟨R, 1, none⟩) hne (.int .i64 ((i + 1 : Nat) : Int)))
  have TC := Lib.hid (TB.out.setCell (p := ⟨R, 1, none⟩) (Or.inl rfl) (.int .i64 ((i + 1 : Nat) : Int)))
  rw [show ((i + 1 : Nat) : Int) = (i : Int) + 1 from rfl] at HC XC TC
  obtain ⟨j0, j1, j2, j3⟩ := HB.out.cells
  have f1 := HB.out.free 1
  obtain ⟨wc, hwc⟩ : ∃ z, z = wb.setCell ⟨R, 1, none⟩ (.int .i64 ((i : Int) + 1)) := ⟨_, rfl⟩
  rw [← hwc] at HC XC TC
  clear HB XB TB
  have co := of_c [] true (.slice none 0 0) 0 wc (World.ownsRow_nil _ _ _ _) (by simp) (by simp)
  rw [of_all] at co
  go_wp2_with fail
  rw [← hwc]
  clear hwc j0 j1 j2 j3 f1
  (with_reducible refine co.mono ?_)
  rintro x wg ⟨rfl, hbg⟩
  have HG := Lib.hid (HC.out.next hbg)
  have XG := Lib.hid (XC.out.next hbg)
  have TG := Lib.hid (TC.out.trans (Tch.of_below (S := fun b => b = R ∨ b = w.heap.size) hbg))
  clear hbg
  have xg := XG.out
  have p0 := xg.cell 0
  have p1 := xg.cell 1
  have p2 := xg.cell 2
  have p3 := xg.cell 3
  have p4 := xg.cell 4
  have p5 := xg.cell 5
  have p6 := xg.cell 6
  have p7 := xg.cell 7
  have p8 := xg.cell 8
  simp only [List.getElem?_toArray, List.getElem?_cons_zero, List.getElem?_cons_succ] at p0 p1 p2 p3 p4 p5 p6 p7 p8
  have l0 := xg.loose 0
  have l1 := xg.loose 1
  have l2 := xg.loose 2
  have l3 := xg.loose 3
  have l4 := xg.loose 4
  have l5 := xg.loose 5
  have l6 := xg.loose 6
  have l7 := xg.loose 7
  have l8 := xg.loose 8
  have hlx := xg.lt
  clear xg
  go_wp2
  first | (refine bodyPost_ret (R := PPq B R s w SP) (v := .agg (reC 1 (allS) none 0 0 0 0 0).toArray) (by simp [results, Tryd.results73, go_sem, hlx, p0, p1, p2, p3, p4, p5, p6, p7, p8, word]) rfl ?_) | fail
  exact ⟨_, _, (i + 1), g, 0, rfl, Rt.leaf 1 (allS) 0 0 0 0 all_lt, EreU_far HG.out (fun e => hne e.symm), by omega, tch_in (Tch.refl _ w) (EreU_tch TG.out (Or.inr rfl)) (Nat.le_refl _), Or.inl ⟨rfl, HI.out⟩⟩
set_option maxHeartbeats 3200000 in
set_option maxRecDepth 100000 in
theorem atom_beg (G : Grp) (d R B : Nat) (s : ByteArray) (i g : Nat) (w : World) (h : Rdr w R s i g 0) (hRB : R < B) (hB : B ≤ w.heap.size) (hlt : i < s.size) (hs : s.size ≤ 1000000) (c : UInt8) (hcc : s[i]'hlt = c) (hc : c = 94) :
    Calls Tryd.prog 73 #[pt R, .int .i64 (d : Nat)] w (PPq B R s w (atomP G (rest s i) g)) := by
  obtain ⟨SP, hSP⟩ : ∃ SP, atomP G (rest s i) g = SP := ⟨_, rfl⟩
  rw [hSP]
  have hE := rest_cons s i hlt
  rw [hcc] at hE
  have hcl := c.toNat_lt
  have tst : ∀ k : UInt8, ((c.toNat : Int) == (k.toNat : Int)) = (c == k) := by
    intro k
    rw [Bool.eq_iff_iff]; simp
    constructor
    · intro h; exact UInt8.toNat_inj.1 (by omega)
    · rintro rfl; rfl
  have t42 := tst 42
  rw [show (((42 : UInt8).toNat : Nat) : Int) = 42 from rfl] at t42
  have t43 := tst 43
  rw [show (((43 : UInt8).toNat : Nat) : Int) = 43 from rfl] at t43
  have t63 := tst 63
  rw [show (((63 : UInt8).toNat : Nat) : Int) = 63 from rfl] at t63
  have t123 := tst 123
  rw [show (((123 : UInt8).toNat : Nat) : Int) = 123 from rfl] at t123
  have t40 := tst 40
  rw [show (((40 : UInt8).toNat : Nat) : Int) = 40 from rfl] at t40
  have t91 := tst 91
  rw [show (((91 : UInt8).toNat : Nat) : Int) = 91 from rfl] at t91
  have t46 := tst 46
  rw [show (((46 : UInt8).toNat : Nat) : Int) = 46 from rfl] at t46
  have t94 := tst 94
  rw [show (((94 : UInt8).toNat : Nat) : Int) = 94 from rfl] at t94
  have t36 := tst 36
  rw [show (((36 : UInt8).toNat : Nat) : Int) = 36 from rfl] at t36
  have t92 := tst 92
  rw [show (((92 : UInt8).toNat : Nat) : Int) = 92 from rfl] at t92
  clear tst
  have HI := Lib.hid (show SP = .ok (.mk 2 0 [] 0 0 0, rest s (i + 1), g) by rw [← hSP, hE, hc, atomP.eq_def]; rfl)
  rw [show (c == 42) = false from by subst hc; decide] at t42
  rw [show (c == 43) = false from by subst hc; decide] at t43
  rw [show (c == 63) = false from by subst hc; decide] at t63
  rw [show (c == 123) = false from by subst hc; decide] at t123
  rw [show (c == 40) = false from by subst hc; decide] at t40
  rw [show (c == 91) = false from by subst hc; decide] at t91
  rw [show (c == 46) = false from by subst hc; decide] at t46
  rw [show (c == 94) = true from by subst hc; decide] at t94
  rw [show (c == 36) = false from by subst hc; decide] at t36
  rw [show (c == 92) = false from by subst hc; decide] at t92
  clear hSP hE
  obtain ⟨wa, hwa⟩ : ∃ z : World, z = w.alloc (.cells zC 27) := ⟨_, rfl⟩
  have HA := Lib.hid (show Rdr wa R s i g 0 by rw [hwa]; exact h.alloc _)
  have XA := Lib.hid (show Blk wa w.heap.size 27 zC by rw [hwa]; exact Blk.new _ _ _)
  have TA := Lib.hid (show Tch (fun b => b = R ∨ b = w.heap.size) w wa by rw [hwa]; exact (Tch.refl _ _).alloc _)
  have hne : w.heap.size ≠ R := by omega
  clear h
  obtain ⟨j0, j1, j2, j3⟩ := HA.out.cells
  go_enter Tryd.func73, Tryd.ntmps73
  go_wp2_with fail
  rw [← hwa]
  clear hwa
  go_simp
  go_quiet (fail)
  have HB := Lib.hid (HA.out.dn nq)
  have XB := Lib.hid (XA.out.drewN nq)
  have TB := Lib.hid (TA.out.drewN nq)
  clear HA XA TA j0 j1 j2 j3
  generalize wa.drewN nq = wb at *
  have HC := Lib.hid (HB.out.setAt (i + 1))
  have XC := Lib.hid (XB.out.far (p := ⟨R, 1, none⟩) hne (.int .i64 ((i + 1 : Nat) : Int)))
  have TC := Lib.hid (TB.out.setCell (p := ⟨R, 1, none⟩) (Or.inl rfl) (.int .i64 ((i + 1 : Nat) : Int)))
  rw [show ((i + 1 : Nat) : Int) = (i : Int) + 1 from rfl] at HC XC TC
  obtain ⟨j0, j1, j2, j3⟩ := HB.out.cells
  have f1 := HB.out.free 1
  obtain ⟨wc, hwc⟩ : ∃ z, z = wb.setCell ⟨R, 1, none⟩ (.int .i64 ((i : Int) + 1)) := ⟨_, rfl⟩
  rw [← hwc] at HC XC TC
  clear HB XB TB
  have HG := HC
  have XG := XC
  have TG := TC
  have xg := XG.out
  have p0 := xg.cell 0
  have p1 := xg.cell 1
  have p2 := xg.cell 2
  have p3 := xg.cell 3
  have p4 := xg.cell 4
  have p5 := xg.cell 5
  have p6 := xg.cell 6
  have p7 := xg.cell 7
  have p8 := xg.cell 8
  simp only [List.getElem?_toArray, List.getElem?_cons_zero, List.getElem?_cons_succ] at p0 p1 p2 p3 p4 p5 p6 p7 p8
  have l0 := xg.loose 0
  have l1 := xg.loose 1
  have l2 := xg.loose 2
  have l3 := xg.loose 3
  have l4 := xg.loose 4
  have l5 := xg.loose 5
  have l6 := xg.loose 6
  have l7 := xg.loose 7
  have l8 := xg.loose 8
  have hlx := xg.lt
  clear xg
  rw [hwc] at p0 l0 p1 l1 p2 l2 p3 l3 p4 l4 p5 l5 p6 l6 p7 l7 p8 l8 hlx
  go_wp2_with fail
  rw [← hwc] at *
  have xg := XG.out
  have p0 := xg.cell 0
  have p1 := xg.cell 1
  have p2 := xg.cell 2
  have p3 := xg.cell 3
  have p4 := xg.cell 4
  have p5 := xg.cell 5
  have p6 := xg.cell 6
  have p7 := xg.cell 7
  have p8 := xg.cell 8
  simp only [List.getElem?_toArray, List.getElem?_cons_zero, List.getElem?_cons_succ] at p0 p1 p2 p3 p4 p5 p6 p7 p8
  have l0 := xg.loose 0
  have l1 := xg.loose 1
  have l2 := xg.loose 2
  have l3 := xg.loose 3
  have l4 := xg.loose 4
  have l5 := xg.loose 5
  have l6 := xg.loose 6
  have l7 := xg.loose 7
  have l8 := xg.loose 8
  have hlx := xg.lt
  clear xg
  go_wp2
  first | (refine bodyPost_ret (R := PPq B R s w SP) (v := .agg (reC 2 (0) none 0 0 0 0 0).toArray) (by simp [results, Tryd.results73, go_sem, hlx, p0, p1, p2, p3, p4, p5, p6, p7, p8, word]) rfl ?_) | fail
  exact ⟨_, _, (i + 1), g, 0, rfl, Rt.leaf 2 (0) 0 0 0 0 (by decide), EreU_far HG.out (fun e => hne e.symm), by omega, tch_in (Tch.refl _ w) (EreU_tch TG.out (Or.inr rfl)) (Nat.le_refl _), Or.inl ⟨rfl, HI.out⟩⟩
set_option maxHeartbeats 3200000 in
set_option maxRecDepth 100000 in
theorem atom_end (G : Grp) (d R B : Nat) (s : ByteArray) (i g : Nat) (w : World) (h : Rdr w R s i g 0) (hRB : R < B) (hB : B ≤ w.heap.size) (hlt : i < s.size) (hs : s.size ≤ 1000000) (c : UInt8) (hcc : s[i]'hlt = c) (hc : c = 36) :
    Calls Tryd.prog 73 #[pt R, .int .i64 (d : Nat)] w (PPq B R s w (atomP G (rest s i) g)) := by
  obtain ⟨SP, hSP⟩ : ∃ SP, atomP G (rest s i) g = SP := ⟨_, rfl⟩
  rw [hSP]
  have hE := rest_cons s i hlt
  rw [hcc] at hE
  have hcl := c.toNat_lt
  have tst : ∀ k : UInt8, ((c.toNat : Int) == (k.toNat : Int)) = (c == k) := by
    intro k
    rw [Bool.eq_iff_iff]; simp
    constructor
    · intro h; exact UInt8.toNat_inj.1 (by omega)
    · rintro rfl; rfl
  have t42 := tst 42
  rw [show (((42 : UInt8).toNat : Nat) : Int) = 42 from rfl] at t42
  have t43 := tst 43
  rw [show (((43 : UInt8).toNat : Nat) : Int) = 43 from rfl] at t43
  have t63 := tst 63
  rw [show (((63 : UInt8).toNat : Nat) : Int) = 63 from rfl] at t63
  have t123 := tst 123
  rw [show (((123 : UInt8).toNat : Nat) : Int) = 123 from rfl] at t123
  have t40 := tst 40
  rw [show (((40 : UInt8).toNat : Nat) : Int) = 40 from rfl] at t40
  have t91 := tst 91
  rw [show (((91 : UInt8).toNat : Nat) : Int) = 91 from rfl] at t91
  have t46 := tst 46
  rw [show (((46 : UInt8).toNat : Nat) : Int) = 46 from rfl] at t46
  have t94 := tst 94
  rw [show (((94 : UInt8).toNat : Nat) : Int) = 94 from rfl] at t94
  have t36 := tst 36
  rw [show (((36 : UInt8).toNat : Nat) : Int) = 36 from rfl] at t36
  have t92 := tst 92
  rw [show (((92 : UInt8).toNat : Nat) : Int) = 92 from rfl] at t92
  clear tst
  have HI := Lib.hid (show SP = .ok (.mk 3 0 [] 0 0 0, rest s (i + 1), g) by rw [← hSP, hE, hc, atomP.eq_def]; rfl)
  rw [show (c == 42) = false from by subst hc; decide] at t42
  rw [show (c == 43) = false from by subst hc; decide] at t43
  rw [show (c == 63) = false from by subst hc; decide] at t63
  rw [show (c == 123) = false from by subst hc; decide] at t123
  rw [show (c == 40) = false from by subst hc; decide] at t40
  rw [show (c == 91) = false from by subst hc; decide] at t91
  rw [show (c == 46) = false from by subst hc; decide] at t46
  rw [show (c == 94) = false from by subst hc; decide] at t94
  rw [show (c == 36) = true from by subst hc; decide] at t36
  rw [show (c == 92) = false from by subst hc; decide] at t92
  clear hSP hE
  obtain ⟨wa, hwa⟩ : ∃ z : World, z = w.alloc (.cells zC 27) := ⟨_, rfl⟩
  have HA := Lib.hid (show Rdr wa R s i g 0 by rw [hwa]; exact h.alloc _)
  have XA := Lib.hid (show Blk wa w.heap.size 27 zC by rw [hwa]; exact Blk.new _ _ _)
  have TA := Lib.hid (show Tch (fun b => b = R ∨ b = w.heap.size) w wa by rw [hwa]; exact (Tch.refl _ _).alloc _)
  have hne : w.heap.size ≠ R := by omega
  clear h
  obtain ⟨j0, j1, j2, j3⟩ := HA.out.cells
  go_enter Tryd.func73, Tryd.ntmps73
  go_wp2_with fail
  rw [← hwa]
  clear hwa
  go_simp
  go_quiet (fail)
  have HB := Lib.hid (HA.out.dn nq)
  have XB := Lib.hid (XA.out.drewN nq)
  have TB := Lib.hid (TA.out.drewN nq)
  clear HA XA TA j0 j1 j2 j3
  generalize wa.drewN nq = wb at *
  have HC := Lib.hid (HB.out.setAt (i + 1))
  have XC := Lib.hid (XB.out.far (p := ⟨R, 1, none⟩) hne (.int .i64 ((i + 1 : Nat) : Int)))
  have TC := Lib.hid (TB.out.setCell (p := ⟨R, 1, none⟩) (Or.inl rfl) (.int .i64 ((i + 1 : Nat) : Int)))
  rw [show ((i + 1 : Nat) : Int) = (i : Int) + 1 from rfl] at HC XC TC
  obtain ⟨j0, j1, j2, j3⟩ := HB.out.cells
  have f1 := HB.out.free 1
  obtain ⟨wc, hwc⟩ : ∃ z, z = wb.setCell ⟨R, 1, none⟩ (.int .i64 ((i : Int) + 1)) := ⟨_, rfl⟩
  rw [← hwc] at HC XC TC
  clear HB XB TB
  have HG := HC
  have XG := XC
  have TG := TC
  have xg := XG.out
  have p0 := xg.cell 0
  have p1 := xg.cell 1
  have p2 := xg.cell 2
  have p3 := xg.cell 3
  have p4 := xg.cell 4
  have p5 := xg.cell 5
  have p6 := xg.cell 6
  have p7 := xg.cell 7
  have p8 := xg.cell 8
  simp only [List.getElem?_toArray, List.getElem?_cons_zero, List.getElem?_cons_succ] at p0 p1 p2 p3 p4 p5 p6 p7 p8
  have l0 := xg.loose 0
  have l1 := xg.loose 1
  have l2 := xg.loose 2
  have l3 := xg.loose 3
  have l4 := xg.loose 4
  have l5 := xg.loose 5
  have l6 := xg.loose 6
  have l7 := xg.loose 7
  have l8 := xg.loose 8
  have hlx := xg.lt
  clear xg
  rw [hwc] at p0 l0 p1 l1 p2 l2 p3 l3 p4 l4 p5 l5 p6 l6 p7 l7 p8 l8 hlx
  go_wp2_with fail
  rw [← hwc] at *
  have xg := XG.out
  have p0 := xg.cell 0
  have p1 := xg.cell 1
  have p2 := xg.cell 2
  have p3 := xg.cell 3
  have p4 := xg.cell 4
  have p5 := xg.cell 5
  have p6 := xg.cell 6
  have p7 := xg.cell 7
  have p8 := xg.cell 8
  simp only [List.getElem?_toArray, List.getElem?_cons_zero, List.getElem?_cons_succ] at p0 p1 p2 p3 p4 p5 p6 p7 p8
  have l0 := xg.loose 0
  have l1 := xg.loose 1
  have l2 := xg.loose 2
  have l3 := xg.loose 3
  have l4 := xg.loose 4
  have l5 := xg.loose 5
  have l6 := xg.loose 6
  have l7 := xg.loose 7
  have l8 := xg.loose 8
  have hlx := xg.lt
  clear xg
  go_wp2
  first | (refine bodyPost_ret (R := PPq B R s w SP) (v := .agg (reC 3 (0) none 0 0 0 0 0).toArray) (by simp [results, Tryd.results73, go_sem, hlx, p0, p1, p2, p3, p4, p5, p6, p7, p8, word]) rfl ?_) | fail
  exact ⟨_, _, (i + 1), g, 0, rfl, Rt.leaf 3 (0) 0 0 0 0 (by decide), EreU_far HG.out (fun e => hne e.symm), by omega, tch_in (Tch.refl _ w) (EreU_tch TG.out (Or.inr rfl)) (Nat.le_refl _), Or.inl ⟨rfl, HI.out⟩⟩
set_option maxHeartbeats 3200000 in
set_option maxRecDepth 100000 in
theorem atom_set (G : Grp) (d R B : Nat) (s : ByteArray) (i g : Nat) (w : World) (h : Rdr w R s i g 0) (hRB : R < B) (hB : B ≤ w.heap.size) (hlt : i < s.size) (hs : s.size ≤ 1000000) (c : UInt8) (hcc : s[i]'hlt = c) (hc : c = 91) :
    Calls Tryd.prog 73 #[pt R, .int .i64 (d : Nat)] w (PPq B R s w (atomP G (rest s i) g)) := by
  obtain ⟨SP, hSP⟩ : ∃ SP, atomP G (rest s i) g = SP := ⟨_, rfl⟩
  rw [hSP]
  have hE := rest_cons s i hlt
  rw [hcc] at hE
  have hcl := c.toNat_lt
  have tst : ∀ k : UInt8, ((c.toNat : Int) == (k.toNat : Int)) = (c == k) := by
    intro k
    rw [Bool.eq_iff_iff]; simp
    constructor
    · intro h; exact UInt8.toNat_inj.1 (by omega)
    · rintro rfl; rfl
  have t42 := tst 42
  rw [show (((42 : UInt8).toNat : Nat) : Int) = 42 from rfl] at t42
  have t43 := tst 43
  rw [show (((43 : UInt8).toNat : Nat) : Int) = 43 from rfl] at t43
  have t63 := tst 63
  rw [show (((63 : UInt8).toNat : Nat) : Int) = 63 from rfl] at t63
  have t123 := tst 123
  rw [show (((123 : UInt8).toNat : Nat) : Int) = 123 from rfl] at t123
  have t40 := tst 40
  rw [show (((40 : UInt8).toNat : Nat) : Int) = 40 from rfl] at t40
  have t91 := tst 91
  rw [show (((91 : UInt8).toNat : Nat) : Int) = 91 from rfl] at t91
  have t46 := tst 46
  rw [show (((46 : UInt8).toNat : Nat) : Int) = 46 from rfl] at t46
  have t94 := tst 94
  rw [show (((94 : UInt8).toNat : Nat) : Int) = 94 from rfl] at t94
  have t36 := tst 36
  rw [show (((36 : UInt8).toNat : Nat) : Int) = 36 from rfl] at t36
  have t92 := tst 92
  rw [show (((92 : UInt8).toNat : Nat) : Int) = 92 from rfl] at t92
  clear tst
  have HI := Lib.hid (show SP = (match classP (rest s (i + 1)) with | .error e => .error e | .ok (t, r') => .ok (.mk 1 t [] 0 0 0, r', g)) by rw [← hSP, hE, hc, atomP.eq_def]; rfl)
  rw [show (c == 42) = false from by subst hc; decide] at t42
  rw [show (c == 43) = false from by subst hc; decide] at t43
  rw [show (c == 63) = false from by subst hc; decide] at t63
  rw [show (c == 123) = false from by subst hc; decide] at t123
  rw [show (c == 40) = false from by subst hc; decide] at t40
  rw [show (c == 91) = true from by subst hc; decide] at t91
  rw [show (c == 46) = false from by subst hc; decide] at t46
  rw [show (c == 94) = false from by subst hc; decide] at t94
  rw [show (c == 36) = false from by subst hc; decide] at t36
  rw [show (c == 92) = false from by subst hc; decide] at t92
  clear hSP hE
  obtain ⟨wa, hwa⟩ : ∃ z : World, z = w.alloc (.cells zC 27) := ⟨_, rfl⟩
  have HA := Lib.hid (show Rdr wa R s i g 0 by rw [hwa]; exact h.alloc _)
  have XA := Lib.hid (show Blk wa w.heap.size 27 zC by rw [hwa]; exact Blk.new _ _ _)
  have TA := Lib.hid (show Tch (fun b => b = R ∨ b = w.heap.size) w wa by rw [hwa]; exact (Tch.refl _ _).alloc _)
  have hne : w.heap.size ≠ R := by omega
  clear h
  obtain ⟨j0, j1, j2, j3⟩ := HA.out.cells
  go_enter Tryd.func73, Tryd.ntmps73
  go_wp2_with fail
  rw [← hwa]
  clear hwa
  go_simp
  go_quiet (fail)
  have HB := Lib.hid (HA.out.dn nq)
  have XB := Lib.hid (XA.out.drewN nq)
  have TB := Lib.hid (TA.out.drewN nq)
  clear HA XA TA j0 j1 j2 j3
  generalize wa.drewN nq = wb at *
  have HC := Lib.hid (HB.out.setAt (i + 1))
  have XC := Lib.hid (XB.out.far (p := ⟨R, 1, none⟩) hne (.int .i64 ((i + 1 : Nat) : Int)))
  have TC := Lib.hid (TB.out.setCell (p := ⟨R, 1, none⟩) (Or.inl rfl) (.int .i64 ((i + 1 : Nat) : Int)))
  rw [show ((i + 1 : Nat) : Int) = (i : Int) + 1 from rfl] at HC XC TC
  obtain ⟨j0, j1, j2, j3⟩ := HB.out.cells
  have f1 := HB.out.free 1
  obtain ⟨wc, hwc⟩ : ∃ z, z = wb.setCell ⟨R, 1, none⟩ (.int .i64 ((i : Int) + 1)) := ⟨_, rfl⟩
  rw [← hwc] at HC XC TC
  clear HB XB TB
  have co := class_c R s (i + 1) g wc HC.out hlt hs
  obtain ⟨CP, hCP⟩ : ∃ CP, classP (rest s (i + 1)) = CP := ⟨_, rfl⟩
  rw [hCP] at co HI
  clear hCP
  go_wp2_with fail
  rw [← hwc]
  clear hwc j0 j1 j2 j3 f1
  (with_reducible refine co.mono ?_)
  rintro x wg (⟨S, k, rfl, hS, hr, hk, ht, rfl⟩ | ⟨k, rfl, hr, hk, ht, rfl⟩)
  · have HG := Lib.hid hr
    have XG := Lib.hid (XC.out.tch ht (fun e => hne e))
    have TG := Lib.hid (TC.out.trans (ht.more (fun b hb => Or.inl hb)))
    clear hr ht co HC XC TC
    have xg := XG.out
    have p0 := xg.cell 0
    have p1 := xg.cell 1
    have p2 := xg.cell 2
    have p3 := xg.cell 3
    have p4 := xg.cell 4
    have p5 := xg.cell 5
    have p6 := xg.cell 6
    have p7 := xg.cell 7
    have p8 := xg.cell 8
    simp only [List.getElem?_toArray, List.getElem?_cons_zero, List.getElem?_cons_succ] at p0 p1 p2 p3 p4 p5 p6 p7 p8
    have l0 := xg.loose 0
    have l1 := xg.loose 1
    have l2 := xg.loose 2
    have l3 := xg.loose 3
    have l4 := xg.loose 4
    have l5 := xg.loose 5
    have l6 := xg.loose 6
    have l7 := xg.loose 7
    have l8 := xg.loose 8
    have hlx := xg.lt
    clear xg
    go_wp2
    first | (refine bodyPost_ret (R := PPq B R s w SP) (v := .agg (reC 1 (S) none 0 0 0 0 0).toArray) (by simp [results, Tryd.results73, go_sem, hlx, p0, p1, p2, p3, p4, p5, p6, p7, p8, word]) rfl ?_) | fail
    exact ⟨_, _, k, g, 0, rfl, Rt.leaf 1 (S) 0 0 0 0 (hS), EreU_far HG.out (fun e => hne e.symm), hk, tch_in (Tch.refl _ w) (EreU_tch TG.out (Or.inr rfl)) (Nat.le_refl _), Or.inl ⟨rfl, HI.out⟩⟩
  · have HG := Lib.hid hr
    have XG := Lib.hid (XC.out.tch ht (fun e => hne e))
    have TG := Lib.hid (TC.out.trans (ht.more (fun b hb => Or.inl hb)))
    clear hr ht co HC XC TC
    have xg := XG.out
    have p0 := xg.cell 0
    have p1 := xg.cell 1
    have p2 := xg.cell 2
    have p3 := xg.cell 3
    have p4 := xg.cell 4
    have p5 := xg.cell 5
    have p6 := xg.cell 6
    have p7 := xg.cell 7
    have p8 := xg.cell 8
    simp only [List.getElem?_toArray, List.getElem?_cons_zero, List.getElem?_cons_succ] at p0 p1 p2 p3 p4 p5 p6 p7 p8
    have l0 := xg.loose 0
    have l1 := xg.loose 1
    have l2 := xg.loose 2
    have l3 := xg.loose 3
    have l4 := xg.loose 4
    have l5 := xg.loose 5
    have l6 := xg.loose 6
    have l7 := xg.loose 7
    have l8 := xg.loose 8
    have hlx := xg.lt
    clear xg
    go_wp2
    first | (refine bodyPost_ret (R := PPq B R s w SP) (v := .agg zC) (by simp [results, Tryd.results73, go_sem, hlx, p0, p1, p2, p3, p4, p5, p6, p7, p8, word]) rfl ?_) | fail
    exact ⟨_, _, k, g, 1, rfl, zero_rt _ _, EreU_far HG.out (fun e => hne e.symm), hk, tch_in (Tch.refl _ w) (EreU_tch TG.out (Or.inr rfl)) (Nat.le_refl _), Or.inr ⟨by decide, HI.out⟩⟩
set_option maxHeartbeats 3200000 in
set_option maxRecDepth 100000 in
theorem atom_byte (G : Grp) (d R B : Nat) (s : ByteArray) (i g : Nat) (w : World) (h : Rdr w R s i g 0) (hRB : R < B) (hB : B ≤ w.heap.size) (hlt : i < s.size) (hs : s.size ≤ 1000000) (c : UInt8) (hcc : s[i]'hlt = c) (n42 : c ≠ 42) (n43 : c ≠ 43) (n63 : c ≠ 63) (n123 : c ≠ 123) (n40 : c ≠ 40) (n91 : c ≠ 91) (n46 : c ≠ 46) (n94 : c ≠ 94) (n36 : c ≠ 36) (n92 : c ≠ 92) :
    Calls Tryd.prog 73 #[pt R, .int .i64 (d : Nat)] w (PPq B R s w (atomP G (rest s i) g)) := by
  obtain ⟨SP, hSP⟩ : ∃ SP, atomP G (rest s i) g = SP := ⟨_, rfl⟩
  rw [hSP]
  have hE := rest_cons s i hlt
  rw [hcc] at hE
  have hcl := c.toNat_lt
  have tst : ∀ k : UInt8, ((c.toNat : Int) == (k.toNat : Int)) = (c == k) := by
    intro k
    rw [Bool.eq_iff_iff]; simp
    constructor
    · intro h; exact UInt8.toNat_inj.1 (by omega)
    · rintro rfl; rfl
  have t42 := tst 42
  rw [show (((42 : UInt8).toNat : Nat) : Int) = 42 from rfl] at t42
  have t43 := tst 43
  rw [show (((43 : UInt8).toNat : Nat) : Int) = 43 from rfl] at t43
  have t63 := tst 63
  rw [show (((63 : UInt8).toNat : Nat) : Int) = 63 from rfl] at t63
  have t123 := tst 123
  rw [show (((123 : UInt8).toNat : Nat) : Int) = 123 from rfl] at t123
  have t40 := tst 40
  rw [show (((40 : UInt8).toNat : Nat) : Int) = 40 from rfl] at t40
  have t91 := tst 91
  rw [show (((91 : UInt8).toNat : Nat) : Int) = 91 from rfl] at t91
  have t46 := tst 46
  rw [show (((46 : UInt8).toNat : Nat) : Int) = 46 from rfl] at t46
  have t94 := tst 94
  rw [show (((94 : UInt8).toNat : Nat) : Int) = 94 from rfl] at t94
  have t36 := tst 36
  rw [show (((36 : UInt8).toNat : Nat) : Int) = 36 from rfl] at t36
  have t92 := tst 92
  rw [show (((92 : UInt8).toNat : Nat) : Int) = 92 from rfl] at t92
  clear tst
  have HI := Lib.hid (show SP = .ok (.mk 1 (oneS c.toNat) [] 0 0 0, rest s (i + 1), g) by rw [← hSP, hE, atomP.eq_def]; simp [isRep, n42, n43, n63, n123, n40, n91, n46, n94, n36, n92])
  rw [show (c == 42) = false from by simp [n42]] at t42
  rw [show (c == 43) = false from by simp [n43]] at t43
  rw [show (c == 63) = false from by simp [n63]] at t63
  rw [show (c == 123) = false from by simp [n123]] at t123
  rw [show (c == 40) = false from by simp [n40]] at t40
  rw [show (c == 91) = false from by simp [n91]] at t91
  rw [show (c == 46) = false from by simp [n46]] at t46
  rw [show (c == 94) = false from by simp [n94]] at t94
  rw [show (c == 36) = false from by simp [n36]] at t36
  rw [show (c == 92) = false from by simp [n92]] at t92
  clear n42 n43 n63 n123 n40 n91 n46 n94 n36 n92
  clear hSP hE
  obtain ⟨wa, hwa⟩ : ∃ z : World, z = w.alloc (.cells zC 27) := ⟨_, rfl⟩
  have HA := Lib.hid (show Rdr wa R s i g 0 by rw [hwa]; exact h.alloc _)
  have XA := Lib.hid (show Blk wa w.heap.size 27 zC by rw [hwa]; exact Blk.new _ _ _)
  have TA := Lib.hid (show Tch (fun b => b = R ∨ b = w.heap.size) w wa by rw [hwa]; exact (Tch.refl _ _).alloc _)
  have hne : w.heap.size ≠ R := by omega
  clear h
  obtain ⟨j0, j1, j2, j3⟩ := HA.out.cells
  go_enter Tryd.func73, Tryd.ntmps73
  go_wp2_with fail
  rw [← hwa]
  clear hwa
  go_simp
  go_quiet (fail)
  have HB := Lib.hid (HA.out.dn nq)
  have XB := Lib.hid (XA.out.drewN nq)
  have TB := Lib.hid (TA.out.drewN nq)
  clear HA XA TA j0 j1 j2 j3
  generalize wa.drewN nq = wb at *
  have HC := Lib.hid (HB.out.setAt (i + 1))
  have XC := Lib.hid (XB.out.far (p := ⟨R, 1, none⟩) hne (.int .i64 ((i + 1 : Nat) : Int)))
  have TC := Lib.hid (TB.out.setCell (p := ⟨R, 1, none⟩) (Or.inl rfl) (.int .i64 ((i + 1 : Nat) : Int)))
  rw [show ((i + 1 : Nat) : Int) = (i : Int) + 1 from rfl] at HC XC TC
  obtain ⟨j0, j1, j2, j3⟩ := HB.out.cells
  have f1 := HB.out.free 1
  obtain ⟨wc, hwc⟩ : ∃ z, z = wb.setCell ⟨R, 1, none⟩ (.int .i64 ((i : Int) + 1)) := ⟨_, rfl⟩
  rw [← hwc] at HC XC TC
  clear HB XB TB
  have co := one_q c.toNat hcl wc
  go_wp2_with fail
  rw [← hwc]
  clear hwc j0 j1 j2 j3 f1
  (with_reducible refine co.mono ?_)
  rintro x wg ⟨rfl, hbg⟩
  have HG := Lib.hid (HC.out.next hbg)
  have XG := Lib.hid (XC.out.next hbg)
  have TG := Lib.hid (TC.out.trans (Tch.of_below (S := fun b => b = R ∨ b = w.heap.size) hbg))
  clear hbg
  have xg := XG.out
  have p0 := xg.cell 0
  have p1 := xg.cell 1
  have p2 := xg.cell 2
  have p3 := xg.cell 3
  have p4 := xg.cell 4
  have p5 := xg.cell 5
  have p6 := xg.cell 6
  have p7 := xg.cell 7
  have p8 := xg.cell 8
  simp only [List.getElem?_toArray, List.getElem?_cons_zero, List.getElem?_cons_succ] at p0 p1 p2 p3 p4 p5 p6 p7 p8
  have l0 := xg.loose 0
  have l1 := xg.loose 1
  have l2 := xg.loose 2
  have l3 := xg.loose 3
  have l4 := xg.loose 4
  have l5 := xg.loose 5
  have l6 := xg.loose 6
  have l7 := xg.loose 7
  have l8 := xg.loose 8
  have hlx := xg.lt
  clear xg
  go_wp2
  first | (refine bodyPost_ret (R := PPq B R s w SP) (v := .agg (reC 1 (oneS c.toNat) none 0 0 0 0 0).toArray) (by simp [results, Tryd.results73, go_sem, hlx, p0, p1, p2, p3, p4, p5, p6, p7, p8, word]) rfl ?_) | fail
  exact ⟨_, _, (i + 1), g, 0, rfl, Rt.leaf 1 (oneS c.toNat) 0 0 0 0 (oneS_lt _ hcl), EreU_far HG.out (fun e => hne e.symm), by omega, tch_in (Tch.refl _ w) (EreU_tch TG.out (Or.inr rfl)) (Nat.le_refl _), Or.inl ⟨rfl, HI.out⟩⟩
set_option maxHeartbeats 3200000 in
set_option maxRecDepth 100000 in
theorem atom_end92 (G : Grp) (d R B : Nat) (s : ByteArray) (i g : Nat) (w : World) (h : Rdr w R s i g 0) (hRB : R < B) (hB : B ≤ w.heap.size) (hlt : i < s.size) (hs : s.size ≤ 1000000) (c : UInt8) (hcc : s[i]'hlt = c) (hc : c = 92) (hz : ¬ i + 1 < s.size) :
    Calls Tryd.prog 73 #[pt R, .int .i64 (d : Nat)] w (PPq B R s w (atomP G (rest s i) g)) := by
  obtain ⟨SP, hSP⟩ : ∃ SP, atomP G (rest s i) g = SP := ⟨_, rfl⟩
  rw [hSP]
  have hE := rest_cons s i hlt
  rw [hcc] at hE
  have hcl := c.toNat_lt
  have tst : ∀ k : UInt8, ((c.toNat : Int) == (k.toNat : Int)) = (c == k) := by
    intro k
    rw [Bool.eq_iff_iff]; simp
    constructor
    · intro h; exact UInt8.toNat_inj.1 (by omega)
    · rintro rfl; rfl
  have t42 := tst 42
  rw [show (((42 : UInt8).toNat : Nat) : Int) = 42 from rfl] at t42
  have t43 := tst 43
  rw [show (((43 : UInt8).toNat : Nat) : Int) = 43 from rfl] at t43
  have t63 := tst 63
  rw [show (((63 : UInt8).toNat : Nat) : Int) = 63 from rfl] at t63
  have t123 := tst 123
  rw [show (((123 : UInt8).toNat : Nat) : Int) = 123 from rfl] at t123
  have t40 := tst 40
  rw [show (((40 : UInt8).toNat : Nat) : Int) = 40 from rfl] at t40
  have t91 := tst 91
  rw [show (((91 : UInt8).toNat : Nat) : Int) = 91 from rfl] at t91
  have t46 := tst 46
  rw [show (((46 : UInt8).toNat : Nat) : Int) = 46 from rfl] at t46
  have t94 := tst 94
  rw [show (((94 : UInt8).toNat : Nat) : Int) = 94 from rfl] at t94
  have t36 := tst 36
  rw [show (((36 : UInt8).toNat : Nat) : Int) = 36 from rfl] at t36
  have t92 := tst 92
  rw [show (((92 : UInt8).toNat : Nat) : Int) = 92 from rfl] at t92
  clear tst
  have HI := Lib.hid (show SP = .error (rest s (i + 1), 1) by rw [← hSP, hE, hc, atomP.eq_def, show rest s (i + 1) = [] from rest_nil s _ (by omega)]; rfl)
  rw [show (c == 42) = false from by subst hc; decide] at t42
  rw [show (c == 43) = false from by subst hc; decide] at t43
  rw [show (c == 63) = false from by subst hc; decide] at t63
  rw [show (c == 123) = false from by subst hc; decide] at t123
  rw [show (c == 40) = false from by subst hc; decide] at t40
  rw [show (c == 91) = false from by subst hc; decide] at t91
  rw [show (c == 46) = false from by subst hc; decide] at t46
  rw [show (c == 94) = false from by subst hc; decide] at t94
  rw [show (c == 36) = false from by subst hc; decide] at t36
  rw [show (c == 92) = true from by subst hc; decide] at t92
  clear hSP hE
  obtain ⟨wa, hwa⟩ : ∃ z : World, z = w.alloc (.cells zC 27) := ⟨_, rfl⟩
  have HA := Lib.hid (show Rdr wa R s i g 0 by rw [hwa]; exact h.alloc _)
  have XA := Lib.hid (show Blk wa w.heap.size 27 zC by rw [hwa]; exact Blk.new _ _ _)
  have TA := Lib.hid (show Tch (fun b => b = R ∨ b = w.heap.size) w wa by rw [hwa]; exact (Tch.refl _ _).alloc _)
  have hne : w.heap.size ≠ R := by omega
  clear h
  obtain ⟨j0, j1, j2, j3⟩ := HA.out.cells
  go_enter Tryd.func73, Tryd.ntmps73
  go_wp2_with fail
  rw [← hwa]
  clear hwa
  go_simp
  go_quiet (fail)
  have HB := Lib.hid (HA.out.dn nq)
  have XB := Lib.hid (XA.out.drewN nq)
  have TB := Lib.hid (TA.out.drewN nq)
  clear HA XA TA j0 j1 j2 j3
  generalize wa.drewN nq = wb at *
  have HC := Lib.hid (HB.out.setAt (i + 1))
  have XC := Lib.hid (XB.out.far (p := ⟨R, 1, none⟩) hne (.int .i64 ((i + 1 : Nat) : Int)))
  have TC := Lib.hid (TB.out.setCell (p := ⟨R, 1, none⟩) (Or.inl rfl) (.int .i64 ((i + 1 : Nat) : Int)))
  rw [show ((i + 1 : Nat) : Int) = (i : Int) + 1 from rfl] at HC XC TC
  obtain ⟨j0, j1, j2, j3⟩ := HB.out.cells
  have f1 := HB.out.free 1
  obtain ⟨wc, hwc⟩ : ∃ z, z = wb.setCell ⟨R, 1, none⟩ (.int .i64 ((i : Int) + 1)) := ⟨_, rfl⟩
  rw [← hwc] at HC XC TC
  clear HB XB TB
  go_wp2_with fail
  rw [← hwc]
  clear hwc j0 j1 j2 j3 f1
  obtain ⟨j0, j1, j2, j3⟩ := HC.out.cells
  go_simp
  go_quiet (fail)
  have HD := Lib.hid (HC.out.dn nq)
  have XD := Lib.hid (XC.out.drewN nq)
  have TD := Lib.hid (TC.out.drewN nq)
  clear HC XC TC j0 j1 j2 j3
  generalize wc.drewN nq = wd at *
  have cf := fail_c R s (i + 1) g 0 1 wd HD.out
  rw [show failS 1 0 = 1 from rfl, show ((1 : Nat) : Int) = 1 from rfl] at cf
  go_wp2_with fail
  (with_reducible refine cf.mono ?_)
  rintro x wg ⟨rfl, hr, ht⟩
  have HG := Lib.hid hr
  have XG := Lib.hid (XD.out.tch ht (fun e => hne e))
  have TG := Lib.hid (TD.out.trans (ht.more (fun b hb => Or.inl hb)))
  clear hr ht cf
  have xg := XG.out
  have p0 := xg.cell 0
  have p1 := xg.cell 1
  have p2 := xg.cell 2
  have p3 := xg.cell 3
  have p4 := xg.cell 4
  have p5 := xg.cell 5
  have p6 := xg.cell 6
  have p7 := xg.cell 7
  have p8 := xg.cell 8
  simp only [List.getElem?_toArray, List.getElem?_cons_zero, List.getElem?_cons_succ] at p0 p1 p2 p3 p4 p5 p6 p7 p8
  have l0 := xg.loose 0
  have l1 := xg.loose 1
  have l2 := xg.loose 2
  have l3 := xg.loose 3
  have l4 := xg.loose 4
  have l5 := xg.loose 5
  have l6 := xg.loose 6
  have l7 := xg.loose 7
  have l8 := xg.loose 8
  have hlx := xg.lt
  clear xg
  go_wp2
  first | (refine bodyPost_ret (R := PPq B R s w SP) (v := .agg zC) (by simp [results, Tryd.results73, go_sem, hlx, p0, p1, p2, p3, p4, p5, p6, p7, p8, word]) rfl ?_) | fail
  exact ⟨_, _, (i + 1), g, 1, rfl, zero_rt _ _, EreU_far HG.out (fun e => hne e.symm), by omega, tch_in (Tch.refl _ w) (EreU_tch TG.out (Or.inr rfl)) (Nat.le_refl _), Or.inr ⟨by decide, HI.out⟩⟩
set_option maxHeartbeats 3200000 in
set_option maxRecDepth 100000 in
theorem atom_quote (G : Grp) (d R B : Nat) (s : ByteArray) (i g : Nat) (w : World) (h : Rdr w R s i g 0) (hRB : R < B) (hB : B ≤ w.heap.size) (hlt : i < s.size) (hs : s.size ≤ 1000000) (c : UInt8) (hcc : s[i]'hlt = c) (hc : c = 92) (hz : i + 1 < s.size) (q : UInt8) (hqq : s[i + 1]'hz = q) :
    Calls Tryd.prog 73 #[pt R, .int .i64 (d : Nat)] w (PPq B R s w (atomP G (rest s i) g)) := by
  obtain ⟨SP, hSP⟩ : ∃ SP, atomP G (rest s i) g = SP := ⟨_, rfl⟩
  rw [hSP]
  have hE := rest_cons s i hlt
  rw [hcc] at hE
  have hcl := c.toNat_lt
  have tst : ∀ k : UInt8, ((c.toNat : Int) == (k.toNat : Int)) = (c == k) := by
    intro k
    rw [Bool.eq_iff_iff]; simp
    constructor
    · intro h; exact UInt8.toNat_inj.1 (by omega)
    · rintro rfl; rfl
  have t42 := tst 42
  rw [show (((42 : UInt8).toNat : Nat) : Int) = 42 from rfl] at t42
  have t43 := tst 43
  rw [show (((43 : UInt8).toNat : Nat) : Int) = 43 from rfl] at t43
  have t63 := tst 63
  rw [show (((63 : UInt8).toNat : Nat) : Int) = 63 from rfl] at t63
  have t123 := tst 123
  rw [show (((123 : UInt8).toNat : Nat) : Int) = 123 from rfl] at t123
  have t40 := tst 40
  rw [show (((40 : UInt8).toNat : Nat) : Int) = 40 from rfl] at t40
  have t91 := tst 91
  rw [show (((91 : UInt8).toNat : Nat) : Int) = 91 from rfl] at t91
  have t46 := tst 46
  rw [show (((46 : UInt8).toNat : Nat) : Int) = 46 from rfl] at t46
  have t94 := tst 94
  rw [show (((94 : UInt8).toNat : Nat) : Int) = 94 from rfl] at t94
  have t36 := tst 36
  rw [show (((36 : UInt8).toNat : Nat) : Int) = 36 from rfl] at t36
  have t92 := tst 92
  rw [show (((92 : UInt8).toNat : Nat) : Int) = 92 from rfl] at t92
  clear tst
  have HI := Lib.hid (show SP = .ok (.mk 1 (oneS q.toNat) [] 0 0 0, rest s (i + 1 + 1), g) by rw [← hSP, hE, hc, atomP.eq_def, rest_cons s (i + 1) hz, hqq]; rfl)
  have hdl := q.toNat_lt
  rw [show (c == 42) = false from by subst hc; decide] at t42
  rw [show (c == 43) = false from by subst hc; decide] at t43
  rw [show (c == 63) = false from by subst hc; decide] at t63
  rw [show (c == 123) = false from by subst hc; decide] at t123
  rw [show (c == 40) = false from by subst hc; decide] at t40
  rw [show (c == 91) = false from by subst hc; decide] at t91
  rw [show (c == 46) = false from by subst hc; decide] at t46
  rw [show (c == 94) = false from by subst hc; decide] at t94
  rw [show (c == 36) = false from by subst hc; decide] at t36
  rw [show (c == 92) = true from by subst hc; decide] at t92
  clear hSP hE
  obtain ⟨wa, hwa⟩ : ∃ z : World, z = w.alloc (.cells zC 27) := ⟨_, rfl⟩
  have HA := Lib.hid (show Rdr wa R s i g 0 by rw [hwa]; exact h.alloc _)
  have XA := Lib.hid (show Blk wa w.heap.size 27 zC by rw [hwa]; exact Blk.new _ _ _)
  have TA := Lib.hid (show Tch (fun b => b = R ∨ b = w.heap.size) w wa by rw [hwa]; exact (Tch.refl _ _).alloc _)
  have hne : w.heap.size ≠ R := by omega
  clear h
  obtain ⟨j0, j1, j2, j3⟩ := HA.out.cells
  go_enter Tryd.func73, Tryd.ntmps73
  go_wp2_with fail
  rw [← hwa]
  clear hwa
  go_simp
  go_quiet (fail)
  have HB := Lib.hid (HA.out.dn nq)
  have XB := Lib.hid (XA.out.drewN nq)
  have TB := Lib.hid (TA.out.drewN nq)
  clear HA XA TA j0 j1 j2 j3
  generalize wa.drewN nq = wb at *
  have HC := Lib.hid (HB.out.setAt (i + 1))
  have XC := Lib.hid (XB.out.far (p := ⟨R, 1, none⟩) hne (.int .i64 ((i + 1 : Nat) : Int)))
  have TC := Lib.hid (TB.out.setCell (p := ⟨R, 1, none⟩) (Or.inl rfl) (.int .i64 ((i + 1 : Nat) : Int)))
  rw [show ((i + 1 : Nat) : Int) = (i : Int) + 1 from rfl] at HC XC TC
  obtain ⟨j0, j1, j2, j3⟩ := HB.out.cells
  have f1 := HB.out.free 1
  obtain ⟨wc, hwc⟩ : ∃ z, z = wb.setCell ⟨R, 1, none⟩ (.int .i64 ((i : Int) + 1)) := ⟨_, rfl⟩
  rw [← hwc] at HC XC TC
  clear HB XB TB
  go_wp2_with fail
  rw [← hwc]
  clear hwc j0 j1 j2 j3 f1
  obtain ⟨j0, j1, j2, j3⟩ := HC.out.cells
  go_simp
  go_quiet (fail)
  have HD := Lib.hid (HC.out.dn nq)
  have XD := Lib.hid (XC.out.drewN nq)
  have TD := Lib.hid (TC.out.drewN nq)
  clear HC XC TC j0 j1 j2 j3
  generalize wc.drewN nq = wd at *
  go_wp2_with fail
  have m1 : ((i : Int) + 1).toNat = i + 1 := by omega
  obtain ⟨j0, j1, j2, j3⟩ := HD.out.cells
  go_simp
  go_quiet (fail)
  have HE := Lib.hid (HD.out.dn nq)
  have XE := Lib.hid (XD.out.drewN nq)
  have TE := Lib.hid (TD.out.drewN nq)
  clear HD XD TD j0 j1 j2 j3
  generalize wd.drewN nq = we at *
  have HF := Lib.hid (HE.out.setAt (i + 1 + 1))
  have XF := Lib.hid (XE.out.far (p := ⟨R, 1, none⟩) hne (.int .i64 ((i + 1 + 1 : Nat) : Int)))
  have TF := Lib.hid (TE.out.setCell (p := ⟨R, 1, none⟩) (Or.inl rfl) (.int .i64 ((i + 1 + 1 : Nat) : Int)))
  rw [show ((i + 1 + 1 : Nat) : Int) = (i : Int) + 1 + 1 from rfl] at HF XF TF
  obtain ⟨j0, j1, j2, j3⟩ := HE.out.cells
  have f1 := HE.out.free 1
  obtain ⟨wf, hwf⟩ : ∃ z, z = we.setCell ⟨R, 1, none⟩ (.int .i64 ((i : Int) + 1 + 1)) := ⟨_, rfl⟩
  rw [← hwf] at HF XF TF
  clear HE XE TE
  have co := one_q q.toNat hdl wf
  go_wp2_with fail
  rw [← hwf]
  clear hwf j0 j1 j2 j3 f1
  (with_reducible refine co.mono ?_)
  rintro x wg ⟨rfl, hbg⟩
  have HG := Lib.hid (HF.out.next hbg)
  have XG := Lib.hid (XF.out.next hbg)
  have TG := Lib.hid (TF.out.trans (Tch.of_below (S := fun b => b = R ∨ b = w.heap.size) hbg))
  clear hbg
  have xg := XG.out
  have p0 := xg.cell 0
  have p1 := xg.cell 1
  have p2 := xg.cell 2
  have p3 := xg.cell 3
  have p4 := xg.cell 4
  have p5 := xg.cell 5
  have p6 := xg.cell 6
  have p7 := xg.cell 7
  have p8 := xg.cell 8
  simp only [List.getElem?_toArray, List.getElem?_cons_zero, List.getElem?_cons_succ] at p0 p1 p2 p3 p4 p5 p6 p7 p8
  have l0 := xg.loose 0
  have l1 := xg.loose 1
  have l2 := xg.loose 2
  have l3 := xg.loose 3
  have l4 := xg.loose 4
  have l5 := xg.loose 5
  have l6 := xg.loose 6
  have l7 := xg.loose 7
  have l8 := xg.loose 8
  have hlx := xg.lt
  clear xg
  go_wp2
  first | (refine bodyPost_ret (R := PPq B R s w SP) (v := .agg (reC 1 (oneS q.toNat) none 0 0 0 0 0).toArray) (by simp [results, Tryd.results73, go_sem, hlx, p0, p1, p2, p3, p4, p5, p6, p7, p8, word]) rfl ?_) | fail
  exact ⟨_, _, (i + 1 + 1), g, 0, rfl, Rt.leaf 1 (oneS q.toNat) 0 0 0 0 (oneS_lt _ hdl), EreU_far HG.out (fun e => hne e.symm), by omega, tch_in (Tch.refl _ w) (EreU_tch TG.out (Or.inr rfl)) (Nat.le_refl _), Or.inl ⟨rfl, HI.out⟩⟩
end EreN
end Go.Proofs.YtpdmjegbjcefjaaDoor
