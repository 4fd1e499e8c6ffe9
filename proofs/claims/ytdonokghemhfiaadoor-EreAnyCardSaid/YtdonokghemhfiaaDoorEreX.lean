/- The walk of the expression reader's atom. Conditions: texts that fit; a premise on groups. -/
import Derived.Test.YtdonokghemhfiaaDoorEreV
import Derived.Test.YtdonokghemhfiaaDoorEreK
import Derived.Test.YtdonokghemhfiaaDoorEreM
namespace Go.Proofs.YtdonokghemhfiaaDoor
set_option linter.unusedVariables false
set_option linter.unusedSimpArgs false
open Go.RowKit
namespace EreX
open EreP EreW
/-- What group does, behind a (, so deep. -/
def grpF (d : Nat) : Bs → Nat → R3 Re := (grpP (64 - d)).getD (fun r _ => .error (r, 1))
def GrpC (d : Nat) : Prop := ∀ (R B : Nat) (s : ByteArray) (i g : Nat) (w : World), Rdr w R s i g 0 → R < B → B ≤ w.heap.size → i ≤ s.size → s.size ≤ 200 → g + 1 ≤ i →
  Calls Tryd.prog 65 #[pt R, .int .i64 (d : Nat)] w (PPost B R s w (grpF d (rest s i) g))
theorem rep_any (c : UInt8) (r : Bs) : peekB (⟨#[42, 43, 63, 123]⟩ : ByteArray).data.toList (c :: r) 0 = isRep c := by
  show List.contains [42, 43, 63, 123] c = _
  rw [Bool.eq_iff_iff]; simp [isRep, or_assoc]
theorem par_any (c x : UInt8) (r : Bs) : peekB (⟨#[x]⟩ : ByteArray).data.toList (c :: r) 0 = (c == x) := by
  show List.contains [x] c = _
  rw [Bool.eq_iff_iff]; simp
theorem byte_ne {c : UInt8} {k : Nat} (hk : k < 256) (h : (c == UInt8.ofNat k) = false) : ((c.toNat : Int) == (k : Int)) = false := by
  rw [beq_eq_false_iff_ne] at h ⊢
  intro e; apply h
  have : c.toNat = k := by omega
  rw [← this]; simp
theorem tree_on {B R : Nat} {w w' : World} {r : Re} {cs : List Value} (h : Rt w (B ≤ ·) r cs) (t : Tch (On R) w w') (hR : R < B) : Rt w' (B ≤ ·) r cs := h.tch t (fun b hb e => by subst e; omega)
theorem tree_x {B X B' : Nat} {w w' : World} {r : Re} {cs : List Value} (h : Rt w (B ≤ ·) r cs) (t : Tch (· = X) w w') (hX : X < B) (hB : B' ≤ B) : Rt w' (B' ≤ ·) r cs :=
  h.keep (fun b hb => by omega) (fun b hb hl => t.block b hl (fun e => by subst e; omega))
theorem rdr9 {w : World} {X R k g e : Nat} {s : ByteArray} {v0 v1 v2 v3 v4 v5 v6 v7 v8 : Value} (h : Rdr w R s k g e) (hg : R ≠ X) : Rdr (((((((((w.setCell ⟨X, 0, none⟩ v0).setCell ⟨X, 1, none⟩ v1).setCell ⟨X, 2, none⟩ v2).setCell ⟨X, 3, none⟩ v3).setCell ⟨X, 4, none⟩ v4).setCell ⟨X, 5, none⟩ v5).setCell ⟨X, 6, none⟩ v6).setCell ⟨X, 7, none⟩ v7).setCell ⟨X, 8, none⟩ v8) R s k g e := far9 h hg
theorem tree_more {B B' : Nat} {w : World} {r : Re} {cs : List Value} (h : Rt w (B ≤ ·) r cs) (hB : B' ≤ B) : Rt w (B' ≤ ·) r cs := h.keep (fun b hb => by omega) (fun _ _ _ => rfl)
set_option maxHeartbeats 3200000 in
set_option maxRecDepth 100000 in
theorem atom_rep (d R B : Nat) (s : ByteArray) (i g : Nat) (w : World) (h : Rdr w R s i g 0) (hRB : R < B) (hB : B ≤ w.heap.size) (hlt : i < s.size) (hs : s.size ≤ 200) (hgi : g ≤ i) (hc : isRep (s[i]'hlt) = true) :
    Calls Tryd.prog 57 #[pt R, .int .i64 (d : Nat)] w (PPost B R s w (atomP (grpP (64 - d)) (rest s i) g)) := by
  have hs2 : s.size ≤ 4611686018427387904 := by omega
  obtain ⟨SP, hSP⟩ : ∃ SP, atomP (grpP (64 - d)) (rest s i) g = SP := ⟨_, rfl⟩
  rw [hSP]
  obtain ⟨wa, hwa⟩ : ∃ z : World, z = w.alloc (.cells zC 28) := ⟨_, rfl⟩
  have ha : Rdr wa R s i g 0 := by rw [hwa]; exact h.alloc _
  have xa : Blk wa w.heap.size 28 zC := by rw [hwa]; exact Blk.new _ _ _
  have za : wa.heap.size = w.heap.size + 1 := by rw [hwa, World.size_alloc]
  have ta : Tch (On R) w wa := by rw [hwa]; exact (Tch.refl _ _).alloc _
  have hlR := h.lt
  have cp := peek_c R s ⟨#[42, 43, 63, 123]⟩ i g 0 wa ha
  have hE := rest_cons s i hlt
  rw [hE, rep_any] at cp
  have hn := fun W hW => next_ok R s i g W hW hlt hs2
  generalize hcc : (s[i]'hlt) = c at *
  clear hcc h
  have hI : Hid (SP = .error (rest s i, 1)) := Lib.hid (by rw [← hSP, hE, atomP.eq_def]; simp only; rw [if_pos hc])
  rw [hc] at cp
  clear hSP hc hE hn
  go_enter Tryd.func57, Tryd.ntmps57
  go_wp2_with fail
  rw [← hwa]
  (with_reducible refine cp.mono ?_)
  rintro x wm ⟨rfl, m, rfl⟩
  have cf := fail1_c R s i g 0 (wa.drewN m) (ha.dn m)
  clear cp hwa
  go_wp2_with fail
  (with_reducible refine cf.mono ?_)
  rintro x w1 ⟨rfl, h1, t1⟩
  have x1 := (xa.drewN m).tch t1 (show ¬ (w.heap.size = R) by omega)
  have T1 := (ta.drewN m).trans t1
  clear cf
  have p0 := x1.cell 0
  have p1 := x1.cell 1
  have p2 := x1.cell 2
  have p3 := x1.cell 3
  have p4 := x1.cell 4
  have p5 := x1.cell 5
  have p6 := x1.cell 6
  have p7 := x1.cell 7
  have p8 := x1.cell 8
  simp only [List.getElem?_toArray, List.getElem?_cons_zero, List.getElem?_cons_succ] at p0 p1 p2 p3 p4 p5 p6 p7 p8
  have r0 := x1.loose 0
  have r1 := x1.loose 1
  have r2 := x1.loose 2
  have r3 := x1.loose 3
  have r4 := x1.loose 4
  have r5 := x1.loose 5
  have r6 := x1.loose 6
  have r7 := x1.loose 7
  have r8 := x1.loose 8
  go_wp2
  refine bodyPost_ret (v := .agg (reC 0 0 none 0 0 0 0 0).toArray) (by simp [results, Tryd.results57, go_sem, word, p0, p1, p2, p3, p4, p5, p6, p7, p8]) rfl ?_
  exact ⟨_, reC 0 0 none 0 0 0 0 0, i, g, 1, rfl, Rt.leaf 0 0 0 0 0 0 (by decide), rdr9 h1 (by omega), by omega, tch_new T1 (tch9 (S := (· = w.heap.size)) (Tch.refl _ _) rfl) (fun b hb => by rw [hb]; exact Nat.le_refl _), Or.inr ⟨by decide, hI.out⟩⟩
set_option maxHeartbeats 3200000 in
set_option maxRecDepth 100000 in
theorem atom_deep (d R B : Nat) (s : ByteArray) (i g : Nat) (w : World) (h : Rdr w R s i g 0) (hRB : R < B) (hB : B ≤ w.heap.size) (hlt : i < s.size) (hs : s.size ≤ 200) (hgi : g ≤ i) (hc : (s[i]'hlt) = 40) (hd : 64 ≤ d) :
    Calls Tryd.prog 57 #[pt R, .int .i64 (d : Nat)] w (PPost B R s w (atomP (grpP (64 - d)) (rest s i) g)) := by
  have hs2 : s.size ≤ 4611686018427387904 := by omega
  obtain ⟨SP, hSP⟩ : ∃ SP, atomP (grpP (64 - d)) (rest s i) g = SP := ⟨_, rfl⟩
  rw [hSP]
  obtain ⟨wa, hwa⟩ : ∃ z : World, z = w.alloc (.cells zC 28) := ⟨_, rfl⟩
  have ha : Rdr wa R s i g 0 := by rw [hwa]; exact h.alloc _
  have xa : Blk wa w.heap.size 28 zC := by rw [hwa]; exact Blk.new _ _ _
  have za : wa.heap.size = w.heap.size + 1 := by rw [hwa, World.size_alloc]
  have ta : Tch (On R) w wa := by rw [hwa]; exact (Tch.refl _ _).alloc _
  have hlR := h.lt
  have cp := peek_c R s ⟨#[42, 43, 63, 123]⟩ i g 0 wa ha
  have hE := rest_cons s i hlt
  rw [hE, rep_any] at cp
  have hn := fun W hW => next_ok R s i g W hW hlt hs2
  have cq := fun m => peek_c R s ⟨#[40]⟩ i g 0 (wa.drewN m) (ha.dn m)
  rw [hE] at cq
  rw [par_any] at cq
  have hI : Hid (SP = .error (rest s i, 8)) := Lib.hid (by rw [← hSP, hE, hc, show 64 - d = 0 by omega]; rfl)
  have hq : (((s[i]'hlt) : UInt8) == 40) = true := by rw [hc]; rfl
  rw [hc, show isRep 40 = false from rfl] at cp
  simp only [hq] at cq
  have dd : decide ((64 : Int) ≤ (d : Int)) = true := by simp; omega
  clear hSP hc hE hn hq
  go_enter Tryd.func57, Tryd.ntmps57
  go_wp2_with fail
  rw [← hwa]
  (with_reducible refine cp.mono ?_)
  rintro x wm ⟨rfl, m, rfl⟩
  have cq' := cq m
  clear cp hwa cq
  go_wp2_with fail
  (with_reducible refine cq'.mono ?_)
  rintro x wm ⟨rfl, m2, rfl⟩
  have cf := fail8_c R s i g 0 (wa.drewN (m + m2)) (ha.dn (m + m2))
  clear cq'
  go_wp2_with fail
  (with_reducible refine cf.mono ?_)
  rintro x w1 ⟨rfl, h1, t1⟩
  have x1 := (xa.drewN (m + m2)).tch t1 (show ¬ (w.heap.size = R) by omega)
  have T1 := (ta.drewN (m + m2)).trans t1
  clear cf
  have p0 := x1.cell 0
  have p1 := x1.cell 1
  have p2 := x1.cell 2
  have p3 := x1.cell 3
  have p4 := x1.cell 4
  have p5 := x1.cell 5
  have p6 := x1.cell 6
  have p7 := x1.cell 7
  have p8 := x1.cell 8
  simp only [List.getElem?_toArray, List.getElem?_cons_zero, List.getElem?_cons_succ] at p0 p1 p2 p3 p4 p5 p6 p7 p8
  have r0 := x1.loose 0
  have r1 := x1.loose 1
  have r2 := x1.loose 2
  have r3 := x1.loose 3
  have r4 := x1.loose 4
  have r5 := x1.loose 5
  have r6 := x1.loose 6
  have r7 := x1.loose 7
  have r8 := x1.loose 8
  go_wp2
  refine bodyPost_ret (v := .agg (reC 0 0 none 0 0 0 0 0).toArray) (by simp [results, Tryd.results57, go_sem, word, p0, p1, p2, p3, p4, p5, p6, p7, p8]) rfl ?_
  exact ⟨_, reC 0 0 none 0 0 0 0 0, i, g, 8, rfl, Rt.leaf 0 0 0 0 0 0 (by decide), rdr9 h1 (by omega), by omega, tch_new T1 (tch9 (S := (· = w.heap.size)) (Tch.refl _ _) rfl) (fun b hb => by rw [hb]; exact Nat.le_refl _), Or.inr ⟨by decide, hI.out⟩⟩
set_option maxHeartbeats 3200000 in
set_option maxRecDepth 100000 in
theorem atom_group (d R B : Nat) (s : ByteArray) (i g : Nat) (w : World) (h : Rdr w R s i g 0) (hRB : R < B) (hB : B ≤ w.heap.size) (hlt : i < s.size) (hs : s.size ≤ 200) (hgi : g ≤ i) (hc : (s[i]'hlt) = 40) (hd : d < 64) (hG : GrpC d) :
    Calls Tryd.prog 57 #[pt R, .int .i64 (d : Nat)] w (PPost B R s w (atomP (grpP (64 - d)) (rest s i) g)) := by
  have hs2 : s.size ≤ 4611686018427387904 := by omega
  obtain ⟨SP, hSP⟩ : ∃ SP, atomP (grpP (64 - d)) (rest s i) g = SP := ⟨_, rfl⟩
  rw [hSP]
  obtain ⟨wa, hwa⟩ : ∃ z : World, z = w.alloc (.cells zC 28) := ⟨_, rfl⟩
  have ha : Rdr wa R s i g 0 := by rw [hwa]; exact h.alloc _
  have xa : Blk wa w.heap.size 28 zC := by rw [hwa]; exact Blk.new _ _ _
  have za : wa.heap.size = w.heap.size + 1 := by rw [hwa, World.size_alloc]
  have ta : Tch (On R) w wa := by rw [hwa]; exact (Tch.refl _ _).alloc _
  have hlR := h.lt
  have cp := peek_c R s ⟨#[42, 43, 63, 123]⟩ i g 0 wa ha
  have hE := rest_cons s i hlt
  rw [hE, rep_any] at cp
  have hn := fun W hW => next_ok R s i g W hW hlt hs2
  have cq := fun m => peek_c R s ⟨#[40]⟩ i g 0 (wa.drewN m) (ha.dn m)
  rw [hE] at cq
  rw [par_any] at cq
  have hI : Hid (SP = grpF d (rest s (i + 1)) g) := Lib.hid (by
    obtain ⟨D, hD⟩ : ∃ D, 64 - d = D + 1 := ⟨63 - d, by omega⟩
    unfold grpF
    rw [← hSP, hE, hc, hD]; rfl)
  have hq : (((s[i]'hlt) : UInt8) == 40) = true := by rw [hc]; rfl
  rw [hc, show isRep 40 = false from rfl] at cp
  rw [hc] at hn
  simp only [hq] at cq
  have dd : decide ((64 : Int) ≤ (d : Int)) = false := by simp; omega
  clear hSP hc hE hq
  go_enter Tryd.func57, Tryd.ntmps57
  go_wp2_with fail
  rw [← hwa]
  (with_reducible refine cp.mono ?_)
  rintro x wm ⟨rfl, m, rfl⟩
  have cq' := cq m
  clear cp hwa cq
  go_wp2_with fail
  (with_reducible refine cq'.mono ?_)
  rintro x wm ⟨rfl, m2, rfl⟩
  have cn := hn (wa.drewN (m + m2)) (ha.dn (m + m2))
  clear cq' hn
  go_wp2_with fail
  (with_reducible refine cn.mono ?_)
  rintro x w1 ⟨rfl, h1, t1⟩
  have x1 := (xa.drewN (m + m2)).tch t1 (show ¬ (w.heap.size = R) by omega)
  have T1 := (ta.drewN (m + m2)).trans t1
  have zz : (wa.drewN (m + m2)).heap.size = wa.heap.size := rfl
  have z1 := t1.size
  clear cn
  have cg := hG R w1.heap.size s (i + 1) g w1 h1 h1.lt (Nat.le_refl _) (by omega) hs (by omega)
  rw [show (((40 : UInt8).toNat : Nat) : Int) = 40 from rfl]
  go_wp2_with fail
  (with_reducible refine cg.mono ?_)
  rintro x w2 ⟨r, cs, k, g', e, rfl, hrt, h2, hk, t2, hsp⟩
  have x2 := x1.tch t2 (show ¬ (w.heap.size = R) by omega)
  have T2 := T1.trans t2
  have z2 := t2.size
  obtain ⟨A, c, rfl, hS, hnil⟩ := hrt.shape
  have HRT := Lib.hid hrt
  have HSP := Lib.hid hsp
  clear cg hrt hsp hnil hS
  generalize hk0 : r.kind = k0 at *
  generalize hk1 : r.set = k1 at *
  generalize hk2 : r.kids.length = k2 at *
  generalize hk3 : r.lo = k3 at *
  generalize hk4 : r.hi = k4 at *
  generalize hk5 : r.n = k5 at *
  clear hk0 hk1 hk2 hk3 hk4 hk5
  have p0 := x2.cell 0
  have p1 := x2.cell 1
  have p2 := x2.cell 2
  have p3 := x2.cell 3
  have p4 := x2.cell 4
  have p5 := x2.cell 5
  have p6 := x2.cell 6
  have p7 := x2.cell 7
  have p8 := x2.cell 8
  simp only [List.getElem?_toArray, List.getElem?_cons_zero, List.getElem?_cons_succ] at p0 p1 p2 p3 p4 p5 p6 p7 p8
  have r0 := x2.loose 0
  have r1 := x2.loose 1
  have r2 := x2.loose 2
  have r3 := x2.loose 3
  have r4 := x2.loose 4
  have r5 := x2.loose 5
  have r6 := x2.loose 6
  have r7 := x2.loose 7
  have r8 := x2.loose 8
  go_wp2
  refine bodyPost_ret (v := .agg (reC k0 k1 A k2 c k3 k4 k5).toArray) (by simp [results, Tryd.results57, go_sem, p0, p1, p2, p3, p4, p5, p6, p7, p8]) rfl ?_
  exact ⟨r, _, k, g', e, rfl, tree_x HRT.out (tch9 (S := (· = w.heap.size)) (Tch.refl _ _) rfl) (by omega) (by omega), rdr9 h2 (by omega), hk, tch_new T2 (tch9 (S := (· = w.heap.size)) (Tch.refl _ _) rfl) (fun b hb => by rw [hb]; exact Nat.le_refl _), by rw [hI.out]; exact HSP.out⟩
set_option maxHeartbeats 3200000 in
set_option maxRecDepth 100000 in
theorem atom_begin (d R B : Nat) (s : ByteArray) (i g : Nat) (w : World) (h : Rdr w R s i g 0) (hRB : R < B) (hB : B ≤ w.heap.size) (hlt : i < s.size) (hs : s.size ≤ 200) (hgi : g ≤ i) (hc : (s[i]'hlt) = 94) :
    Calls Tryd.prog 57 #[pt R, .int .i64 (d : Nat)] w (PPost B R s w (atomP (grpP (64 - d)) (rest s i) g)) := by
  have hs2 : s.size ≤ 4611686018427387904 := by omega
  obtain ⟨SP, hSP⟩ : ∃ SP, atomP (grpP (64 - d)) (rest s i) g = SP := ⟨_, rfl⟩
  rw [hSP]
  obtain ⟨wa, hwa⟩ : ∃ z : World, z = w.alloc (.cells zC 28) := ⟨_, rfl⟩
  have ha : Rdr wa R s i g 0 := by rw [hwa]; exact h.alloc _
  have xa : Blk wa w.heap.size 28 zC := by rw [hwa]; exact Blk.new _ _ _
  have za : wa.heap.size = w.heap.size + 1 := by rw [hwa, World.size_alloc]
  have ta : Tch (On R) w wa := by rw [hwa]; exact (Tch.refl _ _).alloc _
  have hlR := h.lt
  have cp := peek_c R s ⟨#[42, 43, 63, 123]⟩ i g 0 wa ha
  have hE := rest_cons s i hlt
  rw [hE, rep_any] at cp
  have hn := fun W hW => next_ok R s i g W hW hlt hs2
  have cq := fun m => peek_c R s ⟨#[40]⟩ i g 0 (wa.drewN m) (ha.dn m)
  rw [hE] at cq
  rw [par_any] at cq
  have hq : (((s[i]'hlt) : UInt8) == 40) = false := by rw [hc]; rfl
  rw [hc, show isRep 94 = false from rfl] at cp
  rw [hc] at hn
  simp only [hq] at cq
  have hI : Hid (SP = .ok (.mk 2 0 [] 0 0 0, rest s (i + 1), g)) := Lib.hid (by rw [← hSP, hE, hc]; rfl)
  clear hSP hc hE hq
  go_enter Tryd.func57, Tryd.ntmps57
  go_wp2_with fail
  rw [← hwa]
  (with_reducible refine cp.mono ?_)
  rintro x wm ⟨rfl, m, rfl⟩
  have cq' := cq m
  clear cp hwa cq
  go_wp2_with fail
  (with_reducible refine cq'.mono ?_)
  rintro x wm ⟨rfl, m2, rfl⟩
  have cn := hn (wa.drewN (m + m2)) (ha.dn (m + m2))
  clear cq' hn
  go_wp2_with fail
  (with_reducible refine cn.mono ?_)
  rintro x w1 ⟨rfl, h1, t1⟩
  have x1 := (xa.drewN (m + m2)).tch t1 (show ¬ (w.heap.size = R) by omega)
  have T1 := (ta.drewN (m + m2)).trans t1
  have zz : (wa.drewN (m + m2)).heap.size = wa.heap.size := rfl
  have z1 := t1.size
  clear cn
  rw [show (((94 : UInt8).toNat : Nat) : Int) = 94 from rfl]
  have p0 := x1.cell 0
  have p1 := x1.cell 1
  have p2 := x1.cell 2
  have p3 := x1.cell 3
  have p4 := x1.cell 4
  have p5 := x1.cell 5
  have p6 := x1.cell 6
  have p7 := x1.cell 7
  have p8 := x1.cell 8
  simp only [List.getElem?_toArray, List.getElem?_cons_zero, List.getElem?_cons_succ] at p0 p1 p2 p3 p4 p5 p6 p7 p8
  have r0 := x1.loose 0
  have r1 := x1.loose 1
  have r2 := x1.loose 2
  have r3 := x1.loose 3
  have r4 := x1.loose 4
  have r5 := x1.loose 5
  have r6 := x1.loose 6
  have r7 := x1.loose 7
  have r8 := x1.loose 8
  go_wp2
  refine bodyPost_ret (v := .agg (reC 2 0 none 0 0 0 0 0).toArray) (by simp [results, Tryd.results57, go_sem, word, p0, p1, p2, p3, p4, p5, p6, p7, p8]) rfl ?_
  exact ⟨_, reC 2 0 none 0 0 0 0 0, i + 1, g, 0, rfl, Rt.leaf 2 0 0 0 0 0 (by decide), rdr9 h1 (by omega), by omega, tch_new T1 (tch9 (S := (· = w.heap.size)) (Tch.refl _ _) rfl) (fun b hb => by rw [hb]; exact Nat.le_refl _), Or.inl ⟨rfl, hI.out⟩⟩
set_option maxHeartbeats 3200000 in
set_option maxRecDepth 100000 in
theorem atom_end (d R B : Nat) (s : ByteArray) (i g : Nat) (w : World) (h : Rdr w R s i g 0) (hRB : R < B) (hB : B ≤ w.heap.size) (hlt : i < s.size) (hs : s.size ≤ 200) (hgi : g ≤ i) (hc : (s[i]'hlt) = 36) :
    Calls Tryd.prog 57 #[pt R, .int .i64 (d : Nat)] w (PPost B R s w (atomP (grpP (64 - d)) (rest s i) g)) := by
  have hs2 : s.size ≤ 4611686018427387904 := by omega
  obtain ⟨SP, hSP⟩ : ∃ SP, atomP (grpP (64 - d)) (rest s i) g = SP := ⟨_, rfl⟩
  rw [hSP]
  obtain ⟨wa, hwa⟩ : ∃ z : World, z = w.alloc (.cells zC 28) := ⟨_, rfl⟩
  have ha : Rdr wa R s i g 0 := by rw [hwa]; exact h.alloc _
  have xa : Blk wa w.heap.size 28 zC := by rw [hwa]; exact Blk.new _ _ _
  have za : wa.heap.size = w.heap.size + 1 := by rw [hwa, World.size_alloc]
  have ta : Tch (On R) w wa := by rw [hwa]; exact (Tch.refl _ _).alloc _
  have hlR := h.lt
  have cp := peek_c R s ⟨#[42, 43, 63, 123]⟩ i g 0 wa ha
  have hE := rest_cons s i hlt
  rw [hE, rep_any] at cp
  have hn := fun W hW => next_ok R s i g W hW hlt hs2
  have cq := fun m => peek_c R s ⟨#[40]⟩ i g 0 (wa.drewN m) (ha.dn m)
  rw [hE] at cq
  rw [par_any] at cq
  have hq : (((s[i]'hlt) : UInt8) == 40) = false := by rw [hc]; rfl
  rw [hc, show isRep 36 = false from rfl] at cp
  rw [hc] at hn
  simp only [hq] at cq
  have hI : Hid (SP = .ok (.mk 3 0 [] 0 0 0, rest s (i + 1), g)) := Lib.hid (by rw [← hSP, hE, hc]; rfl)
  clear hSP hc hE hq
  go_enter Tryd.func57, Tryd.ntmps57
  go_wp2_with fail
  rw [← hwa]
  (with_reducible refine cp.mono ?_)
  rintro x wm ⟨rfl, m, rfl⟩
  have cq' := cq m
  clear cp hwa cq
  go_wp2_with fail
  (with_reducible refine cq'.mono ?_)
  rintro x wm ⟨rfl, m2, rfl⟩
  have cn := hn (wa.drewN (m + m2)) (ha.dn (m + m2))
  clear cq' hn
  go_wp2_with fail
  (with_reducible refine cn.mono ?_)
  rintro x w1 ⟨rfl, h1, t1⟩
  have x1 := (xa.drewN (m + m2)).tch t1 (show ¬ (w.heap.size = R) by omega)
  have T1 := (ta.drewN (m + m2)).trans t1
  have zz : (wa.drewN (m + m2)).heap.size = wa.heap.size := rfl
  have z1 := t1.size
  clear cn
  rw [show (((36 : UInt8).toNat : Nat) : Int) = 36 from rfl]
  have p0 := x1.cell 0
  have p1 := x1.cell 1
  have p2 := x1.cell 2
  have p3 := x1.cell 3
  have p4 := x1.cell 4
  have p5 := x1.cell 5
  have p6 := x1.cell 6
  have p7 := x1.cell 7
  have p8 := x1.cell 8
  simp only [List.getElem?_toArray, List.getElem?_cons_zero, List.getElem?_cons_succ] at p0 p1 p2 p3 p4 p5 p6 p7 p8
  have r0 := x1.loose 0
  have r1 := x1.loose 1
  have r2 := x1.loose 2
  have r3 := x1.loose 3
  have r4 := x1.loose 4
  have r5 := x1.loose 5
  have r6 := x1.loose 6
  have r7 := x1.loose 7
  have r8 := x1.loose 8
  go_wp2
  refine bodyPost_ret (v := .agg (reC 3 0 none 0 0 0 0 0).toArray) (by simp [results, Tryd.results57, go_sem, word, p0, p1, p2, p3, p4, p5, p6, p7, p8]) rfl ?_
  exact ⟨_, reC 3 0 none 0 0 0 0 0, i + 1, g, 0, rfl, Rt.leaf 3 0 0 0 0 0 (by decide), rdr9 h1 (by omega), by omega, tch_new T1 (tch9 (S := (· = w.heap.size)) (Tch.refl _ _) rfl) (fun b hb => by rw [hb]; exact Nat.le_refl _), Or.inl ⟨rfl, hI.out⟩⟩
set_option maxHeartbeats 3200000 in
set_option maxRecDepth 100000 in
theorem atom_dot (d R B : Nat) (s : ByteArray) (i g : Nat) (w : World) (h : Rdr w R s i g 0) (hRB : R < B) (hB : B ≤ w.heap.size) (hlt : i < s.size) (hs : s.size ≤ 200) (hgi : g ≤ i) (hc : (s[i]'hlt) = 46) :
    Calls Tryd.prog 57 #[pt R, .int .i64 (d : Nat)] w (PPost B R s w (atomP (grpP (64 - d)) (rest s i) g)) := by
  have hs2 : s.size ≤ 4611686018427387904 := by omega
  obtain ⟨SP, hSP⟩ : ∃ SP, atomP (grpP (64 - d)) (rest s i) g = SP := ⟨_, rfl⟩
  rw [hSP]
  obtain ⟨wa, hwa⟩ : ∃ z : World, z = w.alloc (.cells zC 28) := ⟨_, rfl⟩
  have ha : Rdr wa R s i g 0 := by rw [hwa]; exact h.alloc _
  have xa : Blk wa w.heap.size 28 zC := by rw [hwa]; exact Blk.new _ _ _
  have za : wa.heap.size = w.heap.size + 1 := by rw [hwa, World.size_alloc]
  have ta : Tch (On R) w wa := by rw [hwa]; exact (Tch.refl _ _).alloc _
  have hlR := h.lt
  have cp := peek_c R s ⟨#[42, 43, 63, 123]⟩ i g 0 wa ha
  have hE := rest_cons s i hlt
  rw [hE, rep_any] at cp
  have hn := fun W hW => next_ok R s i g W hW hlt hs2
  have cq := fun m => peek_c R s ⟨#[40]⟩ i g 0 (wa.drewN m) (ha.dn m)
  rw [hE] at cq
  rw [par_any] at cq
  have hq : (((s[i]'hlt) : UInt8) == 40) = false := by rw [hc]; rfl
  rw [hc, show isRep 46 = false from rfl] at cp
  rw [hc] at hn
  simp only [hq] at cq
  have hI : Hid (SP = .ok (.mk 1 allS [] 0 0 0, rest s (i + 1), g)) := Lib.hid (by rw [← hSP, hE, hc]; rfl)
  clear hSP hc hE hq
  go_enter Tryd.func57, Tryd.ntmps57
  go_wp2_with fail
  rw [← hwa]
  (with_reducible refine cp.mono ?_)
  rintro x wm ⟨rfl, m, rfl⟩
  have cq' := cq m
  clear cp hwa cq
  go_wp2_with fail
  (with_reducible refine cq'.mono ?_)
  rintro x wm ⟨rfl, m2, rfl⟩
  have cn := hn (wa.drewN (m + m2)) (ha.dn (m + m2))
  clear cq' hn
  go_wp2_with fail
  (with_reducible refine cn.mono ?_)
  rintro x w1 ⟨rfl, h1, t1⟩
  have x1 := (xa.drewN (m + m2)).tch t1 (show ¬ (w.heap.size = R) by omega)
  have T1 := (ta.drewN (m + m2)).trans t1
  have zz : (wa.drewN (m + m2)).heap.size = wa.heap.size := rfl
  have z1 := t1.size
  clear cn
  rw [show (((46 : UInt8).toNat : Nat) : Int) = 46 from rfl]
  have ck := not0_c w1
  have hS := all_lt
  generalize allS = S at *
  go_wp2_with fail
  (with_reducible refine ck.mono ?_)
  rintro x w2 ⟨rfl, hb2⟩
  have x2 := x1.next hb2
  have h2 := h1.next hb2
  have T2 := T1.trans (Tch.of_below hb2)
  clear ck
  have p0 := x2.cell 0
  have p1 := x2.cell 1
  have p2 := x2.cell 2
  have p3 := x2.cell 3
  have p4 := x2.cell 4
  have p5 := x2.cell 5
  have p6 := x2.cell 6
  have p7 := x2.cell 7
  have p8 := x2.cell 8
  simp only [List.getElem?_toArray, List.getElem?_cons_zero, List.getElem?_cons_succ] at p0 p1 p2 p3 p4 p5 p6 p7 p8
  have r0 := x2.loose 0
  have r1 := x2.loose 1
  have r2 := x2.loose 2
  have r3 := x2.loose 3
  have r4 := x2.loose 4
  have r5 := x2.loose 5
  have r6 := x2.loose 6
  have r7 := x2.loose 7
  have r8 := x2.loose 8
  go_wp2
  refine bodyPost_ret (v := .agg (reC 1 S none 0 0 0 0 0).toArray) (by simp [results, Tryd.results57, go_sem, p0, p1, p2, p3, p4, p5, p6, p7, p8]) rfl ?_
  exact ⟨_, reC 1 S none 0 0 0 0 0, i + 1, g, 0, rfl, Rt.leaf 1 S 0 0 0 0 hS, rdr9 h2 (by omega), by omega, tch_new T2 (tch9 (S := (· = w.heap.size)) (Tch.refl _ _) rfl) (fun b hb => by rw [hb]; exact Nat.le_refl _), Or.inl ⟨rfl, hI.out⟩⟩
theorem class_c (R : Nat) (s : ByteArray) (i g : Nat) (w : World) (h : Rdr w R s i g 0) (hi : i ≤ s.size) (hs : s.size ≤ 4611686018427387904) :
    Calls Tryd.prog 66 #[pt R] w (ClassPost s R i g w) := by
  by_cases hh : (rest s i).head? = some 94
  · exact class_not R s i g w h hi hs hh
  · exact class_plain R s i g w h hi hs hh
set_option maxHeartbeats 3200000 in
set_option maxRecDepth 100000 in
theorem atom_class (d R B : Nat) (s : ByteArray) (i g : Nat) (w : World) (h : Rdr w R s i g 0) (hRB : R < B) (hB : B ≤ w.heap.size) (hlt : i < s.size) (hs : s.size ≤ 200) (hgi : g ≤ i) (hc : (s[i]'hlt) = 91) :
    Calls Tryd.prog 57 #[pt R, .int .i64 (d : Nat)] w (PPost B R s w (atomP (grpP (64 - d)) (rest s i) g)) := by
  have hs2 : s.size ≤ 4611686018427387904 := by omega
  obtain ⟨SP, hSP⟩ : ∃ SP, atomP (grpP (64 - d)) (rest s i) g = SP := ⟨_, rfl⟩
  rw [hSP]
  obtain ⟨wa, hwa⟩ : ∃ z : World, z = w.alloc (.cells zC 28) := ⟨_, rfl⟩
  have ha : Rdr wa R s i g 0 := by rw [hwa]; exact h.alloc _
  have xa : Blk wa w.heap.size 28 zC := by rw [hwa]; exact Blk.new _ _ _
  have za : wa.heap.size = w.heap.size + 1 := by rw [hwa, World.size_alloc]
  have ta : Tch (On R) w wa := by rw [hwa]; exact (Tch.refl _ _).alloc _
  have hlR := h.lt
  have cp := peek_c R s ⟨#[42, 43, 63, 123]⟩ i g 0 wa ha
  have hE := rest_cons s i hlt
  rw [hE, rep_any] at cp
  have hn := fun W hW => next_ok R s i g W hW hlt hs2
  have cq := fun m => peek_c R s ⟨#[40]⟩ i g 0 (wa.drewN m) (ha.dn m)
  rw [hE] at cq
  rw [par_any] at cq
  have hq : (((s[i]'hlt) : UInt8) == 40) = false := by rw [hc]; rfl
  rw [hc, show isRep 91 = false from rfl] at cp
  rw [hc] at hn
  simp only [hq] at cq
  have hI : Hid (SP = match classP (rest s (i + 1)) with | .error e => .error e | .ok (s, r') => .ok (.mk 1 s [] 0 0 0, r', g)) := Lib.hid (by rw [← hSP, hE, hc]; rfl)
  clear hSP hc hE hq
  go_enter Tryd.func57, Tryd.ntmps57
  go_wp2_with fail
  rw [← hwa]
  (with_reducible refine cp.mono ?_)
  rintro x wm ⟨rfl, m, rfl⟩
  have cq' := cq m
  clear cp hwa cq
  go_wp2_with fail
  (with_reducible refine cq'.mono ?_)
  rintro x wm ⟨rfl, m2, rfl⟩
  have cn := hn (wa.drewN (m + m2)) (ha.dn (m + m2))
  clear cq' hn
  go_wp2_with fail
  (with_reducible refine cn.mono ?_)
  rintro x w1 ⟨rfl, h1, t1⟩
  have x1 := (xa.drewN (m + m2)).tch t1 (show ¬ (w.heap.size = R) by omega)
  have T1 := (ta.drewN (m + m2)).trans t1
  have zz : (wa.drewN (m + m2)).heap.size = wa.heap.size := rfl
  have z1 := t1.size
  clear cn
  rw [show (((91 : UInt8).toNat : Nat) : Int) = 91 from rfl]
  have ck := class_c R s (i + 1) g w1 h1 (by omega) hs2
  go_wp2_with fail
  (with_reducible refine ck.mono ?_)
  rintro x w2 ⟨S, k, e, rfl, hS, h2, hk, t2, hsp⟩
  have x2 := x1.tch t2 (show ¬ (w.heap.size = R) by omega)
  have T2 := T1.trans t2
  have HSP := Lib.hid hsp
  clear ck hsp
  have p0 := x2.cell 0
  have p1 := x2.cell 1
  have p2 := x2.cell 2
  have p3 := x2.cell 3
  have p4 := x2.cell 4
  have p5 := x2.cell 5
  have p6 := x2.cell 6
  have p7 := x2.cell 7
  have p8 := x2.cell 8
  simp only [List.getElem?_toArray, List.getElem?_cons_zero, List.getElem?_cons_succ] at p0 p1 p2 p3 p4 p5 p6 p7 p8
  have r0 := x2.loose 0
  have r1 := x2.loose 1
  have r2 := x2.loose 2
  have r3 := x2.loose 3
  have r4 := x2.loose 4
  have r5 := x2.loose 5
  have r6 := x2.loose 6
  have r7 := x2.loose 7
  have r8 := x2.loose 8
  go_wp2
  refine bodyPost_ret (v := .agg (reC 1 S none 0 0 0 0 0).toArray) (by simp [results, Tryd.results57, go_sem, p0, p1, p2, p3, p4, p5, p6, p7, p8]) rfl ?_
  refine ⟨_, reC 1 S none 0 0 0 0 0, k, g, e, rfl, Rt.leaf 1 S 0 0 0 0 hS, rdr9 h2 (by omega), hk, tch_new T2 (tch9 (S := (· = w.heap.size)) (Tch.refl _ _) rfl) (fun b hb => by rw [hb]; exact Nat.le_refl _), ?_⟩
  rw [hI.out]
  rcases HSP.out with ⟨h3, h4⟩ | ⟨h3, h4⟩
  · exact Or.inl ⟨h3, by rw [h4]⟩
  · exact Or.inr ⟨by omega, by rw [h4, h3]⟩
set_option maxHeartbeats 3200000 in
set_option maxRecDepth 100000 in
theorem atom_stroke (d R B : Nat) (s : ByteArray) (i g : Nat) (w : World) (h : Rdr w R s i g 0) (hRB : R < B) (hB : B ≤ w.heap.size) (hlt : i < s.size) (hs : s.size ≤ 200) (hgi : g ≤ i) (hc : (s[i]'hlt) = 92) (hl2 : i + 1 < s.size) :
    Calls Tryd.prog 57 #[pt R, .int .i64 (d : Nat)] w (PPost B R s w (atomP (grpP (64 - d)) (rest s i) g)) := by
  have hs2 : s.size ≤ 4611686018427387904 := by omega
  obtain ⟨SP, hSP⟩ : ∃ SP, atomP (grpP (64 - d)) (rest s i) g = SP := ⟨_, rfl⟩
  rw [hSP]
  obtain ⟨wa, hwa⟩ : ∃ z : World, z = w.alloc (.cells zC 28) := ⟨_, rfl⟩
  have ha : Rdr wa R s i g 0 := by rw [hwa]; exact h.alloc _
  have xa : Blk wa w.heap.size 28 zC := by rw [hwa]; exact Blk.new _ _ _
  have za : wa.heap.size = w.heap.size + 1 := by rw [hwa, World.size_alloc]
  have ta : Tch (On R) w wa := by rw [hwa]; exact (Tch.refl _ _).alloc _
  have hlR := h.lt
  have cp := peek_c R s ⟨#[42, 43, 63, 123]⟩ i g 0 wa ha
  have hE := rest_cons s i hlt
  rw [hE, rep_any] at cp
  have hn := fun W hW => next_ok R s i g W hW hlt hs2
  have cq := fun m => peek_c R s ⟨#[40]⟩ i g 0 (wa.drewN m) (ha.dn m)
  rw [hE] at cq
  rw [par_any] at cq
  have hq : (((s[i]'hlt) : UInt8) == 40) = false := by rw [hc]; rfl
  rw [hc, show isRep 92 = false from rfl] at cp
  rw [hc] at hn
  simp only [hq] at cq
  have hI : Hid (SP = .ok (.mk 1 (oneS (s[i + 1]'hl2).toNat) [] 0 0 0, rest s (i + 1 + 1), g)) := Lib.hid (by rw [← hSP, hE, hc, rest_cons s (i + 1) hl2]; rfl)
  have hn2 := fun W hW => next_ok R s (i + 1) g W hW hl2 hs2
  have co := fun W => one_c (s[i + 1]'hl2) W
  have hS := one_lt (lt_256 (s[i + 1]'hl2))
  generalize (s[i + 1]'hl2) = c2 at *
  clear hSP hc hE hq
  go_enter Tryd.func57, Tryd.ntmps57
  go_wp2_with fail
  rw [← hwa]
  (with_reducible refine cp.mono ?_)
  rintro x wm ⟨rfl, m, rfl⟩
  have cq' := cq m
  clear cp hwa cq
  go_wp2_with fail
  (with_reducible refine cq'.mono ?_)
  rintro x wm ⟨rfl, m2, rfl⟩
  have cn := hn (wa.drewN (m + m2)) (ha.dn (m + m2))
  clear cq' hn
  go_wp2_with fail
  (with_reducible refine cn.mono ?_)
  rintro x w1 ⟨rfl, h1, t1⟩
  have x1 := (xa.drewN (m + m2)).tch t1 (show ¬ (w.heap.size = R) by omega)
  have T1 := (ta.drewN (m + m2)).trans t1
  have zz : (wa.drewN (m + m2)).heap.size = wa.heap.size := rfl
  have z1 := t1.size
  clear cn
  rw [show (((92 : UInt8).toNat : Nat) : Int) = 92 from rfl]
  have cn2 := hn2 w1 h1
  clear hn2
  go_wp2_with fail
  (with_reducible refine cn2.mono ?_)
  rintro x w2 ⟨rfl, h2, t2⟩
  have x2 := x1.tch t2 (show ¬ (w.heap.size = R) by omega)
  have T2 := T1.trans t2
  have z2 := t2.size
  have co2 := co w2
  generalize oneS c2.toNat = S at *
  clear cn2 co
  go_wp2_with fail
  (with_reducible refine co2.mono ?_)
  rintro x w3 ⟨rfl, hb3⟩
  have x3 := x2.next hb3
  have h3 := h2.next hb3
  have T3 := T2.trans (Tch.of_below hb3)
  clear co2
  have p0 := x3.cell 0
  have p1 := x3.cell 1
  have p2 := x3.cell 2
  have p3 := x3.cell 3
  have p4 := x3.cell 4
  have p5 := x3.cell 5
  have p6 := x3.cell 6
  have p7 := x3.cell 7
  have p8 := x3.cell 8
  simp only [List.getElem?_toArray, List.getElem?_cons_zero, List.getElem?_cons_succ] at p0 p1 p2 p3 p4 p5 p6 p7 p8
  have r0 := x3.loose 0
  have r1 := x3.loose 1
  have r2 := x3.loose 2
  have r3 := x3.loose 3
  have r4 := x3.loose 4
  have r5 := x3.loose 5
  have r6 := x3.loose 6
  have r7 := x3.loose 7
  have r8 := x3.loose 8
  go_wp2
  refine bodyPost_ret (v := .agg (reC 1 S none 0 0 0 0 0).toArray) (by simp [results, Tryd.results57, go_sem, p0, p1, p2, p3, p4, p5, p6, p7, p8]) rfl ?_
  exact ⟨_, reC 1 S none 0 0 0 0 0, i + 1 + 1, g, 0, rfl, Rt.leaf 1 S 0 0 0 0 hS, rdr9 h3 (by omega), by omega, tch_new T3 (tch9 (S := (· = w.heap.size)) (Tch.refl _ _) rfl) (fun b hb => by rw [hb]; exact Nat.le_refl _), Or.inl ⟨rfl, hI.out⟩⟩
set_option maxHeartbeats 3200000 in
set_option maxRecDepth 100000 in
theorem atom_stroke_end (d R B : Nat) (s : ByteArray) (i g : Nat) (w : World) (h : Rdr w R s i g 0) (hRB : R < B) (hB : B ≤ w.heap.size) (hlt : i < s.size) (hs : s.size ≤ 200) (hgi : g ≤ i) (hc : (s[i]'hlt) = 92) (hl2 : ¬ i + 1 < s.size) :
    Calls Tryd.prog 57 #[pt R, .int .i64 (d : Nat)] w (PPost B R s w (atomP (grpP (64 - d)) (rest s i) g)) := by
  have hs2 : s.size ≤ 4611686018427387904 := by omega
  obtain ⟨SP, hSP⟩ : ∃ SP, atomP (grpP (64 - d)) (rest s i) g = SP := ⟨_, rfl⟩
  rw [hSP]
  obtain ⟨wa, hwa⟩ : ∃ z : World, z = w.alloc (.cells zC 28) := ⟨_, rfl⟩
  have ha : Rdr wa R s i g 0 := by rw [hwa]; exact h.alloc _
  have xa : Blk wa w.heap.size 28 zC := by rw [hwa]; exact Blk.new _ _ _
  have za : wa.heap.size = w.heap.size + 1 := by rw [hwa, World.size_alloc]
  have ta : Tch (On R) w wa := by rw [hwa]; exact (Tch.refl _ _).alloc _
  have hlR := h.lt
  have cp := peek_c R s ⟨#[42, 43, 63, 123]⟩ i g 0 wa ha
  have hE := rest_cons s i hlt
  rw [hE, rep_any] at cp
  have hn := fun W hW => next_ok R s i g W hW hlt hs2
  have cq := fun m => peek_c R s ⟨#[40]⟩ i g 0 (wa.drewN m) (ha.dn m)
  rw [hE] at cq
  rw [par_any] at cq
  have hq : (((s[i]'hlt) : UInt8) == 40) = false := by rw [hc]; rfl
  rw [hc, show isRep 92 = false from rfl] at cp
  rw [hc] at hn
  simp only [hq] at cq
  have hI : Hid (SP = .error (rest s (i + 1), 1)) := Lib.hid (by rw [← hSP, hE, hc, rest_nil s (i + 1) (by omega)]; rfl)
  have hn2 := fun W hW => next_no R s (i + 1) g 0 W hW (Or.inr (by omega))
  have co := fun W => one_c 0 W
  have hS := one_lt (lt_256 0)
  clear hSP hc hE hq
  go_enter Tryd.func57, Tryd.ntmps57
  go_wp2_with fail
  rw [← hwa]
  (with_reducible refine cp.mono ?_)
  rintro x wm ⟨rfl, m, rfl⟩
  have cq' := cq m
  clear cp hwa cq
  go_wp2_with fail
  (with_reducible refine cq'.mono ?_)
  rintro x wm ⟨rfl, m2, rfl⟩
  have cn := hn (wa.drewN (m + m2)) (ha.dn (m + m2))
  clear cq' hn
  go_wp2_with fail
  (with_reducible refine cn.mono ?_)
  rintro x w1 ⟨rfl, h1, t1⟩
  have x1 := (xa.drewN (m + m2)).tch t1 (show ¬ (w.heap.size = R) by omega)
  have T1 := (ta.drewN (m + m2)).trans t1
  have zz : (wa.drewN (m + m2)).heap.size = wa.heap.size := rfl
  have z1 := t1.size
  clear cn
  rw [show (((92 : UInt8).toNat : Nat) : Int) = 92 from rfl]
  have cn2 := hn2 w1 h1
  clear hn2
  go_wp2_with fail
  (with_reducible refine cn2.mono ?_)
  rintro x w2 ⟨rfl, h2, t2⟩
  have x2 := x1.tch t2 (show ¬ (w.heap.size = R) by omega)
  have T2 := T1.trans t2
  have z2 := t2.size
  have co2 := co w2
  rw [show (((0 : UInt8).toNat : Nat) : Int) = 0 from rfl] at co2
  generalize oneS (0 : UInt8).toNat = S at *
  clear cn2 co
  go_wp2_with fail
  (with_reducible refine co2.mono ?_)
  rintro x w3 ⟨rfl, hb3⟩
  have x3 := x2.next hb3
  have h3 := h2.next hb3
  have T3 := T2.trans (Tch.of_below hb3)
  clear co2
  have p0 := x3.cell 0
  have p1 := x3.cell 1
  have p2 := x3.cell 2
  have p3 := x3.cell 3
  have p4 := x3.cell 4
  have p5 := x3.cell 5
  have p6 := x3.cell 6
  have p7 := x3.cell 7
  have p8 := x3.cell 8
  simp only [List.getElem?_toArray, List.getElem?_cons_zero, List.getElem?_cons_succ] at p0 p1 p2 p3 p4 p5 p6 p7 p8
  have r0 := x3.loose 0
  have r1 := x3.loose 1
  have r2 := x3.loose 2
  have r3 := x3.loose 3
  have r4 := x3.loose 4
  have r5 := x3.loose 5
  have r6 := x3.loose 6
  have r7 := x3.loose 7
  have r8 := x3.loose 8
  go_wp2
  refine bodyPost_ret (v := .agg (reC 1 S none 0 0 0 0 0).toArray) (by simp [results, Tryd.results57, go_sem, p0, p1, p2, p3, p4, p5, p6, p7, p8]) rfl ?_
  exact ⟨_, reC 1 S none 0 0 0 0 0, i + 1, g, 1, rfl, Rt.leaf 1 S 0 0 0 0 hS, rdr9 h3 (by omega), by omega, tch_new T3 (tch9 (S := (· = w.heap.size)) (Tch.refl _ _) rfl) (fun b hb => by rw [hb]; exact Nat.le_refl _), Or.inr ⟨by decide, hI.out⟩⟩
set_option maxHeartbeats 3200000 in
set_option maxRecDepth 100000 in
theorem atom_other (d R B : Nat) (s : ByteArray) (i g : Nat) (w : World) (h : Rdr w R s i g 0) (hRB : R < B) (hB : B ≤ w.heap.size) (hlt : i < s.size) (hs : s.size ≤ 200) (hgi : g ≤ i) (c1 : isRep (s[i]'hlt) = false) (c2 : ((s[i]'hlt) == 40) = false) (c3 : ((s[i]'hlt) == 91) = false) (c4 : ((s[i]'hlt) == 46) = false) (c5 : ((s[i]'hlt) == 94) = false) (c6 : ((s[i]'hlt) == 36) = false) (c7 : ((s[i]'hlt) == 92) = false) :
    Calls Tryd.prog 57 #[pt R, .int .i64 (d : Nat)] w (PPost B R s w (atomP (grpP (64 - d)) (rest s i) g)) := by
  have hs2 : s.size ≤ 4611686018427387904 := by omega
  obtain ⟨SP, hSP⟩ : ∃ SP, atomP (grpP (64 - d)) (rest s i) g = SP := ⟨_, rfl⟩
  rw [hSP]
  obtain ⟨wa, hwa⟩ : ∃ z : World, z = w.alloc (.cells zC 28) := ⟨_, rfl⟩
  have ha : Rdr wa R s i g 0 := by rw [hwa]; exact h.alloc _
  have xa : Blk wa w.heap.size 28 zC := by rw [hwa]; exact Blk.new _ _ _
  have za : wa.heap.size = w.heap.size + 1 := by rw [hwa, World.size_alloc]
  have ta : Tch (On R) w wa := by rw [hwa]; exact (Tch.refl _ _).alloc _
  have hlR := h.lt
  have cp := peek_c R s ⟨#[42, 43, 63, 123]⟩ i g 0 wa ha
  have hE := rest_cons s i hlt
  rw [hE, rep_any] at cp
  have hn := fun W hW => next_ok R s i g W hW hlt hs2
  have cq := fun m => peek_c R s ⟨#[40]⟩ i g 0 (wa.drewN m) (ha.dn m)
  rw [hE] at cq
  rw [par_any] at cq
  generalize hc : (s[i]'hlt) = c at *
  clear hc h
  have hI : Hid (SP = .ok (.mk 1 (oneS c.toNat) [] 0 0 0, rest s (i + 1), g)) := Lib.hid (by rw [← hSP, hE, atomP.eq_def]; simp only [c1, c2, c3, c4, c5, c6, c7]; rfl)
  rw [c1] at cp
  simp only [c2] at cq
  have b2 := byte_ne (k := 40) (by decide) c2
  have b3 := byte_ne (k := 91) (by decide) c3
  have b4 := byte_ne (k := 46) (by decide) c4
  have b5 := byte_ne (k := 94) (by decide) c5
  have b6 := byte_ne (k := 36) (by decide) c6
  have b7 := byte_ne (k := 92) (by decide) c7
  have b2' : ((c.toNat : Int) == 40) = false := b2
  have b3' : ((c.toNat : Int) == 91) = false := b3
  have b4' : ((c.toNat : Int) == 46) = false := b4
  have b5' : ((c.toNat : Int) == 94) = false := b5
  have b6' : ((c.toNat : Int) == 36) = false := b6
  have b7' : ((c.toNat : Int) == 92) = false := b7
  have co := fun W => one_c c W
  have hS := one_lt (lt_256 c)
  clear hSP hE c1 c2 c3 c4 c5 c6 c7 b2 b3 b4 b5 b6 b7
  go_enter Tryd.func57, Tryd.ntmps57
  go_wp2_with fail
  rw [← hwa]
  (with_reducible refine cp.mono ?_)
  rintro x wm ⟨rfl, m, rfl⟩
  have cq' := cq m
  clear cp hwa cq
  go_wp2_with fail
  (with_reducible refine cq'.mono ?_)
  rintro x wm ⟨rfl, m2, rfl⟩
  have cn := hn (wa.drewN (m + m2)) (ha.dn (m + m2))
  clear cq' hn
  go_wp2_with fail
  (with_reducible refine cn.mono ?_)
  rintro x w1 ⟨rfl, h1, t1⟩
  have x1 := (xa.drewN (m + m2)).tch t1 (show ¬ (w.heap.size = R) by omega)
  have T1 := (ta.drewN (m + m2)).trans t1
  have zz : (wa.drewN (m + m2)).heap.size = wa.heap.size := rfl
  have z1 := t1.size
  clear cn
  have co2 := co w1
  generalize oneS c.toNat = S at *
  clear co
  go_wp2_with fail
  (with_reducible refine co2.mono ?_)
  rintro x w3 ⟨rfl, hb3⟩
  have x3 := x1.next hb3
  have h3 := h1.next hb3
  have T3 := T1.trans (Tch.of_below hb3)
  clear co2
  have p0 := x3.cell 0
  have p1 := x3.cell 1
  have p2 := x3.cell 2
  have p3 := x3.cell 3
  have p4 := x3.cell 4
  have p5 := x3.cell 5
  have p6 := x3.cell 6
  have p7 := x3.cell 7
  have p8 := x3.cell 8
  simp only [List.getElem?_toArray, List.getElem?_cons_zero, List.getElem?_cons_succ] at p0 p1 p2 p3 p4 p5 p6 p7 p8
  have r0 := x3.loose 0
  have r1 := x3.loose 1
  have r2 := x3.loose 2
  have r3 := x3.loose 3
  have r4 := x3.loose 4
  have r5 := x3.loose 5
  have r6 := x3.loose 6
  have r7 := x3.loose 7
  have r8 := x3.loose 8
  go_wp2
  refine bodyPost_ret (v := .agg (reC 1 S none 0 0 0 0 0).toArray) (by simp [results, Tryd.results57, go_sem, p0, p1, p2, p3, p4, p5, p6, p7, p8]) rfl ?_
  exact ⟨_, reC 1 S none 0 0 0 0 0, i + 1, g, 0, rfl, Rt.leaf 1 S 0 0 0 0 hS, rdr9 h3 (by omega), by omega, tch_new T3 (tch9 (S := (· = w.heap.size)) (Tch.refl _ _) rfl) (fun b hb => by rw [hb]; exact Nat.le_refl _), Or.inl ⟨rfl, hI.out⟩⟩
theorem atom_c (d R B : Nat) (s : ByteArray) (i g : Nat) (w : World) (h : Rdr w R s i g 0) (hRB : R < B) (hB : B ≤ w.heap.size) (hlt : i < s.size) (hs : s.size ≤ 200) (hgi : g ≤ i) (hd : d ≤ 64) (hG : d < 64 → GrpC d) :
    Calls Tryd.prog 57 #[pt R, .int .i64 (d : Nat)] w (PPost B R s w (atomP (grpP (64 - d)) (rest s i) g)) := by
  cases c1 : isRep (s[i]'hlt)
  rotate_left
  · exact atom_rep d R B s i g w h hRB hB hlt hs hgi c1
  by_cases c2 : (s[i]'hlt) = 40
  · by_cases hd2 : d < 64
    · exact atom_group d R B s i g w h hRB hB hlt hs hgi c2 hd2 (hG hd2)
    · exact atom_deep d R B s i g w h hRB hB hlt hs hgi c2 (by omega)
  by_cases c3 : (s[i]'hlt) = 91
  · exact atom_class d R B s i g w h hRB hB hlt hs hgi c3
  by_cases c4 : (s[i]'hlt) = 46
  · exact atom_dot d R B s i g w h hRB hB hlt hs hgi c4
  by_cases c5 : (s[i]'hlt) = 94
  · exact atom_begin d R B s i g w h hRB hB hlt hs hgi c5
  by_cases c6 : (s[i]'hlt) = 36
  · exact atom_end d R B s i g w h hRB hB hlt hs hgi c6
  by_cases c7 : (s[i]'hlt) = 92
  · by_cases hl2 : i + 1 < s.size
    · exact atom_stroke d R B s i g w h hRB hB hlt hs hgi c7 hl2
    · exact atom_stroke_end d R B s i g w h hRB hB hlt hs hgi c7 hl2
  · exact atom_other d R B s i g w h hRB hB hlt hs hgi c1 (by simpa using c2) (by simpa using c3) (by simpa using c4) (by simpa using c5) (by simpa using c6) (by simpa using c7)
end EreX
end Go.Proofs.YtdonokghemhfiaaDoor
