/- The walk of the expression reader's group; alt at every depth. Conditions: texts that fit. -/
import Derived.Test.YtdonokghemhfiaaDoorEreA
namespace Go.Proofs.YtdonokghemhfiaaDoor
set_option linter.unusedVariables false
set_option linter.unusedSimpArgs false
open Go.RowKit
namespace EreX
open EreP EreW
theorem grpF_eq (d : Nat) (hd : d < 64) (l : Bs) (g : Nat) : grpF d l g = match altP (grpP (64 - (d + 1))) (l.length + 1) [] l (g + 1) with
    | .error e => .error e
    | .ok (x, r', g') => match r' with
      | [] => .error ([], 1)
      | c :: r2 => if c == 41 then .ok (.mk 7 0 [x] 0 0 (numG g), r2, g') else .error (c :: r2, 1) := by
  obtain ⟨D, hD⟩ : ∃ D, 64 - d = D + 1 := ⟨63 - d, by omega⟩
  have h2 : 64 - (d + 1) = D := by omega
  unfold grpF
  rw [hD, h2]; rfl
theorem shut (R : Nat) (s : ByteArray) (k g e : Nat) (w : World) (h : Rdr w R s k g e) (hk : k ≤ s.size) (hs : s.size ≤ 200) {SP : R3 Re} {y : Re}
    (hsp : (e = 0 ∧ SP = match rest s k with | [] => .error ([], 1) | c :: r2 => if c == 41 then .ok (y, r2, g) else .error (c :: r2, 1)) ∨ (e ≠ 0 ∧ SP = .error (rest s k, e))) :
    Calls Tryd.prog 68 #[pt R, .string ⟨#[41]⟩] w fun x w' => (∃ c : Nat, x = .returned (.int .u8 c)) ∧ ∃ k2 e2, Rdr w' R s k2 g e2 ∧ k2 ≤ s.size ∧ Tch (On R) w w' ∧
      ((e2 = 0 ∧ SP = .ok (y, rest s k2, g)) ∨ (e2 ≠ 0 ∧ SP = .error (rest s k2, e2))) := by
  rcases hsp with ⟨rfl, hsp⟩ | ⟨he, hsp⟩
  · refine (need_one R s k g 41 w h (by omega)).mono ?_
    rintro x w' ⟨hc, hh, ht⟩
    refine ⟨hc, ?_⟩
    rcases hh with ⟨hlt, hc, hr⟩ | ⟨hno, hr⟩
    · refine ⟨k + 1, 0, hr, by omega, ht, Or.inl ⟨rfl, ?_⟩⟩
      rw [hsp, rest_cons s k hlt]; simp [hc]
    · refine ⟨k, 1, hr, hk, ht, Or.inr ⟨by decide, ?_⟩⟩
      rw [hsp]
      cases hr2 : rest s k with
      | nil => rfl
      | cons c r2 =>
        have : ¬ c = 41 := fun e => hno (by rw [hr2, e]; rfl)
        simp [this]
  · have hp : peekB (⟨#[41]⟩ : ByteArray).data.toList (rest s k) e = false := by unfold peekB; rw [show (e == 0) = false by rw [beq_eq_false_iff_ne]; exact he]; rfl
    refine (need_no R s ⟨#[41]⟩ k g e w h hp).mono ?_
    rintro x w' ⟨hc, hr, ht⟩
    refine ⟨⟨0, hc⟩, k, e, ?_, hk, ht, Or.inr ⟨he, hsp⟩⟩
    have : failS 1 e = e := by unfold failS; rw [if_neg he]
    rw [this] at hr; exact hr
set_option maxHeartbeats 6400000 in
set_option maxRecDepth 100000 in
theorem group_c (d : Nat) (hd : d < 64) (hAlt : AltC (d + 1)) : GrpC d := by
  intro R B s i g w h hRB hB hi hs hgi
  have hs2 : s.size ≤ 4611686018427387904 := by omega
  obtain ⟨SP, hSP⟩ : ∃ SP, grpF d (rest s i) g = SP := ⟨_, rfl⟩
  obtain ⟨wa, hwa⟩ : ∃ z : World, z = (w.setCell ⟨R, 2, none⟩ (.int .i64 ((g : Int) + 1))).alloc (.cells zC 28) := ⟨_, rfl⟩
  have hlR := h.lt
  have ha : Rdr wa R s i (g + 1) 0 := by rw [hwa]; exact (h.setG (g + 1)).alloc _
  have xa : Blk wa w.heap.size 28 zC := by rw [hwa]; have := Blk.new (w.setCell ⟨R, 2, none⟩ (.int .i64 ((g : Int) + 1))) 28 zC; rwa [show (w.setCell ⟨R, 2, none⟩ (.int .i64 ((g : Int) + 1))).heap.size = w.heap.size by simp [World.setCell]] at this
  have za : wa.heap.size = w.heap.size + 1 := by rw [hwa]; simp [World.setCell]
  have ta : Tch (On R) w wa := by rw [hwa]; exact (Tch.setCell (S := On R) (Tch.refl _ _) (p := ⟨R, 2, none⟩) rfl _).alloc _
  have ct := hAlt R wa.heap.size s i (g + 1) wa ha ha.lt (Nat.le_refl _) hi hs hgi
  have hsp0 := grpF_eq d hd (rest s i) g
  rw [hSP] at hsp0 ⊢
  rw [show (((d + 1 : Nat) : Int)) = (d : Int) + 1 from rfl] at ct
  have HSP := Lib.hid hsp0
  obtain ⟨k0, k1, k2, k3⟩ := h.cells
  have f0 := h.free 0
  have f1 := h.free 1
  have f2 := h.free 2
  have f3 := h.free 3
  have l2 := ha.cells.2.2.1
  rw [show (((g + 1 : Nat) : Int)) = (g : Int) + 1 from rfl] at l2
  clear hSP hsp0
  obtain ⟨NN, hNN⟩ : ∃ NN : Int, NN = numG g := ⟨_, rfl⟩
  have hn : (decide ((9 : Int) < (g : Int) + 1) = true ∧ NN = 0) ∨ (decide ((9 : Int) < (g : Int) + 1) = false ∧ (g : Int) + 1 = NN) := by
    unfold numG at hNN
    by_cases h9 : 9 < g + 1
    · left; rw [if_pos h9] at hNN; exact ⟨by simp; omega, hNN⟩
    · right; rw [if_neg h9] at hNN; exact ⟨by simp; omega, hNN.symm⟩
  have HNN := Lib.hid hNN
  clear hNN
  rcases hn with ⟨h9, hN⟩ | ⟨h9, hN⟩
  · obtain rfl := hN
    go_enter Tryd.func65, Tryd.ntmps65
    go_wp2_with fail
    rw [← hwa]
    clear hwa k0 k1 k2 k3 f0 f1 f2 f3 h
    (with_reducible refine ct.mono ?_)
    rintro x w1 ⟨r, cs, k, g', e, rfl, hrt, h1, hk, t1, hsp⟩
    have x1 := xa.tch t1 (show ¬ (w.heap.size = R) by omega)
    have T1 := ta.trans t1
    have z1 := t1.size
    obtain ⟨A, c, rfl, hS, hnil⟩ := hrt.shape
    have HRT := Lib.hid hrt.lt_
    clear ct hrt hnil hS xa ha l2
    generalize hk0 : r.kind = k0 at *
    generalize hk1 : r.set = k1 at *
    generalize hk2 : r.kids.length = k2 at *
    generalize hk3 : r.lo = k3 at *
    generalize hk4 : r.hi = k4 at *
    generalize hk5 : r.n = k5 at *
    clear hk0 hk1 hk2 hk3 hk4 hk5
    obtain ⟨wb, hwb⟩ : ∃ z : World, z = w1.alloc (.cells (reC k0 k1 A k2 c k3 k4 k5).toArray 28) := ⟨_, rfl⟩
    have h2 : Rdr wb R s k g' e := by rw [hwb]; exact h1.alloc _
    have x2 : Blk wb w.heap.size 28 zC := by rw [hwb]; exact x1.alloc _
    have b2 : Blk wb w1.heap.size 28 (reC k0 k1 A k2 c k3 k4 k5).toArray := by rw [hwb]; exact Blk.new _ _ _
    have T2 : Tch (On R) w wb := by rw [hwb]; exact T1.alloc _
    have N2 : Tch (· = w.heap.size) w1 wb := by rw [hwb]; exact (Tch.refl _ _).alloc _
    have z2 : w1.heap.size < wb.heap.size := by rw [hwb, World.size_alloc]; omega
    have hs3 : (e = 0 ∧ SP = match rest s k with | [] => .error ([], 1) | c :: r2 => if c == 41 then .ok (.mk 7 0 [r] 0 0 0, r2, g') else .error (c :: r2, 1)) ∨ (e ≠ 0 ∧ SP = .error (rest s k, e)) := by
      rw [HSP.out, HNN.out]
      rcases hsp with ⟨h3, h4⟩ | ⟨h3, h4⟩
      · left; rw [h4]; exact ⟨h3, rfl⟩
      · right; rw [h4]; exact ⟨h3, rfl⟩
    have cn := shut R s k g' e wb h2 hk hs hs3
    clear hs3 hsp h2 h1 x1
    go_wp2_with fail
    rw [← hwb]
    clear hwb
    obtain ⟨XB, hXB⟩ : ∃ XB, XB = w1.heap.size := ⟨_, rfl⟩
    rw [← hXB] at b2 z2 ⊢
    have hXBa : w1.heap.size ≤ XB := by omega
    clear hXB
    (with_reducible refine cn.mono ?_)
    rintro x wc ⟨⟨ch, rfl⟩, k6, e6, h3, hk6, t3, hs6⟩
    have x3 := x2.tch t3 (show ¬ (w.heap.size = R) by omega)
    have b3 := b2.tch t3 (show ¬ (XB = R) by omega)
    have T3 := T2.trans t3
    have z3 := t3.size
    have HRT3 := Lib.hid ((HRT.out.tch N2 (fun b hb e => by omega)).tch t3 (fun b hb e => by have e2 : b = R := e; omega))
    have HS6 := Lib.hid hs6
    clear cn hs6 x2 b2 N2 HRT
    have q0 := b3.cell 0
    have q1 := b3.cell 1
    have q2 := b3.cell 2
    have q3 := b3.cell 3
    have q4 := b3.cell 4
    have q5 := b3.cell 5
    have q6 := b3.cell 6
    have q7 := b3.cell 7
    have q8 := b3.cell 8
    simp only [List.getElem?_toArray, List.getElem?_cons_zero, List.getElem?_cons_succ] at q0 q1 q2 q3 q4 q5 q6 q7 q8
    have x5 := x3.alloc (.cells (reC k0 k1 A k2 c k3 k4 k5).toArray 28)
    have p0 := x5.cell 0
    have p1 := x5.cell 1
    have p2 := x5.cell 2
    have p3 := x5.cell 3
    have p4 := x5.cell 4
    have p5 := x5.cell 5
    have p6 := x5.cell 6
    have p7 := x5.cell 7
    have p8 := x5.cell 8
    simp only [List.getElem?_toArray, List.getElem?_cons_zero, List.getElem?_cons_succ] at p0 p1 p2 p3 p4 p5 p6 p7 p8
    have r0 := x5.loose 0
    have r1 := x5.loose 1
    have r2 := x5.loose 2
    have r3 := x5.loose 3
    have r4 := x5.loose 4
    have r5 := x5.loose 5
    have r6 := x5.loose 6
    have r7 := x5.loose 7
    have r8 := x5.loose 8
    have fin : ∀ W, Tch (fun b => b = w.heap.size) (wc.alloc (.cells (reC k0 k1 A k2 c k3 k4 k5).toArray 28)) W → Rdr W R s k6 g' e6 → PPost B R s w SP (.returned (.agg ([.int .i64 7, .int .u64 0, .int .u64 0, .int .u64 0, .int .u64 0, .slice (some ⟨wc.heap.size, 0, none⟩) 1 1, .int .i64 0, .int .i64 0, .int .i64 0] : List Value).toArray)) W := fun W hT hr =>
      ⟨.mk 7 0 [r] 0 0 0, (reC 7 0 (some ⟨wc.heap.size, 0, none⟩) 1 1 0 0 0), k6, g', e6, rfl, one_kid (tree_k HRT3.out ((Tch.refl _ _).alloc _ |>.trans hT) (fun b hb e => by omega) (fun b hb => by omega)) ((Blk.new _ _ _).tch hT (by omega)) (by omega) 7 0 0 0 1, hr, hk6, tch_new (T3.alloc _) hT (fun b hb => by omega), HS6.out⟩
    have FIN := Lib.hid fin
    clear fin
    go_wp2
    refine bodyPost_ret (v := .agg (([.int .i64 7, .int .u64 0, .int .u64 0, .int .u64 0, .int .u64 0, .slice (some ⟨wc.heap.size, 0, none⟩) 1 1, .int .i64 0, .int .i64 0, .int .i64 0] : List Value)).toArray) (by simp [results, Tryd.results65, go_sem, p0, p1, p2, p3, p4, p5, p6, p7, p8]) rfl ?_
    exact FIN.out _ (tch9 (X := w.heap.size) (Tch.refl _ _) rfl) (rdr9 (h3.alloc _) (by omega))
  · obtain rfl := hN
    go_enter Tryd.func65, Tryd.ntmps65
    go_wp2_with fail
    rw [← hwa]
    clear hwa k0 k1 k2 k3 f0 f1 f2 f3 h
    (with_reducible refine ct.mono ?_)
    rintro x w1 ⟨r, cs, k, g', e, rfl, hrt, h1, hk, t1, hsp⟩
    have x1 := xa.tch t1 (show ¬ (w.heap.size = R) by omega)
    have T1 := ta.trans t1
    have z1 := t1.size
    obtain ⟨A, c, rfl, hS, hnil⟩ := hrt.shape
    have HRT := Lib.hid hrt.lt_
    clear ct hrt hnil hS xa ha l2
    generalize hk0 : r.kind = k0 at *
    generalize hk1 : r.set = k1 at *
    generalize hk2 : r.kids.length = k2 at *
    generalize hk3 : r.lo = k3 at *
    generalize hk4 : r.hi = k4 at *
    generalize hk5 : r.n = k5 at *
    clear hk0 hk1 hk2 hk3 hk4 hk5
    obtain ⟨wb, hwb⟩ : ∃ z : World, z = w1.alloc (.cells (reC k0 k1 A k2 c k3 k4 k5).toArray 28) := ⟨_, rfl⟩
    have h2 : Rdr wb R s k g' e := by rw [hwb]; exact h1.alloc _
    have x2 : Blk wb w.heap.size 28 zC := by rw [hwb]; exact x1.alloc _
    have b2 : Blk wb w1.heap.size 28 (reC k0 k1 A k2 c k3 k4 k5).toArray := by rw [hwb]; exact Blk.new _ _ _
    have T2 : Tch (On R) w wb := by rw [hwb]; exact T1.alloc _
    have N2 : Tch (· = w.heap.size) w1 wb := by rw [hwb]; exact (Tch.refl _ _).alloc _
    have z2 : w1.heap.size < wb.heap.size := by rw [hwb, World.size_alloc]; omega
    have hs3 : (e = 0 ∧ SP = match rest s k with | [] => .error ([], 1) | c :: r2 => if c == 41 then .ok (.mk 7 0 [r] 0 0 ((g : Int) + 1), r2, g') else .error (c :: r2, 1)) ∨ (e ≠ 0 ∧ SP = .error (rest s k, e)) := by
      rw [HSP.out, HNN.out]
      rcases hsp with ⟨h3, h4⟩ | ⟨h3, h4⟩
      · left; rw [h4]; exact ⟨h3, rfl⟩
      · right; rw [h4]; exact ⟨h3, rfl⟩
    have cn := shut R s k g' e wb h2 hk hs hs3
    clear hs3 hsp h2 h1 x1
    go_wp2_with fail
    rw [← hwb]
    clear hwb
    obtain ⟨XB, hXB⟩ : ∃ XB, XB = w1.heap.size := ⟨_, rfl⟩
    rw [← hXB] at b2 z2 ⊢
    have hXBa : w1.heap.size ≤ XB := by omega
    clear hXB
    (with_reducible refine cn.mono ?_)
    rintro x wc ⟨⟨ch, rfl⟩, k6, e6, h3, hk6, t3, hs6⟩
    have x3 := x2.tch t3 (show ¬ (w.heap.size = R) by omega)
    have b3 := b2.tch t3 (show ¬ (XB = R) by omega)
    have T3 := T2.trans t3
    have z3 := t3.size
    have HRT3 := Lib.hid ((HRT.out.tch N2 (fun b hb e => by omega)).tch t3 (fun b hb e => by have e2 : b = R := e; omega))
    have HS6 := Lib.hid hs6
    clear cn hs6 x2 b2 N2 HRT
    have q0 := b3.cell 0
    have q1 := b3.cell 1
    have q2 := b3.cell 2
    have q3 := b3.cell 3
    have q4 := b3.cell 4
    have q5 := b3.cell 5
    have q6 := b3.cell 6
    have q7 := b3.cell 7
    have q8 := b3.cell 8
    simp only [List.getElem?_toArray, List.getElem?_cons_zero, List.getElem?_cons_succ] at q0 q1 q2 q3 q4 q5 q6 q7 q8
    have x5 := x3.alloc (.cells (reC k0 k1 A k2 c k3 k4 k5).toArray 28)
    have p0 := x5.cell 0
    have p1 := x5.cell 1
    have p2 := x5.cell 2
    have p3 := x5.cell 3
    have p4 := x5.cell 4
    have p5 := x5.cell 5
    have p6 := x5.cell 6
    have p7 := x5.cell 7
    have p8 := x5.cell 8
    simp only [List.getElem?_toArray, List.getElem?_cons_zero, List.getElem?_cons_succ] at p0 p1 p2 p3 p4 p5 p6 p7 p8
    have r0 := x5.loose 0
    have r1 := x5.loose 1
    have r2 := x5.loose 2
    have r3 := x5.loose 3
    have r4 := x5.loose 4
    have r5 := x5.loose 5
    have r6 := x5.loose 6
    have r7 := x5.loose 7
    have r8 := x5.loose 8
    have fin : ∀ W, Tch (fun b => b = w.heap.size) (wc.alloc (.cells (reC k0 k1 A k2 c k3 k4 k5).toArray 28)) W → Rdr W R s k6 g' e6 → PPost B R s w SP (.returned (.agg ([.int .i64 7, .int .u64 0, .int .u64 0, .int .u64 0, .int .u64 0, .slice (some ⟨wc.heap.size, 0, none⟩) 1 1, .int .i64 0, .int .i64 0, .int .i64 ((g : Int) + 1)] : List Value).toArray)) W := fun W hT hr =>
      ⟨.mk 7 0 [r] 0 0 ((g : Int) + 1), (reC 7 0 (some ⟨wc.heap.size, 0, none⟩) 1 1 0 0 ((g : Int) + 1)), k6, g', e6, rfl, one_kid (tree_k HRT3.out ((Tch.refl _ _).alloc _ |>.trans hT) (fun b hb e => by omega) (fun b hb => by omega)) ((Blk.new _ _ _).tch hT (by omega)) (by omega) 7 0 0 ((g : Int) + 1) 1, hr, hk6, tch_new (T3.alloc _) hT (fun b hb => by omega), HS6.out⟩
    have FIN := Lib.hid fin
    clear fin
    go_wp2
    refine bodyPost_ret (v := .agg (([.int .i64 7, .int .u64 0, .int .u64 0, .int .u64 0, .int .u64 0, .slice (some ⟨wc.heap.size, 0, none⟩) 1 1, .int .i64 0, .int .i64 0, .int .i64 ((g : Int) + 1)] : List Value)).toArray) (by simp [results, Tryd.results65, go_sem, p0, p1, p2, p3, p4, p5, p6, p7, p8]) rfl ?_
    exact FIN.out _ (tch9 (X := w.heap.size) (Tch.refl _ _) rfl) (rdr9 (h3.alloc _) (by omega))
theorem alt_all : ∀ n d, d + n = 64 → AltC d := by
  intro n
  induction n with
  | zero => intro d hd; exact alt_c d (row_c d (by omega) (fun h => absurd h (by omega)))
  | succ n ih => intro d hd; exact alt_c d (row_c d (by omega) (fun h => group_c d h (ih (d + 1) (by omega))))
theorem alt_0 : AltC 0 := alt_all 64 0 (by omega)
end EreX
end Go.Proofs.YtdonokghemhfiaaDoor
