/- The walk of the expressions' Parse. Conditions: none. -/
import Derived.Test.YtdonokghemhfiaaDoorEreG
namespace Go.Proofs.YtdonokghemhfiaaDoor
set_option linter.unusedVariables false
set_option linter.unusedSimpArgs false
open Go.RowKit
namespace EreX
open EreP EreW
/-- What Parse comes to. -/
def ParsePost (s : ByteArray) (w : World) (x : Ending) (w' : World) : Prop := Below w.heap.size w w' ∧
  ((∃ r cs, parseP s.data.toList = .ok r ∧ x = .returned (.tuple #[.agg cs.toArray, .int .i64 0, .int .i64 0]) ∧ Rt w' (w.heap.size ≤ ·) r cs) ∨
   (∃ off e : Nat, e ≠ 0 ∧ parseP s.data.toList = .error (off, e) ∧ x = .returned (.tuple #[.agg ([.int .i64 0, .int .u64 0, .int .u64 0, .int .u64 0, .int .u64 0, .slice none 0 0, .int .i64 0, .int .i64 0, .int .i64 0] : List Value).toArray, .int .i64 off, .int .i64 e])))
theorem below_drew {B : Nat} {w w' : World} (h : Below B w w') : Below B w w'.drew := ⟨h.os, h.tape, h.output, h.size, h.block⟩
theorem parse_long {s : ByteArray} (h : 200 < s.size) : parseP s.data.toList = .error (200, 2) := by
  unfold parseP; rw [if_pos (by rw [← Lib.size_eq]; exact h)]
theorem parse_err {s : ByteArray} {k e : Nat} (h : s.size ≤ 200) (hk : k ≤ s.size) (hp : altP (grpP 64) ((rest s 0).length + 1) [] (rest s 0) 0 = .error (rest s k, e)) : parseP s.data.toList = .error (k, e) := by
  unfold parseP; rw [if_neg (by rw [← Lib.size_eq]; omega)]
  have hp2 : altP (grpP 64) (s.data.toList.length + 1) [] s.data.toList 0 = .error (rest s k, e) := hp
  rw [hp2]
  show Except.error (s.data.toList.length - (rest s k).length, e) = _
  rw [rest_len, ← Lib.size_eq, show s.size - (s.size - k) = k by omega]
theorem parse_end {s : ByteArray} {k g : Nat} {r : Re} (h : s.size ≤ 200) (hk : k ≤ s.size) (hp : altP (grpP 64) ((rest s 0).length + 1) [] (rest s 0) 0 = .ok (r, rest s k, g)) : parseP s.data.toList = if k < s.size then .error (k, 1) else .ok r := by
  unfold parseP; rw [if_neg (by rw [← Lib.size_eq]; omega)]
  have hp2 : altP (grpP 64) (s.data.toList.length + 1) [] s.data.toList 0 = .ok (r, rest s k, g) := hp
  rw [hp2]
  show (if (rest s k).isEmpty then Except.ok r else Except.error (s.data.toList.length - (rest s k).length, 1)) = _
  rw [rest_len, ← Lib.size_eq, show s.size - (s.size - k) = k by omega]
  by_cases hlt : k < s.size
  · rw [if_pos hlt, rest_cons s k hlt]; rfl
  · rw [if_neg hlt, rest_nil s k (by omega)]; rfl
set_option maxHeartbeats 6400000 in
set_option maxRecDepth 100000 in
theorem parse_c (s : ByteArray) (w : World) : Calls Tryd.prog 8 #[.string s] w (ParsePost s w) := by
  by_cases hbig : 200 < s.size
  · have hc : decide ((200 : Int) < (s.size : Int)) = true := by simp; omega
    have HP := Lib.hid (parse_long hbig)
    go_enter Tryd.func8, Tryd.ntmps8
    go_wp2
    refine bodyPost_ret (v := .tuple #[.agg ([.int .i64 0, .int .u64 0, .int .u64 0, .int .u64 0, .int .u64 0, .slice none 0 0, .int .i64 0, .int .i64 0, .int .i64 0]).toArray, .int .i64 200, .int .i64 2]) (by simp [results, Tryd.results8, go_sem, word, ]) rfl ?_
    exact ⟨by go_grown, Or.inr ⟨200, 2, by decide, HP.out, rfl⟩⟩
  have hs : s.size ≤ 200 := by omega
  have hc : decide ((200 : Int) < (s.size : Int)) = false := by simp; omega
  obtain ⟨SP, hSP⟩ : ∃ SP, altP (grpP 64) ((rest s 0).length + 1) [] (rest s 0) 0 = SP := ⟨_, rfl⟩
  obtain ⟨wa, hwa⟩ : ∃ z : World, z = (w.alloc (.cells zC 28)).alloc (.cells #[.string s, .int .i64 0, .int .i64 0, .int .i64 0] 47) := ⟨_, rfl⟩
  have ha : Rdr wa (w.heap.size + 1) s 0 0 0 := by rw [hwa]; exact Blk.new1 _ _ _ _
  have xa : Blk wa w.heap.size 28 zC := by rw [hwa]; exact (Blk.new _ _ _).alloc _
  have za : w.heap.size + 1 < wa.heap.size := by rw [hwa, World.size_alloc, World.size_alloc]; omega
  have ba : Below w.heap.size w wa := by rw [hwa]; go_grown
  have ct := alt_0 (w.heap.size + 1) wa.heap.size s 0 0 wa ha za (Nat.le_refl _) (by omega) hs (by omega)
  rw [show ((0 : Nat) : Int) = 0 from rfl, show (64 - 0) = 64 from rfl, hSP] at ct
  have HSP := Lib.hid hSP
  clear hSP ha
  go_enter Tryd.func8, Tryd.ntmps8
  go_wp2_with fail
  rw [← hwa]
  clear hwa
  (with_reducible refine ct.mono ?_)
  rintro x w1 ⟨r, cs, k, g', e, rfl, hrt, h1, hk, t1, hsp⟩
  obtain ⟨R, hR⟩ : ∃ R, R = w.heap.size + 1 := ⟨_, rfl⟩
  rw [← hR] at h1 t1 za ⊢
  have x1 := xa.tch t1 (show ¬ (w.heap.size = R) by omega)
  have z1 := t1.size
  have hRw : w.heap.size < R := by omega
  have b1 : Below w.heap.size w w1 := ⟨t1.os.trans ba.os, t1.tape.trans ba.tape, t1.output.trans ba.output, by have := ba.size; omega, fun b hb => (t1.block b (by have := ba.size; omega) (fun e => by have e2 : b = R := e; omega)).trans (ba.block b hb)⟩
  obtain ⟨A, c, rfl, hS, hnil⟩ := hrt.shape
  have HRT := Lib.hid hrt.lt_
  clear ct hrt hnil hS xa hR t1
  generalize hk0 : r.kind = k0 at *
  generalize hk1 : r.set = k1 at *
  generalize hk2 : r.kids.length = k2 at *
  generalize hk3 : r.lo = k3 at *
  generalize hk4 : r.hi = k4 at *
  generalize hk5 : r.n = k5 at *
  clear hk0 hk1 hk2 hk3 hk4 hk5
  obtain ⟨wb, hwb⟩ : ∃ z : World, z = w1.alloc (.cells (reC k0 k1 A k2 c k3 k4 k5).toArray 28) := ⟨_, rfl⟩
  have h2 : Rdr wb R s k g' e := by rw [hwb]; exact h1.alloc _
  have x2 : Blk wb w.heap.size 28 zC := by rw [hwb]; exact x1.alloc _
  have b2 : Blk wb w1.heap.size 28 (reC k0 k1 A k2 c k3 k4 k5).toArray := by rw [hwb]; exact Blk.new _ _ _
  have z2 : w1.heap.size < wb.heap.size := by rw [hwb, World.size_alloc]; omega
  have N2 : Tch (· = w.heap.size) w1 wb := by rw [hwb]; exact (Tch.refl _ _).alloc _
  have hlR := h1.lt
  have HB1 := Lib.hid b1
  have cm := more_c R s k g' e wb h2
  clear x1 h1 b1
  go_wp2_with fail
  rw [← hwb]
  clear hwb
  obtain ⟨XB, hXB⟩ : ∃ XB, XB = w1.heap.size := ⟨_, rfl⟩
  rw [← hXB] at b2 z2 ⊢
  have hXBa : w1.heap.size ≤ XB := by omega
  have hXBb : XB ≤ w1.heap.size := by omega
  clear hXB
  rcases hsp with ⟨rfl, hok⟩ | ⟨he, herr⟩
  rotate_left
  · have hm : (e == 0 && decide (k < s.size)) = false := by rw [show (e == 0) = false by rw [beq_eq_false_iff_ne]; exact he]; rfl
    rw [hm] at cm
    have HP := Lib.hid (parse_err hs hk (HSP.out.trans herr))
    clear herr
    go_wp2_with fail
    (with_reducible refine cm.mono ?_)
    rintro x wm ⟨rfl, m, rfl⟩
    have h3 := h2.dn m
    have x3 := x2.drewN m
    have N3 := N2.drewN m
    clear cm h2 x2 b2 N2
    generalize wb.drewN m = wc at *
    have hr := h3
    have x4 := x3
    have HB3 : Hid (Below w.heap.size w wc) := Lib.hid ⟨N3.os.trans HB1.out.os, N3.tape.trans HB1.out.tape, N3.output.trans HB1.out.output, by have := HB1.out.size; have := N3.size; omega, fun b hb => (N3.block b (by have := HB1.out.size; omega) (fun e => by have e2 : b = w.heap.size := e; omega)).trans (HB1.out.block b hb)⟩
    have h9 : ((e : Int) != 0) = true := by rw [bne_iff_ne]; omega
    have HDR := Lib.hid (show Rdr wc.drew R s k g' e from hr)
    have hrd := show Rdr wc.drew R s k g' e from hr
    obtain ⟨c0, c1, c2, c3⟩ := hr.cells
    obtain ⟨d0, d1, d2, d3⟩ := hrd.cells
    have xd := show Blk wc.drew w.heap.size 28 zC from x4
    have p0 := x4.cell 0
    have p1 := x4.cell 1
    have p2 := x4.cell 2
    have p3 := x4.cell 3
    have p4 := x4.cell 4
    have p5 := x4.cell 5
    have p6 := x4.cell 6
    have p7 := x4.cell 7
    have p8 := x4.cell 8
    simp only [List.getElem?_toArray, List.getElem?_cons_zero, List.getElem?_cons_succ] at p0 p1 p2 p3 p4 p5 p6 p7 p8
    have r0 := x4.loose 0
    have r1 := x4.loose 1
    have r2 := x4.loose 2
    have r3 := x4.loose 3
    have r4 := x4.loose 4
    have r5 := x4.loose 5
    have r6 := x4.loose 6
    have r7 := x4.loose 7
    have r8 := x4.loose 8
    have hXR : (R == w.heap.size) = false := by rw [beq_eq_false_iff_ne]; omega
    have fin : ∀ W, Below w.heap.size w W → ParsePost s w (.returned (.tuple #[.agg ([.int .i64 0, .int .u64 0, .int .u64 0, .int .u64 0, .int .u64 0, .slice none 0 0, .int .i64 0, .int .i64 0, .int .i64 0] : List Value).toArray, .int .i64 k, .int .i64 (e : Int)])) W := fun W hW => ⟨hW, Or.inr ⟨k, e, by exact he, HP.out, rfl⟩⟩
    have FIN := Lib.hid fin
    clear fin
    go_wp2
    go_region
    all_goals
      go_wp2
      refine bodyPost_ret (v := .tuple #[.agg ([.int .i64 0, .int .u64 0, .int .u64 0, .int .u64 0, .int .u64 0, .slice none 0 0, .int .i64 0, .int .i64 0, .int .i64 0]).toArray, .int .i64 k, .int .i64 (e : Int)]) (by simp [results, Tryd.results8, go_sem, word, p0, p1, p2, p3, p4, p5, p6, p7, p8]) rfl ?_
      exact FIN.out _ (below_drew (below9 HB3.out (Nat.le_refl _)))
  have HP := Lib.hid (parse_end hs hk (HSP.out.trans hok))
  by_cases hlt : k < s.size
  · have hm : ((0 : Nat) == 0 && decide (k < s.size)) = true := by simp [hlt]
    rw [hm] at cm
    have HP := Lib.hid (HP.out.trans (if_pos hlt))
    have cf := fun m => fail1_c R s k g' 0 (wb.drewN m) (h2.dn m)
    go_wp2_with fail
    (with_reducible refine cm.mono ?_)
    rintro x wm ⟨rfl, m, rfl⟩
    have h3 := h2.dn m
    have x3 := x2.drewN m
    have N3 := N2.drewN m
    clear cm h2 x2 b2 N2
    have cf := cf m
    go_wp2_with fail
    (with_reducible refine cf.mono ?_)
    rintro x wc ⟨rfl, hr0, t4⟩
    have hr : Rdr wc R s k g' 1 := hr0
    clear hr0
    have x4 := x3.tch t4 (show ¬ (w.heap.size = R) by omega)
    have N3 : Tch (fun b => b = w.heap.size ∨ b = R) w1 wc := ⟨t4.os.trans N3.os, t4.tape.trans N3.tape, t4.output.trans N3.output, Nat.le_trans N3.size t4.size, fun b hb hs => (t4.block b (by have := N3.size; omega) (fun e => hs (Or.inr e))).trans (N3.block b hb (fun e => hs (Or.inl e)))⟩
    clear cf x3 h3
    have HB3 : Hid (Below w.heap.size w wc) := Lib.hid ⟨N3.os.trans HB1.out.os, N3.tape.trans HB1.out.tape, N3.output.trans HB1.out.output, by have := HB1.out.size; have := N3.size; omega, fun b hb => (N3.block b (by have := HB1.out.size; omega) (fun e => by omega)).trans (HB1.out.block b hb)⟩
    have h9 : (((1 : Int)) != 0) = true := by decide
    have HDR := Lib.hid (show Rdr wc.drew R s k g' 1 from hr)
    have hrd := show Rdr wc.drew R s k g' 1 from hr
    obtain ⟨c0, c1, c2, c3⟩ := hr.cells
    obtain ⟨d0, d1, d2, d3⟩ := hrd.cells
    have xd := show Blk wc.drew w.heap.size 28 zC from x4
    have p0 := x4.cell 0
    have p1 := x4.cell 1
    have p2 := x4.cell 2
    have p3 := x4.cell 3
    have p4 := x4.cell 4
    have p5 := x4.cell 5
    have p6 := x4.cell 6
    have p7 := x4.cell 7
    have p8 := x4.cell 8
    simp only [List.getElem?_toArray, List.getElem?_cons_zero, List.getElem?_cons_succ] at p0 p1 p2 p3 p4 p5 p6 p7 p8
    have r0 := x4.loose 0
    have r1 := x4.loose 1
    have r2 := x4.loose 2
    have r3 := x4.loose 3
    have r4 := x4.loose 4
    have r5 := x4.loose 5
    have r6 := x4.loose 6
    have r7 := x4.loose 7
    have r8 := x4.loose 8
    have hXR : (R == w.heap.size) = false := by rw [beq_eq_false_iff_ne]; omega
    have fin : ∀ W, Below w.heap.size w W → ParsePost s w (.returned (.tuple #[.agg ([.int .i64 0, .int .u64 0, .int .u64 0, .int .u64 0, .int .u64 0, .slice none 0 0, .int .i64 0, .int .i64 0, .int .i64 0] : List Value).toArray, .int .i64 k, .int .i64 1])) W := fun W hW => ⟨hW, Or.inr ⟨k, 1, by decide, HP.out, rfl⟩⟩
    have FIN := Lib.hid fin
    clear fin
    go_wp2
    go_region
    all_goals
      go_wp2
      refine bodyPost_ret (v := .tuple #[.agg ([.int .i64 0, .int .u64 0, .int .u64 0, .int .u64 0, .int .u64 0, .slice none 0 0, .int .i64 0, .int .i64 0, .int .i64 0]).toArray, .int .i64 k, .int .i64 1]) (by simp [results, Tryd.results8, go_sem, word, p0, p1, p2, p3, p4, p5, p6, p7, p8]) rfl ?_
      exact FIN.out _ (below_drew (below9 HB3.out (Nat.le_refl _)))
  have hm : ((0 : Nat) == 0 && decide (k < s.size)) = false := by simp [hlt]
  rw [hm] at cm
  have HP := Lib.hid (HP.out.trans (if_neg hlt))
  go_wp2_with fail
  (with_reducible refine cm.mono ?_)
  rintro x wm ⟨rfl, m, rfl⟩
  have h3 := h2.dn m
  have x4 := x2.drewN m
  have q3 := b2.drewN m
  have N3 := N2.drewN m
  clear cm h2 x2 b2 N2
  generalize wb.drewN m = wc at *
  have HB3 : Hid (Below w.heap.size w wc) := Lib.hid ⟨N3.os.trans HB1.out.os, N3.tape.trans HB1.out.tape, N3.output.trans HB1.out.output, by have := HB1.out.size; have := N3.size; omega, fun b hb => (N3.block b (by have := HB1.out.size; omega) (fun e => by have e2 : b = w.heap.size := e; omega)).trans (HB1.out.block b hb)⟩
  have HRT3 := Lib.hid (HRT.out.tch N3 (fun b hb e => by omega))
  have h9 : (((0 : Nat) : Int) != 0) = false := by decide
  obtain ⟨c0, c1, c2, c3⟩ := h3.cells
  have q0 := q3.cell 0
  have q1 := q3.cell 1
  have q2 := q3.cell 2
  have q33 := q3.cell 3
  have q4 := q3.cell 4
  have q5 := q3.cell 5
  have q6 := q3.cell 6
  have q7 := q3.cell 7
  have q8 := q3.cell 8
  simp only [List.getElem?_toArray, List.getElem?_cons_zero, List.getElem?_cons_succ] at q0 q1 q2 q33 q4 q5 q6 q7 q8
  have p0 := x4.cell 0
  have p1 := x4.cell 1
  have p2 := x4.cell 2
  have p3 := x4.cell 3
  have p4 := x4.cell 4
  have p5 := x4.cell 5
  have p6 := x4.cell 6
  have p7 := x4.cell 7
  have p8 := x4.cell 8
  simp only [List.getElem?_toArray, List.getElem?_cons_zero, List.getElem?_cons_succ] at p0 p1 p2 p3 p4 p5 p6 p7 p8
  have r0 := x4.loose 0
  have r1 := x4.loose 1
  have r2 := x4.loose 2
  have r3 := x4.loose 3
  have r4 := x4.loose 4
  have r5 := x4.loose 5
  have r6 := x4.loose 6
  have r7 := x4.loose 7
  have r8 := x4.loose 8
  have fin : ∀ W, Tch (fun b => b = w.heap.size) wc W → Below w.heap.size w W → ParsePost s w (.returned (.tuple #[.agg (reC k0 k1 A k2 c k3 k4 k5).toArray, .int .i64 0, .int .i64 0])) W := fun W hT hW => ⟨hW, Or.inl ⟨r, _, HP.out, rfl, tree_k HRT3.out hT (fun b hb e => by omega) (fun b hb => by omega)⟩⟩
  have FIN := Lib.hid fin
  clear fin
  go_wp2
  refine bodyPost_ret (v := .tuple #[.agg (reC k0 k1 A k2 c k3 k4 k5).toArray, .int .i64 0, .int .i64 0]) (by simp [results, Tryd.results8, go_sem, word, p0, p1, p2, p3, p4, p5, p6, p7, p8]) rfl ?_
  exact FIN.out _ (tch9 (Tch.refl _ _) rfl) (below9 HB3.out (Nat.le_refl _))
end EreX
end Go.Proofs.YtdonokghemhfiaaDoor
