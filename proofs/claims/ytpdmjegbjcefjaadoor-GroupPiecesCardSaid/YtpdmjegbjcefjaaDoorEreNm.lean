/- The reference's Parse. Conditions: none. -/
import Derived.Test.YtpdmjegbjcefjaaDoorEreNl
import Derived.Test.YtpdmjegbjcefjaaDoorEreO
namespace Go.Proofs.YtpdmjegbjcefjaaDoor
set_option linter.unusedVariables false
set_option linter.unusedSimpArgs false
open Go.RowKit
namespace EreN
open EreP EreW EreX
theorem Tch_drew {S : Nat → Prop} {w w' : World} (h : Tch S w w') : Tch S w w'.drew := ⟨h.os, h.tape, h.output, h.size, h.block⟩
set_option maxHeartbeats 6400000 in
set_option maxRecDepth 100000 in
theorem parseq_c (s : ByteArray) (w : World) : Calls Tryd.prog 17 #[.string s] w (ParsePost s w) := by
  by_cases hbig : 200 < s.size
  · have hc : decide ((200 : Int) < (s.size : Int)) = true := by simp; omega
    have HP := Lib.hid (parse_long hbig)
    go_enter Tryd.func17, Tryd.ntmps17
    go_wp2
    first | (refine bodyPost_ret (R := ParsePost s w) (v := .tuple #[.agg (([.int .i64 0, .int .u64 0, .int .u64 0, .int .u64 0, .int .u64 0, .slice none 0 0, .int .i64 0, .int .i64 0, .int .i64 0] : List Value).toArray), .int .i64 200, .int .i64 2]) (by simp [results, Tryd.results17, go_sem, word]) rfl ?_) | fail
    exact ⟨by go_grown, Or.inr ⟨200, 2, by decide, HP.out, rfl⟩⟩
  have hs : s.size ≤ 200 := by omega
  have hc : decide ((200 : Int) < (s.size : Int)) = false := by simp; omega
  obtain ⟨SP, hSP⟩ : ∃ SP, altP (grpP 64) ((rest s 0).length + 1) [] (rest s 0) 0 = SP := ⟨_, rfl⟩
  obtain ⟨wa, hwa⟩ : ∃ z : World, z = (w.alloc (.cells zC 27)).alloc (.cells #[.string s, .int .i64 0, .int .i64 0, .int .i64 0] 73) := ⟨_, rfl⟩
  have ha : Rdr wa (w.heap.size + 1) s 0 0 0 := by rw [hwa]; exact Blk.new1 _ _ _ _
  have xa : Blk wa w.heap.size 27 zC := by rw [hwa]; exact (Blk.new _ _ _).alloc _
  have za : w.heap.size + 1 < wa.heap.size := by rw [hwa, World.size_alloc, World.size_alloc]; omega
  have ba : Below w.heap.size w wa := by rw [hwa]; go_grown
  have ct := altq_0 (w.heap.size + 1) wa.heap.size s 0 0 wa ha za (Nat.le_refl _) (by omega) hs (by omega)
  rw [show ((0 : Nat) : Int) = 0 from rfl, show (64 - 0) = 64 from rfl, hSP] at ct
  have HSP := Lib.hid hSP
  clear hSP ha
  go_enter Tryd.func17, Tryd.ntmps17
  go_wp2_with fail
  rw [← hwa]
  clear hwa
  (with_reducible refine ct.mono ?_)
  rintro x w1 ⟨r, cs, k, g', e, rfl, hrt, h1, hk, t1, hsp⟩
  obtain ⟨R, hR⟩ : ∃ R, R = w.heap.size + 1 := ⟨_, rfl⟩
  rw [← hR] at h1 t1 za ⊢
  have x1 := xa.tch t1 (show ¬ (w.heap.size = R) by omega)
  have z1 := t1.size
  have hRw : w.heap.size < R := by omega
  have hne : w.heap.size ≠ R := by omega
  have b1 : Below w.heap.size w w1 := ⟨t1.os.trans ba.os, t1.tape.trans ba.tape, t1.output.trans ba.output, by have := ba.size; omega, fun b hb => (t1.block b (by have := ba.size; omega) (fun e => by have e2 : b = R := e; omega)).trans (ba.block b hb)⟩
  obtain ⟨A, c, rfl, hS, hnil⟩ := hrt.shape
  have HRT := Lib.hid hrt.lt_
  clear ct hrt hnil hS xa hR t1
  generalize hk0 : r.kind = k0 at *
  generalize hk1 : r.set = k1 at *
  generalize hk2 : r.kids.length = k2 at *
  generalize hk3 : r.lo = k3 at *
  generalize hk4 : r.hi = k4 at *
  generalize hk5 : r.n = k5 at *
  clear hk0 hk1 hk2 hk3 hk4 hk5
  obtain ⟨wb, hwb⟩ : ∃ z : World, z = w1.alloc (.cells (reC k0 k1 A k2 c k3 k4 k5).toArray 27) := ⟨_, rfl⟩
  have H2 := Lib.hid (show Rdr wb R s k g' e by rw [hwb]; exact h1.alloc _)
  have X2 := Lib.hid (show Blk wb w.heap.size 27 zC by rw [hwb]; exact x1.alloc _)
  have Y2 := Lib.hid (show Blk wb w1.heap.size 27 (reC k0 k1 A k2 c k3 k4 k5).toArray by rw [hwb]; exact Blk.new _ _ _)
  have z2 : w1.heap.size < wb.heap.size := by rw [hwb, World.size_alloc]; omega
  have N2 := Lib.hid (show Tch (fun b => b = R ∨ b = w.heap.size) w1 wb by rw [hwb]; exact (Tch.refl _ _).alloc _)
  have hlR := h1.lt
  have HB1 := Lib.hid b1
  clear x1 h1 b1
  have bel : ∀ W, Tch (fun b => b = R ∨ b = w.heap.size) w1 W → Below w.heap.size w W := fun W N3 => ⟨N3.os.trans HB1.out.os, N3.tape.trans HB1.out.tape, N3.output.trans HB1.out.output, by have := HB1.out.size; have := N3.size; omega, fun b hb => (N3.block b (by have := HB1.out.size; omega) (fun e => by rcases e with e | e <;> omega)).trans (HB1.out.block b hb)⟩
  have BEL := Lib.hid bel
  clear bel
  obtain ⟨j0, j1, j2, j3⟩ := H2.out.cells
  rw [hwb] at j0 j1 j2 j3
  rcases hsp with ⟨rfl, hok⟩ | ⟨he, herr⟩
  rotate_left
  · have HP := Lib.hid (parse_err hs hk (HSP.out.trans herr))
    have HE := Lib.hid he
    have d0 : ((e : Int) == 0) = false := by rw [beq_eq_false_iff_ne]; omega
    have d1 : ((e : Int) != 0) = true := by rw [bne_iff_ne]; omega
    clear herr he hk z1 Y2
    go_wp2_with fail
    rw [← hwb]
    clear hwb j0 j1 j2 j3
    have H3 := H2
    have X3 := X2
    have N3 := N2
    clear H2 X2 N2
    generalize wb = wc at *
    have HDR := Lib.hid (show Rdr wc.drew R s k g' e from H3.out)
    have hrd := show Rdr wc.drew R s k g' e from H3.out
    obtain ⟨c0, c1, c2, c3⟩ := H3.out.cells
    obtain ⟨d0, d1, d2, d3⟩ := hrd.cells
    have xd := show Blk wc.drew w.heap.size 27 zC from X3.out
    have xg := X3.out
    have p0 := xg.cell 0
    have p1 := xg.cell 1
    have p2 := xg.cell 2
    have p3 := xg.cell 3
    have p4 := xg.cell 4
    have p5 := xg.cell 5
    have p6 := xg.cell 6
    have p7 := xg.cell 7
    have p8 := xg.cell 8
    simp only [List.getElem?_toArray, List.getElem?_cons_zero, List.getElem?_cons_succ] at p0 p1 p2 p3 p4 p5 p6 p7 p8
    have l0 := xg.loose 0
    have l1 := xg.loose 1
    have l2 := xg.loose 2
    have l3 := xg.loose 3
    have l4 := xg.loose 4
    have l5 := xg.loose 5
    have l6 := xg.loose 6
    have l7 := xg.loose 7
    have l8 := xg.loose 8
    have hlx := xg.lt
    clear xg
    have hXR : (R == w.heap.size) = false := by rw [beq_eq_false_iff_ne]; omega
    have fin : ∀ W, Tch (fun b => b = R ∨ b = w.heap.size) w1 W → ParsePost s w (.returned (.tuple #[.agg (([.int .i64 0, .int .u64 0, .int .u64 0, .int .u64 0, .int .u64 0, .slice none 0 0, .int .i64 0, .int .i64 0, .int .i64 0] : List Value).toArray), .int .i64 k, .int .i64 (e : Int)])) W := fun W hW => ⟨BEL.out _ hW, Or.inr ⟨k, e, HE.out, HP.out, rfl⟩⟩
    have FIN := Lib.hid fin
    clear fin
    go_region
    all_goals
      go_wp2
      first | (refine bodyPost_ret (R := ParsePost s w) (v := .tuple #[.agg (([.int .i64 0, .int .u64 0, .int .u64 0, .int .u64 0, .int .u64 0, .slice none 0 0, .int .i64 0, .int .i64 0, .int .i64 0] : List Value).toArray), .int .i64 k, .int .i64 (e : Int)]) (by simp [results, Tryd.results17, go_sem, word, p0, p1, p2, p3, p4, p5, p6, p7, p8, hlx]) rfl ?_) | fail
      exact FIN.out _ (N3.out.trans (Tch_drew (tch9 (S := fun b => b = R ∨ b = w.heap.size) (Tch.refl _ _) (Or.inr rfl))))
  have HP := Lib.hid (parse_end hs hk (HSP.out.trans hok))
  by_cases hlt : k < s.size
  · have HP := Lib.hid (HP.out.trans (if_pos hlt))
    have d1 : decide ((k : Int) < (s.size : Int)) = true := by simp; omega
    have d1n : decide (k < s.size) = true := by simp; omega
    have HE := Lib.hid (show (1 : Nat) ≠ 0 by decide)
    clear hk z1 Y2 hlt
    go_wp2_with fail
    rw [← hwb]
    clear hwb j0 j1 j2 j3
    have H3 := H2
    have X3 := X2
    have N3 := N2
    clear H2 X2 N2
    generalize wb = wc at *
    have cf := fail_c R s k g' 0 1 wc H3.out
    rw [show failS 1 0 = 1 from rfl, show ((1 : Nat) : Int) = 1 from rfl] at cf
    (with_reducible refine cf.mono ?_)
    rintro x wz ⟨rfl, hr, ht⟩
    have H4 := Lib.hid hr
    have X4 := Lib.hid (X3.out.tch ht (fun e => hne e))
    have N4 := Lib.hid (N3.out.trans (ht.more (fun b hb => Or.inl hb)))
    clear hr ht cf H3 X3 N3
    have H3 := H4
    have X3 := X4
    have N3 := N4
    clear H4 X4 N4
    have d2 : (((1 : Nat) : Int) != 0) = true := by rfl
    obtain ⟨c0, c1, c2, c3⟩ := H3.out.cells
    go_wp2_with fail
    have HDR := Lib.hid (show Rdr wz.drew R s k g' 1 from H3.out)
    have hrd := show Rdr wz.drew R s k g' 1 from H3.out
    obtain ⟨c0, c1, c2, c3⟩ := H3.out.cells
    obtain ⟨d0, d1, d2, d3⟩ := hrd.cells
    have xd := show Blk wz.drew w.heap.size 27 zC from X3.out
    have xg := X3.out
    have p0 := xg.cell 0
    have p1 := xg.cell 1
    have p2 := xg.cell 2
    have p3 := xg.cell 3
    have p4 := xg.cell 4
    have p5 := xg.cell 5
    have p6 := xg.cell 6
    have p7 := xg.cell 7
    have p8 := xg.cell 8
    simp only [List.getElem?_toArray, List.getElem?_cons_zero, List.getElem?_cons_succ] at p0 p1 p2 p3 p4 p5 p6 p7 p8
    have l0 := xg.loose 0
    have l1 := xg.loose 1
    have l2 := xg.loose 2
    have l3 := xg.loose 3
    have l4 := xg.loose 4
    have l5 := xg.loose 5
    have l6 := xg.loose 6
    have l7 := xg.loose 7
    have l8 := xg.loose 8
    have hlx := xg.lt
    clear xg
    have hXR : (R == w.heap.size) = false := by rw [beq_eq_false_iff_ne]; omega
    have fin : ∀ W, Tch (fun b => b = R ∨ b = w.heap.size) w1 W → ParsePost s w (.returned (.tuple #[.agg (([.int .i64 0, .int .u64 0, .int .u64 0, .int .u64 0, .int .u64 0, .slice none 0 0, .int .i64 0, .int .i64 0, .int .i64 0] : List Value).toArray), .int .i64 k, .int .i64 ((1 : Nat) : Int)])) W := fun W hW => ⟨BEL.out _ hW, Or.inr ⟨k, 1, HE.out, HP.out, rfl⟩⟩
    have FIN := Lib.hid fin
    clear fin
    go_region
    all_goals
      go_wp2
      first | (refine bodyPost_ret (R := ParsePost s w) (v := .tuple #[.agg (([.int .i64 0, .int .u64 0, .int .u64 0, .int .u64 0, .int .u64 0, .slice none 0 0, .int .i64 0, .int .i64 0, .int .i64 0] : List Value).toArray), .int .i64 k, .int .i64 ((1 : Nat) : Int)]) (by simp [results, Tryd.results17, go_sem, word, p0, p1, p2, p3, p4, p5, p6, p7, p8, hlx]) rfl ?_) | fail
      exact FIN.out _ (N3.out.trans (Tch_drew (tch9 (S := fun b => b = R ∨ b = w.heap.size) (Tch.refl _ _) (Or.inr rfl))))
  have HP := Lib.hid (HP.out.trans (if_neg hlt))
  have d1 : decide ((k : Int) < (s.size : Int)) = false := by simp; omega
  have d1n : decide (k < s.size) = false := by simp; omega
  clear hk z1
  have H3 := H2
  have X3 := X2
  have Y3 := Y2
  have N3 := N2
  clear H2 X2 N2 Y2
  obtain ⟨wc, hwc⟩ : ∃ z, z = wb := ⟨_, rfl⟩
  rw [← hwc] at H3 X3 Y3 N3 z2 hwb
  clear hwc
  have h9 : (((0 : Nat) : Int) != 0) = false := by decide
  have xg := X3.out
  have yg := Y3.out
  have p0 := xg.cell 0
  have p1 := xg.cell 1
  have p2 := xg.cell 2
  have p3 := xg.cell 3
  have p4 := xg.cell 4
  have p5 := xg.cell 5
  have p6 := xg.cell 6
  have p7 := xg.cell 7
  have p8 := xg.cell 8
  simp only [List.getElem?_toArray, List.getElem?_cons_zero, List.getElem?_cons_succ] at p0 p1 p2 p3 p4 p5 p6 p7 p8
  have l0 := xg.loose 0
  have l1 := xg.loose 1
  have l2 := xg.loose 2
  have l3 := xg.loose 3
  have l4 := xg.loose 4
  have l5 := xg.loose 5
  have l6 := xg.loose 6
  have l7 := xg.loose 7
  have l8 := xg.loose 8
  have q0 := yg.cell 0
  have q1 := yg.cell 1
  have q2 := yg.cell 2
  have q3 := yg.cell 3
  have q4 := yg.cell 4
  have q5 := yg.cell 5
  have q6 := yg.cell 6
  have q7 := yg.cell 7
  have q8 := yg.cell 8
  simp only [List.getElem?_toArray, List.getElem?_cons_zero, List.getElem?_cons_succ] at q0 q1 q2 q3 q4 q5 q6 q7 q8
  have hlx := xg.lt
  clear xg yg
  have HRT3 := Lib.hid (HRT.out.tch N3.out (fun b hb e => by rcases e with e | e <;> omega))
  have fin : ∀ W, Tch (fun b => b = w.heap.size) wc W → ParsePost s w (.returned (.tuple #[.agg (reC k0 k1 A k2 c k3 k4 k5).toArray, .int .i64 0, .int .i64 0])) W := fun W hT => ⟨BEL.out _ (N3.out.trans (hT.more (fun b hb => Or.inr hb))), Or.inl ⟨r, _, HP.out, rfl, tree_k HRT3.out hT (fun b hb e => by omega) (fun b hb => by omega)⟩⟩
  have FIN := Lib.hid fin
  clear fin
  rw [hwb] at p0 p1 p2 p3 p4 p5 p6 p7 p8 l0 l1 l2 l3 l4 l5 l6 l7 l8 hlx q0 q1 q2 q3 q4 q5 q6 q7 q8
  go_wp2
  rw [← hwb] at p0 p1 p2 p3 p4 p5 p6 p7 p8 hlx ⊢
  first | (refine bodyPost_ret (R := ParsePost s w) (v := .tuple #[.agg (reC k0 k1 A k2 c k3 k4 k5).toArray, .int .i64 0, .int .i64 0]) (by simp [results, Tryd.results17, go_sem, hlx, p0, p1, p2, p3, p4, p5, p6, p7, p8, q0, q1, q2, q3, q4, q5, q6, q7, q8]) rfl ?_) | fail
  exact FIN.out _ (tch9 (Tch.refl _ _) rfl)
end EreN
end Go.Proofs.YtpdmjegbjcefjaaDoor
