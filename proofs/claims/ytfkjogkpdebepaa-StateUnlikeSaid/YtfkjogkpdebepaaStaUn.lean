/- The walk of StateUnlike. No condition. -/
import Derived.Test.YtfkjogkpdebepaaStaMc
import Derived.Test.YtfkjogkpdebepaaStaK
namespace Go.Proofs.Ytfkjogkpdebepaa
open Go.RowKit
namespace StaM
open StaP StaL StaW StaG StaX StaD StaZ StaE StaQ
/-- A whole struct loaded in a region that draws its order. -/
theorem quiet_load_row {P : Program} {ops : Array Oper} {C : World → Prop} {K : Act → Prop} {E : Prop} {o : Oper} {a : Act} (hw : Region.wanted o (yielded ops a.tmps) = true) (ty : TypeId) (x : Operand) (ho : o.op = .load ty x)
    (g : Nat) (hx : a.eval x = .pointer (some ⟨g, 0, none⟩)) (t : TypeId) (cs : Array Value) (fr : Nat × Nat) (d : TypeDesc) (hg : ∀ w, C w → w.heap[g]? = some (.cells cs t fr))
    (hu : P.underlying ty = some d) (hd : (match d with | .struct _ | .array _ _ => true | _ => false) = true) (hi : (P.info? ty).map (·.size) = some cs.size)
    (h : K (a.put o.dst (.agg cs))) : if Region.wanted o (yielded ops a.tmps) = true then o.quiet P a C K else E := by
  rw [if_pos hw]
  refine ⟨.agg cs, fun w hc => ?_, h⟩
  unfold Oper.quietAt execOp
  simp only [ho, hx, Instr.loadAt, Instr.sureAddr, Sem.run_bind, Sem.run_pure, Result.andThen_ok, run_loadVar_row w g t ty cs fr d (hg w hc) hu hd hi]
  exact ⟨rfl, rfl⟩
theorem ndq_size {w : World} {B : Nat} {cs : Array Value} {m : MNd} (h : NdQ w B cs m) : cs.size = 22 := by
  obtain ⟨a1, c1, a2, c2, a3, c3, a4, c4, a5, c5, ds, rfl, h⟩ := h
  have ocl := h.1.2.2.2.2.2.2.2.2.1
  obtain ⟨ta, pc, md, er, us, ti, el, vs, cu, st, bf, af, so⟩ := m
  obtain ⟨x0, x1, x2, x3, x4, x5, x6, x7, x8, x9, rfl⟩ := ten cu ocl
  simp only [ndArr]
  rw [cut10]
  rfl
theorem nd_okn {w : World} {B : Nat} {cs : Array Value} {m : MNd} (h : NdR w B cs m) : OkN m := by
  obtain ⟨_, _, _, _, _, _, _, _, _, _, _, _, ok, _⟩ := h
  exact ok
theorem same_b (r : Bool) (cs cs' : Array Value) (m m' : MNd) (w : World) (B : Nat) (h : NdR w B cs m) (h' : NdR w B cs' m') (hB : B ≤ w.heap.size) (hr : r = true ↔ m = m') :
    Calls Try.prog 9 #[.agg cs, .agg cs'] w fun e w' => e = .returned (.bool r) ∧ Below w.heap.size w w' := by
  refine (samenode_c cs cs' m m' w B h h' hB).mono ?_
  rintro e w' ⟨⟨r', rfl, hr'⟩, hb⟩
  exact ⟨by rw [show r' = r by rw [Bool.eq_iff_iff, hr, hr']], hb⟩
set_option maxHeartbeats 25600000 in
set_option maxRecDepth 100000 in
theorem unlike_c (cs cs' : Array Value) (m m' : MNd) (w : World) (h : NdQ w w.heap.size cs m) (h' : NdQ w w.heap.size cs' m') :
    Calls Try.prog 4 #[.agg cs, .agg cs'] w fun e w' => e = .returned (.bool true) ∧ Below w.heap.size w w' := by
  have aw := fun W => StaE.awake_c W
  have I22 : (Try.prog.info? 31).map (·.size) = some 22 := by kernel_rfl
  have S1 := ndq_size h
  have S2 := ndq_size h'
  have HI : Hid ((Try.prog.info? 31).map (·.size) = some cs.size) := Lib.hid (by rw [S1]; exact I22)
  have HI' : Hid ((Try.prog.info? 31).map (·.size) = some cs'.size) := Lib.hid (by rw [S2]; exact I22)
  clear S1 S2 I22
  have N1 := Lib.hid h
  have N2 := Lib.hid h'
  clear h h'
  go_enter Try.func4, Try.ntmps4
  go_upto_region 1 with fail
  obtain ⟨w0, hw0⟩ : ∃ x, (w.alloc (.cells cs 31)).alloc (.cells cs' 31) = x := ⟨_, rfl⟩
  have k1 : Blk w0 w.heap.size 31 cs := by rw [← hw0]; exact (Blk.new _ _ _).alloc _
  have k2 : Blk w0 (w.heap.size + 1) 31 cs' := by rw [← hw0]; exact Blk.new1 _ _ _ _
  have hB0 : Below w.heap.size w w0 := by rw [← hw0]; go_grown
  rw [hw0]
  clear hw0
  go_wp2_with (go_at_call 6; with_reducible refine (aw _).mono ?_)
  rintro e w1 ⟨rfl, hb1⟩
  have k1 := k1.next hb1
  have k2 := k2.next hb1
  have hB1 := via hb1 hB0
  have z1 := hB1.size
  clear hb1 hB0 aw
  have c1 := nsmall_c cs m w1 w.heap.size (N1.out.below hB1) z1
  go_wp2_with (first
    | (refine wpList_load_row' (by rfl) 31 (.tmp 2) (by rfl) w.heap.size (by rfl) 31 cs (0, 0) _ (by exact k1) Try.underlying31 (by rfl) (by exact HI.out) ?_)
    | (go_at_call 11; with_reducible refine c1.mono ?_))
  rintro e w2 ⟨b1, rfl, hv1, hb2⟩
  have k1 := k1.next hb2
  have k2 := k2.next hb2
  have hB2 := via hb2 hB1
  have z2 := hB2.size
  have V1 := Lib.hid hv1
  clear hb2 hB1 c1 hv1
  cases b1
  · go_wp2
    go_ret
    exact ⟨rfl, hB2⟩
  have c2 := nsmall_c cs' m' w2 w.heap.size (N2.out.below hB2) z2
  go_wp2_with (first
    | (refine wpList_load_row' (by rfl) 31 (.tmp 3) (by rfl) (w.heap.size + 1) (by rfl) 31 cs' (0, 0) _ (by exact k2) Try.underlying31 (by rfl) (by exact HI'.out) ?_)
    | (go_at_call 11; with_reducible refine c2.mono ?_))
  rintro e w3 ⟨b2, rfl, hv2, hb3⟩
  have k1 := k1.next hb3
  have k2 := k2.next hb3
  have hB3 := via hb3 hB2
  have z3 := hB3.size
  have V2 := Lib.hid hv2
  clear hb3 hB2 c2 hv2
  cases b2
  · go_wp2
    go_ret
    exact ⟨rfl, hB3⟩
  have R1 := nd_ok (N1.out.below hB3) (V1.out trivial)
  have R2 := nd_ok (N2.out.below hB3) (V2.out rfl)
  have ok1 := nd_okn R1
  have ok2 := nd_okn R2
  have L1 := node_len m ok1 (by have := (V1.out trivial).1.2.2.1; omega)
  have L2 := node_len m' ok2 (by have := (V2.out rfl).1.2.2.1; omega)
  obtain ⟨r, hr⟩ : ∃ r : Bool, r = true ↔ m = m' := by
    by_cases hh : m = m'
    · exact ⟨true, fun _ => hh, fun _ => rfl⟩
    · exact ⟨false, fun h => (by cases h), fun h => absurd h hh⟩
  have ce1 := fun x : Cls w3 => call_cls (x := x) (v := .string (bz (nodeB m))) ((encode_c cs m x.val ((R1.below (x.ok.mono z3)).more (Nat.le_trans z3 x.ok.size)) L1).mono fun e w' h => h)
  have ce2 := fun x : Cls w3 => call_cls (x := x) (v := .string (bz (nodeB m'))) ((encode_c cs' m' x.val ((R2.below (x.ok.mono z3)).more (Nat.le_trans z3 x.ok.size)) L2).mono fun e w' h => h)
  have cs3 := fun x : Cls w3 => call_cls (x := x) (same_b r cs cs' m m' x.val w.heap.size (R1.below (x.ok.mono z3)) (R2.below (x.ok.mono z3)) (Nat.le_trans z3 x.ok.size) hr)
  have EQ : ((bz (nodeB m)).toList == (bz (nodeB m')).toList) = r := by
    rw [Bool.eq_iff_iff, hr, beq_iff_eq]
    exact ⟨fun h => node_inj ok1 ok2 (bz_inj h), fun h => by rw [h]⟩
  obtain ⟨e1, he1⟩ : ∃ x, bz (nodeB m) = x := ⟨_, rfl⟩
  obtain ⟨e2, he2⟩ : ∃ x, bz (nodeB m') = x := ⟨_, rfl⟩
  rw [he1] at ce1 EQ
  rw [he2] at ce2 EQ
  clear he1 he2 L1 L2 R1 R2 ok1 ok2 hr
  have g1 : ∀ v, (∃ x : Cls w3, v = x.val) → v.heap[w.heap.size]? = some (.cells cs 31 (0, 0)) := by rintro v ⟨x, rfl⟩; exact k1.next x.ok
  have g2 : ∀ v, (∃ x : Cls w3, v = x.val) → v.heap[w.heap.size + 1]? = some (.cells cs' 31 (0, 0)) := by rintro v ⟨x, rfl⟩; exact k2.next x.ok
  clear k1 k2
  cases r
  all_goals
    go_wp2_with fail
    refine wp_region_cls (by kernel_rfl) (by kernel_rfl) ?_
    repeat (first
      | (refine wpQuiet_step (fun K hK => ?_); refine quiet_load_row (by rfl) 31 (.tmp 2) (by rfl) w.heap.size (by rfl) 31 cs (0, 0) _ (by exact g1) Try.underlying31 (by rfl) (by exact HI.out) ?_; go_simp; refine hK _ ?_; clear hK K)
      | (refine wpQuiet_step (fun K hK => ?_); refine quiet_load_row (by rfl) 31 (.tmp 3) (by rfl) (w.heap.size + 1) (by rfl) 31 cs' (0, 0) _ (by exact g2) Try.underlying31 (by rfl) (by exact HI'.out) ?_; go_simp; refine hK _ ?_; clear hK K)
      | (quiet_step (first
        | (go_at_call 10; first | (with_reducible exact ce1 _) | (with_reducible exact ce2 _))
        | (go_at_call 9; with_reducible exact cs3 _))))
    refine wpQuiet_nil ?_
    rintro _ ⟨y, rfl⟩
    have hB9 := via y.ok hB3
    generalize y.val = w9 at *
    go_wp2
    go_ret
    exact ⟨rfl, hB9⟩
end StaM
end Go.Proofs.Ytfkjogkpdebepaa
