/- The walks of the laws' Small: a configuration, a node. Conditions: what comes in. -/
import Derived.Test.YtfkjogkpdebepaaStaMa
import Derived.Test.YtfkjogkpdebepaaStaJ
namespace Go.Proofs.Ytfkjogkpdebepaa
open Go.RowKit
namespace StaM
open StaP StaL StaW StaG StaX StaD StaZ StaE
theorem rng_at {w : World} {g o k : Nat} {ds : List Sd} {d : Sd} (hd : ds[k]? = some d) (hcell : ∀ j u, (scells ds)[j]? = some u → w.cell? ⟨g, o + j, none⟩ = some u) : w.rangeAt g (o + k * 11) (Sd.cs d) := by
  intro j v hj
  have hl : j < 11 := by have := (List.getElem?_eq_some_iff.1 hj).1; simpa [Sd.cs] using this
  rw [Nat.add_assoc]
  exact hcell _ _ ((scells_at ds k j d hd hl).trans hj)
theorem below_row' {B : Nat} {a w : World} {g : Nat} (h : Below B a w) (hg : B ≤ g) (c : Array Value) : Below B a (w.setRow g c) := by
  have h1 := h.block
  refine ⟨h.os, h.tape, h.output, ?_, fun k hk => (Rowk.heap_row (by omega) c).trans (h.block k hk)⟩
  have := h.size
  simp [World.setRow]; omega
theorem four (p1 p2 p3 p4 : Bool) : p1 = true ∨ (p1 = false ∧ p2 = true) ∨ (p1 = false ∧ p2 = false ∧ p3 = true) ∨ (p1 = false ∧ p2 = false ∧ p3 = false ∧ p4 = true) ∨ (p1 = false ∧ p2 = false ∧ p3 = false ∧ p4 = false) := by
  cases p1 <;> cases p2 <;> cases p3 <;> cases p4 <;> simp
set_option maxHeartbeats 25600000 in
set_option maxRecDepth 100000 in
theorem csmalls_c (m : MNd) (a1 : Option Addr) (c1 : Nat) (a2 : Option Addr) (c2 : Nat) (a3 : Option Addr) (c3 : Nat) (a4 : Option Addr) (c4 : Nat) (a5 : Option Addr) (c5 : Nat) (ds : List Sd) (w : World) (B : Nat)
    (h : CfQ w B m a1 a2 a3 a4 a5 ds) (hB : B ≤ w.heap.size) :
    Calls Try.prog 34 #[.agg #[.slice none 0 0, .slice none 0 0, .slice none 0 0, .int .i64 0, .int .i64 0], .agg (cfArr m a1 c1 a2 c2 a3 c3 a4 c4 a5 c5)] w (SmPost (CSm m) w) := by
  obtain ⟨⟨o1, o2, o3, o4, o5, o6, o7, o8, o9, o10, o11, o12, o13⟩, h1, h2, h3, h4, h5, h6, h7⟩ := h
  obtain ⟨ta, pc, md, er, us, ti, el, vs, cu, st, bf, af, so⟩ := m
  simp only at o1 o2 o3 o4 o5 o6 o7 o8 o9 o10 o11 o12 o13 h1 h2 h3 h4 h5 h6 h7
  obtain ⟨x0, x1, x2, x3, x4, x5, x6, x7, x8, x9, rfl⟩ := ten cu o9
  simp only [cfArr]
  rw [cut9]
  have o10 := o10.1
  have o11 := o11.1
  have o12 := o12.1
  clear o1 o2 o3 o4 o5 o6 o9 h2 h3 h4
  obtain ⟨nv, hnv⟩ : ∃ x, vs.length = x := ⟨_, rfl⟩
  obtain ⟨ns, hns⟩ : ∃ x, st.length = x := ⟨_, rfl⟩
  obtain ⟨nb, hnb⟩ : ∃ x, bf.length = x := ⟨_, rfl⟩
  obtain ⟨na, hna⟩ : ∃ x, af.length = x := ⟨_, rfl⟩
  obtain ⟨no, hno⟩ : ∃ x, so.length = x := ⟨_, rfl⟩
  rw [hnv] at h1 o8 ⊢
  rw [hns] at o10 ⊢
  rw [hnb] at o11 ⊢
  rw [hna] at o12 ⊢
  rw [hno] at h5 h6 o13 ⊢
  have NV := Lib.hid hnv
  have NS := Lib.hid hns
  have NB := Lib.hid hnb
  have NA := Lib.hid hna
  have NO := Lib.hid hno
  have H6 := Lib.hid h6
  have H7 := Lib.hid h7
  clear hnv hns hnb hna hno h6 h7
  have T1 := Lib.hid (bz_size x0)
  clear T1
  obtain ⟨b0, hb0⟩ : ∃ x, bz x0 = x := ⟨_, rfl⟩
  obtain ⟨b1, hb1⟩ : ∃ x, bz x1 = x := ⟨_, rfl⟩
  obtain ⟨b2, hb2⟩ : ∃ x, bz x2 = x := ⟨_, rfl⟩
  obtain ⟨b3, hb3⟩ : ∃ x, bz x3 = x := ⟨_, rfl⟩
  obtain ⟨b4, hb4⟩ : ∃ x, bz x4 = x := ⟨_, rfl⟩
  obtain ⟨b5, hb5⟩ : ∃ x, bz x5 = x := ⟨_, rfl⟩
  obtain ⟨b6, hb6⟩ : ∃ x, bz x6 = x := ⟨_, rfl⟩
  obtain ⟨b7, hb7⟩ : ∃ x, bz x7 = x := ⟨_, rfl⟩
  obtain ⟨b8, hb8⟩ : ∃ x, bz x8 = x := ⟨_, rfl⟩
  obtain ⟨b9, hb9⟩ : ∃ x, bz x9 = x := ⟨_, rfl⟩
  rw [hb0, hb1, hb2, hb3, hb4, hb5, hb6, hb7, hb8, hb9]
  clear hb0 hb1 hb2 hb3 hb4 hb5 hb6 hb7 hb8 hb9
  go_enter Try.func34, Try.ntmps34
  go_upto_region 1 with fail
  obtain ⟨w1, hw1⟩ : ∃ x, (w.alloc (.cells #[.slice none 0 0, .slice none 0 0, .slice none 0 0, .int .i64 0, .int .i64 0] 85)).alloc (.cells #[.int .i64 pc, .slice a1 nv c1, .string b0, .string b1, .string b2, .string b3, .string b4, .string b5, .string b6, .string b7, .string b8, .string b9, .slice a2 ns c2, .int .i64 md, .int .i64 er, .int .i64 us, .int .i64 ti, .int .i64 el, .slice a3 nb c3, .slice a4 na c4, .slice a5 no c5] 29) = x := ⟨_, rfl⟩
  have k1 : Blk w1 w.heap.size 85 #[.slice none 0 0, .slice none 0 0, .slice none 0 0, .int .i64 0, .int .i64 0] := by rw [← hw1]; exact (Blk.new _ _ _).alloc _
  have k2 : Blk w1 (w.heap.size + 1) 29 #[.int .i64 pc, .slice a1 nv c1, .string b0, .string b1, .string b2, .string b3, .string b4, .string b5, .string b6, .string b7, .string b8, .string b9, .slice a2 ns c2, .int .i64 md, .int .i64 er, .int .i64 us, .int .i64 ti, .int .i64 el, .slice a3 nb c3, .slice a4 na c4, .slice a5 no c5] := by rw [← hw1]; exact Blk.new1 _ _ _ _
  have hBB1 : Below w.heap.size w w1 := by rw [← hw1]; go_grown
  rw [hw1]
  clear hw1
  have q0 := k1.cell 0
  have q2 := k1.cell 2
  simp only [List.getElem?_toArray, List.getElem?_cons_zero, List.getElem?_cons_succ] at q0 q2
  have q1 := k1.cell 1
  simp only [List.getElem?_toArray, List.getElem?_cons_zero, List.getElem?_cons_succ] at q1
  have z1 := hBB1.size
  go_wp2_with (go_at_call 47; with_reducible refine (csmall_c _).mono ?_)
  rintro e w2 ⟨rfl, hb2⟩
  have k1 := k1.next hb2
  have k2 := k2.next hb2
  have hB2 := via hb2 hBB1
  clear hBB1 hb2 q0 q1 q2
  have q1 := k2.cell 1
  simp only [List.getElem?_toArray, List.getElem?_cons_zero, List.getElem?_cons_succ] at q1
  have cv := vsmall_c a1 nv c1 vs w2 B (h1.below (hB2.mono hB)) (by have := hB2.size; omega) (by omega)
  go_wp2_with (go_at_call 48; with_reducible refine cv.mono ?_)
  rintro e w3 ⟨b, rfl, hv, hb3⟩
  have k1 := k1.next hb3
  have k2 := k2.next hb3
  have hB3 := via hb3 hB2
  have HV := Lib.hid hv
  clear hB2 hb3 q1 cv hv
  have q0 := k1.cell 0
  have q2 := k1.cell 2
  have r8 := k2.cell 17
  have r3 := k2.cell 12
  have r9 := k2.cell 18
  have r10 := k2.cell 19
  have r11 := k2.cell 20
  simp only [List.getElem?_toArray, List.getElem?_cons_zero, List.getElem?_cons_succ] at q0 q2 r8 r3 r9 r10 r11
  cases b
  · go_wp2
    go_ret
    exact sm_no hB3
  have HV := Lib.hid (HV.out rfl)
  obtain ⟨S, hS⟩ : ∃ S, wrap64 ((nb : Int) + na) = S := ⟨_, rfl⟩
  rcases four (decide (9 < (no : Int))) (decide (9 < (ns : Int))) (decide (20 < S)) (decide ((1152921504606846976 : Int) < el)) with d1 | ⟨d1, d2⟩ | ⟨d1, d2, d3⟩ | ⟨d1, d2, d3, d4⟩ | ⟨d1, d2, d3, d4⟩
  rotate_right
  · have e1 : no ≤ 9 := by simp at d1; omega
    have e2 : ns ≤ 9 := by simp at d2; omega
    go_wp2_with fail
    refine wp_loop_rounds 1 ?_
    rw [rounds_succ]
    go_wp2_with fail
    refine wp_loop_rounds 1 ?_
    rw [rounds_succ]
    go_wp2_with fail
    clear hS q0 q2 k1 r8 r3 r9 r10 d1 d2 d3 d4
    have K2 := Lib.hid k2
    have z3 := hB3.size
    have z33 : w.heap.size + 1 < w3.heap.size := k2.lt
    clear k2 r11
    go_loopw [142] (fun v wr => ∃ j : Nat, v = .int .i64 j ∧ j ≤ no ∧ Hid (∀ s ∈ so.take j, SSm s) ∧ Below w3.heap.size w3 wr) (fun v _ => no - (intOf v).toNat)
    case atStart => exact ⟨0, rfl, by omega, Lib.hid (by simp), Below.refl _ _⟩
    case round =>
      obtain ⟨j, rfl, hj, HJ, hbr⟩ := hrel
      have hzr := hbr.size
      have hBr := via hbr hB3
      by_cases hlt : j < no
      rotate_left
      · obtain rfl : j = no := by omega
        have HA : Hid (CSm (ta, pc, md, er, us, ti, el, vs, [x0, x1, x2, x3, x4, x5, x6, x7, x8, x9], st, bf, af, so)) := Lib.hid (by
          have h := HJ.out
          rw [List.take_of_length_le (by rw [NO.out]; omega)] at h
          exact ⟨HV.out trivial, by rw [NS.out]; exact e2, by rw [NO.out]; exact e1, h⟩)
        have dj : decide ((j : Int) < (j : Int)) = false := by simp
        go_wp2
        go_ret
        exact sm_yes HA.out hBr
      have dj : decide ((j : Int) < (no : Int)) = true := by simp; omega
      obtain ⟨g, o, rfl, hg, hcell⟩ := Rd.flat (h5.below (hBr.mono hB)) (by omega) (by omega)
      obtain ⟨x, hx⟩ : ∃ x, so[j]? = some x := ⟨_, List.getElem?_eq_getElem (by rw [NO.out]; exact hlt)⟩
      obtain ⟨d, hd⟩ : ∃ d, ds[j]? = some d := ⟨_, List.getElem?_eq_getElem (by rw [H6.out]; exact hlt)⟩
      have hsd := (H7.out j d x hd hx).below (hBr.mono hB)
      have rng := rng_at hd hcell
      have HX := Lib.hid hx
      clear hcell hx hd
      obtain ⟨da, db, dc, dp, dk, dty, dla, dln, dlc, dfl, dga, dgn, dgc, dre, dbu⟩ := d
      simp only [Sd.cs] at rng
      go_upto_region 30 with (first
        | (refine wpList_load_mid' (by rfl) 48 (.tmp 144) (by rfl) g (o + j * 11) (by rfl) [.bool da, .bool db, .bool dc, .int .i64 dp, .int .i64 dk, .string dty, .slice dla dln dlc, .string dfl, .slice dga dgn dgc, .string dre, .string dbu] _ (by exact rng) Try.underlying48 (by rfl) (by as_aux_lemma => kernel_rfl) ?_)
        | (refine wpList_store_row (by rfl) 48 (.tmp 14) (.tmp 145) (by rfl) wr.heap.size #[.bool da, .bool db, .bool dc, .int .i64 dp, .int .i64 dk, .string dty, .slice dla dln dlc, .string dfl, .slice dga dgn dgc, .string dre, .string dbu] (by rfl) (by rfl) 48 _ (by exact Blk.new _ _ _) (by as_aux_lemma => kernel_rfl) (by rfl) (by simp [Value.oneCell']) ?_))
      obtain ⟨wa, hwa⟩ : ∃ x, (wr.alloc (.cells #[.bool false, .bool false, .bool false, .int .i64 0, .int .i64 0, .string ⟨#[]⟩, .slice none 0 0, .string ⟨#[]⟩, .slice none 0 0, .string ⟨#[]⟩, .string ⟨#[]⟩] 48)).setRow wr.heap.size #[.bool da, .bool db, .bool dc, .int .i64 dp, .int .i64 dk, .string dty, .slice dla dln dlc, .string dfl, .slice dga dgn dgc, .string dre, .string dbu] = x := ⟨_, rfl⟩
      have kb : Blk wa wr.heap.size 48 #[.bool da, .bool db, .bool dc, .int .i64 dp, .int .i64 dk, .string dty, .slice dla dln dlc, .string dfl, .slice dga dgn dgc, .string dre, .string dbu] := by rw [← hwa]; exact Rowk.blk_row (Blk.new _ _ _) _
      have hba : Below wr.heap.size wr wa := by rw [← hwa]; exact below_row' ((Below.refl _ wr).alloc (Nat.le_refl _) _) (Nat.le_refl _) _
      rw [hwa]
      clear hwa rng
      have hBa := via hba hBr
      have hzr2 := hbr.size
      have hlt0 := kb.lt
      have cs := ssmall_c ⟨da, db, dc, dp, dk, dty, dla, dln, dlc, dfl, dga, dgn, dgc, dre, dbu⟩ x wa B (hsd.below (hba.mono (by omega))) (by omega)
      simp only [Sd.v] at cs
      go_wp2_with (first
        | (refine wpList_load_row (by rfl) 48 (.tmp 14) (by rfl) wr.heap.size (by rfl) _ _ _ _ (by exact kb) Try.underlying48 (by rfl) (by as_aux_lemma => kernel_rfl) ?_)
        | (go_at_call 50; with_reducible refine cs.mono ?_))
      rintro e w5 ⟨bb, rfl, hv, hb5⟩
      have hbz := hb5
      have k10 := (kb.next hb5).cell 10
      simp only [List.getElem?_toArray, List.getElem?_cons_zero, List.getElem?_cons_succ] at k10
      have hB5 := via hb5 hBa
      have hbr5 := via (via hb5 hba) hbr
      have HVV := Lib.hid hv
      clear hv kb hsd cs hb5 hbz
      cases bb
      · go_wp2
        go_ret
        exact sm_no hB5
      by_cases h70 : 70 < dbu.size
      · have d70 : decide ((70 : Int) < (dbu.size : Int)) = true := by simp; omega
        go_wp2
        go_ret
        exact sm_no hB5
      have d70 : decide ((70 : Int) < (dbu.size : Int)) = false := by simp; omega
      have AK : Hid (∀ s ∈ so.take (j + 1), SSm s) := Lib.hid (by
        intro q hq
        rw [List.take_add_one, HX.out, List.mem_append] at hq
        rcases hq with hq | hq
        · exact HJ.out q hq
        · simp at hq; subst hq; exact HVV.out rfl)
      go_wp2
      go_roundw
      case rel => exact ⟨j + 1, by go_num, by omega, AK, hbr5⟩
      case measure => simp [intOf]; omega
  all_goals
    go_wp2
    go_ret
    exact sm_no hB3
end StaM
end Go.Proofs.Ytfkjogkpdebepaa
