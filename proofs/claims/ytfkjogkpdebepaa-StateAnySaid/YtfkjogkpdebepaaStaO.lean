/- The walk of the reference's Same of nodes. Conditions: what fits. -/
import Derived.Test.YtfkjogkpdebepaaStaJ
namespace Go.Proofs.Ytfkjogkpdebepaa
open Go.RowKit
namespace StaE
open StaP StaL StaW StaG StaX StaD StaZ
theorem CfO.below {w w' : World} {B : Nat} {m : MNd} {a1 a2 a3 a4 a5 : Option Addr} {ds : List Sd} (h : CfO w B m a1 a2 a3 a4 a5 ds) (hb : Below B w w') : CfO w' B m a1 a2 a3 a4 a5 ds := by
  obtain ⟨ok, h1, h2, h3, h4, h5, h6, h7⟩ := h
  exact ⟨ok, h1.below hb, h2.below hb, h3.below hb, h4.below hb, h5.below hb, h6, fun k d m hd hm => SdR.below (h7 k d m hd hm) hb⟩
set_option maxHeartbeats 12800000 in
set_option maxRecDepth 100000 in
theorem samenode_c (cs cs' : Array Value) (m m' : MNd) (w : World) (B : Nat) (h : NdR w B cs m) (h' : NdR w B cs' m') (hB : B ≤ w.heap.size) :
    Calls Try.prog 9 #[.agg cs, .agg cs'] w (CPost (m = m') w) := by
  obtain ⟨a1, c1, a2, c2, a3, c3, a4, c4, a5, c5, ds, rfl, ok, h1, h2, h3, h4, h5, h6, h7⟩ := h
  obtain ⟨a1', c1', a2', c2', a3', c3', a4', c4', a5', c5', ds', rfl, ok', h1', h2', h3', h4', h5', h6', h7'⟩ := h'
  have hcf : CfO w B m a1 a2 a3 a4 a5 ds := ⟨ok, h1, h2, h3, h4, h5, h6, h7⟩
  have hcf' : CfO w B m' a1' a2' a3' a4' a5' ds' := ⟨ok', h1', h2', h3', h4', h5', h6', h7'⟩
  have ocl := ok.2.2.2.2.2.2.2.2.1.1
  have ocl' := ok'.2.2.2.2.2.2.2.2.1.1
  clear h1 h2 h3 h4 h5 h6 h7 h1' h2' h3' h4' h5' h6' h7' ok ok'
  obtain ⟨ta, pc, md, er, us, ti, el, vs, cu, st, bf, af, so⟩ := m
  obtain ⟨ta', pc', md', er', us', ti', el', vs', cu', st', bf', af', so'⟩ := m'
  simp only at ocl ocl'
  obtain ⟨x0, x1, x2, x3, x4, x5, x6, x7, x8, x9, rfl⟩ := ten cu ocl
  obtain ⟨y0, y1, y2, y3, y4, y5, y6, y7, y8, y9, rfl⟩ := ten cu' ocl'
  simp only [ndArr]
  rw [cut10, cut10]
  obtain ⟨W0, hW0⟩ : ∃ x, (w.alloc (.cells #[.int .i64 pc, .slice a1 vs.length c1, .string (bz x0), .string (bz x1), .string (bz x2), .string (bz x3), .string (bz x4), .string (bz x5), .string (bz x6), .string (bz x7), .string (bz x8), .string (bz x9), .slice a2 st.length c2, .int .i64 md, .int .i64 er, .int .i64 us, .int .i64 ti, .int .i64 el, .slice a3 bf.length c3, .slice a4 af.length c4, .slice a5 so.length c5, .int .i64 ta] NT)).alloc (.cells #[.int .i64 pc', .slice a1' vs'.length c1', .string (bz y0), .string (bz y1), .string (bz y2), .string (bz y3), .string (bz y4), .string (bz y5), .string (bz y6), .string (bz y7), .string (bz y8), .string (bz y9), .slice a2' st'.length c2', .int .i64 md', .int .i64 er', .int .i64 us', .int .i64 ti', .int .i64 el', .slice a3' bf'.length c3', .slice a4' af'.length c4', .slice a5' so'.length c5', .int .i64 ta'] NT) = x := ⟨_, rfl⟩
  have hb0 : Below w.heap.size w W0 := by rw [← hW0]; go_grown
  have k1 : Blk W0 w.heap.size NT #[.int .i64 pc, .slice a1 vs.length c1, .string (bz x0), .string (bz x1), .string (bz x2), .string (bz x3), .string (bz x4), .string (bz x5), .string (bz x6), .string (bz x7), .string (bz x8), .string (bz x9), .slice a2 st.length c2, .int .i64 md, .int .i64 er, .int .i64 us, .int .i64 ti, .int .i64 el, .slice a3 bf.length c3, .slice a4 af.length c4, .slice a5 so.length c5, .int .i64 ta] := by rw [← hW0]; exact (Blk.new _ _ _).alloc _
  have k2 : Blk W0 (w.heap.size + 1) NT #[.int .i64 pc', .slice a1' vs'.length c1', .string (bz y0), .string (bz y1), .string (bz y2), .string (bz y3), .string (bz y4), .string (bz y5), .string (bz y6), .string (bz y7), .string (bz y8), .string (bz y9), .slice a2' st'.length c2', .int .i64 md', .int .i64 er', .int .i64 us', .int .i64 ti', .int .i64 el', .slice a3' bf'.length c3', .slice a4' af'.length c4', .slice a5' so'.length c5', .int .i64 ta'] := by rw [← hW0]; exact Blk.new1 _ _ _ _
  have rn1 : W0.rangeAt w.heap.size 0 [.int .i64 pc, .slice a1 vs.length c1, .string (bz x0), .string (bz x1), .string (bz x2), .string (bz x3), .string (bz x4), .string (bz x5), .string (bz x6), .string (bz x7), .string (bz x8), .string (bz x9), .slice a2 st.length c2, .int .i64 md, .int .i64 er, .int .i64 us, .int .i64 ti, .int .i64 el, .slice a3 bf.length c3, .slice a4 af.length c4, .slice a5 so.length c5] := rng_of (l := [.int .i64 pc, .slice a1 vs.length c1, .string (bz x0), .string (bz x1), .string (bz x2), .string (bz x3), .string (bz x4), .string (bz x5), .string (bz x6), .string (bz x7), .string (bz x8), .string (bz x9), .slice a2 st.length c2, .int .i64 md, .int .i64 er, .int .i64 us, .int .i64 ti, .int .i64 el, .slice a3 bf.length c3, .slice a4 af.length c4, .slice a5 so.length c5]) (r := [.int .i64 ta]) k1
  have rn2 : W0.rangeAt (w.heap.size + 1) 0 [.int .i64 pc', .slice a1' vs'.length c1', .string (bz y0), .string (bz y1), .string (bz y2), .string (bz y3), .string (bz y4), .string (bz y5), .string (bz y6), .string (bz y7), .string (bz y8), .string (bz y9), .slice a2' st'.length c2', .int .i64 md', .int .i64 er', .int .i64 us', .int .i64 ti', .int .i64 el', .slice a3' bf'.length c3', .slice a4' af'.length c4', .slice a5' so'.length c5'] := rng_of (l := [.int .i64 pc', .slice a1' vs'.length c1', .string (bz y0), .string (bz y1), .string (bz y2), .string (bz y3), .string (bz y4), .string (bz y5), .string (bz y6), .string (bz y7), .string (bz y8), .string (bz y9), .slice a2' st'.length c2', .int .i64 md', .int .i64 er', .int .i64 us', .int .i64 ti', .int .i64 el', .slice a3' bf'.length c3', .slice a4' af'.length c4', .slice a5' so'.length c5']) (r := [.int .i64 ta']) k2
  have hz0 : W0.heap.size = w.heap.size + 2 := by rw [← hW0, World.size_alloc, World.size_alloc]
  have q1 := k1.cell 21
  have q2 := k2.cell 21
  simp only [List.getElem?_toArray, List.getElem?_cons_zero, List.getElem?_cons_succ] at q1 q2
  have ct := sameconf_c _ _ a1 c1 a2 c2 a3 c3 a4 c4 a5 c5 ds a1' c1' a2' c2' a3' c3' a4' c4' a5' c5' ds' W0 B (CfO.below hcf (hb0.mono hB)) (CfO.below hcf' (hb0.mono hB)) (by omega)
  simp only [cfArr] at ct
  rw [cut9, cut9] at ct
  obtain ⟨PC, hPC⟩ : ∃ P : Prop, P = ((pc, md, er, us, ti, el, vs, [x0, x1, x2, x3, x4, x5, x6, x7, x8, x9], st, bf, af, so) = (pc', md', er', us', ti', el', vs', [y0, y1, y2, y3, y4, y5, y6, y7, y8, y9], st', bf', af', so')) := ⟨_, rfl⟩
  obtain ⟨PP, hPP⟩ : ∃ P : Prop, P = ((ta, pc, md, er, us, ti, el, vs, [x0, x1, x2, x3, x4, x5, x6, x7, x8, x9], st, bf, af, so) = (ta', pc', md', er', us', ti', el', vs', [y0, y1, y2, y3, y4, y5, y6, y7, y8, y9], st', bf', af', so')) := ⟨_, rfl⟩
  rw [← hPC] at ct
  rw [← hPP]
  have EQ : Hid (PP ↔ ta = ta' ∧ PC) := Lib.hid (by rw [hPP, hPC, Prod.mk.injEq])
  clear hPP hPC hcf hcf' ocl ocl'
  have K1 := Lib.hid k1
  have K2 := Lib.hid k2
  clear k1 k2
  go_enter Try.func9, Try.ntmps9
  go_upto_region 1 with fail
  by_cases e0 : ta = ta'
  rotate_left
  · have d0 : (ta == ta') = false := by rw [beq_eq_false_iff_ne]; exact e0
    have NP : Hid (¬ PP) := Lib.hid (fun h => e0 (EQ.out.1 h).1)
    go_wp2
    go_ret
    exact ⟨⟨false, rfl, fun h => (by cases h), fun h => absurd h NP.out⟩, hb0⟩
  · have d0 : (ta == ta') = true := by rw [beq_iff_eq]; exact e0
    have YP : Hid (PP ↔ PC) := Lib.hid (by rw [EQ.out]; exact ⟨fun h => h.2, fun h => ⟨e0, h⟩⟩)
    clear e0
    go_wp2_with (first
      | (refine wpList_load_mid' (by rfl) 29 (.tmp 11) (by rfl) w.heap.size 0 (by rfl) [.int .i64 pc, .slice a1 vs.length c1, .string (bz x0), .string (bz x1), .string (bz x2), .string (bz x3), .string (bz x4), .string (bz x5), .string (bz x6), .string (bz x7), .string (bz x8), .string (bz x9), .slice a2 st.length c2, .int .i64 md, .int .i64 er, .int .i64 us, .int .i64 ti, .int .i64 el, .slice a3 bf.length c3, .slice a4 af.length c4, .slice a5 so.length c5] _ (by exact rn1) Try.underlying29 (by rfl) (by as_aux_lemma => kernel_rfl) ?_)
      | (refine wpList_load_mid' (by rfl) 29 (.tmp 13) (by rfl) (w.heap.size + 1) 0 (by rfl) [.int .i64 pc', .slice a1' vs'.length c1', .string (bz y0), .string (bz y1), .string (bz y2), .string (bz y3), .string (bz y4), .string (bz y5), .string (bz y6), .string (bz y7), .string (bz y8), .string (bz y9), .slice a2' st'.length c2', .int .i64 md', .int .i64 er', .int .i64 us', .int .i64 ti', .int .i64 el', .slice a3' bf'.length c3', .slice a4' af'.length c4', .slice a5' so'.length c5'] _ (by exact rn2) Try.underlying29 (by rfl) (by as_aux_lemma => kernel_rfl) ?_)
      | (go_at_call 28; with_reducible refine ct.mono ?_))
    rintro e w5 ⟨⟨r, rfl, hr⟩, hb5⟩
    have HR : Hid (r = true ↔ PC) := Lib.hid hr
    clear hr
    go_wp2
    go_ret
    exact ⟨⟨r, rfl, by rw [HR.out, YP.out]⟩, via hb5 hb0⟩
end StaE
end Go.Proofs.Ytfkjogkpdebepaa
