/- The walk of the reference's Same of configurations. Conditions: what fits. -/
import Derived.Test.YtfkjogkpdebepaaStaH
import Derived.ChangeKeysEq
import Derived.Deep.CutBlock
namespace Go.Proofs.Ytfkjogkpdebepaa
open Go.RowKit
namespace StaE
open StaP StaL StaW StaG StaX StaD StaZ
/-- It answers whether P holds, and turns nothing old. -/
def CPost (P : Prop) (w : World) (e : Ending) (w' : World) : Prop := (∃ r, e = .returned (.bool r) ∧ (r = true ↔ P)) ∧ Below w.heap.size w w'
/-- What a configuration's rows hold. -/
def CfO (w : World) (B : Nat) (m : MNd) (a1 a2 a3 a4 a5 : Option Addr) (ds : List Sd) : Prop := OkN m ∧
  Rd w B 2 a1 m.2.2.2.2.2.2.2.1.length (vcells m.2.2.2.2.2.2.2.1) ∧ Rd w B 1 a2 m.2.2.2.2.2.2.2.2.2.1.length (StaG.ints m.2.2.2.2.2.2.2.2.2.1) ∧ Rd w B 1 a3 m.2.2.2.2.2.2.2.2.2.2.1.length (StaG.ints m.2.2.2.2.2.2.2.2.2.2.1) ∧
  Rd w B 1 a4 m.2.2.2.2.2.2.2.2.2.2.2.1.length (StaG.ints m.2.2.2.2.2.2.2.2.2.2.2.1) ∧ Rd w B 11 a5 m.2.2.2.2.2.2.2.2.2.2.2.2.length (scells ds) ∧ SdsR w B ds m.2.2.2.2.2.2.2.2.2.2.2.2
def cfArr (m : MNd) (a1 : Option Addr) (c1 : Nat) (a2 : Option Addr) (c2 : Nat) (a3 : Option Addr) (c3 : Nat) (a4 : Option Addr) (c4 : Nat) (a5 : Option Addr) (c5 : Nat) : Array Value :=
  cutArr [.int .i64 m.2.1, .slice a1 m.2.2.2.2.2.2.2.1.length c1] [.slice a2 m.2.2.2.2.2.2.2.2.2.1.length c2, .int .i64 m.2.2.1, .int .i64 m.2.2.2.1, .int .i64 m.2.2.2.2.1, .int .i64 m.2.2.2.2.2.1, .int .i64 m.2.2.2.2.2.2.1, .slice a3 m.2.2.2.2.2.2.2.2.2.2.1.length c3, .slice a4 m.2.2.2.2.2.2.2.2.2.2.2.1.length c4, .slice a5 m.2.2.2.2.2.2.2.2.2.2.2.2.length c5] m.2.2.2.2.2.2.2.2.1
theorem cut9 (a b r0 r1 r2 r3 r4 r5 r6 r7 r8 : Value) (x0 x1 x2 x3 x4 x5 x6 x7 x8 x9 : Bs) : cutArr [a, b] [r0, r1, r2, r3, r4, r5, r6, r7, r8] [x0, x1, x2, x3, x4, x5, x6, x7, x8, x9] = #[a, b, .string (bz x0), .string (bz x1), .string (bz x2), .string (bz x3), .string (bz x4), .string (bz x5), .string (bz x6), .string (bz x7), .string (bz x8), .string (bz x9), r0, r1, r2, r3, r4, r5, r6, r7, r8] := by
  simp [cutArr]
theorem st_i : (Try.prog.info? 9).map (fun i => (i.zero, i.size, i.bytes)) = some (some (.string ⟨#[]⟩), 1, 16) := by kernel_rfl
theorem cuts_ne (x0 x1 x2 x3 x4 x5 x6 x7 x8 x9 y0 y1 y2 y3 y4 y5 y6 y7 y8 y9 : Bs) (w : World) : (binOp .neq 24 (.agg #[.string (bz x0), .string (bz x1), .string (bz x2), .string (bz x3), .string (bz x4), .string (bz x5), .string (bz x6), .string (bz x7), .string (bz x8), .string (bz x9)]) (.agg #[.string (bz y0), .string (bz y1), .string (bz y2), .string (bz y3), .string (bz y4), .string (bz y5), .string (bz y6), .string (bz y7), .string (bz y8), .string (bz y9)])).run Try.prog w = .ok (.bool (!decide ([x0, x1, x2, x3, x4, x5, x6, x7, x8, x9] = [y0, y1, y2, y3, y4, y5, y6, y7, y8, y9]))) w := by
  have us := Try.underlying9
  obtain ⟨i, hi, _⟩ := info_parts st_i
  have hs : Try.prog.cellsOf 9 = 1 := by kernel_rfl
  rw [run_neq_struct, show (10000 : Nat) = 9998 + 1 + 1 from rfl, run_equalIn_array w (9998 + 1) _ _ Try.underlying24 hi]
  simp only [hs, List.range, List.range.loop, Op.eqItems]
  go_simp
  simp only [Lib.toList_data, bz_list]
  by_cases h0 : x0 = y0
  rotate_left
  · simp [h0]
  by_cases h1 : x1 = y1
  rotate_left
  · simp [h0, h1]
  by_cases h2 : x2 = y2
  rotate_left
  · simp [h0, h1, h2]
  by_cases h3 : x3 = y3
  rotate_left
  · simp [h0, h1, h2, h3]
  by_cases h4 : x4 = y4
  rotate_left
  · simp [h0, h1, h2, h3, h4]
  by_cases h5 : x5 = y5
  rotate_left
  · simp [h0, h1, h2, h3, h4, h5]
  by_cases h6 : x6 = y6
  rotate_left
  · simp [h0, h1, h2, h3, h4, h5, h6]
  by_cases h7 : x7 = y7
  rotate_left
  · simp [h0, h1, h2, h3, h4, h5, h6, h7]
  by_cases h8 : x8 = y8
  rotate_left
  · simp [h0, h1, h2, h3, h4, h5, h6, h7, h8]
  by_cases h9 : x9 = y9
  rotate_left
  · simp [h0, h1, h2, h3, h4, h5, h6, h7, h8, h9]
  simp [h0, h1, h2, h3, h4, h5, h6, h7, h8, h9]
theorem sameside_d (r : Bool) (sd sd' : Sd) (m m' : MSd) (w : World) (B : Nat) (h : SdR w B sd m) (h' : SdR w B sd' m') (hB : B ≤ w.heap.size) (hr : r = true ↔ m = m') :
    Calls Try.prog 41 #[sd.v, sd'.v] w fun e w' => e = .returned (.bool r) ∧ Below w.heap.size w w' := by
  refine (sameside_c sd sd' m m' w B h h' hB).mono ?_
  rintro e w' ⟨⟨r', rfl, hr'⟩, hb⟩
  refine ⟨?_, hb⟩
  rw [show r' = r by rw [Bool.eq_iff_iff, hr, hr']]
theorem wpList_load_mid' {P : Program} {ops : Array Oper} {rest : List Oper} {op : Oper} {a : Act} {w : World} {Q : Exit → Act → World → Prop} (hgd : Region.wanted op (yielded ops a.tmps) = true) (ty : TypeId) (x : Operand) (ho : op.op = .load ty x)
    (b o : Nat) (hx : a.eval x = .pointer (some ⟨b, o, none⟩)) (cs : List Value) (d : TypeDesc) (hc : w.rangeAt b o cs)
    (hu : P.underlying ty = some d) (hd : d.isRow = true) (hi : (P.info? ty).map (·.size) = some cs.length)
    (h : wpList P ops Q rest (a.put op.dst (.agg cs.toArray)) w) : wpList P ops Q (op :: rest) a w := by
  rw [wpList, if_pos hgd]
  exact Or.inl (wp_load_mid ty x ho b o hx cs d hc hu hd hi h)
set_option maxHeartbeats 25600000 in
set_option maxRecDepth 100000 in
theorem sameconf_c (m m' : MNd) (a1 : Option Addr) (c1 : Nat) (a2 : Option Addr) (c2 : Nat) (a3 : Option Addr) (c3 : Nat) (a4 : Option Addr) (c4 : Nat) (a5 : Option Addr) (c5 : Nat) (ds : List Sd)
    (a1' : Option Addr) (c1' : Nat) (a2' : Option Addr) (c2' : Nat) (a3' : Option Addr) (c3' : Nat) (a4' : Option Addr) (c4' : Nat) (a5' : Option Addr) (c5' : Nat) (ds' : List Sd) (w : World) (B : Nat)
    (h : CfO w B m a1 a2 a3 a4 a5 ds) (h' : CfO w B m' a1' a2' a3' a4' a5' ds') (hB : B ≤ w.heap.size) :
    Calls Try.prog 28 #[.agg (cfArr m a1 c1 a2 c2 a3 c3 a4 c4 a5 c5), .agg (cfArr m' a1' c1' a2' c2' a3' c3' a4' c4' a5' c5')] w (CPost (m.2 = m'.2) w) := by
  obtain ⟨ok, h1, h2, h3, h4, h5, h6, h7⟩ := h
  obtain ⟨ok', h1', h2', h3', h4', h5', h6', h7'⟩ := h'
  obtain ⟨ta, pc, md, er, us, ti, el, vs, cu, st, bf, af, so⟩ := m
  obtain ⟨ta', pc', md', er', us', ti', el', vs', cu', st', bf', af', so'⟩ := m'
  obtain ⟨_, _, _, _, _, _, _, ⟨ovl, _⟩, ⟨ocl, _⟩, ⟨osl, _⟩, ⟨obl, _⟩, ⟨oal, _⟩, ⟨odl, _⟩⟩ := ok
  obtain ⟨_, _, _, _, _, _, _, ⟨ovl', _⟩, ⟨ocl', _⟩, ⟨osl', _⟩, ⟨obl', _⟩, ⟨oal', _⟩, ⟨odl', _⟩⟩ := ok'
  simp only at ovl ocl osl obl oal odl h1 h2 h3 h4 h5 h6 h7 ovl' ocl' osl' obl' oal' odl' h1' h2' h3' h4' h5' h6' h7'
  obtain ⟨x0, x1, x2, x3, x4, x5, x6, x7, x8, x9, rfl⟩ := ten cu ocl
  obtain ⟨y0, y1, y2, y3, y4, y5, y6, y7, y8, y9, rfl⟩ := ten cu' ocl'
  have H7 := Lib.hid h7
  have H7' := Lib.hid h7'
  clear h7 h7' ocl ocl'
  have cne := fun W => cuts_ne x0 x1 x2 x3 x4 x5 x6 x7 x8 x9 y0 y1 y2 y3 y4 y5 y6 y7 y8 y9 W
  obtain ⟨rc, hrc⟩ : ∃ r, decide ([x0, x1, x2, x3, x4, x5, x6, x7, x8, x9] = [y0, y1, y2, y3, y4, y5, y6, y7, y8, y9]) = r := ⟨_, rfl⟩
  rw [hrc] at cne
  have HRC := Lib.hid hrc
  clear hrc
  simp only [cfArr]
  rw [cut9, cut9]
  obtain ⟨PP, hPP⟩ : ∃ P : Prop, P = ((pc, md, er, us, ti, el, vs, [x0, x1, x2, x3, x4, x5, x6, x7, x8, x9], st, bf, af, so) = (pc', md', er', us', ti', el', vs', [y0, y1, y2, y3, y4, y5, y6, y7, y8, y9], st', bf', af', so')) := ⟨_, rfl⟩
  rw [← hPP]
  have EQ : Hid (PP ↔ pc = pc' ∧ rc = true ∧ md = md' ∧ er = er' ∧ us = us' ∧ ti = ti' ∧ el = el' ∧ vs = vs' ∧ st = st' ∧ bf = bf' ∧ af = af' ∧ so = so') := Lib.hid (by
    rw [hPP, ← HRC.out, decide_eq_true_iff]
    simp only [Prod.mk.injEq]
    constructor
    · rintro ⟨e1, e2, e3, e4, e5, e6, e7, e8, e9, e10, e11, e12⟩; exact ⟨e1, e8, e2, e3, e4, e5, e6, e7, e9, e10, e11, e12⟩
    · rintro ⟨e1, e8, e2, e3, e4, e5, e6, e7, e9, e10, e11, e12⟩; exact ⟨e1, e2, e3, e4, e5, e6, e7, e8, e9, e10, e11, e12⟩)
  clear hPP
  obtain ⟨W0, hW0⟩ : ∃ x, (w.alloc (.cells #[.int .i64 pc, .slice a1 vs.length c1, .string (bz x0), .string (bz x1), .string (bz x2), .string (bz x3), .string (bz x4), .string (bz x5), .string (bz x6), .string (bz x7), .string (bz x8), .string (bz x9), .slice a2 st.length c2, .int .i64 md, .int .i64 er, .int .i64 us, .int .i64 ti, .int .i64 el, .slice a3 bf.length c3, .slice a4 af.length c4, .slice a5 so.length c5] 29)).alloc (.cells #[.int .i64 pc', .slice a1' vs'.length c1', .string (bz y0), .string (bz y1), .string (bz y2), .string (bz y3), .string (bz y4), .string (bz y5), .string (bz y6), .string (bz y7), .string (bz y8), .string (bz y9), .slice a2' st'.length c2', .int .i64 md', .int .i64 er', .int .i64 us', .int .i64 ti', .int .i64 el', .slice a3' bf'.length c3', .slice a4' af'.length c4', .slice a5' so'.length c5'] 29) = x := ⟨_, rfl⟩
  have hb0 : Below w.heap.size w W0 := by rw [← hW0]; go_grown
  have k1 : Blk W0 w.heap.size 29 #[.int .i64 pc, .slice a1 vs.length c1, .string (bz x0), .string (bz x1), .string (bz x2), .string (bz x3), .string (bz x4), .string (bz x5), .string (bz x6), .string (bz x7), .string (bz x8), .string (bz x9), .slice a2 st.length c2, .int .i64 md, .int .i64 er, .int .i64 us, .int .i64 ti, .int .i64 el, .slice a3 bf.length c3, .slice a4 af.length c4, .slice a5 so.length c5] := by rw [← hW0]; exact (Blk.new _ _ _).alloc _
  have k2 : Blk W0 (w.heap.size + 1) 29 #[.int .i64 pc', .slice a1' vs'.length c1', .string (bz y0), .string (bz y1), .string (bz y2), .string (bz y3), .string (bz y4), .string (bz y5), .string (bz y6), .string (bz y7), .string (bz y8), .string (bz y9), .slice a2' st'.length c2', .int .i64 md', .int .i64 er', .int .i64 us', .int .i64 ti', .int .i64 el', .slice a3' bf'.length c3', .slice a4' af'.length c4', .slice a5' so'.length c5'] := by rw [← hW0]; exact Blk.new1 _ _ _ _
  have hz0 : W0.heap.size = w.heap.size + 2 := by rw [← hW0, World.size_alloc, World.size_alloc]
  replace h1 := h1.below (hb0.mono hB)
  replace h2 := h2.below (hb0.mono hB)
  replace h3 := h3.below (hb0.mono hB)
  replace h4 := h4.below (hb0.mono hB)
  replace h5 := h5.below (hb0.mono hB)
  replace h1' := h1'.below (hb0.mono hB)
  replace h2' := h2'.below (hb0.mono hB)
  replace h3' := h3'.below (hb0.mono hB)
  replace h4' := h4'.below (hb0.mono hB)
  replace h5' := h5'.below (hb0.mono hB)
  have K1 := Lib.hid k1
  have K2 := Lib.hid k2
  clear k1 k2
  go_enter Try.func28, Try.ntmps28
  go_upto_region 1 with fail
  have k1 := K1.out
  have k2 := K2.out
  have q0 := k1.cell 0
  have q0' := k2.cell 0
  have q1 := k1.cell 1
  have q1' := k2.cell 1
  have q2 := k1.cell 2
  have q2' := k2.cell 2
  have q3 := k1.cell 3
  have q3' := k2.cell 3
  have q4 := k1.cell 4
  have q4' := k2.cell 4
  have q5 := k1.cell 5
  have q5' := k2.cell 5
  have q6 := k1.cell 6
  have q6' := k2.cell 6
  have q7 := k1.cell 7
  have q7' := k2.cell 7
  have q8 := k1.cell 8
  have q8' := k2.cell 8
  have q9 := k1.cell 9
  have q9' := k2.cell 9
  have q10 := k1.cell 10
  have q10' := k2.cell 10
  have q11 := k1.cell 11
  have q11' := k2.cell 11
  have q12 := k1.cell 12
  have q12' := k2.cell 12
  have q13 := k1.cell 13
  have q13' := k2.cell 13
  have q14 := k1.cell 14
  have q14' := k2.cell 14
  have q15 := k1.cell 15
  have q15' := k2.cell 15
  have q16 := k1.cell 16
  have q16' := k2.cell 16
  have q17 := k1.cell 17
  have q17' := k2.cell 17
  have q18 := k1.cell 18
  have q18' := k2.cell 18
  have q19 := k1.cell 19
  have q19' := k2.cell 19
  have q20 := k1.cell 20
  have q20' := k2.cell 20
  simp only [List.getElem?_toArray, List.getElem?_cons_zero, List.getElem?_cons_succ] at q0 q0' q1 q1' q2 q2' q3 q3' q4 q4' q5 q5' q6 q6' q7 q7' q8 q8' q9 q9' q10 q10' q11 q11' q12 q12' q13 q13' q14 q14' q15 q15' q16 q16' q17 q17' q18 q18' q19 q19' q20 q20'
  clear k1 k2
  obtain ⟨V0, hV0⟩ : ∃ x, Value.agg #[.int .i64 pc, .slice a1 vs.length c1, .string (bz x0), .string (bz x1), .string (bz x2), .string (bz x3), .string (bz x4), .string (bz x5), .string (bz x6), .string (bz x7), .string (bz x8), .string (bz x9), .slice a2 st.length c2, .int .i64 md, .int .i64 er, .int .i64 us, .int .i64 ti, .int .i64 el, .slice a3 bf.length c3, .slice a4 af.length c4, .slice a5 so.length c5] = x := ⟨_, rfl⟩
  obtain ⟨V1, hV1⟩ : ∃ x, Value.agg #[.int .i64 pc', .slice a1' vs'.length c1', .string (bz y0), .string (bz y1), .string (bz y2), .string (bz y3), .string (bz y4), .string (bz y5), .string (bz y6), .string (bz y7), .string (bz y8), .string (bz y9), .slice a2' st'.length c2', .int .i64 md', .int .i64 er', .int .i64 us', .int .i64 ti', .int .i64 el', .slice a3' bf'.length c3', .slice a4' af'.length c4', .slice a5' so'.length c5'] = x := ⟨_, rfl⟩
  rw [hV0, hV1]
  clear hV0 hV1
  by_cases e0 : pc = pc'
  rotate_left
  · have d0 : (pc != pc') = true := by simpa [bne] using e0
    have NE : ¬ PP := fun e => by
      obtain ⟨e, _⟩ := EQ.out.1 e
      exact e0 e
    have HNE := Lib.hid NE
    clear NE
    go_wp2
    go_ret
    exact ⟨⟨false, rfl, fun h => (by cases h), fun h => absurd h HNE.out⟩, hb0⟩
  have d0 : (pc != pc') = false := by simpa [bne] using e0
  by_cases e1 : rc = true
  rotate_left
  · obtain rfl : rc = false := by simpa using e1
    have NE : ¬ PP := fun e => by
      obtain ⟨_, e, _⟩ := EQ.out.1 e
      exact (by cases e)
    have HNE := Lib.hid NE
    clear NE
    go_wp2
    go_ret
    exact ⟨⟨false, rfl, fun h => (by cases h), fun h => absurd h HNE.out⟩, hb0⟩
  subst e1
  by_cases e2 : md = md'
  rotate_left
  · have d2 : (md != md') = true := by simpa [bne] using e2
    have NE : ¬ PP := fun e => by
      obtain ⟨_, _, e, _⟩ := EQ.out.1 e
      exact e2 e
    have HNE := Lib.hid NE
    clear NE
    go_wp2
    go_ret
    exact ⟨⟨false, rfl, fun h => (by cases h), fun h => absurd h HNE.out⟩, hb0⟩
  have d2 : (md != md') = false := by simpa [bne] using e2
  by_cases e3 : er = er'
  rotate_left
  · have d3 : (er != er') = true := by simpa [bne] using e3
    have NE : ¬ PP := fun e => by
      obtain ⟨_, _, _, e, _⟩ := EQ.out.1 e
      exact e3 e
    have HNE := Lib.hid NE
    clear NE
    go_wp2
    go_ret
    exact ⟨⟨false, rfl, fun h => (by cases h), fun h => absurd h HNE.out⟩, hb0⟩
  have d3 : (er != er') = false := by simpa [bne] using e3
  by_cases e4 : us = us'
  rotate_left
  · have d4 : (us != us') = true := by simpa [bne] using e4
    have NE : ¬ PP := fun e => by
      obtain ⟨_, _, _, _, e, _⟩ := EQ.out.1 e
      exact e4 e
    have HNE := Lib.hid NE
    clear NE
    go_wp2
    go_ret
    exact ⟨⟨false, rfl, fun h => (by cases h), fun h => absurd h HNE.out⟩, hb0⟩
  have d4 : (us != us') = false := by simpa [bne] using e4
  by_cases e5 : ti = ti'
  rotate_left
  · have d5 : (ti != ti') = true := by simpa [bne] using e5
    have NE : ¬ PP := fun e => by
      obtain ⟨_, _, _, _, _, e, _⟩ := EQ.out.1 e
      exact e5 e
    have HNE := Lib.hid NE
    clear NE
    go_wp2
    go_ret
    exact ⟨⟨false, rfl, fun h => (by cases h), fun h => absurd h HNE.out⟩, hb0⟩
  have d5 : (ti != ti') = false := by simpa [bne] using e5
  by_cases e6 : el = el'
  rotate_left
  · have d6 : (el != el') = true := by simpa [bne] using e6
    have NE : ¬ PP := fun e => by
      obtain ⟨_, _, _, _, _, _, e, _⟩ := EQ.out.1 e
      exact e6 e
    have HNE := Lib.hid NE
    clear NE
    go_wp2
    go_ret
    exact ⟨⟨false, rfl, fun h => (by cases h), fun h => absurd h HNE.out⟩, hb0⟩
  have d6 : (el != el') = false := by simpa [bne] using e6
  by_cases e7 : so.length = so'.length
  rotate_left
  · have d7 : ((so.length : Int) != (so'.length : Int)) = true := by simp [bne]; omega
    have NE : ¬ PP := fun e => by
      obtain ⟨_, _, _, _, _, _, _, _, _, _, _, e⟩ := EQ.out.1 e
      exact e7 (by rw [e])
    have HNE := Lib.hid NE
    clear NE
    go_wp2
    go_ret
    exact ⟨⟨false, rfl, fun h => (by cases h), fun h => absurd h HNE.out⟩, hb0⟩
  have d7 : ((so.length : Int) != (so'.length : Int)) = false := by simp [bne]; omega
  have ALL : Hid ((vs = vs' ∧ st = st' ∧ bf = bf' ∧ af = af' ∧ so = so') ↔ PP) := Lib.hid (by
    rw [EQ.out]
    exact ⟨fun ⟨a, b, c, d, e⟩ => ⟨e0, rfl, e2, e3, e4, e5, e6, a, b, c, d, e⟩, fun ⟨_, _, _, _, _, _, _, a, b, c, d, e⟩ => ⟨a, b, c, d, e⟩⟩)
  clear EQ
  go_wp2_with fail
  clear d0 d2 d3 d4 d5 d6 d7 cne
  clear q0 q0' q1 q1' q2 q2' q3 q3' q4 q4' q5 q5' q6 q6' q7 q7' q8 q8' q9 q9' q10 q10' q11 q11' q12 q12' q13 q13' q14 q14' q15 q15' q16 q16' q17 q17' q18 q18' q19 q19' q20 q20'
  go_loopw [5] (fun v wr => ∃ k : Nat, v = .int .i64 k ∧ k ≤ so.length ∧ Hid (so.take k = so'.take k) ∧ Below W0.heap.size W0 wr) (fun v _ => so.length - (intOf v).toNat)
  case atStart => exact ⟨0, rfl, by omega, Lib.hid rfl, Below.refl _ _⟩
  case round =>
    obtain ⟨k, rfl, hk, HK, hbr⟩ := hrel
    have s20 := (K1.out.next hbr).cell 20
    have s20' := (K2.out.next hbr).cell 20
    simp only [List.getElem?_toArray, List.getElem?_cons_zero, List.getElem?_cons_succ] at s20 s20'
    have hzr := hbr.size
    by_cases hlt : k < so.length
    · have dk : decide ((k : Int) < (so.length : Int)) = true := by simp; omega
      obtain ⟨g, o, rfl, hg, hcell⟩ := Rd.flat (h5.below (hbr.mono (by omega))) (by omega) (by omega)
      obtain ⟨g', o', rfl, hg', hcell'⟩ := Rd.flat (h5'.below (hbr.mono (by omega))) (by omega) (by omega)
      obtain ⟨x, hx⟩ : ∃ x, so[k]? = some x := ⟨_, List.getElem?_eq_getElem hlt⟩
      obtain ⟨x', hx'⟩ : ∃ x, so'[k]? = some x := ⟨_, List.getElem?_eq_getElem (by omega)⟩
      obtain ⟨d, hd⟩ : ∃ d, ds[k]? = some d := ⟨_, List.getElem?_eq_getElem (by omega)⟩
      obtain ⟨d', hd'⟩ : ∃ d, ds'[k]? = some d := ⟨_, List.getElem?_eq_getElem (by omega)⟩
      have hsd := SdR.below (H7.out k d x hd hx) ((hb0.mono hB).trans (hbr.mono (by omega)))
      have hsd' := SdR.below (H7'.out k d' x' hd' hx') ((hb0.mono hB).trans (hbr.mono (by omega)))
      have sc := fun j hj => scells_at ds k j d hd hj
      have sc' := fun j hj => scells_at ds' k j d' hd' hj
      obtain ⟨r, hr⟩ : ∃ r : Bool, r = true ↔ x = x' := by
        by_cases hh : x = x'
        · exact ⟨true, fun _ => hh, fun _ => rfl⟩
        · exact ⟨false, fun h => (by cases h), fun h => absurd h hh⟩
      have ct := fun y : Cls wr => call_cls (sameside_d r d d' x x' y.val B (SdR.below hsd (y.ok.mono (by omega))) (SdR.below hsd' (y.ok.mono (by omega))) (by have := y.ok.size; omega) hr)
      obtain ⟨da, db, dc, dp, dk, dty, dla, dln, dlc, dfl, dga, dgn, dgc, dre, dbu⟩ := d
      obtain ⟨da', db', dc', dp', dk', dty', dla', dln', dlc', dfl', dga', dgn', dgc', dre', dbu'⟩ := d'
      simp only [Sd.v] at ct
      have hgl : g < wr.heap.size := by omega
      have hgl' : g' < wr.heap.size := by omega
      have s0 : ∀ x : Cls wr, x.val.cell? ⟨g, o + k * 11, none⟩ = some (.bool da) := fun x => (x.ok.cell (p := ⟨g, o + k * 11, none⟩) hgl).trans (by exact hcell _ _ (sc 0 (by omega)))
      have s1 : ∀ x : Cls wr, x.val.cell? ⟨g, o + k * 11 + 1, none⟩ = some (.bool db) := fun x => (x.ok.cell (p := ⟨g, o + k * 11 + 1, none⟩) hgl).trans (by rw [Nat.add_assoc]; exact hcell _ _ (sc 1 (by omega)))
      have s2 : ∀ x : Cls wr, x.val.cell? ⟨g, o + k * 11 + 2, none⟩ = some (.bool dc) := fun x => (x.ok.cell (p := ⟨g, o + k * 11 + 2, none⟩) hgl).trans (by rw [Nat.add_assoc]; exact hcell _ _ (sc 2 (by omega)))
      have s3 : ∀ x : Cls wr, x.val.cell? ⟨g, o + k * 11 + 3, none⟩ = some (.int .i64 dp) := fun x => (x.ok.cell (p := ⟨g, o + k * 11 + 3, none⟩) hgl).trans (by rw [Nat.add_assoc]; exact hcell _ _ (sc 3 (by omega)))
      have s4 : ∀ x : Cls wr, x.val.cell? ⟨g, o + k * 11 + 4, none⟩ = some (.int .i64 dk) := fun x => (x.ok.cell (p := ⟨g, o + k * 11 + 4, none⟩) hgl).trans (by rw [Nat.add_assoc]; exact hcell _ _ (sc 4 (by omega)))
      have s5 : ∀ x : Cls wr, x.val.cell? ⟨g, o + k * 11 + 5, none⟩ = some (.string dty) := fun x => (x.ok.cell (p := ⟨g, o + k * 11 + 5, none⟩) hgl).trans (by rw [Nat.add_assoc]; exact hcell _ _ (sc 5 (by omega)))
      have s6 : ∀ x : Cls wr, x.val.cell? ⟨g, o + k * 11 + 6, none⟩ = some (.slice dla dln dlc) := fun x => (x.ok.cell (p := ⟨g, o + k * 11 + 6, none⟩) hgl).trans (by rw [Nat.add_assoc]; exact hcell _ _ (sc 6 (by omega)))
      have s7 : ∀ x : Cls wr, x.val.cell? ⟨g, o + k * 11 + 7, none⟩ = some (.string dfl) := fun x => (x.ok.cell (p := ⟨g, o + k * 11 + 7, none⟩) hgl).trans (by rw [Nat.add_assoc]; exact hcell _ _ (sc 7 (by omega)))
      have s8 : ∀ x : Cls wr, x.val.cell? ⟨g, o + k * 11 + 8, none⟩ = some (.slice dga dgn dgc) := fun x => (x.ok.cell (p := ⟨g, o + k * 11 + 8, none⟩) hgl).trans (by rw [Nat.add_assoc]; exact hcell _ _ (sc 8 (by omega)))
      have s9 : ∀ x : Cls wr, x.val.cell? ⟨g, o + k * 11 + 9, none⟩ = some (.string dre) := fun x => (x.ok.cell (p := ⟨g, o + k * 11 + 9, none⟩) hgl).trans (by rw [Nat.add_assoc]; exact hcell _ _ (sc 9 (by omega)))
      have s10 : ∀ x : Cls wr, x.val.cell? ⟨g, o + k * 11 + 10, none⟩ = some (.string dbu) := fun x => (x.ok.cell (p := ⟨g, o + k * 11 + 10, none⟩) hgl).trans (by rw [Nat.add_assoc]; exact hcell _ _ (sc 10 (by omega)))
      have s0' : ∀ x : Cls wr, x.val.cell? ⟨g', o' + k * 11, none⟩ = some (.bool da') := fun x => (x.ok.cell (p := ⟨g', o' + k * 11, none⟩) hgl').trans (by exact hcell' _ _ (sc' 0 (by omega)))
      have s1' : ∀ x : Cls wr, x.val.cell? ⟨g', o' + k * 11 + 1, none⟩ = some (.bool db') := fun x => (x.ok.cell (p := ⟨g', o' + k * 11 + 1, none⟩) hgl').trans (by rw [Nat.add_assoc]; exact hcell' _ _ (sc' 1 (by omega)))
      have s2' : ∀ x : Cls wr, x.val.cell? ⟨g', o' + k * 11 + 2, none⟩ = some (.bool dc') := fun x => (x.ok.cell (p := ⟨g', o' + k * 11 + 2, none⟩) hgl').trans (by rw [Nat.add_assoc]; exact hcell' _ _ (sc' 2 (by omega)))
      have s3' : ∀ x : Cls wr, x.val.cell? ⟨g', o' + k * 11 + 3, none⟩ = some (.int .i64 dp') := fun x => (x.ok.cell (p := ⟨g', o' + k * 11 + 3, none⟩) hgl').trans (by rw [Nat.add_assoc]; exact hcell' _ _ (sc' 3 (by omega)))
      have s4' : ∀ x : Cls wr, x.val.cell? ⟨g', o' + k * 11 + 4, none⟩ = some (.int .i64 dk') := fun x => (x.ok.cell (p := ⟨g', o' + k * 11 + 4, none⟩) hgl').trans (by rw [Nat.add_assoc]; exact hcell' _ _ (sc' 4 (by omega)))
      have s5' : ∀ x : Cls wr, x.val.cell? ⟨g', o' + k * 11 + 5, none⟩ = some (.string dty') := fun x => (x.ok.cell (p := ⟨g', o' + k * 11 + 5, none⟩) hgl').trans (by rw [Nat.add_assoc]; exact hcell' _ _ (sc' 5 (by omega)))
      have s6' : ∀ x : Cls wr, x.val.cell? ⟨g', o' + k * 11 + 6, none⟩ = some (.slice dla' dln' dlc') := fun x => (x.ok.cell (p := ⟨g', o' + k * 11 + 6, none⟩) hgl').trans (by rw [Nat.add_assoc]; exact hcell' _ _ (sc' 6 (by omega)))
      have s7' : ∀ x : Cls wr, x.val.cell? ⟨g', o' + k * 11 + 7, none⟩ = some (.string dfl') := fun x => (x.ok.cell (p := ⟨g', o' + k * 11 + 7, none⟩) hgl').trans (by rw [Nat.add_assoc]; exact hcell' _ _ (sc' 7 (by omega)))
      have s8' : ∀ x : Cls wr, x.val.cell? ⟨g', o' + k * 11 + 8, none⟩ = some (.slice dga' dgn' dgc') := fun x => (x.ok.cell (p := ⟨g', o' + k * 11 + 8, none⟩) hgl').trans (by rw [Nat.add_assoc]; exact hcell' _ _ (sc' 8 (by omega)))
      have s9' : ∀ x : Cls wr, x.val.cell? ⟨g', o' + k * 11 + 9, none⟩ = some (.string dre') := fun x => (x.ok.cell (p := ⟨g', o' + k * 11 + 9, none⟩) hgl').trans (by rw [Nat.add_assoc]; exact hcell' _ _ (sc' 9 (by omega)))
      have s10' : ∀ x : Cls wr, x.val.cell? ⟨g', o' + k * 11 + 10, none⟩ = some (.string dbu') := fun x => (x.ok.cell (p := ⟨g', o' + k * 11 + 10, none⟩) hgl').trans (by rw [Nat.add_assoc]; exact hcell' _ _ (sc' 10 (by omega)))
      have f20 := (K1.out.next hbr).cls
      have f20' := (K2.out.next hbr).cls
      have s20 := fun y : Cls wr => f20 y 20
      have s20' := fun y : Cls wr => f20' y 20
      simp only [List.getElem?_toArray, List.getElem?_cons_zero, List.getElem?_cons_succ] at s20 s20'
      have TK : Hid (r = true → so.take (k + 1) = so'.take (k + 1)) := Lib.hid (fun h => by rw [List.take_add_one, List.take_add_one, HK.out, hx, hx', hr.1 h])
      have NK : Hid (r = false → ¬ PP) := Lib.hid (fun h e => by
        have e := (ALL.out.2 e).2.2.2.2
        rw [e, hx'] at hx
        injection hx with hx
        rw [hr.2 hx.symm] at h; cases h)
      clear hx hx' hd hd' sc sc' hcell hcell' hsd hsd' hr f20 f20'
      go_wp2_with fail
      refine wp_region_cls (by kernel_rfl) (by kernel_rfl) ?_
      repeat (quiet_step (first
          | (go_at_call 41; with_reducible exact ct _)))
      refine wpQuiet_nil ?_
      rintro _ ⟨y, rfl⟩
      have hb9 := via y.ok hbr
      generalize y.val = w9 at *
      cases r
      · have NP := Lib.hid (NK.out rfl)
        go_wp2
        go_ret
        exact ⟨⟨false, rfl, fun h => (by cases h), fun h => absurd h NP.out⟩, via hb9 hb0⟩
      · have TK2 := Lib.hid (TK.out rfl)
        clear s0 s1 s2 s3 s4 s5 s6 s7 s8 s9 s10 s0' s1' s2' s3' s4' s5' s6' s7' s8' s9' s10' s20 s20' ct
        go_wp2
        go_roundw
        case rel => exact ⟨k + 1, by go_num, by omega, TK2, hb9⟩
        case measure => simp [intOf] <;> omega
    have dk : decide ((k : Int) < (so.length : Int)) = false := by simp; omega
    have hso : Hid (so = so') := Lib.hid (by
      have ha := HK.out
      rw [List.take_of_length_le (by omega), List.take_of_length_le (by omega)] at ha
      exact ha)
    have z0 := (K1.out.next hbr).cell 1
    have z0' := (K2.out.next hbr).cell 1
    simp only [List.getElem?_toArray, List.getElem?_cons_zero, List.getElem?_cons_succ] at z0 z0'
    have ct := samevars_c a1 a1' vs.length c1 vs'.length c1' vs vs' wr B (h1.below (hbr.mono (by omega))) (h1'.below (hbr.mono (by omega))) (by omega) (by omega)
    obtain ⟨rv, hrv⟩ : ∃ r, decide (vs = vs') = r := ⟨_, rfl⟩
    rw [hrv] at ct
    have Hrv := Lib.hid hrv
    clear hrv
    go_wp2_with fail
    (with_reducible refine ct.mono ?_)
    rintro e v0 ⟨rfl, b0⟩
    have hv0 := via b0 hbr
    clear ct z0 z0' b0
    cases rv
    · have NP : Hid (¬ PP) := Lib.hid (fun e => by
        have e := (ALL.out.2 e).1
        have := Hrv.out
        rw [decide_eq_false_iff_not] at this; exact this e)
      go_wp2
      go_ret
      exact ⟨⟨false, rfl, fun h => (by cases h), fun h => absurd h NP.out⟩, via hv0 hb0⟩
    have z1 := (K1.out.next hv0).cell 12
    have z1' := (K2.out.next hv0).cell 12
    simp only [List.getElem?_toArray, List.getElem?_cons_zero, List.getElem?_cons_succ] at z1 z1'
    have ct := sameints_c a2 a2' st.length c2 st'.length c2' st st' v0 B (h2.below (hv0.mono (by omega))) (h2'.below (hv0.mono (by omega))) (by omega) (by omega)
    obtain ⟨rs, hrs⟩ : ∃ r, decide (st = st') = r := ⟨_, rfl⟩
    rw [hrs] at ct
    have Hrs := Lib.hid hrs
    clear hrs
    go_wp2_with fail
    (with_reducible refine ct.mono ?_)
    rintro e v1 ⟨rfl, b1⟩
    have hv1 := via b1 hv0
    clear ct z1 z1' b1
    cases rs
    · have NP : Hid (¬ PP) := Lib.hid (fun e => by
        have e := (ALL.out.2 e).2.1
        have := Hrs.out
        rw [decide_eq_false_iff_not] at this; exact this e)
      go_wp2
      go_ret
      exact ⟨⟨false, rfl, fun h => (by cases h), fun h => absurd h NP.out⟩, via hv1 hb0⟩
    have z2 := (K1.out.next hv1).cell 18
    have z2' := (K2.out.next hv1).cell 18
    simp only [List.getElem?_toArray, List.getElem?_cons_zero, List.getElem?_cons_succ] at z2 z2'
    have ct := sameints_c a3 a3' bf.length c3 bf'.length c3' bf bf' v1 B (h3.below (hv1.mono (by omega))) (h3'.below (hv1.mono (by omega))) (by omega) (by omega)
    obtain ⟨rb, hrb⟩ : ∃ r, decide (bf = bf') = r := ⟨_, rfl⟩
    rw [hrb] at ct
    have Hrb := Lib.hid hrb
    clear hrb
    go_wp2_with fail
    (with_reducible refine ct.mono ?_)
    rintro e v2 ⟨rfl, b2⟩
    have hv2 := via b2 hv1
    clear ct z2 z2' b2
    cases rb
    · have NP : Hid (¬ PP) := Lib.hid (fun e => by
        have e := (ALL.out.2 e).2.2.1
        have := Hrb.out
        rw [decide_eq_false_iff_not] at this; exact this e)
      go_wp2
      go_ret
      exact ⟨⟨false, rfl, fun h => (by cases h), fun h => absurd h NP.out⟩, via hv2 hb0⟩
    have z3 := (K1.out.next hv2).cell 19
    have z3' := (K2.out.next hv2).cell 19
    simp only [List.getElem?_toArray, List.getElem?_cons_zero, List.getElem?_cons_succ] at z3 z3'
    have ct := sameints_c a4 a4' af.length c4 af'.length c4' af af' v2 B (h4.below (hv2.mono (by omega))) (h4'.below (hv2.mono (by omega))) (by omega) (by omega)
    obtain ⟨ra, hra⟩ : ∃ r, decide (af = af') = r := ⟨_, rfl⟩
    rw [hra] at ct
    have Hra := Lib.hid hra
    clear hra
    go_wp2_with fail
    (with_reducible refine ct.mono ?_)
    rintro e v3 ⟨rfl, b3⟩
    have hv3 := via b3 hv2
    clear ct z3 z3' b3
    cases ra
    · have NP : Hid (¬ PP) := Lib.hid (fun e => by
        have e := (ALL.out.2 e).2.2.2.1
        have := Hra.out
        rw [decide_eq_false_iff_not] at this; exact this e)
      go_wp2
      go_ret
      exact ⟨⟨false, rfl, fun h => (by cases h), fun h => absurd h NP.out⟩, via hv3 hb0⟩
    have YP : Hid PP := Lib.hid (ALL.out.1 ⟨of_decide_eq_true Hrv.out, of_decide_eq_true Hrs.out, of_decide_eq_true Hrb.out, of_decide_eq_true Hra.out, hso.out⟩)
    go_wp2
    go_ret
    exact ⟨⟨true, rfl, fun _ => YP.out, fun _ => rfl⟩, via hv3 hb0⟩
end StaE
end Go.Proofs.Ytfkjogkpdebepaa
