/- The groups of the first way: the walk of Find. Conditions: trees that may be printed may be walked; texts that fit. -/
import Derived.Test.YtpdmjegbjcefjaaDoorGrpEn
import Derived.Test.YtpdmjegbjcefjaaDoorEreSm
import Derived.Deep.MidRow
import Derived.Great.BuildSlice
import Derived.Test.YtpdmjegbjcefjaaDoorEreNm
import Derived.Test.YtpdmjegbjcefjaaDoorOpenG
namespace Go.Proofs.YtpdmjegbjcefjaaDoor
set_option linter.unusedVariables false
set_option linter.unusedSimpArgs false
open Go.RowKit
namespace GrpW
open EreP EreW EreX GrpP GrpS
def endS (n t : Nat) : List Bool := (noneS n).set t true
abbrev zCu : Cuts := List.replicate 10 (0, 0)
abbrev mCu : Cuts := List.replicate 10 (-1, -1)
/-- What Find tells. -/
def findS (r : Re) (s : ByteArray) (f t : Int) : Cuts × Bool :=
  if (printR r).2 = 0 ∧ 0 ≤ f ∧ f ≤ t ∧ t ≤ s.size then
    if (backS (bsS s) r (endS s.size t.toNat)).getD f.toNat false = true then ((firstS (bsS s) r f.toNat (endS s.size t.toNat) mCu).2.set 0 (f, t), true) else (zCu, false)
  else (zCu, false)
theorem results_two {P : Program} {fn : Func} {p a : Tmp} {ty : TypeId} (h : fn.results = #[.cell p ty, .tmp a]) (tmps : Array Value) (w : World) (g : Nat) (t : TypeId) (cs : Array Value) (fr : Nat × Nat) (d : TypeDesc) (va : Value)
    (hp : tmps.getD p undef = .pointer (some ⟨g, 0, none⟩)) (ha : tmps.getD a undef = va) (hg : w.heap[g]? = some (.cells cs t fr))
    (hu : P.underlying ty = some d) (hd : (match d with | .struct _ | .array _ _ => true | _ => false) = true) (hi : (P.info? ty).map (·.size) = some cs.size) :
    (results fn tmps).run P w = .ok (.tuple #[.agg cs, va]) w := by
  have hp' : tmps[p]?.getD undef = .pointer (some ⟨g, 0, none⟩) := by simpa using hp
  have ha' : tmps[a]?.getD undef = va := by simpa using ha
  simp [results, h, hp', ha', asAddr, run_loadVar_row w g t ty cs fr d hg hu hd hi]
theorem built_match (cu : Cuts) (hl : cu.length = 10) : Tryd.prog.built 35 [(0, .agg (cutV cu).toArray)] = some (cutV cu).toArray := by
  obtain ⟨p0, p1, p2, p3, p4, p5, p6, p7, p8, p9, rfl⟩ := cut10 cu hl
  kernel_rfl
theorem zway (s : ByteArray) : wayV s zCu = #[.string s, .int .i64 0, .int .i64 0, .int .i64 0, .int .i64 0, .int .i64 0, .int .i64 0, .int .i64 0, .int .i64 0, .int .i64 0, .int .i64 0, .int .i64 0, .int .i64 0, .int .i64 0, .int .i64 0, .int .i64 0, .int .i64 0, .int .i64 0, .int .i64 0, .int .i64 0, .int .i64 0] := rfl
set_option maxRecDepth 100000 in
set_option maxHeartbeats 3200000 in
theorem find_c {K : Nat → Prop} (r : Re) (w : World) (cs : List Value) (h : Rt w K r cs) (hn : nodesR r ≤ 1073741824) (hw : (printR r).2 = 0 → wfR r) (s : ByteArray) (hs : s.size ≤ 1000000) (f t : Int) :
    Calls Tryd.prog 10 #[.agg cs.toArray, .string s, .int .i64 f, .int .i64 t] w fun e w' => e = .returned (.tuple #[.agg (cutV (findS r s f t).1).toArray, .bool (findS r s f t).2]) ∧ Below w.heap.size w w' := by
  obtain ⟨A, c, rfl, hS, hnil⟩ := h.shape
  have HM := Lib.hid (fun W (hW : Below w.heap.size w W) => may_c r W _ (h.bel hW) hn)
  have HH := Lib.hid h
  have HW := Lib.hid hw
  have HR9 := Lib.hid (fun (_ : Unit) => h)
  obtain ⟨k0, hk0⟩ : ∃ k, r.kind = k := ⟨_, rfl⟩
  obtain ⟨k1, hk1⟩ : ∃ k, r.set = k := ⟨_, rfl⟩
  obtain ⟨k2, hk2⟩ : ∃ k, r.kids.length = k := ⟨_, rfl⟩
  obtain ⟨k3, hk3⟩ : ∃ k, r.lo = k := ⟨_, rfl⟩
  obtain ⟨k4, hk4⟩ : ∃ k, r.hi = k := ⟨_, rfl⟩
  obtain ⟨k5, hk5⟩ : ∃ k, r.n = k := ⟨_, rfl⟩
  rw [hk0, hk1, hk2, hk3, hk4, hk5] at HM HH
  rw [hk0, hk1, hk2, hk3, hk4, hk5]
  clear hk0 hk1 hk2 hk3 hk4 hk5 h hw hS hnil HR9
  obtain ⟨F, hF⟩ : ∃ F, findS r s f t = F := ⟨_, rfl⟩
  rw [hF]
  have HF := Lib.hid hF
  clear hF
  obtain ⟨PR, hPR⟩ : ∃ PR, (printR r).2 = PR := ⟨_, rfl⟩
  rw [hPR] at HM HW
  have HPR := Lib.hid hPR
  clear hPR
  go_enter Tryd.func10, Tryd.ntmps10
  go_upto_region 1 with fail
  obtain ⟨w1, hw1⟩ : ∃ z : World, (w.alloc (.cells (reC k0 k1 A k2 c k3 k4 k5).toArray 27)).alloc (.cells #[.int .i64 0, .int .i64 0, .int .i64 0, .int .i64 0, .int .i64 0, .int .i64 0, .int .i64 0, .int .i64 0, .int .i64 0, .int .i64 0, .int .i64 0, .int .i64 0, .int .i64 0, .int .i64 0, .int .i64 0, .int .i64 0, .int .i64 0, .int .i64 0, .int .i64 0, .int .i64 0] 35) = z := ⟨_, rfl⟩
  have B1 : Below w.heap.size w w1 := by rw [← hw1]; go_grown
  have X1 : Blk w1 w.heap.size 27 (reC k0 k1 A k2 c k3 k4 k5).toArray := by rw [← hw1]; exact (Blk.new _ _ _).alloc _
  have Z1 : Blk w1 (w.heap.size + 1) 35 (cutV zCu).toArray := by rw [← hw1]; exact Blk.new1 _ _ _ _
  rw [hw1]
  clear hw1
  have hn := fun cu (h : List.length cu = 10) => (show (Tryd.prog.info? 35).map (·.size) = some (cutV cu).toArray.size by rw [List.size_toArray, cutV_len, h]; kernel_rfl)
  have HN := Lib.hid hn
  clear hn
  have c1 := HM.out w1 B1
  have p0 := X1.cell 0
  have p1 := X1.cell 1
  have p2 := X1.cell 2
  have p3 := X1.cell 3
  have p4 := X1.cell 4
  have p5 := X1.cell 5
  have p6 := X1.cell 6
  have p7 := X1.cell 7
  have p8 := X1.cell 8
  simp only [List.getElem?_toArray, List.getElem?_cons_zero, List.getElem?_cons_succ] at p0 p1 p2 p3 p4 p5 p6 p7 p8
  by_cases hc : PR = 0 ∧ 0 ≤ f ∧ f ≤ t ∧ t ≤ s.size
  rotate_left
  · have hz : F = (zCu, false) := by rw [← HF.out, findS, HPR.out, if_neg hc]
    have hex : (PR == 0) = false ∨ ((PR == 0) = true ∧ decide (f < 0) = true) ∨ ((PR == 0) = true ∧ decide (f < 0) = false ∧ decide (t < f) = true) ∨ ((PR == 0) = true ∧ decide (f < 0) = false ∧ decide (t < f) = false ∧ decide ((s.size : Int) < t) = true) := by
      by_cases x0 : PR = 0
      · have y0 : (PR == 0) = true := by simpa using x0
        by_cases x1 : f < 0
        · exact .inr (.inl ⟨y0, decide_eq_true x1⟩)
        · by_cases x2 : t < f
          · exact .inr (.inr (.inl ⟨y0, decide_eq_false x1, decide_eq_true x2⟩))
          · exact .inr (.inr (.inr ⟨y0, decide_eq_false x1, decide_eq_false x2, decide_eq_true (by omega)⟩))
      · exact .inl (by simpa using x0)
    have HZ := Lib.hid hz
    clear hc hz HW
    rcases hex with e0 | ⟨e0, e1⟩ | ⟨e0, e1, e2⟩ | ⟨e0, e1, e2, e3⟩
    all_goals
      rw [e0] at c1
      go_wp2_with fail
      (with_reducible refine c1.mono ?_)
      rintro e w2 ⟨rfl, b2⟩
      have z2 := Z1.next b2
      have B2 := via b2 B1
      go_wp2_with (refine wpList_store_row (by rfl) 35 (.tmp 8) (.tmp 31) (by rfl) (w.heap.size + 1) (cutV zCu).toArray (by rfl) (by rfl) 35 _ (by exact z2) (by exact HN.out zCu rfl) (by rfl) (by exact cutV_one _) ?_)
      refine bodyPost_ret (results_two rfl _ _ (w.heap.size + 1) 35 (cutV zCu).toArray (0, 0) _ _ (by rfl) (by rfl) (by exact Rowk.blk_row z2 _) Tryd.underlying35 (by rfl) (HN.out zCu rfl)) rfl ⟨by rw [HZ.out]; rfl, bel_row B2 (by omega) _⟩
  · obtain ⟨h0, h1, h2, h3⟩ := hc
    obtain ⟨fn, rfl⟩ := Int.eq_ofNat_of_zero_le h1
    obtain ⟨tn, rfl⟩ := Int.eq_ofNat_of_zero_le (by omega : 0 ≤ t)
    have hft : fn ≤ tn := by omega
    have hts : tn ≤ s.size := by omega
    have hwf := HW.out h0
    have hFD : F = if (backS (bsS s) r (endS s.size tn)).getD fn false = true then ((firstS (bsS s) r fn (endS s.size tn) mCu).2.set 0 ((fn : Int), (tn : Int)), true) else (zCu, false) := by
      rw [← HF.out, findS, HPR.out, if_pos ⟨h0, h1, h2, h3⟩, Int.toNat_natCast, Int.toNat_natCast]
    have HFD := Lib.hid hFD
    have e0 : (PR == 0) = true := by simpa using h0
    have e1 : decide ((fn : Int) < 0) = false := decide_eq_false (by omega)
    have e2 : decide ((tn : Int) < fn) = false := decide_eq_false (by omega)
    have e3 : decide ((s.size : Int) < tn) = false := decide_eq_false (by omega)
    rw [e0] at c1
    clear h0 h1 h2 h3 hFD HW HM HF HPR e0
    have hbl := (back_step (bsS s) r hwf).len (endS s.size tn) (by rw [endS, List.length_set, none_len, bs_len])
    have HWF := Lib.hid hwf
    have HBL := Lib.hid hbl
    clear hwf hbl
    go_wp2_with fail
    (with_reducible refine c1.mono ?_)
    clear c1
    rintro e w2 ⟨rfl, b2⟩
    have z2 := Z1.next b2
    have x2 := X1.next b2
    have B2 := via b2 B1
    have sz2 := x2.lt
    have sz2' := z2.lt
    clear X1 Z1 B1 b2
    have y3 : Wyc (w2.alloc (.cells #[.string s, .int .i64 0, .int .i64 0, .int .i64 0, .int .i64 0, .int .i64 0, .int .i64 0, .int .i64 0, .int .i64 0, .int .i64 0, .int .i64 0, .int .i64 0, .int .i64 0, .int .i64 0, .int .i64 0, .int .i64 0, .int .i64 0, .int .i64 0, .int .i64 0, .int .i64 0, .int .i64 0] 58)) w2.heap.size s zCu := ⟨Blk.new _ _ _, rfl⟩
    have x3 := x2.alloc (.cells #[.string s, .int .i64 0, .int .i64 0, .int .i64 0, .int .i64 0, .int .i64 0, .int .i64 0, .int .i64 0, .int .i64 0, .int .i64 0, .int .i64 0, .int .i64 0, .int .i64 0, .int .i64 0, .int .i64 0, .int .i64 0, .int .i64 0, .int .i64 0, .int .i64 0, .int .i64 0, .int .i64 0] 58)
    have z3 := z2.alloc (.cells #[.string s, .int .i64 0, .int .i64 0, .int .i64 0, .int .i64 0, .int .i64 0, .int .i64 0, .int .i64 0, .int .i64 0, .int .i64 0, .int .i64 0, .int .i64 0, .int .i64 0, .int .i64 0, .int .i64 0, .int .i64 0, .int .i64 0, .int .i64 0, .int .i64 0, .int .i64 0, .int .i64 0] 58)
    have B3 : Below w.heap.size w (w2.alloc (.cells #[.string s, .int .i64 0, .int .i64 0, .int .i64 0, .int .i64 0, .int .i64 0, .int .i64 0, .int .i64 0, .int .i64 0, .int .i64 0, .int .i64 0, .int .i64 0, .int .i64 0, .int .i64 0, .int .i64 0, .int .i64 0, .int .i64 0, .int .i64 0, .int .i64 0, .int .i64 0, .int .i64 0] 58)) := via (by go_grown) B2
    have c2 := wy_none y3.wyr hs
    clear x2 z2 B2
    go_wp2_with fail
    (with_reducible refine c2.mono ?_)
    clear c2
    rintro e w4 ⟨rfl, m4, b4⟩
    have x4 := x3.next b4
    have z4 := z3.next b4
    have y4 := y3.next b4
    have B4 := via b4 B3
    rw [World.size_alloc] at m4 ⊢
    clear x3 z3 y3 B3 b4
    obtain ⟨Wy, hWy⟩ : ∃ g, w2.heap.size = g := ⟨_, rfl⟩
    rw [hWy] at m4 y4 sz2 sz2' ⊢
    clear hWy
    have l4 := m4.loose tn
    have v4 := m4.cell tn
    rw [bV_get (by rw [none_len]; omega)] at v4
    obtain ⟨w5, hw5⟩ : ∃ z, w4.setCell ⟨Wy + 1, tn, none⟩ (.bool true) = z := ⟨_, rfl⟩
    have m5 : Mks w5 (Wy + 1) (endS s.size tn) := by
      rw [← hw5]
      have := m4.set_ tn (.bool true)
      rwa [bV_put] at this
    have x5 : Blk w5 w.heap.size 27 (reC k0 k1 A k2 c k3 k4 k5).toArray := by rw [← hw5]; exact x4.far (p := ⟨Wy + 1, tn, none⟩) (by show w.heap.size ≠ Wy + 1; omega) _
    have z5 : Blk w5 (w.heap.size + 1) 35 (cutV zCu).toArray := by rw [← hw5]; exact z4.far (p := ⟨Wy + 1, tn, none⟩) (by show w.heap.size + 1 ≠ Wy + 1; omega) _
    have y5 : Wyc w5 Wy s zCu := by rw [← hw5]; exact y4.far (p := ⟨Wy + 1, tn, none⟩) (by show Wy ≠ Wy + 1; omega) _
    have B5 : Below w.heap.size w w5 := by rw [← hw5]; exact B4.setCell (p := ⟨Wy + 1, tn, none⟩) (by show w.heap.size ≤ Wy + 1; omega) _
    clear m4 x4 z4 y4 B4
    generalize (noneS s.size).getD tn false = vv at v4
    go_upto_region 6 with fail
    try rw [hw5]
    clear hw5 v4 l4 p0 p1 p2 p3 p4 p5 p6 p7 p8
    have p0 := x5.cell 0
    have p1 := x5.cell 1
    have p2 := x5.cell 2
    have p3 := x5.cell 3
    have p4 := x5.cell 4
    have p5 := x5.cell 5
    have p6 := x5.cell 6
    have p7 := x5.cell 7
    have p8 := x5.cell 8
    simp only [List.getElem?_toArray, List.getElem?_cons_zero, List.getElem?_cons_succ] at p0 p1 p2 p3 p4 p5 p6 p7 p8
    have ML : (endS s.size tn).length = s.size + 1 := by rw [endS, List.length_set, none_len]
    have c5 := back_c (nodesR r) (by omega) r (Nat.le_refl _) HWF.out K w5 _ (HH.out.bel B5) Wy s y5.wyr hs (Wy + 1) (endS s.size tn) m5 ML
    obtain ⟨bk, hbk⟩ : ∃ bk, backS (bsS s) r (endS s.size tn) = bk := ⟨_, rfl⟩
    rw [hbk] at c5
    have HBK := Lib.hid hbk
    have hbl : bk.length = s.size + 1 := by rw [← hbk]; exact HBL.out
    clear hbk
    go_wp2_with fail
    (with_reducible refine c5.mono ?_)
    clear c5 p0 p1 p2 p3 p4 p5 p6 p7 p8
    rintro e w6 ⟨g6, rfl, hg6, m6, b6⟩
    have x6 := x5.next b6
    have z6 := z5.next b6
    have y6 := y5.next b6
    have me6 := m5.next b6
    have B6 := via b6 B5
    have hwy6 := y6.lt
    have v6 := m6.cell fn
    rw [bV_get (by rw [hbl]; omega)] at v6
    clear x5 z5 y5 m5 B5 b6 m6
    by_cases hg : bk.getD fn false = true
    rotate_left
    · have hg2 : bk.getD fn false = false := by simpa using hg
      rw [hg2] at v6
      have hz := HFD.out
      rw [HBK.out, if_neg hg] at hz
      have HZ := Lib.hid hz
      clear hz hg hg2
      go_wp2_with (refine wpList_store_row (by rfl) 35 (.tmp 8) (.tmp 48) (by rfl) (w.heap.size + 1) (cutV zCu).toArray (by rfl) (by rfl) 35 _ (by exact z6) (by exact HN.out zCu rfl) (by rfl) (by exact cutV_one _) ?_)
      refine bodyPost_ret (results_two rfl _ _ (w.heap.size + 1) 35 (cutV zCu).toArray (0, 0) _ _ (by rfl) (by rfl) (by exact Rowk.blk_row z6 _) Tryd.underlying35 (by rfl) (HN.out zCu rfl)) rfl ⟨by rw [HZ.out]; rfl, bel_row B6 (by omega) _⟩
    · rw [hg] at v6
      have HON := Lib.hid (show On (backS (bsS s) r (endS s.size tn)) fn by rw [HBK.out]; exact getD_on.1 hg)
      have hz := HFD.out
      rw [HBK.out, if_pos hg] at hz
      have HZ := Lib.hid hz
      clear hz hg HBK
      go_wp2_with fail
      go_loopw [49] (fun iv wr => ∃ (i : Nat), iv = .int .i64 i ∧ i ≤ 10 ∧ Wyc wr Wy s (List.replicate i (-1, -1) ++ List.replicate (10 - i) (0, 0)) ∧ Tch (· = Wy) w6 wr) (fun iv _ => 10 - (intOf iv).toNat)
      case atStart => exact ⟨0, rfl, by omega, y6, Tch.refl _ _⟩
      case round =>
        clear v6
        obtain ⟨i, rfl, hi, yr, tr⟩ := hrel
        by_cases hlt : i < 10
        · have hg0 := way_get s _ i (by rw [yr.len]; exact hlt)
          have u1 := yr.blk.cell (1 + i * 2)
          have u2 := yr.blk.cell (1 + i * 2 + 1)
          rw [hg0.1] at u1
          rw [hg0.2] at u2
          have l1 := yr.blk.loose (1 + i * 2)
          have l2 := yr.blk.loose (1 + i * 2 + 1)
          have Y7 := (yr.blk.set_ (1 + i * 2) (.int .i64 (-1))).set_ (1 + i * 2 + 1) (.int .i64 (-1))
          rw [way_set s _ i (-1) (-1) (by rw [yr.len]; exact hlt)] at Y7
          have hls : (List.replicate i ((-1 : Int), (-1 : Int)) ++ List.replicate (10 - i) (0, 0)).set i (-1, -1) = List.replicate (i + 1) (-1, -1) ++ List.replicate (10 - (i + 1)) (0, 0) := by
            rw [show 10 - i = (10 - (i + 1)) + 1 by omega, List.replicate_succ, List.set_append_right _ _ (by simp)]
            simp [List.replicate_succ']
          rw [hls] at Y7
          have T7 := (tr.setCell (p := ⟨Wy, 1 + i * 2, none⟩) rfl (.int .i64 (-1))).setCell (p := ⟨Wy, 1 + i * 2 + 1, none⟩) rfl (.int .i64 (-1))
          generalize (((List.replicate i ((-1 : Int), (-1 : Int)) ++ List.replicate (10 - i) (0, 0))[i]'_)).1 = q1 at u1
          generalize (((List.replicate i ((-1 : Int), (-1 : Int)) ++ List.replicate (10 - i) (0, 0))[i]'_)).2 = q2 at u2
          clear hls hg0 yr tr
          go_wp2_with fail
          go_roundw
          case rel => exact ⟨i + 1, by go_num, by omega, ⟨Y7, by simp; omega⟩, T7⟩
          case measure => simp [intOf]; omega
        · have hil : i = 10 := by omega
          subst hil
          have y7 : Wyc wr Wy s mCu := by rw [Nat.sub_self, List.replicate_zero, List.append_nil] at yr; exact yr
          have x7 := x6.tch tr (by omega)
          have z7 := z6.tch tr (by omega)
          have me7 := me6.tch tr (by omega)
          have B7 := tr.below B6 (fun k hk => by rw [hk]; omega) B6.size
          have hrt : Rt wr (· ≠ Wy) r (reC k0 k1 A k2 c k3 k4 k5) := HH.out.lt_.keep (fun b hb => by have := hb.2; omega) (fun b hb hl => B7.block b hl)
          have c8 := first_c (nodesR r) (by omega) r (Nat.le_refl _) HWF.out Wy wr _ hrt s mCu y7 hs fn (by omega) (Wy + 1) (endS s.size tn) me7 ML HON.out
          unfold FirstPost at c8
          have hzz := HZ.out
          generalize firstS (bsS s) r fn (endS s.size tn) mCu = FS at *
          have HZZ := Lib.hid hzz
          clear yr x6 z6 me6 tr B6 hrt y7 me7 hzz HZ HFD
          have p0 := x7.cell 0
          have p1 := x7.cell 1
          have p2 := x7.cell 2
          have p3 := x7.cell 3
          have p4 := x7.cell 4
          have p5 := x7.cell 5
          have p6 := x7.cell 6
          have p7 := x7.cell 7
          have p8 := x7.cell 8
          simp only [List.getElem?_toArray, List.getElem?_cons_zero, List.getElem?_cons_succ] at p0 p1 p2 p3 p4 p5 p6 p7 p8
          go_wp2_with fail
          (with_reducible refine c8.mono ?_)
          clear c8 p0 p1 p2 p3 p4 p5 p6 p7 p8
          rintro e w8 ⟨rfl, y8, t8⟩
          have z8 := z7.tch t8 (by omega)
          have B8 := t8.below B7 (fun k hk => by rw [hk]; omega) B7.size
          have hyl : 0 < FS.2.length := by rw [y8.len]; decide
          have hg0 := way_get s FS.2 0 hyl
          rw [Nat.zero_mul, Nat.add_zero] at hg0
          have u1 := y8.blk.cell 1
          have u2 := y8.blk.cell 2
          rw [hg0.1] at u1
          rw [hg0.2] at u2
          have l1 := y8.blk.loose 1
          have l2 := y8.blk.loose 2
          obtain ⟨w9, hw9⟩ : ∃ z, (w8.setCell ⟨Wy, 1, none⟩ (.int .i64 fn)).setCell ⟨Wy, 2, none⟩ (.int .i64 tn) = z := ⟨_, rfl⟩
          have Y9 : Blk w9 Wy 58 (wayV s (FS.2.set 0 ((fn : Int), (tn : Int)))) := by
            rw [← hw9]
            have := (y8.blk.set_ 1 (.int .i64 fn)).set_ 2 (.int .i64 tn)
            rw [← way_set s FS.2 0 fn tn (by rw [y8.len]; decide)]
            exact this
          have z9 : Blk w9 (w.heap.size + 1) 35 (cutV zCu).toArray := by
            rw [← hw9]; exact (z8.far (p := ⟨Wy, 1, none⟩) (by show w.heap.size + 1 ≠ Wy; omega) _).far (p := ⟨Wy, 2, none⟩) (by show w.heap.size + 1 ≠ Wy; omega) _
          have B9 : Below w.heap.size w w9 := by
            rw [← hw9]; exact (B8.setCell (p := ⟨Wy, 1, none⟩) (by show w.heap.size ≤ Wy; omega) _).setCell (p := ⟨Wy, 2, none⟩) (by show w.heap.size ≤ Wy; omega) _
          have C10 : (FS.2.set 0 ((fn : Int), (tn : Int))).length = 10 := by rw [List.length_set]; exact y8.len
          generalize (FS.2[0]'hyl).1 = q1 at u1
          generalize (FS.2[0]'hyl).2 = q2 at u2
          clear y8 t8 z8 B8 hg0 x7 z7 B7 hyl
          generalize FS.2.set 0 ((fn : Int), (tn : Int)) = CU at *
          have hrg : w9.rangeAt Wy 1 (cutV CU) := by
            intro j v hj
            rw [Y9.cell, List.getElem?_toArray, Nat.add_comm, List.getElem?_cons_succ]
            exact hj
          have hsz : (Tryd.prog.info? 33).map (·.size) = some (cutV CU).length := by rw [cutV_len, C10]; kernel_rfl
          have hbm := built_match CU C10
          have HSM := Lib.hid (HN.out CU C10)
          have HS2 := Lib.hid (show (cutV zCu).toArray.size = (cutV CU).toArray.size by rw [List.size_toArray, List.size_toArray, cutV_len, cutV_len, C10]; rfl)
          have HONE := Lib.hid (cutV_one CU)
          have HRG := Lib.hid hrg
          have C10' := C10
          have HSZ := Lib.hid hsz
          have HBM := Lib.hid hbm
          clear hrg hsz hbm Y9 C10
          obtain ⟨CV, hCV⟩ : ∃ CV, cutV CU = CV := ⟨_, rfl⟩
          rw [hCV] at HSM HS2 HONE HRG HSZ HBM
          have HCV := Lib.hid hCV
          clear hCV C10'
          go_upto_region 15 with fail
          try rw [hw9]
          clear hw9 u1 u2 l1 l2
          go_wp2_with (first
            | (refine wpList_load_mid (by rfl) 33 (.tmp 73) (by rfl) Wy 1 (by rfl) CV _ (by exact HRG.out) Tryd.underlying33 (by rfl) (by exact HSZ.out) ?_)
            | (refine wpList_buildTo (by rfl) 35 #[(0, .tmp 74)] (by rfl) (some 75) (by rfl) CV.toArray (by simp only [List.map_toArray, List.map_cons, List.map_nil]; exact HBM.out) ?_)
            | (refine wpList_store_row (by rfl) 35 (.tmp 8) (.tmp 75) (by rfl) (w.heap.size + 1) CV.toArray (by rfl) (by rfl) 35 _ (by exact z9) (by exact HSM.out) (by exact HS2.out) (by exact HONE.out) ?_))
          refine bodyPost_ret (results_two rfl _ _ (w.heap.size + 1) 35 CV.toArray (0, 0) _ _ (by rfl) (by rfl) (by exact Rowk.blk_row z9 _) Tryd.underlying35 (by rfl) HSM.out) rfl ⟨by rw [HZZ.out, HCV.out]; rfl, bel_row B9 (by omega) _⟩
end GrpW
end Go.Proofs.YtpdmjegbjcefjaaDoor
namespace Go.Proofs.YtpdmjegbjcefjaaDoor
set_option linter.unusedVariables false
set_option linter.unusedSimpArgs false
open Go.RowKit
namespace GrpW
open EreP EreW EreX GrpP GrpS
abbrev R6 : Re := .mk 4 0 [.mk 7 0 [.mk 5 0 [.mk 1 (1 <<< 97) [] 0 0 0, .mk 4 0 [.mk 1 (1 <<< 97) [] 0 0 0, .mk 1 (1 <<< 98) [] 0 0 0] 0 0 0] 0 0 0] 0 0 1, .mk 7 0 [.mk 5 0 [.mk 1 (1 <<< 99) [] 0 0 0, .mk 4 0 [.mk 1 (1 <<< 98) [] 0 0 0, .mk 1 (1 <<< 99) [] 0 0 0, .mk 1 (1 <<< 100) [] 0 0 0] 0 0 0] 0 0 0] 0 0 2] 0 0 0
abbrev S6 : ByteArray := ⟨#[97, 98, 99, 100]⟩
theorem r6_parse : parseP [40, 97, 124, 97, 98, 41, 40, 99, 124, 98, 99, 100, 41] = .ok R6 := by kernel_rfl
theorem r6_wf : wfR R6 := by simp [wfR, wfL]
theorem r6_nodes : nodesR R6 = 14 := by kernel_rfl
abbrev C6 : Cuts := [(0, 4), (0, 1), (1, 4), (-1, -1), (-1, -1), (-1, -1), (-1, -1), (-1, -1), (-1, -1), (-1, -1)]
theorem r6_find : findS R6 S6 0 4 = (C6, true) := by kernel_rfl
theorem r6_names : C6.map (pieceS S6) = [S6, ⟨#[97]⟩, ⟨#[98, 99, 100]⟩, ⟨#[]⟩, ⟨#[]⟩, ⟨#[]⟩, ⟨#[]⟩, ⟨#[]⟩, ⟨#[]⟩, ⟨#[]⟩] := by kernel_rfl
set_option maxHeartbeats 3200000 in
set_option maxRecDepth 100000 in
theorem awake_c (w : World) : Calls Tryd.prog 7 #[] w fun x w' => x = .returned (.bool true) ∧ Below w.heap.size w w' := by
  obtain ⟨r, hr⟩ : ∃ r, r = R6 := ⟨_, rfl⟩
  have cp0 : Calls Tryd.prog 17 #[.string ⟨#[40, 97, 124, 97, 98, 41, 40, 99, 124, 98, 99, 100, 41]⟩] w fun x w' => Below w.heap.size w w' ∧ ∃ A c, x = .returned (.tuple #[.agg (reC r.kind r.set A r.kids.length c r.lo r.hi r.n).toArray, .int .i64 0, .int .i64 0]) ∧ Rt w' (w.heap.size ≤ ·) r (reC r.kind r.set A r.kids.length c r.lo r.hi r.n) := by
    refine (EreN.parseq_c _ w).mono ?_
    rintro x w' ⟨hb, ⟨r', cs, hp, rfl, hR⟩ | ⟨off, e, _, hp, _⟩⟩
    · have e1 := hp.symm.trans r6_parse
      injection e1 with e1
      rw [← hr] at e1
      subst e1
      obtain ⟨A, c, rfl, _, _⟩ := hR.shape
      exact ⟨hb, A, c, rfl, hR⟩
    · have e1 := hp.symm.trans r6_parse
      cases e1
  have cf := fun W cs (h : Rt W (w.heap.size ≤ ·) r cs) => find_c r W cs h (by rw [hr, r6_nodes]; omega) (fun _ => by rw [hr]; exact r6_wf) S6 (by decide) 0 4
  rw [show findS r S6 0 4 = (C6, true) by rw [hr]; exact r6_find] at cf
  have hsz : (Tryd.prog.info? 35).map (·.size) = some (cutV C6).toArray.size := by kernel_rfl
  have h20 : (cutV C6).toArray.size = 20 := rfl
  have hone := cutV_one C6
  have v6 : (cutV C6).toArray[6]? = some (.int .i64 (-1)) := rfl
  have v7 : (cutV C6).toArray[7]? = some (.int .i64 (-1)) := rfl
  have cn := fun W => names_c S6 (by decide) C6 rfl W
  rw [r6_names] at cn
  obtain ⟨CV, hCV⟩ : ∃ V, (cutV C6).toArray = V := ⟨_, rfl⟩
  obtain ⟨NV, hNV⟩ : ∃ V, strV [S6, ⟨#[97]⟩, ⟨#[98, 99, 100]⟩, ⟨#[]⟩, ⟨#[]⟩, ⟨#[]⟩, ⟨#[]⟩, ⟨#[]⟩, ⟨#[]⟩, ⟨#[]⟩] = V := ⟨_, rfl⟩
  have nsz : (Tryd.prog.info? 45).map (·.size) = some NV.size := by rw [← hNV]; kernel_rfl
  have n10 : NV.size = 10 := by rw [← hNV]; rfl
  have none_ : NV.all (·.oneCell') = true := by rw [← hNV]; exact strV_one _
  have n0 : NV[0]? = some (.string ⟨#[97, 98, 99, 100]⟩) := by rw [← hNV]; rfl
  have n1 : NV[1]? = some (.string ⟨#[97]⟩) := by rw [← hNV]; rfl
  have n2 : NV[2]? = some (.string ⟨#[98, 99, 100]⟩) := by rw [← hNV]; rfl
  rw [hNV] at cn
  simp only [hCV] at cf cn hsz h20 hone v6 v7
  have HSZ := Lib.hid hsz
  have H20 := Lib.hid h20
  have HONE := Lib.hid hone
  have HNSZ := Lib.hid nsz
  have HN10 := Lib.hid n10
  have HNONE := Lib.hid none_
  have HV := Lib.hid (And.intro v6 v7)
  have HN := Lib.hid (And.intro n0 (And.intro n1 n2))
  clear hCV hNV hsz h20 hone nsz n10 none_ v6 v7 n0 n1 n2
  generalize hk0 : r.kind = k0 at *
  generalize hk1 : r.set = k1 at *
  generalize hk2 : r.kids.length = k2 at *
  generalize hk3 : r.lo = k3 at *
  generalize hk4 : r.hi = k4 at *
  generalize hk5 : r.n = k5 at *
  clear hr hk0 hk1 hk2 hk3 hk4 hk5
  have CF := Lib.hid cf
  have CN := Lib.hid cn
  clear cf cn
  go_enter Tryd.func7, Tryd.ntmps7
  go_wp2_with fail
  (with_reducible refine cp0.mono ?_)
  rintro e w1 ⟨b1, A, c, rfl, hR⟩
  clear cp0
  have H1 := Lib.hid (hR.bel ((Below.refl _ _).alloc (Nat.le_refl _) (.cells (reC k0 k1 A k2 c k3 k4 k5).toArray 27)))
  have B1 : Below w.heap.size w (w1.alloc (.cells (reC k0 k1 A k2 c k3 k4 k5).toArray 27)) := b1.alloc b1.size _
  have cf := CF.out _ _ H1.out
  clear CF hR b1
  go_wp2_with fail
  (with_reducible refine cf.mono ?_)
  rintro e w2 ⟨rfl, b2⟩
  have B2 := via b2 B1
  clear H1 B1 cf b2
  go_upto_region 3 with (refine wpList_store_row (by rfl) 35 (.tmp 4) (.tmp 15) (by rfl) w2.heap.size CV (by rfl) (by rfl) 35 _ (by exact Blk.new _ _ _) (by exact HSZ.out) (by rw [H20.out]; rfl) (by exact HONE.out) ?_)
  obtain ⟨w3, hw3⟩ : ∃ z : World, (w2.alloc (.cells #[.int .i64 0, .int .i64 0, .int .i64 0, .int .i64 0, .int .i64 0, .int .i64 0, .int .i64 0, .int .i64 0, .int .i64 0, .int .i64 0, .int .i64 0, .int .i64 0, .int .i64 0, .int .i64 0, .int .i64 0, .int .i64 0, .int .i64 0, .int .i64 0, .int .i64 0, .int .i64 0] 35)).setRow w2.heap.size CV = z := ⟨_, rfl⟩
  have M3 : Blk w3 w2.heap.size 35 CV := by rw [← hw3]; exact Rowk.blk_row (Blk.new _ _ _) CV
  have B3 : Below w.heap.size w w3 := by rw [← hw3]; exact bel_row (B2.alloc B2.size _) B2.size CV
  rw [hw3]
  clear hw3 B2
  go_wp2_with (refine wpList_load_row (by rfl) 35 (.tmp 4) (by rfl) w2.heap.size (by rfl) 35 CV (0, 0) _ (by exact M3) Tryd.underlying35 (by rfl) (by exact HSZ.out) ?_)
  (with_reducible refine (CN.out _).mono ?_)
  rintro e w4 ⟨rfl, b4⟩
  have M4 := M3.next b4
  have B4 := via b4 B3
  have hz4 := M4.lt
  clear M3 B3 b4 CN
  go_upto_region 4 with (refine wpList_store_row (by rfl) 45 (.tmp 6) (.tmp 18) (by rfl) w4.heap.size NV (by rfl) (by rfl) 45 _ (by exact Blk.new _ _ _) (by exact HNSZ.out) (by rw [HN10.out]; rfl) (by exact HNONE.out) ?_)
  obtain ⟨w5, hw5⟩ : ∃ z : World, (w4.alloc (.cells #[.string ⟨#[]⟩, .string ⟨#[]⟩, .string ⟨#[]⟩, .string ⟨#[]⟩, .string ⟨#[]⟩, .string ⟨#[]⟩, .string ⟨#[]⟩, .string ⟨#[]⟩, .string ⟨#[]⟩, .string ⟨#[]⟩] 45)).setRow w4.heap.size NV = z := ⟨_, rfl⟩
  have N5 : Blk w5 w4.heap.size 45 NV := by rw [← hw5]; exact Rowk.blk_row (Blk.new _ _ _) NV
  have M5 : Blk w5 w2.heap.size 35 CV := by rw [← hw5]; exact Rowk.far_row (M4.alloc _) (by omega) NV
  have B5 : Below w.heap.size w w5 := by rw [← hw5]; exact bel_row (B4.alloc B4.size _) B4.size NV
  rw [hw5]
  clear hw5 B4 M4
  have v6 := M5.cell 6
  have v7 := M5.cell 7
  rw [HV.out.1] at v6
  rw [HV.out.2] at v7
  have n0 := N5.cell 0
  have n1 := N5.cell 1
  have n2 := N5.cell 2
  rw [HN.out.1] at n0
  rw [HN.out.2.1] at n1
  rw [HN.out.2.2] at n2
  go_wp2_with fail
  go_ret
  exact ⟨rfl, B5⟩
end GrpW
end Go.Proofs.YtpdmjegbjcefjaaDoor
namespace Go.Proofs.YtpdmjegbjcefjaaDoor
set_option linter.unusedVariables false
set_option linter.unusedSimpArgs false
open Go.RowKit
namespace GrpW
open EreP EreW EreX GrpP GrpS
abbrev cutA (cu : Cuts) : Array Value := (cutV cu).toArray
theorem index_two (cu : Cuts) (hl : cu.length = 10) (i : Nat) (hi : i < 10) (W : World) : (Instr.index 44 (.agg (cutA cu)) (.int .i64 (i : Int))).run Tryd.prog W = .ok (.agg #[.int .i64 (cu[i]'(by omega)).1, .int .i64 (cu[i]'(by omega)).2]) W := by
  obtain ⟨p0, p1, p2, p3, p4, p5, p6, p7, p8, p9, rfl⟩ := cut10 cu hl
  rcases (by omega : i = 0 ∨ i = 1 ∨ i = 2 ∨ i = 3 ∨ i = 4 ∨ i = 5 ∨ i = 6 ∨ i = 7 ∨ i = 8 ∨ i = 9) with rfl | rfl | rfl | rfl | rfl | rfl | rfl | rfl | rfl | rfl
  all_goals kernel_rfl
theorem str10 : ∀ (l : List ByteArray), l.length = 10 → ∃ p0 p1 p2 p3 p4 p5 p6 p7 p8 p9, l = [p0, p1, p2, p3, p4, p5, p6, p7, p8, p9]
  | [a, b, c, d, e, f, g, h, i, j], _ => ⟨a, b, c, d, e, f, g, h, i, j, rfl⟩
theorem index_str (l : List ByteArray) (hl : l.length = 10) (i : Nat) (hi : i < 10) (W : World) : (Instr.index 45 (.agg (strV l)) (.int .i64 (i : Int))).run Tryd.prog W = .ok (.string (l[i]'(by omega))) W := by
  obtain ⟨p0, p1, p2, p3, p4, p5, p6, p7, p8, p9, rfl⟩ := str10 l hl
  rcases (by omega : i = 0 ∨ i = 1 ∨ i = 2 ∨ i = 3 ∨ i = 4 ∨ i = 5 ∨ i = 6 ∨ i = 7 ∨ i = 8 ∨ i = 9) with rfl | rfl | rfl | rfl | rfl | rfl | rfl | rfl | rfl | rfl
  all_goals kernel_rfl
theorem cutA_set (cu : Cuts) (m : Nat) (p q : Int) (h : m < cu.length) : ((cutA cu).setIfInBounds (m * 2) (.int .i64 p)).setIfInBounds (m * 2 + 1) (.int .i64 q) = cutA (cu.set m (p, q)) := by
  unfold cutA
  rw [List.setIfInBounds_toArray, List.setIfInBounds_toArray, Nat.mul_comm m 2, cutV_set cu m p q h]
theorem cutA_get (cu : Cuts) (m : Nat) (h : m < cu.length) : (cutA cu)[m * 2]? = some (.int .i64 (cu[m]'h).1) ∧ (cutA cu)[m * 2 + 1]? = some (.int .i64 (cu[m]'h).2) := by
  have := cutV_get cu m h
  rw [Nat.mul_comm m 2]
  simpa using this
set_option maxRecDepth 100000 in
set_option maxHeartbeats 6400000 in
theorem names_law (cu : Cuts) (hl : cu.length = 10) (s : ByteArray) (w : World) :
    Calls Tryd.prog 4 #[.agg (cutA cu), .string s] w fun e w' => e = .returned (.bool true) ∧ Below w.heap.size w w' := by
  have HIX := Lib.hid (index_two cu hl)
  have hvs : ((Tryd.prog.info? 44).map (·.size) = some (cutA cu).size) := by rw [List.size_toArray, cutV_len, hl]; kernel_rfl
  have HVS := Lib.hid hvs
  have HGET := Lib.hid (fun i (hi : i < cu.length) => cutA_get cu i hi)
  obtain ⟨V, hV⟩ : ∃ V, cutA cu = V := ⟨_, rfl⟩
  rw [hV] at HIX HVS HGET ⊢
  obtain ⟨w1, hw1⟩ : ∃ z : World, w.alloc (.cells V 44) = z := ⟨_, rfl⟩
  have V1 : Blk w1 w.heap.size 44 V := by rw [← hw1]; exact Blk.new _ _ _
  have B1 : Below w.heap.size w w1 := by rw [← hw1]; go_grown
  have ca := awake_c w1
  have HVV := Lib.hid hV
  clear hV hvs
  go_enter Tryd.func4, Tryd.ntmps4
  go_upto_region 1 with fail
  try rw [hw1]
  clear hw1
  go_wp2_with fail
  (with_reducible refine ca.mono ?_)
  clear ca
  rintro e w2 ⟨rfl, b2⟩
  have V2 := V1.next b2
  have B2 := via b2 B1
  have hz2 := V2.lt
  clear V1 B1 b2
  by_cases hbig : 40 < s.size
  · have e1 : decide ((s.size : Int) > 40) = true := decide_eq_true (by omega)
    have e2 : decide ((40 : Int) < (s.size : Int)) = true := decide_eq_true (by omega)
    go_wp2_with fail
    go_ret
    exact ⟨rfl, B2⟩
  have hs : s.size ≤ 40 := by omega
  have e1 : decide ((s.size : Int) > 40) = false := decide_eq_false (by omega)
  have e2 : decide ((40 : Int) < (s.size : Int)) = false := decide_eq_false (by omega)
  clear hbig
  go_upto_region 6 with fail
  obtain ⟨w3, hw3⟩ : ∃ z : World, w2.alloc (.cells #[.int .i64 0, .int .i64 0, .int .i64 0, .int .i64 0, .int .i64 0, .int .i64 0, .int .i64 0, .int .i64 0, .int .i64 0, .int .i64 0, .int .i64 0, .int .i64 0, .int .i64 0, .int .i64 0, .int .i64 0, .int .i64 0, .int .i64 0, .int .i64 0, .int .i64 0, .int .i64 0] 35) = z := ⟨_, rfl⟩
  have M3 : Blk w3 w2.heap.size 35 (cutA zCu) := by rw [← hw3]; exact Blk.new _ _ _
  have V3 : Blk w3 w.heap.size 44 V := by rw [← hw3]; exact V2.alloc _
  have B3 : Below w.heap.size w w3 := by rw [← hw3]; exact B2.alloc B2.size _
  have hz3 := M3.lt
  obtain ⟨mb, hmb⟩ : ∃ g, w2.heap.size = g := ⟨_, rfl⟩
  rw [hw3]
  rw [hmb] at M3 hz2 hz3 ⊢
  clear hw3 V2 B2 hmb
  go_wp2_with (refine wpList_load_row (by rfl) 44 (.tmp 2) (by rfl) w.heap.size (by rfl) 44 V (0, 0) _ (by exact V3) Tryd.underlying44 (by rfl) (by exact HVS.out) ?_)
  go_loopw [18] (fun iv wr => ∃ (i : Nat), iv = .int .i64 i ∧ i ≤ 10 ∧ Blk wr mb 35 (cutA (cu.take i ++ List.replicate (10 - i) (0, 0))) ∧ Blk wr w.heap.size 44 V ∧ Below w.heap.size w wr) (fun iv _ => 10 - (intOf iv).toNat)
  case atStart => exact ⟨0, rfl, by omega, M3, V3, B3⟩
  case round =>
    clear M3 V3 B3 hz3
    obtain ⟨i, rfl, hi, mr, vr, br⟩ := hrel
    by_cases hlt : i < 10
    · have hx := HIX.out i hlt
      have hil : i < cu.length := by omega
      obtain ⟨cc, hcc⟩ : ∃ c, cu[i]'hil = c := ⟨_, rfl⟩
      have htk : cu.take (i + 1) = cu.take i ++ [cc] := by rw [List.take_succ_eq_append_getElem hil, hcc]
      obtain ⟨a, b⟩ := cc
      simp only [hcc] at hx
      have hln : (cu.take i ++ List.replicate (10 - i) ((0 : Int), (0 : Int))).length = 10 := by simp; omega
      have hg0 := cutA_get (cu.take i ++ List.replicate (10 - i) ((0 : Int), (0 : Int))) i (by omega)
      have u1 := mr.cell (i * 2)
      have u2 := mr.cell (i * 2 + 1)
      rw [hg0.1] at u1
      rw [hg0.2] at u2
      have l1 := mr.loose (i * 2)
      have l2 := mr.loose (i * 2 + 1)
      have M7 := (mr.set_ (i * 2) (.int .i64 a)).set_ (i * 2 + 1) (.int .i64 b)
      rw [cutA_set _ i a b (by omega)] at M7
      have hls : (cu.take i ++ List.replicate (10 - i) ((0 : Int), (0 : Int))).set i (a, b) = cu.take (i + 1) ++ List.replicate (10 - (i + 1)) (0, 0) := by
        rw [htk, show 10 - i = (10 - (i + 1)) + 1 by omega, List.replicate_succ, List.set_append_right _ _ (by simp; omega)]
        simp [show i - min i cu.length = 0 by omega]
      rw [hls] at M7
      have V7 := (vr.far (p := ⟨mb, i * 2, none⟩) (by show w.heap.size ≠ mb; omega) (.int .i64 a)).far (p := ⟨mb, i * 2 + 1, none⟩) (by show w.heap.size ≠ mb; omega) (.int .i64 b)
      have B7 := (br.setCell (p := ⟨mb, i * 2, none⟩) (by show w.heap.size ≤ mb; omega) (.int .i64 a)).setCell (p := ⟨mb, i * 2 + 1, none⟩) (by show w.heap.size ≤ mb; omega) (.int .i64 b)
      have hmr := mr.lt
      generalize ((cu.take i ++ List.replicate (10 - i) ((0 : Int), (0 : Int)))[i]'_).1 = q1 at u1
      generalize ((cu.take i ++ List.replicate (10 - i) ((0 : Int), (0 : Int)))[i]'_).2 = q2 at u2
      clear hg0 hls hln htk hcc vr br
      go_wp2_with fail
      exact ⟨⟨i + 1, by go_num, by omega, M7.alloc _, V7.alloc _, B7.alloc B7.size _⟩, by simp [intOf]; omega⟩
    · have hil : i = 10 := by omega
      subst hil
      have mr2 : Blk wr mb 35 V := by
        rw [List.take_of_length_le (by omega), Nat.sub_self, List.replicate_zero, List.append_nil, HVV.out] at mr; exact mr
      have cn := names_c s (by omega) cu hl wr
      have hms : (Tryd.prog.info? 35).map (·.size) = some V.size := by rw [← HVV.out, List.size_toArray, cutV_len, hl]; kernel_rfl
      have HMS := Lib.hid hms
      have hpl : (cu.map (pieceS s)).length = 10 := by rw [List.length_map]; exact hl
      have HIS := Lib.hid (index_str (cu.map (pieceS s)) hpl)
      have e9 : (cutV cu).toArray = V := HVV.out
      rw [e9] at cn
      obtain ⟨NV, hNV⟩ : ∃ NV, strV (cu.map (pieceS s)) = NV := ⟨_, rfl⟩
      rw [hNV] at cn HIS
      clear mr hms e9 hNV
      go_wp2_with (refine wpList_load_row (by rfl) 35 (.tmp 5) (by rfl) mb (by rfl) 35 V (0, 0) _ (by exact mr2) Tryd.underlying35 (by rfl) (by exact HMS.out) ?_)
      (with_reducible refine cn.mono ?_)
      rintro e w5 ⟨rfl, b5⟩
      have V5 := vr.next b5
      have B5 := via b5 br
      clear vr br b5 mr2 cn
      go_wp2_with fail
      go_loopw [34] (fun iv wr => ∃ (i : Nat), iv = .int .i64 i ∧ i ≤ 10 ∧ Blk wr w.heap.size 44 V ∧ Below w.heap.size w wr) (fun iv _ => 10 - (intOf iv).toNat)
      case atStart => exact ⟨0, rfl, by omega, V5, B5⟩
      case round =>
        clear V5 B5
        rename_i wr' _
        obtain ⟨i, rfl, hi, vr, br⟩ := hrel
        by_cases hlt : i < 10
        · have hx := HIS.out i hlt
          have hil : i < cu.length := by omega
          have hg0 := HGET.out i hil
          rw [List.getElem_map] at hx
          obtain ⟨cc, hcc⟩ : ∃ c, cu[i]'hil = c := ⟨_, rfl⟩
          obtain ⟨a, b⟩ := cc
          simp only [hcc] at hx hg0
          have u1 := vr.cell (i * 2)
          have u2 := vr.cell (i * 2 + 1)
          rw [hg0.1] at u1
          rw [hg0.2] at u2
          have hvl := vr.lt
          clear hg0 hcc
          by_cases hin : 0 ≤ a ∧ a ≤ b ∧ b ≤ s.size
          · have hps : pieceS s (a, b) = s.extract a.toNat b.toNat := if_pos hin
            rw [hps] at hx
            obtain ⟨h1, h2, h3⟩ := hin
            have f1 : decide (0 ≤ a) = true := decide_eq_true h1
            have f2 : decide (a ≤ b) = true := decide_eq_true h2
            have f3 : decide (b ≤ (s.size : Int)) = true := decide_eq_true h3
            clear hps
            go_wp2_with fail
            exact ⟨⟨i + 1, by go_num, by omega, vr.alloc _, br.alloc br.size _⟩, by simp [intOf]; omega⟩
          · have hps : pieceS s (a, b) = ⟨#[]⟩ := if_neg hin
            rw [hps] at hx
            have hex : decide (0 ≤ a) = false ∨ (decide (0 ≤ a) = true ∧ decide (a ≤ b) = false) ∨ (decide (0 ≤ a) = true ∧ decide (a ≤ b) = true ∧ decide (b ≤ (s.size : Int)) = false) := by
              by_cases x1 : 0 ≤ a
              · by_cases x2 : a ≤ b
                · exact .inr (.inr ⟨decide_eq_true x1, decide_eq_true x2, decide_eq_false (fun x3 => hin ⟨x1, x2, x3⟩)⟩)
                · exact .inr (.inl ⟨decide_eq_true x1, decide_eq_false x2⟩)
              · exact .inl (decide_eq_false x1)
            clear hin hps
            rcases hex with f1 | ⟨f1, f2⟩ | ⟨f1, f2, f3⟩
            all_goals
              go_wp2_with fail
              exact ⟨⟨i + 1, by go_num, by omega, vr.alloc _, br.alloc br.size _⟩, by simp [intOf]; omega⟩
        · have hil : i = 10 := by omega
          subst hil
          go_wp2_with fail
          go_ret
          exact ⟨rfl, br⟩
end GrpW
end Go.Proofs.YtpdmjegbjcefjaaDoor
namespace Go.Proofs.YtpdmjegbjcefjaaDoor
set_option linter.unusedVariables false
set_option linter.unusedSimpArgs false
open Go.RowKit
namespace OpenGn
open GrpS GrpW
theorem pairs : ∀ (m : Nat) (cs : List Value), cs.length = 2 * m → (∀ i, i < m → ∃ a b : Int, (cs.drop (i * 2)).take 2 = [.int .i64 a, .int .i64 b]) → ∃ cu : Cuts, cu.length = m ∧ cs = cutV cu
  | 0, cs, hl, _ => ⟨[], rfl, List.eq_nil_of_length_eq_zero (by omega)⟩
  | m + 1, [], hl, _ => by simp at hl
  | m + 1, [x], hl, _ => by simp at hl; omega
  | m + 1, x :: y :: cs, hl, h => by
    obtain ⟨a, b, h0⟩ := h 0 (by omega)
    simp at h0
    obtain ⟨rfl, rfl⟩ := h0
    obtain ⟨cu, hc, rfl⟩ := pairs m cs (by simp at hl; omega) (fun i hi => by
      obtain ⟨a, b, h1⟩ := h (i + 1) (by omega)
      refine ⟨a, b, ?_⟩
      rw [show (i + 1) * 2 = i * 2 + 1 + 1 by omega, List.drop_succ_cons, List.drop_succ_cons] at h1
      exact h1)
    exact ⟨(a, b) :: cu, by simp [hc], by simp [cutV]⟩
section
variable {H : Type} {enc : TypeId × Value → H} {w : World} {base : Nat} {spare : Nat → Bool} {held : Bool}
theorem open_ten {cs : List Value} (h : Opn enc Tryd.prog w base spare held 44 cs) : ∃ cu : Cuts, cu.length = 10 ∧ cs = cutV cu := by
  have ci : Tryd.prog.cellsOf 3 = 1 := by kernel_rfl
  have c2 : Tryd.prog.cellsOf 43 = 2 := by kernel_rfl
  have c20 : Tryd.prog.cellsOf 44 = 20 := by kernel_rfl
  obtain ⟨hl, hg⟩ := Opn.array Tryd.underlying44 h
  rw [c20] at hl
  rw [c2] at hg
  refine pairs 10 cs (by omega) (fun i hi => ?_)
  have h2 := hg i hi
  obtain ⟨hl2, hg2⟩ := Opn.array Tryd.underlying43 h2
  rw [c2] at hl2
  rw [ci] at hg2
  obtain ⟨a, ea, _⟩ := Opn.int Tryd.underlying3 (hg2 0 (by omega))
  obtain ⟨b, eb, _⟩ := Opn.int Tryd.underlying3 (hg2 1 (by omega))
  refine ⟨a, b, ?_⟩
  generalize (cs.drop (i * 2)).take 2 = X at *
  match X, hl2 with
  | [x, y], _ => simp at ea eb; rw [ea, eb]
end
theorem okWide_row {P : Program} {W : World} {r : Reach} {b0 : Nat} {t : TypeId} {n : Nat} {e : TypeId} {v : Value} (ht : P.underlying t = some (.array n e)) (h : Value.okWide P W r b0 t v) : ∃ cs, v = .agg cs := by
  simp only [Value.okWide, ht] at h
  obtain ⟨cs, h1, _⟩ := h
  exact ⟨cs, h1⟩
end OpenGn
end Go.Proofs.YtpdmjegbjcefjaaDoor
