/- The reference's places: the walk of Over. Conditions: trees that may be walked, texts that fit. -/
import Derived.Test.YtpdmjegbjcefjaaDoorGrpU
import Derived.Test.YtpdmjegbjcefjaaDoorEreQa
import Derived.Test.YtpdmjegbjcefjaaDoorRow
namespace Go.Proofs.YtpdmjegbjcefjaaDoor
set_option linter.unusedVariables false
set_option linter.unusedSimpArgs false
open Go.RowKit
namespace GrpW
open EreP EreW EreX GrpP GrpS
section
variable (l : Bs) (bg en : Bool) (S : Nat) (kids : List Re) (lo hi nn : Int) (tm : List Bool)
theorem ov0 : overS l bg en (.mk 0 S kids lo hi nn) tm = tm := by rw [overS]; rfl
theorem ov1 : overS l bg en (.mk 1 S kids lo hi nn) tm = setO l S tm := by rw [overS]; rfl
theorem ov2 : overS l bg en (.mk 2 S kids lo hi nn) tm = (noneS l.length).set 0 (tm.getD 0 false && bg) := by rw [overS]; rfl
theorem ov3 : overS l bg en (.mk 3 S kids lo hi nn) tm = (noneS l.length).set l.length (tm.getD l.length false && en) := by rw [overS]; rfl
theorem ov4 : overS l bg en (.mk 4 S kids lo hi nn) tm = catO l bg en kids tm := by rw [overS]; rfl
theorem ov5 : overS l bg en (.mk 5 S kids lo hi nn) tm = altO l bg en kids tm := by rw [overS]; rfl
theorem ov6 : overS l bg en (.mk 6 S kids lo hi nn) tm = repO (headO l bg en kids) l.length lo hi tm := by rw [overS]; rfl
theorem ov7 : overS l bg en (.mk 7 S kids lo hi nn) tm = headO l bg en kids tm := by rw [overS]; rfl
theorem ov8 (k : Int) (h : ¬ (0 ≤ k ∧ k ≤ 7)) : overS l bg en (.mk k S kids lo hi nn) tm = noneS l.length := by
  rw [overS]; dsimp only; rw [if_neg (by omega), if_neg (by omega), if_neg (by omega), if_neg (by omega), if_neg (by omega), if_neg (by omega), if_neg (by omega), if_neg (by omega)]
theorem catO_drop (j : Nat) (h : j < kids.length) (x : List Bool) : catO l bg en (kids.drop j) x = catO l bg en (kids.drop (j + 1)) (overS l bg en (kids[j]'h) x) := by
  rw [List.drop_eq_getElem_cons h, catO]
theorem altO_drop (j : Nat) (h : j < kids.length) : altO l bg en (kids.drop j) tm = orS (overS l bg en (kids[j]'h) tm) (altO l bg en (kids.drop (j + 1)) tm) := by
  rw [List.drop_eq_getElem_cons h, altO]
end
theorem setO_get (l : Bs) (S : Nat) (x : List Bool) (i : Nat) (c : UInt8) (h : l[i]? = some c) : (setO l S x).take (i + 1 + 1) = (setO l S x).take (i + 1) ++ [x.getD i false && S.testBit c.toNat] := by
  have hi : i < l.length := (List.getElem?_eq_some_iff.1 h).1
  rw [List.take_succ_eq_append_getElem (by rw [setO_len]; omega)]
  congr 2
  simp [setO, h]
theorem headO_one (l : Bs) (bg en : Bool) (x : Re) : headO l bg en [x] = overS l bg en x := by funext y; rw [headO]
set_option maxRecDepth 100000 in
set_option maxHeartbeats 6400000 in
theorem over_c : ∀ N, N ≤ 4611686018427387904 → OverC N := by
  intro N
  induction N with
  | zero => intro _ r hr; cases r; simp [nodesR] at hr
  | succ N ih =>
    intro hNB r hr hw K w cs h s hs gt tm hm hto bg en
    obtain ⟨A, c, rfl, hS, hnil⟩ := h.shape
    obtain ⟨k, S, kids, lo, hi, nn⟩ := r
    simp only [Re.kind, Re.set, Re.kids, Re.lo, Re.hi, Re.n] at h hS hnil ⊢
    have hr2 : nodesL kids ≤ N := by simp [nodesR] at hr; omega
    have HLE := Lib.hid (fun i (hi' : i < kids.length) => Nat.le_trans (by have := nodes_kid kids i hi'; omega : nodesR (kids[i]'hi') ≤ nodesL kids) hr2)
    have hln := Nat.le_trans (len_nodes kids) hr2
    clear hr hr2
    have HW := Lib.hid hw
    have HKW := Lib.hid (fun i (hi' : i < kids.length) => wfL_mem (by rw [wfR] at hw; exact hw.2.2) (kids[i]'hi') (List.getElem_mem hi'))
    have HWL := Lib.hid (show wfL kids by rw [wfR] at hw; exact hw.2.2)
    have HH := Lib.hid h
    have HTM := Lib.hid hm
    have HTO := Lib.hid hto
    have HSB := Lib.hid hS
    obtain ⟨kl, hkl⟩ : ∃ kl, kids.length = kl := ⟨_, rfl⟩
    rw [hkl]
    have hmr := run_make_row' (P := Tryd.prog) 38 4 (.bool false) 1 Tryd.underlying38 info_Bool rfl .i64 .i64 (s.size + 1) (by omega) (by omega)
    rw [made_none, Int.natCast_add, Int.natCast_one] at hmr
    obtain ⟨w1, hw1⟩ : ∃ z : World, (w.alloc (.cells (reC k S A kl c lo hi nn).toArray 27)).alloc (.cells (bV (noneS s.size)) 4) = z := ⟨_, rfl⟩
    have x1 : Blk w1 w.heap.size 27 (reC k S A kl c lo hi nn).toArray := by rw [← hw1]; exact (Blk.new _ _ _).alloc _
    have m1 : Mks w1 (w.heap.size + 1) (noneS s.size) := by rw [← hw1]; exact Blk.new1 _ _ _ _
    have B1 : Below w.heap.size w w1 := by rw [← hw1]; go_grown
    have t1 := hm.next B1
    have hgl := hm.lt
    obtain ⟨o, ho⟩ : ∃ o, w.heap.size + 1 = o := ⟨_, rfl⟩
    have hz1 := m1.lt
    clear h hm hto hw hnil hS
    go_enter Tryd.func13, Tryd.ntmps13
    go_upto_region 2 with fail
    try rw [hw1]
    rw [ho] at m1 hz1
    try rw [ho]
    clear hw1 hmr
    have hoz : w.heap.size < o := by omega
    have p0 := x1.cell 0
    simp only [List.getElem?_toArray, List.getElem?_cons_zero, List.getElem?_cons_succ] at p0
    by_cases h0 : k = 0
    · subst h0
      have HB := Lib.hid (ov0 (bsS s) bg en S kids lo hi nn tm)

      go_wp2_with (refine wpList_copy_splice rfl _ _ 38 38 rfl 4 Tryd.underlying38 bool_size (some ⟨o, 0, none⟩) (some ⟨gt, 0, none⟩) (s.size + 1) (s.size + 1) (s.size + 1) (s.size + 1) (by rfl) (by rfl) o 0 ((noneS s.size).map Value.bool) 4 (by exact m1) (tm.map Value.bool) (by rw [List.length_map, HTO.out]; exact (Nat.min_self _).symm) (fun _ => ⟨rfl, _, rfl, marks_src (n := s.size) t1⟩) (by simp [none_len, HTO.out]) (bL_one tm) o _ (Below.refl _ _) (Nat.le_refl _) ?_)
      intro w2 hh hb2
      have m2 : Mks w2 o tm := by have := hh.out; rw [splice_all s.size tm HTO.out] at this; exact this
      have x2 := x1.below hb2 (by omega)
      have B2 : Below w.heap.size w w2 := B1.trans (hb2.mono (by omega))
      clear hh hb2 x1 m1 t1 B1
      have p0 := x2.cell 0
      simp only [List.getElem?_toArray, List.getElem?_cons_zero, List.getElem?_cons_succ] at p0
      go_wp2_with fail
      go_ret
      exact ⟨o, rfl, by omega, by rw [HB.out]; exact m2, B2⟩
    by_cases h1 : k = 1
    · subst h1
      have HB := Lib.hid (ov1 (bsS s) bg en S kids lo hi nn tm)
      have hst : noneS s.size = (setO (bsS s) S tm).take (0 + 1) ++ List.replicate (s.size - 0) false := by simp [noneS, setO, List.replicate_succ]
      rw [hst] at m1
      clear HW HKW HLE HWL ih hst
      go_wp2_with fail
      go_loopw [12] (fun iv wr => ∃ (i : Nat), iv = .int .i64 i ∧ i ≤ s.size ∧ Mks wr o ((setO (bsS s) S tm).take (i + 1) ++ List.replicate (s.size - i) false) ∧ Blk wr w.heap.size 27 (reC 1 S A kl c lo hi nn).toArray ∧ Below w.heap.size w wr) (fun iv _ => s.size - (intOf iv).toNat)
      case atStart => exact ⟨0, rfl, by omega, m1, x1, B1⟩
      case round =>
        clear m1 x1 B1 p0 t1
        obtain ⟨i, rfl, hi', mo, xr, br⟩ := hrel
        have p0 := xr.cell 0
        have p1 := xr.cell 1
        have p2 := xr.cell 2
        have p3 := xr.cell 3
        have p4 := xr.cell 4
        simp only [List.getElem?_toArray, List.getElem?_cons_zero, List.getElem?_cons_succ] at p0 p1 p2 p3 p4

        by_cases hlt : i < s.size
        · have mt := (HTM.out.next br).cell i
          rw [bV_get (by rw [HTO.out]; omega)] at mt
          have lo0 := mo.loose (i + 1)
          have hpl : ((setO (bsS s) S tm).take (i + 1)).length = i + 1 := by rw [List.length_take, setO_len, bs_len]; omega
          rw [show s.size - i = (s.size - (i + 1)) + 1 by omega, List.replicate_succ] at mo
          have n0 := mo.cell (i + 1)
          rw [bV, List.getElem?_toArray, List.getElem?_map, List.getElem?_append_right (by omega), hpl, Nat.sub_self, List.getElem?_cons_zero, Option.map_some] at n0
          obtain ⟨ch, hch⟩ : ∃ ch : UInt8, (bsS s)[i]? = some ch := ⟨_, List.getElem?_eq_getElem (by rw [bs_len]; exact hlt)⟩
          have hsg := setO_get (bsS s) S tm i ch hch
          have hce : s[i]'hlt = ch := by
            have h1 := (List.getElem?_eq_some_iff.1 hch).2
            show s.data[i]'hlt = ch
            simpa [bsS] using h1
          have hzo := mo.lt
          have HPL := Lib.hid hpl
          have HGT := Lib.hid hgl
          clear hpl hch
          cases hv : tm.getD i false with
          | false =>
            rw [hv] at mt
            have hput := fun b => (by have := mo.set_ (i + 1) (.bool b); rwa [bV_set _ _ _ _ HPL.out] at this : Mks (wr.setCell ⟨o, i + 1, none⟩ (.bool b)) o ((setO (bsS s) S tm).take (i + 1) ++ b :: List.replicate (s.size - (i + 1)) false))
            have xput := fun b => (xr.far (p := ⟨o, i + 1, none⟩) (by show w.heap.size ≠ o; omega) (.bool b))
            have bput := fun b => (br.setCell (p := ⟨o, i + 1, none⟩) (by show w.heap.size ≤ o; omega) (.bool b))
            have hn := Lib.hid (show (setO (bsS s) S tm).take (i + 1 + 1) ++ List.replicate (s.size - (i + 1)) false = (setO (bsS s) S tm).take (i + 1) ++ false :: List.replicate (s.size - (i + 1)) false by rw [hsg, hv]; simp)
            clear mo hsg hv
            go_upto_region 8 with fail
            have e37 : IntKind.i64.wrap ((i : Int) + 1) = (i : Int) + 1 := IntWalk.i64_in _ (by omega)
            go_region
            all_goals
              go_wp2_with fail
              go_roundw
              case rel => exact ⟨i + 1, by go_num, by omega, by rw [hn.out]; exact hput _, xput _, (bput _).drew⟩
              case measure => simp [intOf]; omega
          | true =>
            rw [hv] at mt
            have hn := Lib.hid (show (setO (bsS s) S tm).take (i + 1 + 1) ++ List.replicate (s.size - (i + 1)) false = (setO (bsS s) S tm).take (i + 1) ++ S.testBit ch.toNat :: List.replicate (s.size - (i + 1)) false by rw [hsg, hv]; simp)
            have HV := Lib.hid hv
            have ca := fun W => hasq_c S ch.toNat ch.toNat_lt W
            clear hsg hv
            go_upto_region 8 with fail
            have e37 : IntKind.i64.wrap ((i : Int) + 1) = (i : Int) + 1 := IntWalk.i64_in _ (by omega)
            refine wp_region_held (S := fun W => W.cell? ⟨gt, i, none⟩ = some (.bool true) ∧ W.cell? ⟨w.heap.size, 1, none⟩ = some (.int .u64 (word S 0 : Nat)) ∧ W.cell? ⟨w.heap.size, 2, none⟩ = some (.int .u64 (word S 1 : Nat)) ∧ W.cell? ⟨w.heap.size, 3, none⟩ = some (.int .u64 (word S 2 : Nat)) ∧ W.cell? ⟨w.heap.size, 4, none⟩ = some (.int .u64 (word S 3 : Nat))) (by kernel_rfl) ?_
            have hin : (i : Int) < (s.size : Int) + 1 := by omega
            have hin2 : (i : Int) < (s.size : Int) := by omega
            have hin3 : (i : Int) + 1 < (s.size : Int) + 1 := by omega
            have hin4 : (0 : Int) ≤ (i : Int) + 1 := by omega
            have hHeld := And.intro mt (And.intro p1 (And.intro p2 (And.intro p3 p4)))
            clear mt p0 p1 p2 p3 p4
            refine Rnd.take 0 (v := ?v0) rfl (by rfl) (by kernel_rfl) (by kernel_rfl) (by kernel_rfl) (fun _ _ _ h => h) (Or.inl ⟨by rfl, ?h0⟩) (by assumption) ?_
            case h0 =>
              intro w hSw
              try dsimp only at hSw
              go_simp
              all_goals (with_reducible rfl)
            try simp only [List.setIfInBounds_toArray, List.set_cons_zero, List.set_cons_succ]
            refine Rnd.take 1 (v := ?v1) rfl (by rfl) (by kernel_rfl) (by kernel_rfl) (by kernel_rfl) (fun _ _ _ h => h) (Or.inl ⟨by rfl, ?h1⟩) (by assumption) ?_
            case h1 =>
              intro w hSw
              try dsimp only at hSw
              go_simp
              all_goals (with_reducible rfl)
            try simp only [List.setIfInBounds_toArray, List.set_cons_zero, List.set_cons_succ]
            refine Rnd.take 2 (v := ?v2) rfl (by rfl) (by kernel_rfl) (by kernel_rfl) (by kernel_rfl) (fun _ _ _ h => h) (Or.inl ⟨by rfl, ?h2⟩) (by assumption) ?_
            case h2 =>
              intro w hSw
              try dsimp only at hSw
              go_simp
              all_goals (with_reducible rfl)
            try simp only [List.setIfInBounds_toArray, List.set_cons_zero, List.set_cons_succ]
            refine Rnd.take 3 (v := ?v3) rfl (by rfl) (by kernel_rfl) (by kernel_rfl) (by kernel_rfl) (fun _ _ _ h => h) (Or.inl ⟨by rfl, ?h3⟩) (by assumption) ?_
            case h3 =>
              intro w hSw
              try dsimp only at hSw
              go_simp
              all_goals (with_reducible rfl)
            try simp only [List.setIfInBounds_toArray, List.set_cons_zero, List.set_cons_succ]
            refine Rnd.take 4 (v := ?v4) rfl (by rfl) (by kernel_rfl) (by kernel_rfl) (by kernel_rfl) (fun _ _ _ h => h) (Or.inl ⟨by rfl, ?h4⟩) (by assumption) ?_
            case h4 =>
              intro w hSw
              try dsimp only at hSw
              go_simp
              all_goals (with_reducible rfl)
            try simp only [List.setIfInBounds_toArray, List.set_cons_zero, List.set_cons_succ]
            refine Rnd.take 5 (v := ?v5) rfl (by rfl) (by kernel_rfl) (by kernel_rfl) (by kernel_rfl) (fun _ _ _ h => h) (Or.inl ⟨by rfl, ?h5⟩) (by assumption) ?_
            case h5 =>
              intro w hSw
              try dsimp only at hSw
              go_simp
              all_goals (with_reducible rfl)
            try simp only [List.setIfInBounds_toArray, List.set_cons_zero, List.set_cons_succ]
            refine Rnd.take 6 (v := ?v6) rfl (by rfl) (by kernel_rfl) (by kernel_rfl) (by kernel_rfl) (fun _ _ _ h => h) (Or.inl ⟨by rfl, ?h6⟩) (by assumption) ?_
            case h6 =>
              intro w hSw
              try dsimp only at hSw
              go_simp
              all_goals (with_reducible rfl)
            try simp only [List.setIfInBounds_toArray, List.set_cons_zero, List.set_cons_succ]
            refine Rnd.take 7 (v := ?v7) rfl (by rfl) (by kernel_rfl) (by kernel_rfl) (by kernel_rfl) (fun _ _ _ h => h) (Or.inl ⟨by rfl, ?h7⟩) (by assumption) ?_
            case h7 =>
              intro w hSw
              try dsimp only at hSw
              go_simp
              all_goals (with_reducible rfl)
            try simp only [List.setIfInBounds_toArray, List.set_cons_zero, List.set_cons_succ]
            refine Rnd.take 8 (v := ?v8) rfl (by rfl) (by kernel_rfl) (by kernel_rfl) (by kernel_rfl) (fun _ _ _ h => h) (Or.inl ⟨by rfl, ?h8⟩) (by assumption) ?_
            case h8 =>
              intro w hSw
              try dsimp only at hSw
              go_simp
              all_goals (with_reducible rfl)
            try simp only [List.setIfInBounds_toArray, List.set_cons_zero, List.set_cons_succ]
            refine Rnd.take 9 (v := ?v9) rfl (by rfl) (by kernel_rfl) (by kernel_rfl) (by kernel_rfl) (fun _ _ _ h => h) (Or.inl ⟨by rfl, ?h9⟩) (by assumption) ?_
            case h9 =>
              intro w hSw
              try dsimp only at hSw
              go_simp
              all_goals (with_reducible rfl)
            try simp only [List.setIfInBounds_toArray, List.set_cons_zero, List.set_cons_succ]
            refine Rnd.take 10 (v := ?v10) rfl (by rfl) (by kernel_rfl) (by kernel_rfl) (by kernel_rfl) (fun _ _ _ h => h) (Or.inl ⟨by rfl, ?h10⟩) (by assumption) ?_
            case h10 =>
              intro w hSw
              try dsimp only at hSw
              go_simp
              all_goals (with_reducible rfl)
            try simp only [List.setIfInBounds_toArray, List.set_cons_zero, List.set_cons_succ]
            refine Rnd.take 11 (v := ?v11) rfl (by rfl) (by kernel_rfl) (by kernel_rfl) (by kernel_rfl) (fun _ _ _ h => h) (Or.inl ⟨by rfl, ?h11⟩) (by assumption) ?_
            case h11 =>
              intro w hSw
              try dsimp only at hSw
              go_simp
              all_goals (with_reducible rfl)
            try simp only [List.setIfInBounds_toArray, List.set_cons_zero, List.set_cons_succ]
            refine Rnd.take 12 (v := ?v12) rfl (by rfl) (by kernel_rfl) (by kernel_rfl) (by kernel_rfl) (fun _ _ _ h => h) (Or.inl ⟨by rfl, ?h12⟩) (by assumption) ?_
            case h12 =>
              intro w hSw
              try dsimp only at hSw
              go_simp
              all_goals (with_reducible rfl)
            try simp only [List.setIfInBounds_toArray, List.set_cons_zero, List.set_cons_succ]

            refine wpAnyH_ready (rs := [13]) (by kernel_rfl) (by simp) ?_
            refine AllReadyH.cons (o := _) rfl (fun K' hK => ?_) AllReadyH.nil
            go_simp
            go_at_call 28
            refine (ca _).mono ?_
            clear ca
            rintro e w5 ⟨rfl, b5⟩
            dsimp only
            have b5' : Below wr.heap.size wr w5 := ⟨b5.os, b5.tape, b5.output, b5.size, b5.block⟩
            have x5 := xr.next b5'
            have o5 := mo.next b5'
            have f5 := (HTM.out.next br).next b5'
            have B5 := via b5' br
            have c0 := f5.cell i
            rw [bV_get (by rw [HTO.out]; omega), HV.out] at c0
            have lo5 := o5.loose (i + 1)
            have n5 := o5.cell (i + 1)
            rw [bV, List.getElem?_toArray, List.getElem?_map, List.getElem?_append_right (by rw [HPL.out]; exact Nat.le_refl _), HPL.out, Nat.sub_self, List.getElem?_cons_zero, Option.map_some] at n5
            refine hK.out _ _ ⟨c0, x5.cell 1, x5.cell 2, x5.cell 3, x5.cell 4⟩ (fun hHeld2 => ?_)
            clear hK K' hHeld b5 b5' c0
            have hput := fun b => (by have := o5.set_ (i + 1) (.bool b); rwa [bV_set _ _ _ _ HPL.out] at this : Mks (w5.setCell ⟨o, i + 1, none⟩ (.bool b)) o ((setO (bsS s) S tm).take (i + 1) ++ b :: List.replicate (s.size - (i + 1)) false))
            have xput := fun b => (x5.far (p := ⟨o, i + 1, none⟩) (by show w.heap.size ≠ o; omega) (.bool b))
            have bput := fun b => (B5.setCell (p := ⟨o, i + 1, none⟩) (by show w.heap.size ≤ o; omega) (.bool b))
            have fput := fun b => (f5.far (p := ⟨o, i + 1, none⟩) (by show gt ≠ o; have := HGT.out; omega) (.bool b))
            refine Rnd.take 14 (v := ?v14) rfl (by rfl) (by kernel_rfl) (by kernel_rfl) (by kernel_rfl) (fun _ _ _ h => h) (Or.inl ⟨by rfl, ?h14⟩) (by assumption) ?_
            case h14 =>
              intro w hSw
              try dsimp only at hSw
              go_simp
              all_goals (with_reducible rfl)
            try simp only [List.setIfInBounds_toArray, List.set_cons_zero, List.set_cons_succ]
            refine Rnd.take 15 (v := ?v15) rfl (by rfl) (by kernel_rfl) (by kernel_rfl) (by kernel_rfl) (fun _ _ _ h => h) (Or.inl ⟨by rfl, ?h15⟩) (by assumption) ?_
            case h15 =>
              intro w hSw
              try dsimp only at hSw
              go_simp
              all_goals (with_reducible rfl)
            try simp only [List.setIfInBounds_toArray, List.set_cons_zero, List.set_cons_succ]

            refine wpAnyH_ready (rs := [16]) (by kernel_rfl) (by simp) ?_
            refine AllReadyH.cons (o := _) rfl (fun K' hK => ?_) AllReadyH.nil
            go_simp
            refine hK.out _ _ ⟨((fput _).cell i).trans (by rw [bV_get (by rw [HTO.out]; omega), HV.out]), (xput _).cell 1, (xput _).cell 2, (xput _).cell 3, (xput _).cell 4⟩ (fun hHeld3 => ?_)
            clear hK K'
            refine wpAnyH_done (by kernel_rfl) ?_ _
            clear hHeld3 hHeld2
            go_wp2_with fail
            go_roundw
            case rel => exact ⟨i + 1, by go_num, by omega, by rw [hn.out]; exact hput _, xput _, bput _⟩
            case measure => simp [intOf]; omega
        · have hil : i = s.size := by omega
          subst hil
          have mo2 : Mks wr o (setO (bsS s) S tm) := by
            rw [Nat.sub_self, List.replicate_zero, List.append_nil, List.take_of_length_le (by rw [setO_len, bs_len]; omega)] at mo; exact mo
          go_wp2_with fail
          go_ret
          exact ⟨o, rfl, by omega, by rw [HB.out]; exact mo2, br⟩
    by_cases h2 : k = 2
    · subst h2
      have HB : Hid (overS (bsS s) bg en (.mk 2 S kids lo hi nn) tm = (noneS s.size).set 0 (tm.getD 0 false && bg)) := Lib.hid (ov2 (bsS s) bg en S kids lo hi nn tm)
      have q0 := t1.cell 0
      rw [bV_get (by rw [HTO.out]; omega)] at q0
      have l0 := m1.loose 0
      have n0 := m1.cell 0
      rw [bV_get (by rw [none_len]; omega)] at n0
      have hput := fun v => (by have := m1.set_ 0 (.bool v); rwa [bV_put] at this : Mks (w1.setCell ⟨o, 0, none⟩ (.bool v)) o ((noneS s.size).set 0 v))
      have bput := fun v => B1.setCell (p := ⟨o, 0, none⟩) (by show w.heap.size ≤ o; omega) (.bool v)
      have yput := fun v => x1.far (p := ⟨o, 0, none⟩) (by show w.heap.size ≠ o; omega) (.bool v)
      generalize tm.getD 0 false = v0 at *
      generalize (noneS s.size).getD 0 false = v1 at *
      clear m1 HW HKW HLE B1
      cases v0 with
      | false =>
        go_wp2_with fail
        go_ret
        exact ⟨o, rfl, by omega, by rw [HB.out]; exact hput _, bput _⟩
      | true =>
        cases bg
        all_goals
          go_wp2_with fail
          go_ret
          exact ⟨o, rfl, by omega, by rw [HB.out]; exact hput _, bput _⟩
    by_cases h3 : k = 3
    · subst h3
      have HB : Hid (overS (bsS s) bg en (.mk 3 S kids lo hi nn) tm = (noneS s.size).set s.size (tm.getD s.size false && en)) := Lib.hid (ov3 (bsS s) bg en S kids lo hi nn tm)
      have q0 := t1.cell s.size
      rw [bV_get (by rw [HTO.out]; omega)] at q0
      have l0 := m1.loose s.size
      have n0 := m1.cell s.size
      rw [bV_get (by rw [none_len]; omega)] at n0
      have hput := fun v => (by have := m1.set_ s.size (.bool v); rwa [bV_put] at this : Mks (w1.setCell ⟨o, s.size, none⟩ (.bool v)) o ((noneS s.size).set s.size v))
      have bput := fun v => B1.setCell (p := ⟨o, s.size, none⟩) (by show w.heap.size ≤ o; omega) (.bool v)
      have yput := fun v => x1.far (p := ⟨o, s.size, none⟩) (by show w.heap.size ≠ o; omega) (.bool v)
      generalize tm.getD s.size false = v0 at *
      generalize (noneS s.size).getD s.size false = v1 at *
      clear m1 HW HKW HLE B1
      cases v0 with
      | false =>
        go_wp2_with fail
        go_ret
        exact ⟨o, rfl, by omega, by rw [HB.out]; exact hput _, bput _⟩
      | true =>
        cases en
        all_goals
          go_wp2_with fail
          go_ret
          exact ⟨o, rfl, by omega, by rw [HB.out]; exact hput _, bput _⟩
    by_cases h4 : k = 4
    · subst h4
      have hkn : kl ≤ 4611686018427387904 := by omega
      have HB := Lib.hid (ov4 (bsS s) bg en S kids lo hi nn tm)
      have HOL := Lib.hid (fun j (hj : j < kids.length) y (hy : y.length = s.size + 1) => (over_step (bsS s) bg en (kids[j]'hj) (HKW.out j hj)).len y hy)

      go_wp2_with (refine wpList_copy_splice rfl _ _ 38 38 rfl 4 Tryd.underlying38 bool_size (some ⟨o, 0, none⟩) (some ⟨gt, 0, none⟩) (s.size + 1) (s.size + 1) (s.size + 1) (s.size + 1) (by rfl) (by rfl) o 0 ((noneS s.size).map Value.bool) 4 (by exact m1) (tm.map Value.bool) (by rw [List.length_map, HTO.out]; exact (Nat.min_self _).symm) (fun _ => ⟨rfl, _, rfl, marks_src (n := s.size) t1⟩) (by simp [none_len, HTO.out]) (bL_one tm) o _ (Below.refl _ _) (Nat.le_refl _) ?_)
      intro w2 hh hb2
      have m2 : Mks w2 o tm := by have := hh.out; rw [splice_all s.size tm HTO.out] at this; exact this
      have x2 := x1.below hb2 (by omega)
      have B2 : Below w.heap.size w w2 := B1.trans (hb2.mono (by omega))
      clear hh hb2 x1 m1 t1 B1
      have p0 := x2.cell 0
      have p5 := x2.cell 5
      simp only [List.getElem?_toArray, List.getElem?_cons_zero, List.getElem?_cons_succ] at p0 p5
      go_wp2_with fail
      go_loopw [11, 13] (fun gv iv wr => ∃ (g j : Nat) (now : List Bool), gv = mkV g s.size ∧ iv = .int .i64 j ∧ j ≤ kl ∧ Mks wr g now ∧ now.length = s.size + 1 ∧ w.heap.size ≤ g ∧ Hid (catO (bsS s) bg en kids tm = catO (bsS s) bg en (kids.drop j) now) ∧ Blk wr w.heap.size 27 (reC 4 S A kl c lo hi nn).toArray ∧ Below w.heap.size w wr) (fun _ iv _ => kl - (intOf iv).toNat)
      case atStart => exact ⟨o, 0, tm, rfl, rfl, by omega, m2, HTO.out, by omega, Lib.hid (by rw [List.drop_zero]), x2, B2⟩
      case round =>
        clear m2 x2 B2 p0 p5
        obtain ⟨g, j, now, rfl, rfl, hj, mg, ln, hg, hq, xr, br⟩ := hrel
        have p0 := xr.cell 0
        have p5 := xr.cell 5
        simp only [List.getElem?_toArray, List.getElem?_cons_zero, List.getElem?_cons_succ] at p0 p5

        by_cases hlt : j < kl
        · obtain ⟨kg, ko, A2, c2, k0, k1, k2, k3, k4, k5, rfl, hkid⟩ := kidW HH.out j (by omega)
          have hc := (hkid wr br).2
          have fk0 := hc 0 _ rfl
          have fk1 := hc 1 _ rfl
          have fk2 := hc 2 _ rfl
          have fk3 := hc 3 _ rfl
          have fk4 := hc 4 _ rfl
          have fk5 := hc 5 _ rfl
          have fk6 := hc 6 _ rfl
          have fk7 := hc 7 _ rfl
          have fk8 := hc 8 _ rfl
          simp only [Nat.zero_mul, Nat.add_zero] at fk0

          have c5 := ih (by omega) (kids[j]'(by omega)) (HLE.out j (by omega)) (HKW.out j (by omega)) K wr _ (hkid wr br).1 s hs g now mg ln bg en
          have hq2 : Hid (catO (bsS s) bg en kids tm = catO (bsS s) bg en (kids.drop (j + 1)) (overS (bsS s) bg en (kids[j]'(by omega)) now)) := Lib.hid (by rw [hq.out, catO_drop])
          have LN : (overS (bsS s) bg en (kids[j]'(by omega)) now).length = s.size + 1 := HOL.out j (by omega) now ln
          have szr := br.size
          clear hc hkid hq mg
          go_wp2_with fail
          (with_reducible refine c5.mono ?_)
          clear c5
          rintro e w5 ⟨g2, rfl, hg2, m5, b5⟩
          have x5 := xr.next b5
          have b6 := via b5 br
          clear b5 br xr
          go_wp2_with fail
          go_roundw
          case rel => exact ⟨g2, j + 1, _, rfl, by go_num, by omega, m5, LN, by omega, hq2, x5, b6⟩
          case measure => simp [intOf]; omega
        · have hjk : j = kl := by omega
          subst hjk
          have hq2 := hq.out
          rw [List.drop_eq_nil_of_le (by omega), catO] at hq2
          have HQ := Lib.hid hq2
          clear hq hq2
          go_wp2_with fail
          go_ret
          exact ⟨g, rfl, hg, by rw [HB.out, HQ.out]; exact mg, br⟩
    by_cases h5 : k = 5
    · subst h5
      have hkn : kl ≤ 4611686018427387904 := by omega
      have HB := Lib.hid (ov5 (bsS s) bg en S kids lo hi nn tm)
      have HST := Lib.hid (show altO (bsS s) bg en kids tm = orS (noneS s.size) (altO (bsS s) bg en (kids.drop 0) tm) by rw [List.drop_zero, or_none (n := s.size) ((altO_step (bsS s) bg en kids HWL.out).len tm HTO.out)])
      have HOL := Lib.hid (fun j (hj : j < kids.length) => (over_step (bsS s) bg en (kids[j]'hj) (HKW.out j hj)).len tm HTO.out)
      have p5 := x1.cell 5
      simp only [List.getElem?_toArray, List.getElem?_cons_zero, List.getElem?_cons_succ] at p5
      go_wp2_with fail
      go_loopw [14] (fun iv wr => ∃ (i : Nat) (o' : List Bool), iv = .int .i64 i ∧ i ≤ kl ∧ Mks wr o o' ∧ o'.length = s.size + 1 ∧ Hid (altO (bsS s) bg en kids tm = orS o' (altO (bsS s) bg en (kids.drop i) tm)) ∧ Blk wr w.heap.size 27 (reC 5 S A kl c lo hi nn).toArray ∧ Below w.heap.size w wr) (fun iv _ => kl - (intOf iv).toNat)
      case atStart => exact ⟨0, _, rfl, by omega, m1, none_len _, HST, x1, B1⟩
      case round =>
        clear m1 x1 B1 p5 p0 t1 HST
        obtain ⟨i, o', rfl, hi', mo, lo', ha, xr, br⟩ := hrel
        have p0 := xr.cell 0
        have p5 := xr.cell 5
        simp only [List.getElem?_toArray, List.getElem?_cons_zero, List.getElem?_cons_succ] at p0 p5

        by_cases hlt : i < kl
        · obtain ⟨kg, ko, A2, c2, k0, k1, k2, k3, k4, k5, rfl, hkid⟩ := kidW HH.out i (by omega)
          have hc := (hkid wr br).2
          have fk0 := hc 0 _ rfl
          have fk1 := hc 1 _ rfl
          have fk2 := hc 2 _ rfl
          have fk3 := hc 3 _ rfl
          have fk4 := hc 4 _ rfl
          have fk5 := hc 5 _ rfl
          have fk6 := hc 6 _ rfl
          have fk7 := hc 7 _ rfl
          have fk8 := hc 8 _ rfl
          simp only [Nat.zero_mul, Nat.add_zero] at fk0

          have c5 := ih (by omega) (kids[i]'(by omega)) (HLE.out i (by omega)) (HKW.out i (by omega)) K wr _ (hkid wr br).1 s hs gt tm (HTM.out.next br) HTO.out bg en
          have ha2 := Lib.hid (show altO (bsS s) bg en kids tm = orS (orS o' (overS (bsS s) bg en (kids[i]'(by omega)) tm)) (altO (bsS s) bg en (kids.drop (i + 1)) tm) by rw [or_assoc, ← altO_drop, ha.out])
          have hbl : (overS (bsS s) bg en (kids[i]'(by omega)) tm).length = s.size + 1 := HOL.out i (by omega)
          have szr := br.size
          have szo := mo.lt
          clear hc hkid ha
          generalize overS (bsS s) bg en (kids[i]'(by omega)) tm = bk at *
          go_wp2_with fail
          (with_reducible refine c5.mono ?_)
          clear c5
          rintro e w5 ⟨g2, rfl, hg2, m5, b5⟩
          have x5 := xr.next b5
          have o5 := mo.next b5
          have b6 := via b5 br
          have c6 := join_c o g2 s.size o' bk w5 o5 m5 (by omega) lo' hbl hs
          have LO : (orS o' bk).length = s.size + 1 := by rw [or_len (by omega)]; exact lo'
          clear b5 br xr mo o5 m5
          go_wp2_with fail
          (with_reducible refine c6.mono ?_)
          clear c6
          rintro e w6 ⟨rfl, m6, t6⟩
          have x6 := x5.tch t6 (by omega)
          have b7 := t6.below b6 (fun k hk => by rw [hk]; omega) b6.size
          generalize freshS o' bk = fr0
          go_wp2_with fail
          go_roundw
          case rel => exact ⟨i + 1, _, by go_num, by omega, m6, LO, ha2, x6, b7⟩
          case measure => simp [intOf]; omega
        · have hik : i = kl := by omega
          subst hik
          have ha2 := Lib.hid (show altO (bsS s) bg en kids tm = o' by rw [ha.out, List.drop_eq_nil_of_le (by omega), altO, bs_len, none_or lo'])
          clear ha
          go_wp2_with fail
          go_ret
          exact ⟨o, rfl, by omega, by rw [HB.out, ha2.out]; exact mo, br⟩
    by_cases h6 : k = 6
    · subst h6
      obtain ⟨x, rfl⟩ : ∃ x, kids = [x] := by
        have := HW.out
        rw [wfR] at this
        exact List.length_eq_one_iff.1 (this.1 rfl).1
      have HB := Lib.hid (ov6 (bsS s) bg en S [x] lo hi nn tm)
      have h1l : kl = 1 := hkl.symm
      subst h1l
      obtain ⟨_, hb1, hb2, hb3, _⟩ := (by have := HW.out; rw [wfR] at this; exact this.1 rfl : ([x] : List Re).length = 1 ∧ 0 ≤ lo ∧ lo ≤ 8 ∧ hi ≤ 8 ∧ (hi = -1 ∨ lo ≤ hi))
      have c5 := repeat_c N (ih (by omega)) 6 S x lo hi nn (HLE.out 0 (by simp)) (HKW.out 0 (by simp)) hb1 hb2 hb3 K w1 A c (HH.out.bel B1) s hs gt tm t1 HTO.out bg en
      have p1 := x1.cell 1
      have p2 := x1.cell 2
      have p3 := x1.cell 3
      have p4 := x1.cell 4
      have p5 := x1.cell 5
      have p6 := x1.cell 6
      have p7 := x1.cell 7
      have p8 := x1.cell 8
      simp only [List.getElem?_toArray, List.getElem?_cons_zero, List.getElem?_cons_succ] at p1 p2 p3 p4 p5 p6 p7 p8
      clear m1 HW HKW HLE ih hb1 hb2 hb3
      go_wp2_with fail
      (with_reducible refine c5.mono ?_)
      clear c5
      rintro e w5 ⟨g2, rfl, hg2, m5, b5⟩
      go_wp2_with fail
      go_ret
      exact ⟨g2, rfl, by omega, by rw [HB.out, headO_one]; exact m5, via b5 B1⟩
    by_cases h7 : k = 7
    · subst h7
      obtain ⟨x, rfl⟩ : ∃ x, kids = [x] := by
        have := HW.out
        rw [wfR] at this
        exact List.length_eq_one_iff.1 (this.2.1 rfl).1
      have HB := Lib.hid (ov7 (bsS s) bg en S [x] lo hi nn tm)
      have h1l : kl = 1 := hkl.symm
      subst h1l
      obtain ⟨kg, ko, A2, c2, k0, k1, k2, k3, k4, k5, rfl, hkid⟩ := kidW HH.out 0 (by simp)
      have hc := (hkid w1 B1).2
      have fk0 := hc 0 _ rfl
      have fk1 := hc 1 _ rfl
      have fk2 := hc 2 _ rfl
      have fk3 := hc 3 _ rfl
      have fk4 := hc 4 _ rfl
      have fk5 := hc 5 _ rfl
      have fk6 := hc 6 _ rfl
      have fk7 := hc 7 _ rfl
      have fk8 := hc 8 _ rfl
      simp only [Nat.zero_mul, Nat.add_zero] at fk0 fk1 fk2 fk3 fk4 fk5 fk6 fk7 fk8
      have c5 := ih (by omega) x (HLE.out 0 (by simp)) (HKW.out 0 (by simp)) K w1 _ (hkid w1 B1).1 s hs gt tm t1 HTO.out bg en
      have p5 := x1.cell 5
      simp only [List.getElem?_toArray, List.getElem?_cons_zero, List.getElem?_cons_succ] at p5
      clear hc hkid m1 HW HKW HLE ih
      go_wp2_with fail
      (with_reducible refine c5.mono ?_)
      clear c5
      rintro e w5 ⟨g2, rfl, hg2, m5, b5⟩
      go_wp2_with fail
      go_ret
      exact ⟨g2, rfl, by omega, by rw [HB.out, headO]; exact m5, via b5 B1⟩
    have HB := Lib.hid (ov8 (bsS s) bg en S kids lo hi nn tm k (by omega))
    have e0 : (k == 0) = false := by simpa using h0
    have e1 : (k == 1) = false := by simpa using h1
    have e2 : (k == 2) = false := by simpa using h2
    have e3 : (k == 3) = false := by simpa using h3
    have e4 : (k == 4) = false := by simpa using h4
    have e5 : (k == 5) = false := by simpa using h5
    have e6 : (k == 6) = false := by simpa using h6
    have e7 : (k == 7) = false := by simpa using h7
    clear h0 h1 h2 h3 h4 h5 h6 h7 HW HKW HLE ih
    go_wp2_with fail
    go_ret
    exact ⟨o, rfl, by omega, by rw [HB.out]; exact m1, B1⟩
end GrpW
end Go.Proofs.YtpdmjegbjcefjaaDoor
