/- Which trees may be: the walk of group and right. Conditions: trees that fit. -/
import Derived.Test.YtpdmjegbjcefjaaDoorEreRa
namespace Go.Proofs.YtpdmjegbjcefjaaDoor
set_option linter.unusedVariables false
set_option linter.unusedSimpArgs false
open Go.RowKit
namespace EreX
open EreP EreW
theorem right_0 {s : Nat} {kids : List Re} {lo hi n : Int} {lv d g : Nat} (hb : bareR 0 s lo hi n = true) : rightR (.mk 0 s kids lo hi n) lv d g = if lv ≤ 1 ∧ kids.length = 0 then some g else none := by
  rw [rightR]; simp [hb]
theorem right_1 {s : Nat} {kids : List Re} {lo hi n : Int} {lv d g : Nat} (hb : bareR 1 s lo hi n = true) : rightR (.mk 1 s kids lo hi n) lv d g = if kids.length = 0 then some g else none := by
  rw [rightR]; simp [hb]
theorem right_2 {s : Nat} {kids : List Re} {lo hi n : Int} {lv d g : Nat} (hb : bareR 2 s lo hi n = true) : rightR (.mk 2 s kids lo hi n) lv d g = if lv ≤ 2 ∧ kids.length = 0 then some g else none := by
  rw [rightR]; simp [hb]
theorem right_3 {s : Nat} {kids : List Re} {lo hi n : Int} {lv d g : Nat} (hb : bareR 3 s lo hi n = true) : rightR (.mk 3 s kids lo hi n) lv d g = if lv ≤ 2 ∧ kids.length = 0 then some g else none := by
  rw [rightR]; simp [hb]
theorem right_4 {s : Nat} {kids : List Re} {lo hi n : Int} {lv d g : Nat} (hb : bareR 4 s lo hi n = true) : rightR (.mk 4 s kids lo hi n) lv d g = if lv ≤ 1 ∧ 1 < kids.length then rightL kids 2 d g else none := by
  rw [rightR]; simp [hb]
theorem right_5 {s : Nat} {kids : List Re} {lo hi n : Int} {lv d g : Nat} (hb : bareR 5 s lo hi n = true) : rightR (.mk 5 s kids lo hi n) lv d g = if lv = 0 ∧ 1 < kids.length then rightL kids 1 d g else none := by
  rw [rightR]; simp [hb]
theorem right_6 {s : Nat} {kids : List Re} {lo hi n : Int} {lv d g : Nat} (hb : bareR 6 s lo hi n = true) : rightR (.mk 6 s kids lo hi n) lv d g = if lv ≤ 2 ∧ inR lo hi = true ∧ kids.length = 1 then rightL kids 3 d g else none := by
  rw [rightR]; simp [hb]
theorem right_7 {s : Nat} {kids : List Re} {lo hi n : Int} {lv d g : Nat} (hb : bareR 7 s lo hi n = true) : rightR (.mk 7 s kids lo hi n) lv d g = if n = numG g ∧ d < 64 ∧ kids.length = 1 then rightL kids 0 (d + 1) (g + 1) else none := by
  rw [rightR]; simp [hb]
theorem right_no {k : Int} {s : Nat} {kids : List Re} {lo hi n : Int} {lv d g : Nat} (hb : bareR k s lo hi n = false) : rightR (.mk k s kids lo hi n) lv d g = none := by
  rw [rightR]; simp [hb]
theorem right_other {k : Int} {s : Nat} {kids : List Re} {lo hi n : Int} {lv d g : Nat} (h0 : k ≠ 0) (h1 : k ≠ 1) (h2 : k ≠ 2) (h3 : k ≠ 3) (h4 : k ≠ 4) (h5 : k ≠ 5) (h6 : k ≠ 6) (h7 : k ≠ 7) : rightR (.mk k s kids lo hi n) lv d g = none := by
  rw [rightR]; simp [h0, h1, h2, h3, h4, h5, h6, h7]
theorem JPost.stop {J : Nat} {w w' : World} {g : Nat} (t : Tch (On J) w w') (h : Jdg w' J g) : JPost J w none (.returned (.bool false)) w' := ⟨rfl, t, g, h, fun _ e => by cases e⟩
theorem JPost.go {J : Nat} {w w' : World} {g : Nat} (t : Tch (On J) w w') (h : Jdg w' J g) : JPost J w (some g) (.returned (.bool true)) w' := ⟨rfl, t, g, h, fun _ e => by injection e with e; exact e.symm⟩
set_option maxHeartbeats 1600000 in
set_option maxRecDepth 100000 in
theorem jgroup_c {K : Nat → Prop} (kind : Int) (S : Nat) (kids : List Re) (lo hi nn : Int) (A : Option Addr) (c : Nat) (w : World) (J d g : Nat)
    (h : Rt w K (.mk kind S kids lo hi nn) (reC kind S A kids.length c lo hi nn)) (hj : Jdg w J g) (hK : ∀ b, K b → b ≠ J) (hd : d ≤ 64) (hg : g + 1 + nodesL kids ≤ 4611686018427387904) (hr : RightC K kids) :
    Calls Tryd.prog 68 #[pt J, .agg (reC kind S A kids.length c lo hi nn).toArray, .int .i64 d] w (JPost J w (if nn = numG g ∧ d < 64 ∧ kids.length = 1 then rightL kids 0 (d + 1) (g + 1) else none)) := by
  obtain ⟨wa, hwa⟩ : ∃ z : World, z = (w.setCell ⟨J, 0, none⟩ (.int .i64 ((g : Int) + 1))).alloc (.cells (reC kind S A kids.length c lo hi nn).toArray 27) := ⟨_, rfl⟩
  have hJ := hj.lt
  have ja : Jdg wa J (g + 1) := by rw [hwa]; exact Blk.alloc (Blk.set_ hj 0 _) _
  have ta : Tch (On J) w wa := by rw [hwa]; exact (Tch.setCell (S := On J) (Tch.refl _ _) (p := ⟨J, 0, none⟩) rfl _).alloc _
  have HRT := Lib.hid (h.tch ta (fun b hb e => hK b hb e))
  have ck := fun (hd : d < 64) => kids_c kids wa J 0 (d + 1) (g + 1) HRT.out ja hK (by omega) (by decide) hg hr
  rw [show ((0 : Nat) : Int) = 0 from rfl, show ((d + 1 : Nat) : Int) = (d : Int) + 1 from rfl] at ck
  have f0 := hj.loose 0
  have p0 := hj.cell 0
  simp only [List.getElem?_toArray, List.getElem?_cons_zero, List.getElem?_cons_succ] at p0
  obtain ⟨NN, hNN⟩ : ∃ NN : Int, NN = numG g := ⟨_, rfl⟩
  rw [← hNN]
  have hn : (decide ((9 : Int) < (g : Int) + 1) = true ∧ NN = 0) ∨ (decide ((9 : Int) < (g : Int) + 1) = false ∧ (g : Int) + 1 = NN) := by
    unfold numG at hNN
    by_cases h9 : 9 < g + 1
    · left; rw [if_pos h9] at hNN; exact ⟨by simp; omega, hNN⟩
    · right; rw [if_neg h9] at hNN; exact ⟨by simp; omega, hNN.symm⟩
  clear hNN h hr hK
  obtain ⟨kl, hkl⟩ : ∃ kl, kids.length = kl := ⟨_, rfl⟩
  rw [hkl] at HRT hwa ⊢
  obtain ⟨SL, hSL⟩ : ∃ SL, rightL kids 0 (d + 1) (g + 1) = SL := ⟨_, rfl⟩
  rw [hSL] at ck ⊢
  clear hSL
  have dst : ∀ W, Tch (On J) w W → Jdg W J (g + 1) → JPost J w none (.returned (.bool false)) W := fun W t h => JPost.stop t h
  have DST := Lib.hid dst
  have TA := Lib.hid ta
  have JA := Lib.hid ja
  clear dst ta ja
  by_cases e1 : nn = NN
  rotate_left
  · rw [if_neg (fun h => e1 h.1)]
    rcases hn with ⟨h9, hN⟩ | ⟨h9, hN⟩
    all_goals
      obtain rfl := hN
      have d1 : (nn == _) = false := beq_eq_false_iff_ne.2 e1
      go_enter Tryd.func68, Tryd.ntmps68
      go_wp2
      go_ret
      rw [← hwa]
      exact DST.out _ TA.out JA.out
  subst e1
  by_cases e2 : d < 64
  rotate_left
  · rw [if_neg (fun h => e2 h.2.1)]
    have d2 : decide ((d : Int) < 64) = false := by simp; omega
    rcases hn with ⟨h9, hN⟩ | ⟨h9, hN⟩
    all_goals
      subst hN
      go_enter Tryd.func68, Tryd.ntmps68
      go_wp2
      go_ret
      rw [← hwa]
      exact DST.out _ TA.out JA.out
  have d2 : decide ((d : Int) < 64) = true := by simp; omega
  by_cases e3 : kl = 1
  rotate_left
  · rw [if_neg (fun h => e3 h.2.2)]
    have d3 : (((kl : Nat) : Int) == 1) = false := by simp; omega
    rcases hn with ⟨h9, hN⟩ | ⟨h9, hN⟩
    all_goals
      subst hN
      go_enter Tryd.func68, Tryd.ntmps68
      go_wp2
      go_ret
      rw [← hwa]
      exact DST.out _ TA.out JA.out
  have d3 : (((kl : Nat) : Int) == 1) = true := by simp; omega
  rw [if_pos ⟨rfl, e2, e3⟩]
  have ck := ck e2
  rw [hkl] at ck
  clear e3
  rcases hn with ⟨h9, hN⟩ | ⟨h9, hN⟩
  all_goals
    subst hN
    go_enter Tryd.func68, Tryd.ntmps68
    go_wp2_with fail
    rw [← hwa]
    (with_reducible refine ck.mono ?_)
    rintro e w2 ⟨rfl, ht, g', hj2, hq2⟩
    have T2 := TA.out.trans ht
    clear ht
    go_wp2
    go_ret
    exact ⟨by simp, T2, g', hj2, hq2⟩

set_option maxHeartbeats 6400000 in
set_option maxRecDepth 100000 in
theorem right_c {K : Nat → Prop} : ∀ (N : Nat) (r : Re), nodesR r ≤ N → ∀ (w : World) (cs : List Value) (J lv d g : Nat), Rt w K r cs → Jdg w J g → (∀ b, K b → b ≠ J) → d ≤ 64 → lv ≤ 3 → g + nodesR r ≤ 4611686018427387904 →
    Calls Tryd.prog 53 #[pt J, .agg cs.toArray, .int .i64 lv, .int .i64 d] w (JPost J w (rightR r lv d g)) := by
  intro N
  induction N with
  | zero => intro r h; cases r; simp [nodesR] at h
  | succ N ih =>
    intro r hN w cs J lv d g h hj hK hd hlv hb
    obtain ⟨A, c, rfl, hS, hnil⟩ := h.shape
    obtain ⟨kind, S, kids, lo, hi, nn⟩ := r
    simp only [Re.kind, Re.set, Re.kids, Re.lo, Re.hi, Re.n] at h hS hnil ⊢
    have hN2 : 1 + nodesL kids ≤ N + 1 := by simpa [nodesR] using hN
    have hb2 : g + (1 + nodesL kids) ≤ 4611686018427387904 := by simpa [nodesR] using hb
    have hRC : RightC K kids := fun i hi w cs J lv d g h1 h2 h3 h4 h5 h6 => ih (kids[i]'hi) (by have := nodes_kid kids i hi; omega) w cs J lv d g h1 h2 h3 h4 h5 h6
    have hln := len_nodes kids
    obtain ⟨wa, hwa⟩ : ∃ z : World, z = w.alloc (.cells (reC kind S A kids.length c lo hi nn).toArray 27) := ⟨_, rfl⟩
    have ja : Jdg wa J g := by rw [hwa]; exact Blk.alloc hj _
    have ta : Tch (On J) w wa := by rw [hwa]; exact (Tch.refl _ _).alloc _
    have xa : Blk wa w.heap.size 27 (reC kind S A kids.length c lo hi nn).toArray := by rw [hwa]; exact Blk.new _ _ _
    have HRA := Lib.hid (h.tch ta (fun b hb e => hK b hb e))
    have cb := bare_c (K := K) kind S kids lo hi nn A kids.length c wa hS
    obtain ⟨GR, hGR⟩ : ∃ GR, rightR (.mk kind S kids lo hi nn) lv d g = GR := ⟨_, rfl⟩
    rw [hGR]
    have HG := Lib.hid hGR
    have hJ := hj.lt
    have HC := Lib.hid hRC
    have HK := Lib.hid hK
    clear hGR h hS hnil hN hb ih hRC hK hj
    obtain ⟨kl, hkl⟩ : ∃ kl, kids.length = kl := ⟨_, rfl⟩
    rw [hkl] at HRA hwa xa cb hln
    rw [hkl]
    obtain ⟨BR, hBR⟩ : ∃ BR, bareR kind S lo hi nn = BR := ⟨_, rfl⟩
    rw [hBR] at cb
    have HB := Lib.hid hBR
    clear hBR
    go_enter Tryd.func53, Tryd.ntmps53
    go_wp2_with fail
    rw [← hwa]
    clear hwa
    (with_reducible refine cb.mono ?_)
    rintro e w1 ⟨rfl, hb1⟩
    have x1 := xa.next hb1
    have t1 : Tch (On J) w w1 := ta.trans (Tch.of_below hb1)
    have j1 : Jdg w1 J g := Blk.next ja hb1
    have HR1 := Lib.hid (HRA.out.bel hb1)
    have T1 := Lib.hid t1
    have J1 := Lib.hid j1
    have p0 := x1.cell 0
    have p5 := x1.cell 5
    have p6 := x1.cell 6
    have p7 := x1.cell 7
    simp only [List.getElem?_toArray, List.getElem?_cons_zero, List.getElem?_cons_succ] at p0 p5 p6 p7
    have r0 := x1.cell 1
    have r2 := x1.cell 2
    have r3 := x1.cell 3
    have r4 := x1.cell 4
    have r8 := x1.cell 8
    simp only [List.getElem?_toArray, List.getElem?_cons_zero, List.getElem?_cons_succ] at r0 r2 r3 r4 r8
    clear cb hb1 x1 xa t1 j1 ta ja
    cases BR
    · have hz : GR = none := by rw [← HG.out]; exact right_no HB.out
      subst hz
      go_wp2
      go_ret
      exact JPost.stop T1.out J1.out
    by_cases e0 : kind = 0
    · subst e0
      have hsp := right_0 (kids := kids) (lv := lv) (d := d) (g := g) HB.out
      rw [HG.out] at hsp
      rw [hkl] at hsp
      by_cases c0 : lv ≤ 1
      rotate_left
      · have b0 : decide ((lv : Int) ≤ 1) = false := by simp; omega
        rw [if_neg (fun h => c0 h.1)] at hsp
        subst hsp
        go_wp2
        go_ret
        exact JPost.stop T1.out J1.out
      have b0 : decide ((lv : Int) ≤ 1) = true := by simp; omega
      by_cases c1 : kl = 0
      rotate_left
      · have b1 : (((kl : Nat) : Int) == 0) = false := by simp; omega
        rw [if_neg (fun h => c1 h.2)] at hsp
        subst hsp
        go_wp2
        go_ret
        exact JPost.stop T1.out J1.out
      have b1 : (((kl : Nat) : Int) == 0) = true := by simp; omega
      rw [if_pos ⟨c0, c1⟩] at hsp
      subst hsp
      go_wp2
      go_ret
      exact JPost.go T1.out J1.out
    have n0 : (kind == 0) = false := beq_eq_false_iff_ne.2 e0
    by_cases e1 : kind = 1
    · subst e1
      have hsp := right_1 (kids := kids) (lv := lv) (d := d) (g := g) HB.out
      rw [HG.out] at hsp
      rw [hkl] at hsp
      by_cases c0 : kl = 0
      rotate_left
      · have b0 : (((kl : Nat) : Int) == 0) = false := by simp; omega
        rw [if_neg (fun h => c0 h)] at hsp
        subst hsp
        go_wp2
        go_ret
        exact JPost.stop T1.out J1.out
      have b0 : (((kl : Nat) : Int) == 0) = true := by simp; omega
      rw [if_pos c0] at hsp
      subst hsp
      go_wp2
      go_ret
      exact JPost.go T1.out J1.out
    have n1 : (kind == 1) = false := beq_eq_false_iff_ne.2 e1
    by_cases e2 : kind = 2
    · subst e2
      have hsp := right_2 (kids := kids) (lv := lv) (d := d) (g := g) HB.out
      rw [HG.out] at hsp
      rw [hkl] at hsp
      by_cases c0 : lv ≤ 2
      rotate_left
      · have b0 : decide ((lv : Int) ≤ 2) = false := by simp; omega
        rw [if_neg (fun h => c0 h.1)] at hsp
        subst hsp
        go_wp2
        go_ret
        exact JPost.stop T1.out J1.out
      have b0 : decide ((lv : Int) ≤ 2) = true := by simp; omega
      by_cases c1 : kl = 0
      rotate_left
      · have b1 : (((kl : Nat) : Int) == 0) = false := by simp; omega
        rw [if_neg (fun h => c1 h.2)] at hsp
        subst hsp
        go_wp2
        go_ret
        exact JPost.stop T1.out J1.out
      have b1 : (((kl : Nat) : Int) == 0) = true := by simp; omega
      rw [if_pos ⟨c0, c1⟩] at hsp
      subst hsp
      go_wp2
      go_ret
      exact JPost.go T1.out J1.out
    have n2 : (kind == 2) = false := beq_eq_false_iff_ne.2 e2
    by_cases e3 : kind = 3
    · subst e3
      have hsp := right_3 (kids := kids) (lv := lv) (d := d) (g := g) HB.out
      rw [HG.out] at hsp
      rw [hkl] at hsp
      by_cases c0 : lv ≤ 2
      rotate_left
      · have b0 : decide ((lv : Int) ≤ 2) = false := by simp; omega
        rw [if_neg (fun h => c0 h.1)] at hsp
        subst hsp
        go_wp2
        go_ret
        exact JPost.stop T1.out J1.out
      have b0 : decide ((lv : Int) ≤ 2) = true := by simp; omega
      by_cases c1 : kl = 0
      rotate_left
      · have b1 : (((kl : Nat) : Int) == 0) = false := by simp; omega
        rw [if_neg (fun h => c1 h.2)] at hsp
        subst hsp
        go_wp2
        go_ret
        exact JPost.stop T1.out J1.out
      have b1 : (((kl : Nat) : Int) == 0) = true := by simp; omega
      rw [if_pos ⟨c0, c1⟩] at hsp
      subst hsp
      go_wp2
      go_ret
      exact JPost.go T1.out J1.out
    have n3 : (kind == 3) = false := beq_eq_false_iff_ne.2 e3
    by_cases e4 : kind = 4
    · subst e4
      have hsp := right_4 (kids := kids) (lv := lv) (d := d) (g := g) HB.out
      rw [HG.out] at hsp
      rw [hkl] at hsp
      by_cases c0 : lv ≤ 1
      rotate_left
      · have b0 : decide ((lv : Int) ≤ 1) = false := by simp; omega
        rw [if_neg (fun h => c0 h.1)] at hsp
        subst hsp
        go_wp2
        go_ret
        exact JPost.stop T1.out J1.out
      have b0 : decide ((lv : Int) ≤ 1) = true := by simp; omega
      by_cases c1 : 1 < kl
      rotate_left
      · have b1 : decide ((1 : Int) < ((kl : Nat) : Int)) = false := by simp; omega
        rw [if_neg (fun h => c1 h.2)] at hsp
        subst hsp
        go_wp2
        go_ret
        exact JPost.stop T1.out J1.out
      have b1 : decide ((1 : Int) < ((kl : Nat) : Int)) = true := by simp; omega
      rw [if_pos ⟨c0, c1⟩] at hsp
      have ck := kids_c kids w1 J 2 d g HR1.out J1.out HK.out hd (by decide) (by omega) HC.out
      rw [← hsp, show ((2 : Nat) : Int) = 2 from rfl] at ck
      clear hsp
      go_wp2_with fail
      (with_reducible refine ck.mono ?_)
      rintro e w2 ⟨rfl, ht, g', hj2, hq2⟩
      have T2 := T1.out.trans ht
      clear ht
      go_wp2
      go_ret
      exact ⟨by simp, T2, g', hj2, hq2⟩
    have n4 : (kind == 4) = false := beq_eq_false_iff_ne.2 e4
    by_cases e5 : kind = 5
    · subst e5
      have hsp := right_5 (kids := kids) (lv := lv) (d := d) (g := g) HB.out
      rw [HG.out] at hsp
      rw [hkl] at hsp
      by_cases c0 : lv = 0
      rotate_left
      · have b0 : (((lv : Nat) : Int) == 0) = false := by simp; omega
        rw [if_neg (fun h => c0 h.1)] at hsp
        subst hsp
        go_wp2
        go_ret
        exact JPost.stop T1.out J1.out
      have b0 : (((lv : Nat) : Int) == 0) = true := by simp; omega
      by_cases c1 : 1 < kl
      rotate_left
      · have b1 : decide ((1 : Int) < ((kl : Nat) : Int)) = false := by simp; omega
        rw [if_neg (fun h => c1 h.2)] at hsp
        subst hsp
        go_wp2
        go_ret
        exact JPost.stop T1.out J1.out
      have b1 : decide ((1 : Int) < ((kl : Nat) : Int)) = true := by simp; omega
      rw [if_pos ⟨c0, c1⟩] at hsp
      have ck := kids_c kids w1 J 1 d g HR1.out J1.out HK.out hd (by decide) (by omega) HC.out
      rw [← hsp, show ((1 : Nat) : Int) = 1 from rfl] at ck
      clear hsp
      go_wp2_with fail
      (with_reducible refine ck.mono ?_)
      rintro e w2 ⟨rfl, ht, g', hj2, hq2⟩
      have T2 := T1.out.trans ht
      clear ht
      go_wp2
      go_ret
      exact ⟨by simp, T2, g', hj2, hq2⟩
    have n5 : (kind == 5) = false := beq_eq_false_iff_ne.2 e5
    by_cases e6 : kind = 6
    · subst e6
      have hsp := right_6 (kids := kids) (lv := lv) (d := d) (g := g) HB.out
      rw [HG.out] at hsp
      rw [hkl] at hsp
      have ck := kids_c kids w1 J 3 d g HR1.out J1.out HK.out hd (by decide) (by omega) HC.out
      rw [show ((3 : Nat) : Int) = 3 from rfl] at ck
      by_cases hall : lv ≤ 2 ∧ inR lo hi = true ∧ kl = 1
      · rw [if_pos hall] at hsp
        rw [← hsp] at ck
        obtain ⟨h1, h2, h3⟩ := hall
        unfold inR at h2
        simp only [Bool.and_eq_true, Bool.or_eq_true] at h2
        obtain ⟨⟨i1, i2⟩, i3⟩ := h2
        have b1 : decide ((lv : Int) ≤ 2) = true := by simp; omega
        have b3 : (((kl : Nat) : Int) == 1) = true := by simp; omega
        have i3' : (hi == -1) = true ∨ ((hi == -1) = false ∧ decide (lo ≤ hi) = true ∧ decide (hi ≤ 8) = true) := by
          cases hh : (hi == -1)
          · right; rcases i3 with h | h
            · rw [hh] at h; cases h
            · exact ⟨rfl, h⟩
          · left; rfl
        clear i3 h1 h3 hsp
        rcases i3' with i3 | ⟨i3, i4, i5⟩
        all_goals
          go_wp2_with fail
          (with_reducible refine ck.mono ?_)
          rintro e w2 ⟨rfl, ht, g', hj2, hq2⟩
          have T2 := T1.out.trans ht
          clear ht
          go_wp2
          go_ret
          exact ⟨by simp, T2, g', hj2, hq2⟩
      · rw [if_neg hall] at hsp
        subst hsp
        have hall2 : (decide ((lv : Int) ≤ 2) && (inR lo hi && (((kl : Nat) : Int) == 1))) = false := by
          cases hx : (decide ((lv : Int) ≤ 2) && (inR lo hi && (((kl : Nat) : Int) == 1)))
          · rfl
          · simp only [Bool.and_eq_true, decide_eq_true_eq, beq_iff_eq] at hx
            exact absurd ⟨by omega, hx.2.1, by omega⟩ hall
        clear hall ck
        unfold inR at hall2
        have HS : Hid (JPost J w none (.returned (.bool false)) w1) := Lib.hid (JPost.stop T1.out J1.out)
        cases b1 : decide ((lv : Int) ≤ 2)
        · clear hall2
          go_wp2
          all_goals
            go_ret
            exact HS.out
        · rw [b1] at hall2
          cases b3 : (((kl : Nat) : Int) == 1)
          · clear hall2
            go_wp2
            all_goals
              go_ret
              exact HS.out
          · rw [b3] at hall2
            simp only [Bool.true_and, Bool.and_true] at hall2
            cases i1 : decide ((0 : Int) ≤ lo)
            · clear hall2
              go_wp2
              all_goals
                go_ret
                exact HS.out
            rw [i1] at hall2
            cases i2 : decide (lo ≤ (8 : Int))
            · clear hall2
              go_wp2
              all_goals
                go_ret
                exact HS.out
            rw [i2] at hall2
            cases i3 : (hi == -1)
            rotate_left
            · rw [i3] at hall2; simp at hall2
            rw [i3] at hall2
            cases i4 : decide (lo ≤ hi)
            · clear hall2
              go_wp2
              all_goals
                go_ret
                exact HS.out
            rw [i4] at hall2
            cases i5 : decide (hi ≤ (8 : Int))
            · clear hall2
              go_wp2
              all_goals
                go_ret
                exact HS.out
            rw [i5] at hall2
            simp at hall2
    have n6 : (kind == 6) = false := beq_eq_false_iff_ne.2 e6
    by_cases e7 : kind = 7
    · subst e7
      have hsp := right_7 (kids := kids) (lv := lv) (d := d) (g := g) HB.out
      rw [HG.out] at hsp
      have hcg : (reC 7 S A kids.length c lo hi nn).toArray = (reC 7 S A kl c lo hi nn).toArray := by rw [hkl]
      have cg := jgroup_c 7 S kids lo hi nn A c w1 J d g (by rw [hkl]; exact HR1.out) J1.out HK.out hd (by omega) HC.out
      rw [hcg, ← hsp] at cg
      clear hsp hcg
      go_wp2_with fail
      (with_reducible refine cg.mono ?_)
      rintro e w2 ⟨rfl, ht, g', hj2, hq2⟩
      have T2 := T1.out.trans ht
      clear ht
      go_wp2
      go_ret
      exact ⟨rfl, T2, g', hj2, hq2⟩
    have n7 : (kind == 7) = false := beq_eq_false_iff_ne.2 e7
    have hz : GR = none := by rw [← HG.out]; exact right_other e0 e1 e2 e3 e4 e5 e6 e7
    subst hz
    go_wp2
    go_ret
    exact JPost.stop T1.out J1.out
end EreX
end Go.Proofs.YtpdmjegbjcefjaaDoor
