/- The reference's text of a tree. Conditions: trees that fit. -/
import Derived.Test.YtpdmjegbjcefjaaDoorEreQt
import Derived.Test.YtpdmjegbjcefjaaDoorEreQa
import Derived.Test.YtpdmjegbjcefjaaDoorEreBp
import Derived.Test.YtpdmjegbjcefjaaDoorEreSm
import Derived.Test.YtpdmjegbjcefjaaDoorEreF
import Derived.Test.YtpdmjegbjcefjaaDoorEreFm0
import Derived.Test.YtpdmjegbjcefjaaDoorEreFm4
import Derived.Test.YtpdmjegbjcefjaaDoorEreFm6
namespace Go.Proofs.YtpdmjegbjcefjaaDoor
set_option linter.unusedVariables false
set_option linter.unusedSimpArgs false
open Go.RowKit
namespace EreX
open EreP EreW
theorem rightL_get {l : List Re} {lv d g q : Nat} (h : rightL l lv d g = some q) (i : Nat) (hi : i < l.length) : ∃ g' q', rightR (l[i]'hi) lv d g' = some q' := by
  induction l generalizing g i with
  | nil => exact absurd hi (Nat.not_lt_zero _)
  | cons x l ih =>
    rw [rightL] at h
    cases hx : rightR x lv d g with
    | none => rw [hx] at h; cases h
    | some g1 =>
      rw [hx] at h
      cases i with
      | zero => exact ⟨g, g1, hx⟩
      | succ i => exact ih h i (by simpa using hi)
/-- What a right tree's kids are. -/
theorem right_kids {k : Int} {s : Nat} {kids : List Re} {lo hi n : Int} {lv d g q : Nat} (h : rightR (.mk k s kids lo hi n) lv d g = some q) :
    ((k = 1 ∨ k = 2 ∨ k = 3) → kids = []) ∧ ∀ (i : Nat) (hi : i < kids.length), ∃ lv' d' g' q', rightR (kids[i]'hi) lv' d' g' = some q' := by
  rcases right_ways h with ⟨rfl, h1, rfl, _⟩ | ⟨rfl, rfl, _⟩ | ⟨hk, _, rfl, _⟩ | ⟨rfl, h1, hl, _, _, _, _, hr⟩ | ⟨rfl, h1, hl, _, _, _, _, hr⟩ | ⟨rfl, _, _, ⟨x, rfl, hx⟩, _⟩ | ⟨rfl, _, _, ⟨x, rfl, hx⟩, _⟩
  · exact ⟨fun _ => rfl, fun i hi => absurd hi (Nat.not_lt_zero _)⟩
  · exact ⟨fun _ => rfl, fun i hi => absurd hi (Nat.not_lt_zero _)⟩
  · exact ⟨fun _ => rfl, fun i hi => absurd hi (Nat.not_lt_zero _)⟩
  · exact ⟨fun h => by omega, fun i hi => by obtain ⟨g', q', h⟩ := rightL_get hr i hi; exact ⟨_, _, _, _, h⟩⟩
  · exact ⟨fun h => by omega, fun i hi => by obtain ⟨g', q', h⟩ := rightL_get hr i hi; exact ⟨_, _, _, _, h⟩⟩
  · refine ⟨fun h => by omega, fun i hi => ?_⟩
    have : i = 0 := by simp at hi; omega
    subst this
    exact ⟨_, _, _, _, hx⟩
  · refine ⟨fun h => by omega, fun i hi => ?_⟩
    have : i = 0 := by simp at hi; omega
    subst this
    exact ⟨_, _, _, _, hx⟩
set_option maxHeartbeats 6400000 in
set_option maxRecDepth 100000 in
theorem textq_c {K : Nat → Prop} : ∀ (N : Nat) (r : Re), nodesR r ≤ N → ∀ (w : World) (cs : List Value), Rt w K r cs → (∃ lv d g q, rightR r lv d g = some q) → 1306 * nodesR r ≤ 70368744177664 →
    Calls Tryd.prog 50 #[.agg cs.toArray] w fun x w' => x = .returned (.string ⟨(textR r).toArray⟩) ∧ Below w.heap.size w w' := by
  intro N
  induction N with
  | zero => intro r h; cases r; simp [nodesR] at h
  | succ N ih =>
    intro r hN w cs h hrt hb
    obtain ⟨A, c, rfl, hS, _⟩ := h.shape
    obtain ⟨kind, S, kids, lo, hi, nn⟩ := r
    simp only [Re.kind, Re.set, Re.kids, Re.lo, Re.hi, Re.n] at h hS ⊢
    have hN2 : 1 + nodesL kids ≤ N + 1 := by simpa [nodesR] using hN
    have hb2 : 1306 * (1 + nodesL kids) ≤ 70368744177664 := by simpa [nodesR] using hb
    obtain ⟨lv, d, g, q, hr⟩ := hrt
    obtain ⟨hleaf, hkids⟩ := right_kids hr
    have hok := right_ok _ _ _ _ _ hr
    have hsgn : kind = 6 → 0 ≤ lo ∧ lo ≤ 8 ∧ -1 ≤ hi ∧ hi ≤ 8 := by
      intro e
      subst e
      rw [okT, Bool.and_eq_true] at hok
      have := hok.1
      unfold inR at this
      simp at this
      omega
    have hRC : ∀ (i : Nat) (hi : i < kids.length) (w : World) (cs : List Value), Rt w K (kids[i]'hi) cs → Calls Tryd.prog 50 #[.agg cs.toArray] w fun x w' => x = .returned (.string ⟨(textR (kids[i]'hi)).toArray⟩) ∧ Below w.heap.size w w' :=
      fun i hi w cs h1 => ih (kids[i]'hi) (by have := nodes_kid kids i hi; omega) w cs h1 (hkids i hi) (by have := nodes_kid kids i hi; omega)
    have hln := len_nodes kids
    have HC := Lib.hid hRC
    have HR0 := Lib.hid h
    clear h hN hb ih hRC hr hkids hok
    obtain ⟨TX, hTX⟩ : ∃ TX, textR (.mk kind S kids lo hi nn) = TX := ⟨_, rfl⟩
    rw [hTX]
    rw [textR] at hTX
    obtain ⟨wa, hwa⟩ : ∃ z : World, z = w.alloc (.cells (reC kind S A kids.length c lo hi nn).toArray 27) := ⟨_, rfl⟩
    have xa : Blk wa w.heap.size 27 (reC kind S A kids.length c lo hi nn).toArray := by rw [hwa]; exact Blk.new _ _ _
    have ba : Below w.heap.size w wa := by rw [hwa]; go_grown
    have cset := settext_c S hS wa
    clear hS
    by_cases k1 : kind = 1
    · subst k1
      have hk := hleaf (Or.inl rfl)
      subst hk
      have hz : TX = setB S := by rw [← hTX]; show setB S ++ ([] ++ []) = _; simp
      subst hz
      rw [show ([] : List Re).length = 0 from rfl] at hwa
      clear hTX hsgn hleaf HC HR0
      go_enter Tryd.func50, Tryd.ntmps50
      go_wp2_with fail
      rw [← hwa]
      (with_reducible refine cset.mono ?_)
      rintro e w2 ⟨rfl, b2⟩
      go_wp2
      go_ret
      exact ⟨rfl, via b2 ba⟩
    have d1 : (kind == 1) = false := by simp [k1]
    clear cset
    by_cases k2 : kind = 2
    · subst k2
      have hk := hleaf (Or.inr (Or.inl rfl))
      subst hk
      have hz : TX = [94] := by rw [← hTX]; rfl
      subst hz
      clear hTX hsgn hleaf HC HR0 hwa
      go_enter Tryd.func50, Tryd.ntmps50
      go_wp2
      go_ret
      exact ⟨rfl, by go_grown⟩
    have d2 : (kind == 2) = false := by simp [k2]
    by_cases k3 : kind = 3
    · subst k3
      have hk := hleaf (Or.inr (Or.inr rfl))
      subst hk
      have hz : TX = [36] := by rw [← hTX]; rfl
      subst hz
      clear hTX hsgn hleaf HC HR0 hwa
      go_enter Tryd.func50, Tryd.ntmps50
      go_wp2
      go_ret
      exact ⟨rfl, by go_grown⟩
    have d3 : (kind == 3) = false := by simp [k3]
    have HTX := Lib.hid hTX
    have HSG := Lib.hid hsgn
    clear hTX hsgn hleaf
    obtain ⟨kl, hkl⟩ : ∃ kl, kids.length = kl := ⟨_, rfl⟩
    rw [hkl] at HR0 hwa xa hln
    rw [hkl]
    have HKL := Lib.hid hkl
    clear hkl
    have p0 := xa.cell 0
    have p5 := xa.cell 5
    simp only [List.getElem?_toArray, List.getElem?_cons_zero, List.getElem?_cons_succ] at p0 p5
    go_enter Tryd.func50, Tryd.ntmps50
    go_wp2_with fail
    rw [← hwa]
    clear hwa
    go_loopw [3, 4] (fun o v wr => ∃ (i : Nat) (O : ByteArray), v = .int .i64 i ∧ i ≤ kl ∧ o = .string O ∧ Hid (O.data.toList = textL (kids.take i) kind 0) ∧ Below w.heap.size w wr ∧ Blk wr w.heap.size 27 (reC kind S A kl c lo hi nn).toArray) (fun _ v _ => kl - (intOf v).toNat)
    case atStart => exact ⟨0, ⟨#[]⟩, rfl, by omega, rfl, Lib.hid (by simp [textL]), ba, xa⟩
    case round =>
      obtain ⟨i, O, rfl, hi2, rfl, HO, hbr, xr⟩ := hrel
      have r0 := xr.cell 0
      have r5 := xr.cell 5
      have r6 := xr.cell 6
      have r7 := xr.cell 7
      simp only [List.getElem?_toArray, List.getElem?_cons_zero, List.getElem?_cons_succ] at r0 r5 r6 r7
      have hOs : O.size ≤ 1306 * nodesL (kids.take i) := by
        rw [Lib.size_eq, HO.out]
        exact text_leL _ _ _
      have hnl := nodes_le kids i
      by_cases hlt : i < kl
      · have HRr := Lib.hid (HR0.out.bel hbr)
        have hlt2 : i < kids.length := by rw [HKL.out]; exact hlt
        obtain ⟨g0, o, rfl, hg0, A2, c2, hk, hcc⟩ := (kid HRr.out).2 i hlt2
        have fk0 := hcc 0 _ rfl
        have fk1 := hcc 1 _ rfl
        have fk2 := hcc 2 _ rfl
        have fk3 := hcc 3 _ rfl
        have fk4 := hcc 4 _ rfl
        have fk5 := hcc 5 _ rfl
        have fk6 := hcc 6 _ rfl
        have fk7 := hcc 7 _ rfl
        have fk8 := hcc 8 _ rfl
        simp only [Nat.add_zero] at fk0
        clear hcc
        have hnk := nodes_kid kids i hlt2
        have htt := text_take kids kind 0 i hlt2
        rw [Nat.zero_add] at htt
        have ci := HC.out i hlt2 wr _ hk
        have htx := text_le (kids[i]'hlt2)
        obtain ⟨x, hx⟩ : ∃ x, kids[i]'hlt2 = x := ⟨_, rfl⟩
        rw [hx] at fk0 fk1 fk2 fk3 fk4 fk5 fk6 fk7 fk8 hnk htt htx
        simp only [hx] at ci
        clear hk hg0 hx
        have HTT := Lib.hid htt
        clear htt
        obtain ⟨T, hT⟩ : ∃ T : ByteArray, T = ⟨(textR x).toArray⟩ := ⟨_, rfl⟩
        rw [← hT] at ci
        have HT := Lib.hid (show T.data.toList = textR x by rw [hT])
        have hTs : T.size ≤ 1306 * nodesR x := by rw [Lib.size_eq, HT.out]; omega
        clear hT htx
        generalize x.kind = k0 at *
        generalize x.set = k1 at *
        generalize x.kids.length = k2 at *
        generalize x.lo = k3 at *
        generalize x.hi = k4 at *
        generalize x.n = k5 at *
        have hO3 : O.size ≤ 70368744177664 := by omega
        have hT3 : T.size ≤ 70368744177664 := by omega
        clear hOs hTs hnk hnl
        have z124 : (⟨#[124]⟩ : ByteArray).size = 1 := rfl
        by_cases hsep : 0 < i ∧ kind = 5
        · obtain ⟨hi0, rfl⟩ := hsep
          have e1 : decide ((0 : Int) < (i : Int)) = true := by simp; omega
          have hse : sepT 5 i = [124] := by unfold sepT; rw [if_pos ⟨hi0, rfl⟩]
          have HSE := Lib.hid hse
          clear hse
          go_wp2_with fail
          (with_reducible refine ci.mono ?_)
          rintro e w2 ⟨rfl, b2⟩
          have B2 := via b2 hbr
          have x2 := xr.next b2
          clear b2 ci
          go_wp2
          go_roundw
          case rel => exact ⟨i + 1, _, by go_num, by omega, rfl, Lib.hid (by rw [HTT.out, HSE.out]; simp only [ByteArray.data_append, Array.toList_append, HO.out, HT.out]; simp), B2, x2⟩
          case measure => simp [intOf]; omega
        · have hse : sepT kind i = [] := by unfold sepT; rw [if_neg hsep]
          have HSE := Lib.hid hse
          have dd : (decide ((0 : Int) < (i : Int)) = false ∧ ¬ 0 < i) ∨ (decide ((0 : Int) < (i : Int)) = true ∧ 0 < i ∧ (kind == 5) = false ∧ ¬ kind = 5) := by
            by_cases h0 : 0 < i
            · right
              exact ⟨by simp; omega, h0, by simp; exact fun e => hsep ⟨h0, e⟩, fun e => hsep ⟨h0, e⟩⟩
            · left; exact ⟨by simp; omega, h0⟩
          clear hsep hse
          rcases dd with ⟨e1, h0⟩ | ⟨e1, h0, e2, e3⟩
          all_goals
            go_wp2_with fail
            (with_reducible refine ci.mono ?_)
            rintro e w2 ⟨rfl, b2⟩
            have B2 := via b2 hbr
            have x2 := xr.next b2
            clear b2 ci
            go_wp2
            go_roundw
            case rel => exact ⟨i + 1, _, by go_num, by omega, rfl, Lib.hid (by rw [HTT.out, HSE.out]; simp only [ByteArray.data_append, Array.toList_append, HO.out, HT.out]; simp), B2, x2⟩
            case measure => simp [intOf]; omega
      · have htake : kids.take i = kids := List.take_of_length_le (by rw [HKL.out]; omega)
        have hT2 : TX = headT kind S ++ (O.data.toList ++ tailT kind lo hi) := by rw [← HTX.out, HO.out, htake]
        have HT2 := Lib.hid hT2
        have hO3 : O.size ≤ 70368744177664 := by omega
        clear htake hT2 hOs hnl HO
        by_cases k7 : kind = 7
        · subst k7
          have hz : TX = [40] ++ (O.data.toList ++ [41]) := HT2.out
          subst hz
          have z40 : (⟨#[40]⟩ : ByteArray).size = 1 := rfl
          have z41 : (⟨#[41]⟩ : ByteArray).size = 1 := rfl
          clear HT2
          go_wp2
          go_ret
          exact ⟨ret_str (bytes_ext (by simp [ByteArray.data_append])), hbr⟩
        have e7 : (kind == 7) = false := by simp [k7]
        by_cases k6 : kind = 6
        · subst k6
          obtain ⟨s1, s2, s3, s4⟩ := HSG.out rfl
          have cs := signq_c lo hi s1 s2 s3 s4 wr
          have hsl := sign_len lo hi
          have hz : TX = [] ++ (O.data.toList ++ signB lo hi) := HT2.out
          obtain ⟨T, hT⟩ : ∃ T : ByteArray, T = ⟨(signB lo hi).toArray⟩ := ⟨_, rfl⟩
          rw [← hT] at cs
          have HT := Lib.hid (show T.data.toList = signB lo hi by rw [hT])
          have hTs : T.size ≤ 5 := by rw [Lib.size_eq, HT.out]; exact hsl
          rw [← HT.out, List.nil_append] at hz
          subst hz
          clear HT2 hT
          go_wp2_with fail
          (with_reducible refine cs.mono ?_)
          rintro e w2 ⟨rfl, b2⟩
          go_wp2
          go_ret
          exact ⟨ret_str (bytes_ext (by simp [ByteArray.data_append])), via b2 hbr⟩
        have e6 : (kind == 6) = false := by simp [k6]
        have hz : TX = O.data.toList := by
          rw [HT2.out]
          unfold headT tailT
          rw [if_neg k1, if_neg k2, if_neg k3, if_neg k7, if_neg k6, if_neg k7]
          simp
        subst hz
        clear HT2
        go_wp2
        go_ret
        exact ⟨rfl, hbr⟩
theorem rt_sets {w : World} {K : Nat → Prop} {r : Re} {cs : List Value} (h : Rt w K r cs) : SetsOk r := by
  induction h with
  | mk kind S kids lo hi nn A c css hS _ _ _ ih =>
    rw [SetsOk]
    refine ⟨hS, fun x hx => ?_⟩
    obtain ⟨i, hi, rfl⟩ := List.getElem_of_mem hx
    exact ih i hi
end EreX
end Go.Proofs.YtpdmjegbjcefjaaDoor
namespace Go.Proofs.YtpdmjegbjcefjaaDoor
set_option linter.unusedVariables false
set_option linter.unusedSimpArgs false
open Go.RowKit
namespace EreX
open EreP EreW
/-- Form. -/
theorem form_c {K : Nat → Prop} : ∀ (N : Nat) (r : Re), nodesR r ≤ N → ∀ (w : World) (cs : List Value) (lv d g : Nat), Rt w K r cs → d ≤ 64 → lv ≤ 3 → g + nodesR r ≤ 4611686018427387904 →
    Calls Tryd.prog 49 #[.agg cs.toArray, .int .i64 (lvF lv : Nat), .int .i64 d, .int .i64 g] w (FPost (rightR r lv d g) w) := by
  intro N
  induction N with
  | zero => intro r h; cases r; simp [nodesR] at h
  | succ N ih =>
    intro r hN w cs lv d g h hd hlv hb
    obtain ⟨A, c, rfl, hS, _⟩ := h.shape
    obtain ⟨kind, S, kids, lo, hi, nn⟩ := r
    simp only [Re.kind, Re.set, Re.kids, Re.lo, Re.hi, Re.n] at h hS ⊢
    have hN2 : 1 + nodesL kids ≤ N + 1 := by simpa [nodesR] using hN
    have hb2 : g + (1 + nodesL kids) ≤ 4611686018427387904 := by simpa [nodesR] using hb
    have hc : FormC K kids := fun i hi w cs lv d g h1 h2 h3 h4 => ih (kids[i]'hi) (by have := nodes_kid kids i hi; omega) w cs lv d g h1 h2 h3 h4
    by_cases e0 : kind = 0
    · subst e0; exact form_0 S kids lo hi nn A c w lv d g h hS hd hlv hb2 hc
    by_cases e1 : kind = 1
    · subst e1; exact form_1 S kids lo hi nn A c w lv d g h hS hd hlv hb2 hc
    by_cases e2 : kind = 2
    · subst e2; exact form_2 S kids lo hi nn A c w lv d g h hS hd hlv hb2 hc
    by_cases e3 : kind = 3
    · subst e3; exact form_3 S kids lo hi nn A c w lv d g h hS hd hlv hb2 hc
    by_cases e4 : kind = 4
    · subst e4; exact form_4 S kids lo hi nn A c w lv d g h hS hd hlv hb2 hc
    by_cases e5 : kind = 5
    · subst e5; exact form_5 S kids lo hi nn A c w lv d g h hS hd hlv hb2 hc
    by_cases e6 : kind = 6
    · subst e6; exact form_6 S kids lo hi nn A c w lv d g h hS hd hlv hb2 hc
    by_cases e7 : kind = 7
    · subst e7; exact form_7 S kids lo hi nn A c w lv d g h hS hd hlv hb2 hc
    exact form_other kind S kids lo hi nn A c w lv d g h hS hd hlv hb2 hc e0 e1 e2 e3 e4 e5 e6 e7
end EreX
end Go.Proofs.YtpdmjegbjcefjaaDoor
namespace Go.Proofs.YtpdmjegbjcefjaaDoor
set_option linter.unusedVariables false
set_option linter.unusedSimpArgs false
open Go.RowKit
namespace EreX
open EreP EreW
set_option maxHeartbeats 3200000 in
set_option maxRecDepth 100000 in
theorem printq_c {K : Nat → Prop} (r : Re) (w : World) (cs : List Value) (h : Rt w K r cs) (hn : nodesR r ≤ 1073741824) :
    Calls Tryd.prog 38 #[.agg cs.toArray] w fun x w' => x = .returned (.tuple #[.string ⟨(printR r).1.toArray⟩, .int .i64 (printR r).2]) ∧ Below w.heap.size w w' := by
  obtain ⟨A, c, rfl, hS, hnil⟩ := h.shape
  obtain ⟨PR, hPR⟩ : ∃ PR, printR r = PR := ⟨_, rfl⟩
  rw [hPR]
  unfold printR at hPR
  have cf := fun W (hh : Rt W K r (reC r.kind r.set A r.kids.length c r.lo r.hi r.n)) => form_c (nodesR r) r (Nat.le_refl _) W _ 0 0 0 hh (by omega) (by omega) (by omega)
  have ctx := fun W (hh : Rt W K r (reC r.kind r.set A r.kids.length c r.lo r.hi r.n)) hq => textq_c (nodesR r) r (Nat.le_refl _) W _ hh hq (by omega)
  unfold FPost at cf
  rw [show ((lvF 0 : Nat) : Int) = 0 from rfl, show ((0 : Nat) : Int) = 0 from rfl] at cf
  generalize hk0 : r.kind = k0 at *
  generalize hk1 : r.set = k1 at *
  generalize hk2 : r.kids.length = k2 at *
  generalize hk3 : r.lo = k3 at *
  generalize hk4 : r.hi = k4 at *
  generalize hk5 : r.n = k5 at *
  obtain ⟨RR, hRR⟩ : ∃ RR, rightR r 0 0 0 = RR := ⟨_, rfl⟩
  rw [hRR] at cf hPR
  have HPR := Lib.hid hPR
  have CTX := Lib.hid ctx
  have CF := Lib.hid cf
  have HRR := Lib.hid hRR
  obtain ⟨wj, hwj⟩ : ∃ z : World, z = w.alloc (.cells (reC k0 k1 A k2 c k3 k4 k5).toArray 27) := ⟨_, rfl⟩
  have xj : Blk wj w.heap.size 27 (reC k0 k1 A k2 c k3 k4 k5).toArray := by rw [hwj]; exact Blk.new _ _ _
  have bj : Below w.heap.size w wj := by rw [hwj]; go_grown
  have H1 := Lib.hid (h.bel bj)
  clear hPR ctx cf hRR h hk0 hk1 hk2 hk3 hk4 hk5
  have cf := CF.out wj H1.out
  go_enter Tryd.func38, Tryd.ntmps38
  go_wp2_with fail
  rw [← hwj]
  clear hwj
  (with_reducible refine cf.mono ?_)
  rintro e w2 ⟨m, rfl, _, b2⟩
  have x2 := xj.next b2
  have B2 := via b2 bj
  have H2 := Lib.hid (H1.out.bel b2)
  clear cf xj H1 b2 bj CF
  cases RR with
  | none =>
    have hz : PR = ([], 5) := HPR.out.symm
    subst hz
    clear H2 CTX
    go_wp2
    go_ret2
    exact ⟨rfl, B2⟩
  | some q =>
    have hz : PR = if 200 < (textR r).length then ([], 2) else (textR r, 0) := HPR.out.symm
    clear HPR
    have ct := CTX.out w2 H2.out ⟨0, 0, 0, q, HRR.out⟩
    obtain ⟨TX, hTX⟩ : ∃ TX, textR r = TX := ⟨_, rfl⟩
    rw [hTX] at hz ct
    have HZ := Lib.hid hz
    clear hz hTX CTX HRR
    have q0 := x2.cell 0
    have q1 := x2.cell 1
    have q2 := x2.cell 2
    have q3 := x2.cell 3
    have q4 := x2.cell 4
    have q5 := x2.cell 5
    have q6 := x2.cell 6
    have q7 := x2.cell 7
    have q8 := x2.cell 8
    simp only [List.getElem?_toArray, List.getElem?_cons_zero, List.getElem?_cons_succ] at q0 q1 q2 q3 q4 q5 q6 q7 q8
    obtain ⟨T, hT⟩ : ∃ T : ByteArray, T = ⟨TX.toArray⟩ := ⟨_, rfl⟩
    rw [← hT] at ct
    have hTs : T.size = TX.length := by rw [Lib.size_eq, hT]
    have HT := Lib.hid hT
    clear hT
    by_cases hlen : 200 < TX.length
    · have d : decide ((200 : Int) < (T.size : Int)) = true := by simp; omega
      have hz := HZ.out
      rw [if_pos hlen] at hz
      subst hz
      clear hTs hlen
      go_wp2_with fail
      (with_reducible refine ct.mono ?_)
      rintro e w3 ⟨rfl, b3⟩
      go_wp2
      go_ret2
      exact ⟨rfl, via b3 B2⟩
    · have d : decide ((200 : Int) < (T.size : Int)) = false := by simp; omega
      have hz := HZ.out
      rw [if_neg hlen] at hz
      subst hz
      clear hTs hlen
      go_wp2_with fail
      (with_reducible refine ct.mono ?_)
      rintro e w3 ⟨rfl, b3⟩
      go_wp2
      go_ret2
      exact ⟨by rw [← HT.out]; rfl, via b3 B2⟩
/-- A printed tree is right, fits, and is parsed back. -/
theorem back_ok {w : World} {K : Nat → Prop} {r : Re} {cs : List Value} (h : Rt w K r cs) (h0 : (printR r).2 = 0) : parseP (printR r).1 = .ok r := by
  have hs := rt_sets h
  unfold printR at h0 ⊢
  cases hr : rightR r 0 0 0 with
  | none => rw [hr] at h0; cases h0
  | some q =>
    rw [hr] at h0
    have h0 : (if 200 < (textR r).length then (([], 2) : Bs × Int) else (textR r, 0)).2 = 0 := h0
    show parseP (if 200 < (textR r).length then (([], 2) : Bs × Int) else (textR r, 0)).1 = _
    split at h0
    · cases h0
    · next hl =>
      rw [if_neg hl]
      exact parse_print r hs q hr (by omega)
theorem print_err (r : Re) : (printR r).2 = 0 ∨ (printR r).2 = 2 ∨ (printR r).2 = 5 := by
  unfold printR
  split
  · right; right; rfl
  · split
    · right; left; rfl
    · left; rfl
end EreX
end Go.Proofs.YtpdmjegbjcefjaaDoor
