/- How many kinds with all copies: the walk of Unrolled. Condition: trees that fit. -/
import Derived.Test.YtpdmjegbjcefjaaDoorEreF
import Derived.Deep.DeepCutAuto
import Derived.Deep.CutBlock
import Derived.Test.YtpdmjegbjcefjaaDoorEreQx
import Derived.Test.YtpdmjegbjcefjaaDoorGrpV
import Derived.Test.YtpdmjegbjcefjaaDoorGrpFh
import Derived.Test.YtpdmjegbjcefjaaDoorGrpG
import Derived.Laws.StructEq
namespace Go.Proofs.YtpdmjegbjcefjaaDoor
set_option linter.unusedVariables false
set_option linter.unusedSimpArgs false
open Go.RowKit
namespace GrpW
open EreP EreW EreX
set_option maxRecDepth 100000 in
set_option maxHeartbeats 3200000 in
theorem unrolled_c {K : Nat → Prop} : ∀ (N : Nat) (r : Re), nodesR r ≤ N → ∀ (w : World) (cs : List Value), Rt w K r cs → nodesR r ≤ 1073741824 →
    Calls Tryd.prog 22 #[.agg cs.toArray, .int .i64 5000] w fun x w' => ∃ v : Int, x = .returned (.int .i64 v) ∧ Below w.heap.size w w' := by
  intro N
  induction N with
  | zero => intro r h; cases r; simp [nodesR] at h
  | succ N ih =>
    intro r hN w cs h hb
    obtain ⟨A, c, rfl, hS, hnil⟩ := h.shape
    obtain ⟨kind, S, kids, lo, hi, nn⟩ := r
    simp only [Re.kind, Re.set, Re.kids, Re.lo, Re.hi, Re.n] at h hS hnil ⊢
    have hN2 : nodesL kids ≤ N := by simp [nodesR] at hN; omega
    have hb2 : nodesL kids ≤ 1073741824 := by simp [nodesR] at hb; omega
    have hl := len_nodes kids
    have HRT := Lib.hid h
    clear h hnil hS hN hb
    obtain ⟨kl, hkl⟩ : ∃ kl, kids.length = kl := ⟨_, rfl⟩
    rw [hkl] at hl HRT ⊢
    have xa : Blk (w.alloc (.cells (reC kind S A kl c lo hi nn).toArray 27)) w.heap.size 27 (reC kind S A kl c lo hi nn).toArray := Blk.new _ _ _
    have ba : Below w.heap.size w (w.alloc (.cells (reC kind S A kl c lo hi nn).toArray 27)) := by go_grown
    have glt : w.heap.size < (w.alloc (.cells (reC kind S A kl c lo hi nn).toArray 27)).heap.size := by rw [World.size_alloc]; omega
    go_enter Tryd.func22, Tryd.ntmps22
    go_upto_region 2 with fail
    generalize w.alloc (.cells (reC kind S A kl c lo hi nn).toArray 27) = wa at *
    have q5 := xa.cell 5
    simp only [List.getElem?_toArray, List.getElem?_cons_zero, List.getElem?_cons_succ] at q5
    go_wp2_with fail
    go_loopw [5, 10] (fun nv iv wr => ∃ (i : Nat) (v : Int), iv = .int .i64 i ∧ i ≤ kl ∧ nv = .int .i64 v ∧ Tch (fun _ => False) wa wr) (fun _ iv _ => kl - (intOf iv).toNat)
    case atStart => exact ⟨0, 1, rfl, by omega, rfl, Tch.refl _ _⟩
    case round =>
      clear q5
      obtain ⟨i, v, rfl, hi, rfl, bw⟩ := hrel
      have xr := xa.tch bw (fun hb => hb)
      have q0 := xr.cell 0
      have q5 := xr.cell 5
      have q6 := xr.cell 6
      have q7 := xr.cell 7
      simp only [List.getElem?_toArray, List.getElem?_cons_zero, List.getElem?_cons_succ] at q0 q5 q6 q7
      by_cases hlt : i < kl
      · obtain ⟨gk0, o, rfl, hgk, A2, c2, hk, hc⟩ := (kid ((HRT.out.bel ba).tch bw (fun _ _ hb => hb))).2 i (by omega)
        have fk0 := hc 0 _ rfl
        have fk1 := hc 1 _ rfl
        have fk2 := hc 2 _ rfl
        have fk3 := hc 3 _ rfl
        have fk4 := hc 4 _ rfl
        have fk5 := hc 5 _ rfl
        have fk6 := hc 6 _ rfl
        have fk7 := hc 7 _ rfl
        have fk8 := hc 8 _ rfl
        simp only [Nat.add_zero] at fk0
        clear hc
        have hnk := nodes_kid kids i (by omega)
        obtain ⟨x, hx⟩ : ∃ x, kids[i]'(by omega) = x := ⟨_, rfl⟩
        rw [hx] at fk0 fk1 fk2 fk3 fk4 fk5 fk6 fk7 fk8 hk hnk
        have ci := ih x (by omega) wr _ hk (by omega)
        clear hk hgk hx
        generalize x.kind = k0 at *
        generalize x.set = k1 at *
        generalize x.kids.length = k2 at *
        generalize x.lo = k3 at *
        generalize x.hi = k4 at *
        generalize x.n = k5 at *
        have zB := bw.size
        go_wp2_with fail
        (with_reducible refine ci.mono ?_)
        clear ci
        rintro e w2 ⟨v2, rfl, b2⟩
        have bw2 := bw.trans (Tch.of_below (S := fun _ => False) b2)
        have xr2 := xr.next b2
        clear q0 q5 q6 q7 xr b2 bw fk0 fk1 fk2 fk3 fk4 fk5 fk6 fk7 fk8
        have q0 := xr2.cell 0
        have q6 := xr2.cell 6
        have q7 := xr2.cell 7
        simp only [List.getElem?_toArray, List.getElem?_cons_zero, List.getElem?_cons_succ] at q0 q6 q7
        have FIN := Lib.hid (bw2.below ba (fun k hk => hk.elim) ba.size)
        cases h6 : (kind == 6)
        all_goals
          go_wp2_with fail
          all_goals first
            | (go_ret; exact ⟨_, rfl, FIN.out⟩)
            | (go_roundw
               case rel => exact ⟨i + 1, _, by go_num, by omega, rfl, bw2⟩
               case measure => simp [intOf]; omega)
      · have hi2 : i = kl := by omega
        subst hi2
        have FIN := Lib.hid (bw.below ba (fun k hk => hk.elim) ba.size)
        cases h6 : (kind == 6)
        all_goals
          go_wp2_with fail
          go_ret
          exact ⟨_, rfl, FIN.out⟩
set_option maxRecDepth 100000 in
set_option maxHeartbeats 1600000 in
theorem unroll_c {K : Nat → Prop} (r : Re) (w : World) (cs : List Value) (h : Rt w K r cs) (hb : nodesR r ≤ 1073741824) :
    Calls Tryd.prog 9 #[.agg cs.toArray, .int .i64 5000] w fun x w' => ∃ b : Bool, x = .returned (.bool b) ∧ Below w.heap.size w w' := by
  obtain ⟨wa, hwa⟩ : ∃ z : World, z = w.alloc (.cells cs.toArray 27) := ⟨_, rfl⟩
  have ba : Below w.heap.size w wa := by rw [hwa]; go_grown
  have cc := unrolled_c (nodesR r) r (Nat.le_refl _) wa cs (h.bel ba) hb
  obtain ⟨A, c, rfl, hS, hnil⟩ := h.shape
  generalize hk0 : r.kind = k0 at *
  generalize hk1 : r.set = k1 at *
  generalize hk2 : r.kids.length = k2 at *
  generalize hk3 : r.lo = k3 at *
  generalize hk4 : r.hi = k4 at *
  generalize hk5 : r.n = k5 at *
  clear hk0 hk1 hk2 hk3 hk4 hk5 h hS hnil
  rw [hwa] at cc
  go_enter Tryd.func9, Tryd.ntmps9
  go_wp2_with fail
  (with_reducible refine cc.mono ?_)
  rintro e w2 ⟨v, rfl, b2⟩
  have B2 : Below w.heap.size w w2 := via b2 (hwa ▸ ba)
  go_wp2_with fail
  go_ret
  exact ⟨_, rfl, B2⟩
end GrpW
end Go.Proofs.YtpdmjegbjcefjaaDoor
namespace Go.Proofs.YtpdmjegbjcefjaaDoor
set_option linter.unusedVariables false
set_option linter.unusedSimpArgs false
open Go.RowKit
namespace GrpW
open EreP EreW EreX
set_option maxRecDepth 100000 in
set_option maxHeartbeats 1600000 in
theorem rightq_c {K : Nat → Prop} (r : Re) (w : World) (cs : List Value) (h : Rt w K r cs) (hn : nodesR r ≤ 1073741824) :
    Calls Tryd.prog 18 #[.agg cs.toArray] w fun x w' => x = .returned (.bool ((printR r).2 == 0)) ∧ Below w.heap.size w w' := by
  obtain ⟨A, c, rfl, hS, hnil⟩ := h.shape
  have cp := fun W (hW : Below w.heap.size w W) => printq_c r W _ (h.bel hW) hn
  generalize printR r = PR at *
  generalize hk0 : r.kind = k0 at *
  generalize hk1 : r.set = k1 at *
  generalize hk2 : r.kids.length = k2 at *
  generalize hk3 : r.lo = k3 at *
  generalize hk4 : r.hi = k4 at *
  generalize hk5 : r.n = k5 at *
  clear hk0 hk1 hk2 hk3 hk4 hk5 h hS hnil
  have c1 := cp (w.alloc (.cells (reC k0 k1 A k2 c k3 k4 k5).toArray 27)) (by go_grown)
  clear cp
  go_enter Tryd.func18, Tryd.ntmps18
  go_wp2_with fail
  (with_reducible refine c1.mono ?_)
  rintro e w2 ⟨rfl, b2⟩
  go_wp2_with fail
  go_ret
  exact ⟨rfl, via b2 (by go_grown)⟩
end GrpW
end Go.Proofs.YtpdmjegbjcefjaaDoor
namespace Go.Proofs.YtpdmjegbjcefjaaDoor
set_option linter.unusedVariables false
set_option linter.unusedSimpArgs false
open Go.RowKit
namespace GrpW
open EreP EreW EreX GrpP GrpS
def atS (r : Re) (s : ByteArray) (i : Nat) (bg en : Bool) : List Bool := if (printR r).2 = 0 then overS (bsS s) bg en r ((noneS s.size).set i true) else noneS s.size
set_option maxRecDepth 100000 in
set_option maxHeartbeats 1600000 in
theorem at_c {K : Nat → Prop} (r : Re) (w : World) (cs : List Value) (h : Rt w K r cs) (hn : nodesR r ≤ 1073741824) (hw : (printR r).2 = 0 → wfR r) (s : ByteArray) (hs : s.size ≤ 1000000) (i : Nat) (hi : i ≤ s.size) (bg en : Bool) :
    Calls Tryd.prog 11 #[.agg cs.toArray, .string s, .int .i64 i, .bool bg, .bool en] w (BackPost s.size (atS r s i bg en) w) := by
  obtain ⟨A, c, rfl, hS, hnil⟩ := h.shape
  have HC := Lib.hid (fun W (hW : Below w.heap.size w W) => rightq_c r W _ (h.bel hW) hn)
  have HO := Lib.hid (fun (hp : (printR r).2 = 0) W (hW : Below w.heap.size w W) gt tm hm hto => over_c (nodesR r) (by omega) r (Nat.le_refl _) (hw hp) K W _ (h.bel hW) s hs gt tm hm hto bg en)
  obtain ⟨AS, hAS⟩ : ∃ X, atS r s i bg en = X := ⟨_, rfl⟩
  rw [hAS]
  have HAS := Lib.hid hAS
  clear hAS
  generalize hk0 : r.kind = k0 at *
  generalize hk1 : r.set = k1 at *
  generalize hk2 : r.kids.length = k2 at *
  generalize hk3 : r.lo = k3 at *
  generalize hk4 : r.hi = k4 at *
  generalize hk5 : r.n = k5 at *
  clear hk0 hk1 hk2 hk3 hk4 hk5 h hS hnil
  have hmr := run_make_row' (P := Tryd.prog) 38 4 (.bool false) 1 Tryd.underlying38 info_Bool rfl .i64 .i64 (s.size + 1) (by omega) (by omega)
  rw [made_none, Int.natCast_add, Int.natCast_one] at hmr
  obtain ⟨w1, hw1⟩ : ∃ z : World, (w.alloc (.cells (reC k0 k1 A k2 c k3 k4 k5).toArray 27)).alloc (.cells (bV (noneS s.size)) 4) = z := ⟨_, rfl⟩
  have x1 : Blk w1 w.heap.size 27 (reC k0 k1 A k2 c k3 k4 k5).toArray := by rw [← hw1]; exact (Blk.new _ _ _).alloc _
  have m1 : Mks w1 (w.heap.size + 1) (noneS s.size) := by rw [← hw1]; exact Blk.new1 _ _ _ _
  have B1 : Below w.heap.size w w1 := by rw [← hw1]; go_grown
  have c1 := HC.out w1 B1
  go_enter Tryd.func11, Tryd.ntmps11
  go_upto_region 2 with fail
  try rw [hw1]
  clear hw1 hmr HC
  have p0 := x1.cell 0
  have p1 := x1.cell 1
  have p2 := x1.cell 2
  have p3 := x1.cell 3
  have p4 := x1.cell 4
  have p5 := x1.cell 5
  have p6 := x1.cell 6
  have p7 := x1.cell 7
  have p8 := x1.cell 8
  simp only [List.getElem?_toArray, List.getElem?_cons_zero, List.getElem?_cons_succ] at p0 p1 p2 p3 p4 p5 p6 p7 p8
  by_cases hp : (printR r).2 = 0
  · have e0 : ((printR r).2 == 0) = true := by simpa using hp
    have hz : AS = overS (bsS s) bg en r ((noneS s.size).set i true) := by rw [← HAS.out, atS, if_pos hp]
    have HZ := Lib.hid hz
    have HO2 := Lib.hid (HO.out hp)
    rw [e0] at c1
    clear HO hz hp e0 hw
    go_wp2_with fail
    (with_reducible refine c1.mono ?_)
    clear c1 p0 p1 p2 p3 p4 p5 p6 p7 p8
    rintro e w2 ⟨rfl, b2⟩
    have x2 := x1.next b2
    have m2 := m1.next b2
    have B2 := via b2 B1
    have l2 := m2.loose i
    have n2 := m2.cell i
    rw [bV_get (by rw [none_len]; omega)] at n2
    have m3 : Mks (w2.setCell ⟨w.heap.size + 1, i, none⟩ (.bool true)) (w.heap.size + 1) ((noneS s.size).set i true) := by
      have := m2.set_ i (.bool true); rwa [bV_put] at this
    have B3 := B2.setCell (p := ⟨w.heap.size + 1, i, none⟩) (by show w.heap.size ≤ w.heap.size + 1; omega) (.bool true)
    have c3 := HO2.out _ B3 (w.heap.size + 1) _ m3 (by rw [List.length_set, none_len])
    rw [← HZ.out] at c3
    have p0 := x2.cell 0
    have p1 := x2.cell 1
    have p2 := x2.cell 2
    have p3 := x2.cell 3
    have p4 := x2.cell 4
    have p5 := x2.cell 5
    have p6 := x2.cell 6
    have p7 := x2.cell 7
    have p8 := x2.cell 8
    simp only [List.getElem?_toArray, List.getElem?_cons_zero, List.getElem?_cons_succ] at p0 p1 p2 p3 p4 p5 p6 p7 p8
    generalize (noneS s.size).getD i false = vv at n2
    have sz := B2.size
    have hl := m2.lt
    clear x1 m1 B1 b2 m2 x2 HO2 m3
    go_wp2_with fail
    (with_reducible refine c3.mono ?_)
    clear c3
    rintro e w5 ⟨g2, rfl, hg2, m5, b5⟩
    have sz3 := B3.size
    go_wp2_with fail
    go_ret
    exact ⟨g2, rfl, by omega, m5, via b5 B3⟩
  · have e0 : ((printR r).2 == 0) = false := by simpa using hp
    have hz : AS = noneS s.size := by rw [← HAS.out, atS, if_neg hp]
    have HZ := Lib.hid hz
    rw [e0] at c1
    clear HO hz hp e0 hw
    go_wp2_with fail
    (with_reducible refine c1.mono ?_)
    clear c1
    rintro e w2 ⟨rfl, b2⟩
    have m2 := m1.next b2
    have B2 := via b2 B1
    go_wp2_with fail
    go_ret
    exact ⟨w.heap.size + 1, rfl, by omega, by rw [HZ.out]; exact m2, B2⟩
end GrpW
end Go.Proofs.YtpdmjegbjcefjaaDoor
namespace Go.Proofs.YtpdmjegbjcefjaaDoor
set_option linter.unusedVariables false
set_option linter.unusedSimpArgs false
open Go.RowKit
namespace GrpW
open EreP EreW EreX GrpP GrpS
theorem print_wf {r : Re} (h : (printR r).2 = 0) : ∃ q, rightR r 0 0 0 = some q := by
  unfold printR at h
  split at h
  · cases h
  · next q hq => exact ⟨q, hq⟩
theorem print_wfR {r : Re} (h : (printR r).2 = 0) : wfR r := by
  obtain ⟨q, hq⟩ := print_wf h
  exact right_wf r _ _ _ q hq
mutual
theorem gk_nodes : ∀ (r : Re), ∀ x ∈ gk r, nodesR x.2 ≤ nodesR r
  | .mk k s kids lo hi n => by
    intro x hx
    rw [gk] at hx
    rw [nodesR]
    rcases List.mem_append.1 hx with hx | hx
    · split at hx
      · cases kids with
        | nil => cases hx
        | cons y l => rw [hdK] at hx; rw [List.mem_singleton.1 hx, nodesL]; show nodesR y ≤ _; omega
      · cases hx
    · have := gkL_nodes kids x hx; omega
theorem gkL_nodes : ∀ (l : List Re), ∀ x ∈ gkL l, nodesR x.2 ≤ nodesL l
  | [] => fun x hx => by cases hx
  | y :: l => by
    intro x hx
    rw [gkL] at hx
    rw [nodesL]
    rcases List.mem_append.1 hx with hx | hx
    · have := gk_nodes y x hx; omega
    · have := gkL_nodes l x hx; omega
end
abbrev zRe : Re := .mk 0 0 [] 0 0 0
/-- There is a first way just where the reference tells one. -/
theorem find_at (r : Re) (s : ByteArray) (i k : Nat) (hi : i ≤ s.size) (hk : k ≤ s.size) : (findS r s i k).2 = (decide (i ≤ k) && (atS r s i true true).getD k false) := by
  have hb := bs_len s
  unfold findS atS
  by_cases h0 : (printR r).2 = 0
  · rw [if_pos h0]
    have hw := print_wfR h0
    by_cases hik : i ≤ k
    · rw [if_pos ⟨h0, by omega, by omega, by omega⟩, decide_eq_true hik, Bool.true_and, Int.toNat_natCast, Int.toNat_natCast]
      have h := back_over (bsS s) r hw i k (by omega) (by omega)
      rw [hb] at h
      rw [endS]
      split
      · next hc => exact ((getD_on (m := overS (bsS s) true true r ((noneS s.size).set i true))).2 (h.1 (getD_on.1 hc))).symm
      · next hc =>
        cases hd : (overS (bsS s) true true r ((noneS s.size).set i true)).getD k false with
        | false => rfl
        | true => exact absurd (getD_on.2 (h.2 (getD_on.1 hd))) hc
    · rw [if_neg (fun x => hik (by omega)), decide_eq_false hik, Bool.false_and]
  · rw [if_neg h0, if_neg (fun x => h0 x.1)]
    have : (noneS s.size).getD k false = false := by
      cases hd : (noneS s.size).getD k false with
      | false => rfl
      | true => exact absurd (getD_on.1 hd) none_on
    rw [this, Bool.and_false]
theorem find_no (r : Re) (s : ByteArray) (f t : Int) (h : (findS r s f t).2 = false) : (findS r s f t).1 = zCu := by
  unfold findS at h ⊢
  split
  · next hc =>
    rw [if_pos hc] at h
    split
    · next h2 => rw [if_pos h2] at h; cases h
    · rfl
  · rfl
/-- The pieces of the first way, for the kids laid by their numbers. -/
theorem find_yes (r : Re) (s : ByteArray) (i k : Nat) (hk : k ≤ s.size) (h : (findS r s i k).2 = true) : wfR r ∧ i ≤ k ∧ (findS r s i k).1.length = 10 ∧ (findS r s i k).1[0]? = some ((i : Int), (k : Int)) ∧
    ∀ m, 1 ≤ m → m < 10 → (findS r s i k).1[m]? = some (-1, -1) ∨ ∃ (a b : Nat) (kid : Re), (findS r s i k).1[m]? = some ((a : Int), (b : Int)) ∧ (layS (gk r) (List.replicate 10 zRe))[m]? = some kid ∧ wfR kid ∧ nodesR kid ≤ nodesR r ∧ i ≤ a ∧ a ≤ b ∧ b ≤ k ∧ On (overS (bsS s) true true kid ((noneS s.size).set a true)) b := by
  have hb := bs_len s
  unfold findS at h ⊢
  by_cases hc : (printR r).2 = 0 ∧ (0 : Int) ≤ i ∧ (i : Int) ≤ k ∧ (k : Int) ≤ s.size
  rotate_left
  · rw [if_neg hc] at h; cases h
  rw [if_pos hc] at h ⊢
  rw [Int.toNat_natCast, Int.toNat_natCast] at h ⊢
  by_cases hg : (backS (bsS s) r (endS s.size k)).getD i false = true
  rotate_left
  · rw [if_neg hg] at h; cases h
  rw [if_pos hg]
  dsimp only
  have hw := print_wfR hc.1
  obtain ⟨q, hq⟩ := print_wf hc.1
  have hel : (endS s.size k).length = (bsS s).length + 1 := by rw [endS, List.length_set, none_len, hb]
  have hon := getD_on.1 hg
  have hte : ∀ e, On (endS s.size k) e → e = k := fun e he => (one_on hk).1 he
  have hg0 := first_ok (bsS s) r hw i (endS s.size k) mCu (by omega) hel hon
  have hlen : (firstS (bsS s) r i (endS s.size k) mCu).2.length = 10 := by rw [hg0.len]; rfl
  refine ⟨hw, by omega, by rw [List.length_set]; exact hlen, by rw [List.getElem?_set_self (by omega)], fun m h1 h2 => ?_⟩
  rw [List.getElem?_set_ne (by omega)]
  have hp := first_pieces (bsS s) r hw i k (endS s.size k) (by omega) hel hon hte m h2
  rw [hb] at hp
  rcases hp with hp | ⟨a, b, kid, x1, x2, x3, x4, x5, x6, x7, x8⟩
  · exact .inl hp
  · refine .inr ⟨a, b, kid, x1, ?_, x3, gk_nodes r _ x2, x4, x5, x6, x8⟩
    have hn := gk_nums r 0 0 0 q hq
    exact lay_get (gk r) (List.replicate 10 zRe) hn.2.2 (m, kid) x2 (by simpa using h2)
theorem lay_all (r : Re) : (layS (gk r) (List.replicate 10 zRe)).length = 10 := by rw [lay_len]; rfl
theorem cut_in (a b c d : Int) (w : World) : (Op.equalIn 10000 32 (.agg #[.int .i64 a, .int .i64 b]) (.agg #[.int .i64 c, .int .i64 d])).run Tryd.prog w = .ok (a == c && b == d) w := by
  have u := Tryd.underlying3
  have hS : Tryd.prog.underlying 32 = some (.struct (Tryd.prog.fieldsOf 32)) := by kernel_rfl
  rw [show (10000 : Nat) = 9998 + 1 + 1 from rfl, run_equalIn_agg w (9998 + 1) 32 _ _ hS (by kernel_rfl)]
  simp only [Program.fieldsOf, Tryd.underlying32]
  go_simp
  by_cases h1 : a = c <;> by_cases h2 : b = d <;> simp [h1, h2]
theorem Ten.bel {K : Nat → Prop} {w w' : World} {g : Nat} {l : List Re} (h : Ten w K g l) (hb : Below w.heap.size w w') : Ten w' K g l := h.tch (Tch.of_below (S := fun _ => False) hb) (fun _ _ hh => hh) (fun hh => hh)
theorem match_eq (w : World) : (Op.equalIn 10000 35 (.agg (cutV zCu).toArray) (.agg (cutV zCu).toArray)).run Tryd.prog w = .ok true w := by kernel_rfl
end GrpW
end Go.Proofs.YtpdmjegbjcefjaaDoor
