/- The walk of Groups. Conditions: trees that fit. -/
import Derived.Test.YtdonokghemhfiaaDoorEreF
namespace Go.Proofs.YtdonokghemhfiaaDoor
open Go.RowKit
namespace EreX
open EreP EreW
set_option maxHeartbeats 1600000 in
theorem groups_c {K : Nat → Prop} : ∀ (N : Nat) (r : Re), nodesR r ≤ N → ∀ (w : World) (cs : List Value), Rt w K r cs → nodesR r ≤ 4611686018427387904 →
    Calls Tryd.prog 17 #[.agg cs.toArray] w fun x w' => x = .returned (.int .i64 (groupsR r : Nat)) ∧ Below w.heap.size w w' := by
  intro N
  induction N with
  | zero => intro r h; cases r; simp [nodesR] at h
  | succ N ih =>
    intro r hN w cs h hb
    obtain ⟨A, c, rfl, hS, hnil⟩ := h.shape
    obtain ⟨kind, S, kids, lo, hi, nn⟩ := r
    simp only [Re.kind, Re.set, Re.kids, Re.lo, Re.hi, Re.n] at h hS hnil ⊢
    have hN2 : nodesL kids ≤ N := by simp [nodesR] at hN; omega
    have hb2 : nodesL kids ≤ 4611686018427387904 := by simp [nodesR] at hb; omega
    have hl := len_nodes kids
    have hgn := groups_nodesL kids
    have HRT := Lib.hid h
    obtain ⟨GR, hGR⟩ : ∃ GR, groupsR (.mk kind S kids lo hi nn) = GR := ⟨_, rfl⟩
    have hgr : GR = (if kind = 7 then 1 else 0) + groupsL kids := by rw [← hGR, groupsR]
    rw [hGR]
    obtain ⟨st, hst⟩ : ∃ st : Nat, (if kind = 7 then 1 else 0) = st := ⟨_, rfl⟩
    rw [hst] at hgr
    have hs1 : st ≤ 1 := by rw [← hst]; split <;> omega
    have hgr2 : GR = st + groupsL (kids.take kids.length) := by rw [List.take_length]; exact hgr
    have HG := Lib.hid hgr2
    have t7 : ((kind == 7) = true ∧ st = 1) ∨ ((kind == 7) = false ∧ st = 0) := by
      by_cases h7 : kind = 7
      · left; rw [if_pos h7] at hst; exact ⟨by simpa using h7, hst.symm⟩
      · right; rw [if_neg h7] at hst; exact ⟨by simpa using h7, hst.symm⟩
    clear hGR hgr hgr2 h hnil hS hN hb hst
    obtain ⟨kl, hkl⟩ : ∃ kl, kids.length = kl := ⟨_, rfl⟩
    rw [hkl] at hl HG HRT ⊢
    obtain ⟨wa, hwa⟩ : ∃ z : World, z = w.alloc (.cells (reC kind S A kl c lo hi nn).toArray 28) := ⟨_, rfl⟩
    have ba : Below w.heap.size w wa := by rw [hwa]; go_grown
    have HRA := Lib.hid (HRT.out.bel ba)
    go_enter Tryd.func17, Tryd.ntmps17
    rcases t7 with ⟨t7, rfl⟩ | ⟨t7, rfl⟩
    all_goals
      have HQ0 := Lib.hid (show _ + groupsL kids = GR + groupsL (kids.take 0) by have := HG.out; rw [List.take_of_length_le (by omega)] at this; simp [groupsL]; exact this.symm)
      have HQ1 : _ ≤ 1 + groupsL (kids.take 0) := Nat.le_trans hs1 (Nat.le_add_right _ _)
      clear HG hs1
      go_wp2
      rw [← hwa]
      go_loopw [3, 14] (fun n v wr => ∃ (i q : Nat), v = .int .i64 i ∧ i ≤ kl ∧ n = .int .i64 q ∧ Hid (q + groupsL kids = GR + groupsL (kids.take i)) ∧ q ≤ 1 + groupsL (kids.take i) ∧ Below w.heap.size w wr) (fun _ v _ => kl - (intOf v).toNat)
      case atStart => exact ⟨0, _, rfl, by omega, rfl, HQ0, HQ1, ba⟩
      case round =>
        obtain ⟨i, q, rfl, hi, rfl, hq, hq1, hB⟩ := hrel
        by_cases hlt : i < kl
        · obtain ⟨g, o, rfl, hg, A2, c2, hk, hc⟩ := (kid (HRT.out.bel hB)).2 i (by omega)
          have fk0 := hc 0 _ rfl
          have fk1 := hc 1 _ rfl
          have fk2 := hc 2 _ rfl
          have fk3 := hc 3 _ rfl
          have fk4 := hc 4 _ rfl
          have fk5 := hc 5 _ rfl
          have fk6 := hc 6 _ rfl
          have fk7 := hc 7 _ rfl
          have fk8 := hc 8 _ rfl
          simp only [Nat.add_zero] at fk0
          clear hc
          have hnk := nodes_kid kids i (by omega)
          have htk := groups_take kids i (by omega)
          have hgt := groups_nodesL (kids.take i)
          obtain ⟨x, hx⟩ : ∃ x, kids[i]'(by omega) = x := ⟨_, rfl⟩
          rw [hx] at fk0 fk1 fk2 fk3 fk4 fk5 fk6 fk7 fk8 hk hnk htk
          have hgx := groups_nodes x
          have ci := fun W (hW : Below wr.heap.size wr W) => ih x (by omega) W _ (hk.bel hW) (by omega)
          have ci := ci (wr.alloc (.cells (reC x.kind x.set A2 x.kids.length c2 x.lo x.hi x.n).toArray 28)) (by go_grown)
          clear hk hg
          generalize x.kind = k0 at *
          generalize x.set = k1 at *
          generalize x.kids.length = k2 at *
          generalize x.lo = k3 at *
          generalize x.hi = k4 at *
          generalize x.n = k5 at *
          have zB := hB.size
          go_wp2_with fail
          (with_reducible refine ci.mono ?_)
          rintro e w2 ⟨rfl, hb3⟩
          have hb4 : Below w.heap.size w w2 := via hb3 (by go_grown)
          clear hb3 ci
          go_wp2
          go_roundw
          case rel => exact ⟨i + 1, q + groupsR x, by go_num, by omega, by go_num, Lib.hid (by have := hq.out; omega), by omega, hb4⟩
          case measure => simp [intOf]; omega
        · have hi2 : i = kids.length := by omega
          rw [hi2, List.take_length] at hq
          have hqq : q = GR := by have := hq.out; omega
          subst hqq
          clear hq
          subst hi2
          go_wp2
          go_ret
          exact ⟨rfl, hB⟩
end EreX
end Go.Proofs.YtdonokghemhfiaaDoor
