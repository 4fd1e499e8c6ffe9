/- The walk of the law's count and Small. Conditions: none. -/
import Derived.Test.YtdonokghemhfiaaDoorEreFb
namespace Go.Proofs.YtdonokghemhfiaaDoor
open Go.RowKit
namespace EreX
open EreP EreW
/-- How many are left. -/
def leftI (n : Nat) (left : Int) : Int := if (n : Int) ≤ left then left - n else -1
theorem left_step {a b : Nat} {left : Int} (h : 0 ≤ leftI a left) : leftI b (leftI a left) = leftI (a + b) left := by
  unfold leftI at *
  by_cases h1 : (a : Int) ≤ left
  · rw [if_pos h1] at *
    by_cases h2 : (b : Int) ≤ left - a
    · rw [if_pos h2, if_pos (by omega)]; omega
    · rw [if_neg h2, if_neg (by omega)]
  · rw [if_neg h1] at h; omega
theorem left_neg {a b : Nat} {left : Int} (h : leftI a left < 0) (hab : a ≤ b) (_h0 : 0 ≤ left) : leftI b left = -1 := by
  unfold leftI at *
  by_cases h1 : (a : Int) ≤ left
  · rw [if_pos h1] at h; omega
  · rw [if_neg (by omega)]
theorem left_ge (a : Nat) (left : Int) : -1 ≤ leftI a left := by
  unfold leftI; split <;> omega
theorem left_le (a : Nat) (left : Int) (h : 0 ≤ left) : leftI a left ≤ left := by
  unfold leftI; split <;> omega
theorem left_a {a : Nat} {left : Int} (h : 0 ≤ leftI a left) : (a : Int) ≤ left := by
  unfold leftI at h; split at h <;> omega
set_option maxHeartbeats 1600000 in
theorem count_c {K : Nat → Prop} : ∀ (N : Nat) (r : Re), nodesR r ≤ N → ∀ (w : World) (cs : List Value) (left : Int), Rt w K r cs → 0 ≤ left → left ≤ 1048576 →
    Calls Tryd.prog 30 #[.agg cs.toArray, .int .i64 left] w fun x w' => x = .returned (.int .i64 (leftI (nodesR r) left)) ∧ Below w.heap.size w w' := by
  intro N
  induction N with
  | zero => intro r h; cases r; simp [nodesR] at h
  | succ N ih =>
    intro r hN w cs left h h0 hb
    obtain ⟨A, c, rfl, hS, hnil⟩ := h.shape
    obtain ⟨kind, S, kids, lo, hi, nn⟩ := r
    simp only [Re.kind, Re.set, Re.kids, Re.lo, Re.hi, Re.n] at h hS hnil ⊢
    have hN2 : nodesL kids ≤ N := by simp [nodesR] at hN; omega
    have HRT := Lib.hid h
    obtain ⟨GR, hGR⟩ : ∃ GR, leftI (nodesR (.mk kind S kids lo hi nn)) left = GR := ⟨_, rfl⟩
    have hgr : leftI (1 + nodesL (kids.take kids.length)) left = GR := by rw [← hGR, nodesR, List.take_length]
    rw [hGR]
    have HG := Lib.hid hgr
    clear hGR hgr h hnil hS hN
    obtain ⟨kl, hkl⟩ : ∃ kl, kids.length = kl := ⟨_, rfl⟩
    rw [hkl] at HG HRT ⊢
    obtain ⟨wa, hwa⟩ : ∃ z : World, z = w.alloc (.cells (reC kind S A kl c lo hi nn).toArray 28) := ⟨_, rfl⟩
    have xa : Blk wa w.heap.size 28 (reC kind S A kl c lo hi nn).toArray := by rw [hwa]; exact Blk.new _ _ _
    have ba : Below w.heap.size w wa := by rw [hwa]; go_grown
    have hq0 : left - 1 = leftI (1 + nodesL (kids.take 0)) left := by
      unfold leftI; simp [nodesL]; omega
    have HQ0 := Lib.hid hq0
    clear hq0
    go_enter Tryd.func30, Tryd.ntmps30
    go_wp2
    rw [← hwa]
    go_loopw [1, 11] (fun n v wr => ∃ (i : Nat) (q : Int), v = .int .i64 i ∧ i ≤ kl ∧ n = .int .i64 q ∧ q = leftI (1 + nodesL (kids.take i)) left ∧ (i : Int) ≤ left ∧ Below wa.heap.size wa wr) (fun _ v _ => kl - (intOf v).toNat)
    case atStart => exact ⟨0, _, rfl, by omega, rfl, HQ0.out, by omega, Below.refl _ _⟩
    case round =>
      obtain ⟨i, q, rfl, hi, rfl, hq, hil, hBa⟩ := hrel
      have hB : Below w.heap.size w wr := via hBa ba
      have x5 := (xa.next hBa).cell 5
      simp only [List.getElem?_toArray, List.getElem?_cons_zero, List.getElem?_cons_succ] at x5
      by_cases hlt : i < kl
      · by_cases hneg : q < 0
        · have hz : GR = -1 := by
            have := nodes_le kids i
            rw [← HG.out, ← hkl, List.take_length]
            exact left_neg (by rw [← hq]; exact hneg) (by omega) h0
          have hq2 : q = -1 := by have := left_ge (1 + nodesL (kids.take i)) left; omega
          subst hq2
          subst hz
          clear hq
          have d0 : decide ((-1 : Int) < 0) = true := by decide
          go_wp2
          go_ret
          exact ⟨rfl, hB⟩
        · obtain ⟨g, o, rfl, hg, A2, c2, hk, hc⟩ := (kid (HRT.out.bel hB)).2 i (by omega)
          have fk0 := hc 0 _ rfl
          have fk1 := hc 1 _ rfl
          have fk2 := hc 2 _ rfl
          have fk3 := hc 3 _ rfl
          have fk4 := hc 4 _ rfl
          have fk5 := hc 5 _ rfl
          have fk6 := hc 6 _ rfl
          have fk7 := hc 7 _ rfl
          have fk8 := hc 8 _ rfl
          simp only [Nat.add_zero] at fk0
          clear hc
          have d0 : decide (q < 0) = false := by simp; omega
          have hnk := nodes_kid kids i (by omega)
          have htk := nodes_take kids i (by omega)
          have hln := len_nodes (kids.take i)
          rw [List.length_take] at hln
          have hla := left_a (a := 1 + nodesL (kids.take i)) (left := left) (by omega)
          have hle := left_le (1 + nodesL (kids.take i)) left h0
          obtain ⟨x, hx⟩ : ∃ x, kids[i]'(by omega) = x := ⟨_, rfl⟩
          rw [hx] at fk0 fk1 fk2 fk3 fk4 fk5 fk6 fk7 fk8 hk hnk htk
          have ci := ih x (by omega) wr _ q hk (by omega) (by omega)
          have hq3 : leftI (nodesR x) q = leftI (1 + nodesL (kids.take (i + 1))) left := by
            rw [hq, left_step (by omega), htk]; congr 1; omega
          rw [hq3] at ci
          clear hk hg hq3 hq htk
          generalize x.kind = k0 at *
          generalize x.set = k1 at *
          generalize x.kids.length = k2 at *
          generalize x.lo = k3 at *
          generalize x.hi = k4 at *
          generalize x.n = k5 at *
          have zB := hB.size
          go_wp2_with fail
          (with_reducible refine ci.mono ?_)
          rintro e w2 ⟨rfl, hb3⟩
          have hb4 : Below wa.heap.size wa w2 := via hb3 (by go_grown)
          clear hb3 ci
          go_wp2
          go_roundw
          case rel => exact ⟨i + 1, _, by go_num, by omega, rfl, rfl, by omega, hb4⟩
          case measure => simp [intOf]; omega
      · have hi2 : i = kl := by omega
        subst hi2
        rw [HG.out] at hq
        subst hq
        go_wp2
        go_ret
        exact ⟨rfl, hB⟩
set_option maxHeartbeats 1600000 in
theorem small_c {K : Nat → Prop} (r : Re) (w : World) (cs : List Value) (most : Int) (h : Rt w K r cs) (h0 : 0 ≤ most) (hb : most ≤ 1048576) :
    Calls Tryd.prog 13 #[.agg cs.toArray, .int .i64 most] w fun x w' => x = .returned (.bool (decide ((nodesR r : Int) ≤ most))) ∧ Below w.heap.size w w' := by
  obtain ⟨wa, hwa⟩ : ∃ z : World, z = w.alloc (.cells cs.toArray 28) := ⟨_, rfl⟩
  have ba : Below w.heap.size w wa := by rw [hwa]; go_grown
  have cc := count_c (nodesR r) r (Nat.le_refl _) wa cs most (h.bel ba) h0 hb
  have hd : decide ((0 : Int) ≤ leftI (nodesR r) most) = decide ((nodesR r : Int) ≤ most) := by
    unfold leftI
    by_cases hm : (nodesR r : Int) ≤ most
    · rw [if_pos hm]; simp [hm]
    · rw [if_neg hm]; simp [hm]
  rw [← hd]
  obtain ⟨A, c, rfl, hS, hnil⟩ := h.shape
  generalize leftI (nodesR r) most = LL at *
  clear hd hnil hS h
  generalize r.kind = k0 at *
  generalize r.set = k1 at *
  generalize r.kids.length = k2 at *
  generalize r.lo = k3 at *
  generalize r.hi = k4 at *
  generalize r.n = k5 at *
  go_enter Tryd.func13, Tryd.ntmps13
  go_wp2_with fail
  rw [← hwa]
  (with_reducible refine cc.mono ?_)
  rintro e w2 ⟨rfl, hb3⟩
  have hb4 : Below w.heap.size w w2 := via hb3 ba
  go_wp2
  go_ret
  exact ⟨rfl, hb4⟩
end EreX
end Go.Proofs.YtdonokghemhfiaaDoor
