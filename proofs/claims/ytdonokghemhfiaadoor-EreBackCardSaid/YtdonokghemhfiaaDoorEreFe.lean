/- The walk of Same. Conditions: none. -/
import Derived.Test.YtdonokghemhfiaaDoorEreFs
namespace Go.Proofs.YtdonokghemhfiaaDoor
open Go.RowKit
namespace EreX
open EreP EreW
/-- A test that fails ahead of the kids. -/
theorem same_part {k k' : Int} {s s' : Nat} {l m : List Re} {lo lo' hi hi' n n' : Int} (h : ¬ (k = k' ∧ s = s' ∧ lo = lo' ∧ hi = hi' ∧ n = n')) : sameR (.mk k s l lo hi n) (.mk k' s' m lo' hi' n') = false := by
  apply same_no
  intro e
  injection e with e1 e2 e3 e4 e5 e6
  exact h ⟨e1, e2, e4, e5, e6⟩
set_option maxHeartbeats 1600000 in
set_option maxRecDepth 100000 in
theorem same_c {K K' : Nat → Prop} : ∀ (N : Nat) (a : Re), nodesR a ≤ N → nodesR a ≤ 4611686018427387904 → ∀ (b : Re) (w : World) (cs cs' : List Value), Rt w K a cs → Rt w K' b cs' →
    Calls Tryd.prog 14 #[.agg cs.toArray, .agg cs'.toArray] w fun x w' => x = .returned (.bool (sameR a b)) ∧ Below w.heap.size w w' := by
  intro N
  induction N with
  | zero => intro r h; cases r; simp [nodesR] at h
  | succ N ih =>
    intro a hN hbig b w cs cs' h h'
    obtain ⟨A, c, rfl, hS, hnil⟩ := h.shape
    obtain ⟨A', c', rfl, hS', hnil'⟩ := h'.shape
    obtain ⟨k0, k1, kids, k3, k4, k5⟩ := a
    obtain ⟨m0, m1, mids, m3, m4, m5⟩ := b
    simp only [Re.kind, Re.set, Re.kids, Re.lo, Re.hi, Re.n] at h hS hnil h' hS' hnil' ⊢
    have hln := len_nodes kids
    have hkc : KidsC K K' 14 kids := fun i hi b w cs cs' h1 h2 => ih (kids[i]'hi) (by have := nodes_kid kids i hi; simp [nodesR] at hN; omega) (by have := nodes_kid kids i hi; simp [nodesR] at hbig; omega) b w cs cs' h1 h2
    obtain ⟨wa, hwa⟩ : ∃ z : World, z = (w.alloc (.cells (reC k0 k1 A kids.length c k3 k4 k5).toArray 28)).alloc (.cells (reC m0 m1 A' mids.length c' m3 m4 m5).toArray 28) := ⟨_, rfl⟩
    have ba : Below w.heap.size w wa := by rw [hwa]; go_grown
    have ce := equal_c kids mids wa (h.bel ba) (h'.bel ba) hkc (by simp [nodesR] at hbig; omega)
    obtain ⟨GR, hGR⟩ : ∃ GR, sameR (.mk k0 k1 kids k3 k4 k5) (.mk m0 m1 mids m3 m4 m5) = GR := ⟨_, rfl⟩
    rw [hGR]
    have HG := Lib.hid hGR
    have hset := fun W => set_same k1 m1 hS hS' W
    simp only [wordsV] at hset
    have hSL : GR = (k0 == m0 && k1 == m1 && k3 == m3 && k4 == m4 && k5 == m5 && sameL kids mids) := by rw [← hGR, sameR]
    have HSL := Lib.hid hSL
    obtain ⟨SL, hSLe⟩ : ∃ SL, sameL kids mids = SL := ⟨_, rfl⟩
    rw [hSLe] at ce
    have HSE := Lib.hid hSLe
    clear hGR hSL hSLe h h' hS hS' hnil hnil' hkc hln ih hN hbig
    generalize kids.length = k2 at *
    generalize mids.length = m2 at *
    go_enter Tryd.func14, Tryd.ntmps14
    cases d0 : (k0 == m0)
    · have hz : GR = false := by rw [HSL.out, d0]; simp
      subst hz
      go_wp2
      go_ret
      exact ⟨rfl, by rw [← hwa]; exact ba⟩
    cases d1 : (k1 == m1)
    · have hz : GR = false := by rw [HSL.out, d0, d1]; simp
      subst hz
      rw [d1] at hset
      go_wp2
      go_ret
      exact ⟨rfl, by rw [← hwa]; exact ba⟩
    rw [d1] at hset
    cases d3 : (k3 == m3)
    · have hz : GR = false := by rw [HSL.out, d0, d1, d3]; simp
      subst hz
      go_wp2
      go_ret
      exact ⟨rfl, by rw [← hwa]; exact ba⟩
    cases d4 : (k4 == m4)
    · have hz : GR = false := by rw [HSL.out, d0, d1, d3, d4]; simp
      subst hz
      go_wp2
      go_ret
      exact ⟨rfl, by rw [← hwa]; exact ba⟩
    cases d5 : (k5 == m5)
    · have hz : GR = false := by rw [HSL.out, d0, d1, d3, d4, d5]; simp
      subst hz
      go_wp2
      go_ret
      exact ⟨rfl, by rw [← hwa]; exact ba⟩
    have hz : GR = SL := by rw [HSL.out, HSE.out, d0, d1, d3, d4, d5]; simp
    subst hz
    go_wp2_with fail
    rw [← hwa]
    (with_reducible refine ce.mono ?_)
    rintro e w2 ⟨rfl, hb⟩
    have hb4 : Below w.heap.size w w2 := via hb ba
    go_wp2
    go_ret
    exact ⟨by simp, hb4⟩
end EreX
end Go.Proofs.YtdonokghemhfiaaDoor
