/- The walk of the reference's Same. Conditions: none. -/
import Derived.Test.YtdonokghemhfiaaDoorEreFe
namespace Go.Proofs.YtdonokghemhfiaaDoor
open Go.RowKit
namespace EreX
open EreP EreW
set_option maxHeartbeats 1600000 in
set_option maxRecDepth 100000 in
theorem sameq_c {K K' : Nat → Prop} : ∀ (N : Nat) (a : Re), nodesR a ≤ N → nodesR a ≤ 4611686018427387904 → ∀ (b : Re) (w : World) (cs cs' : List Value), Rt w K a cs → Rt w K' b cs' →
    Calls Tryd.prog 10 #[.agg cs.toArray, .agg cs'.toArray] w fun x w' => x = .returned (.bool (sameR a b)) ∧ Below w.heap.size w w' := by
  intro N
  induction N with
  | zero => intro r h; cases r; simp [nodesR] at h
  | succ N ih =>
    intro a hN hbig b w cs cs' h h'
    obtain ⟨A, c, rfl, hS, hnil⟩ := h.shape
    obtain ⟨A', c', rfl, hS', hnil'⟩ := h'.shape
    obtain ⟨k0, k1, kids, k3, k4, k5⟩ := a
    obtain ⟨m0, m1, mids, m3, m4, m5⟩ := b
    simp only [Re.kind, Re.set, Re.kids, Re.lo, Re.hi, Re.n] at h hS hnil h' hS' hnil' ⊢
    have hln := len_nodes kids
    have hkc : KidsC K K' 10 kids := fun i hi b w cs cs' h1 h2 => ih (kids[i]'hi) (by have := nodes_kid kids i hi; simp [nodesR] at hN; omega) (by have := nodes_kid kids i hi; simp [nodesR] at hbig; omega) b w cs cs' h1 h2
    obtain ⟨wa, hwa⟩ : ∃ z : World, z = (w.alloc (.cells (reC k0 k1 A kids.length c k3 k4 k5).toArray 28)).alloc (.cells (reC m0 m1 A' mids.length c' m3 m4 m5).toArray 28) := ⟨_, rfl⟩
    have ba : Below w.heap.size w wa := by rw [hwa]; go_grown
    have HKC := Lib.hid hkc
    have HRT := Lib.hid (h.bel ba)
    have HRT' := Lib.hid (h'.bel ba)
    have xa : Blk wa w.heap.size 28 (reC k0 k1 A kids.length c k3 k4 k5).toArray := by rw [hwa]; exact (Blk.new _ _ _).alloc _
    have xb : Blk wa (w.heap.size + 1) 28 (reC m0 m1 A' mids.length c' m3 m4 m5).toArray := by rw [hwa]; exact Blk.new1 _ _ _ _
    obtain ⟨GR, hGR⟩ : ∃ GR, sameR (.mk k0 k1 kids k3 k4 k5) (.mk m0 m1 mids m3 m4 m5) = GR := ⟨_, rfl⟩
    rw [hGR]
    have HG := Lib.hid hGR
    have hset := fun W => set_same k1 m1 hS hS' W
    simp only [wordsV] at hset
    have hSL : GR = (k0 == m0 && k1 == m1 && k3 == m3 && k4 == m4 && k5 == m5 && sameL kids mids) := by rw [← hGR, sameR]
    have HSL := Lib.hid hSL
    have hbig2 : kids.length ≤ 4611686018427387904 := by simp [nodesR] at hbig; omega
    clear hGR hSL h h' hS hS' hnil hnil' hkc hln ih hN hbig
    obtain ⟨kl, hkl⟩ : ∃ kl, kids.length = kl := ⟨_, rfl⟩
    obtain ⟨km, hkm⟩ : ∃ kl, mids.length = kl := ⟨_, rfl⟩
    rw [hkl] at HRT xa hwa hbig2 ⊢
    rw [hkm] at HRT' xb hwa ⊢
    go_enter Tryd.func10, Tryd.ntmps10
    cases d0 : (k0 == m0)
    · have hz : GR = false := by rw [HSL.out, d0]; simp
      subst hz
      have n_d0 : (k0 != m0) = true := by show (!(k0 == m0)) = true; rw [d0]; rfl
      go_wp2
      go_ret
      exact ⟨rfl, by rw [← hwa]; exact ba⟩
    have n_d0 : (k0 != m0) = false := by show (!(k0 == m0)) = false; rw [d0]; rfl
    cases d1 : (k1 == m1)
    · have hz : GR = false := by rw [HSL.out, d0, d1]; simp
      subst hz
      rw [d1] at hset
      go_wp2
      go_ret
      exact ⟨rfl, by rw [← hwa]; exact ba⟩
    rw [d1] at hset
    cases d3 : (k3 == m3)
    · have hz : GR = false := by rw [HSL.out, d0, d1, d3]; simp
      subst hz
      have n_d3 : (k3 != m3) = true := by show (!(k3 == m3)) = true; rw [d3]; rfl
      go_wp2
      go_ret
      exact ⟨rfl, by rw [← hwa]; exact ba⟩
    have n_d3 : (k3 != m3) = false := by show (!(k3 == m3)) = false; rw [d3]; rfl
    cases d4 : (k4 == m4)
    · have hz : GR = false := by rw [HSL.out, d0, d1, d3, d4]; simp
      subst hz
      have n_d4 : (k4 != m4) = true := by show (!(k4 == m4)) = true; rw [d4]; rfl
      go_wp2
      go_ret
      exact ⟨rfl, by rw [← hwa]; exact ba⟩
    have n_d4 : (k4 != m4) = false := by show (!(k4 == m4)) = false; rw [d4]; rfl
    cases d5 : (k5 == m5)
    · have hz : GR = false := by rw [HSL.out, d0, d1, d3, d4, d5]; simp
      subst hz
      have n_d5 : (k5 != m5) = true := by show (!(k5 == m5)) = true; rw [d5]; rfl
      go_wp2
      go_ret
      exact ⟨rfl, by rw [← hwa]; exact ba⟩
    have n_d5 : (k5 != m5) = false := by show (!(k5 == m5)) = false; rw [d5]; rfl
    have hz : GR = sameL kids mids := by rw [HSL.out, d0, d1, d3, d4, d5]; simp
    have HZ := Lib.hid hz
    clear hz
    by_cases hlen : kl = km
    rotate_left
    · have hz : GR = false := by rw [HZ.out]; exact sameL_no (fun e => hlen (by rw [← hkl, ← hkm, e]))
      subst hz
      have d6 : (((kl : Nat) : Int) != ((km : Nat) : Int)) = true := by simp; omega
      go_wp2
      go_ret
      exact ⟨rfl, by rw [← hwa]; exact ba⟩
    subst hlen
    go_wp2
    rw [← hwa]
    go_loopw [5] (fun v wr => ∃ (i : Nat), v = .int .i64 i ∧ i ≤ kl ∧ kids.take i = mids.take i ∧ Below wa.heap.size wa wr) (fun v _ => kl - (intOf v).toNat)
    case atStart => exact ⟨0, rfl, by omega, by simp, Below.refl _ _⟩
    case round =>
      obtain ⟨i, rfl, hi, heq, hB⟩ := hrel
      have HE := Lib.hid heq
      clear heq
      have x5 := (xa.next hB).cell 5
      have y5 := (xb.next hB).cell 5
      simp only [List.getElem?_toArray, List.getElem?_cons_zero, List.getElem?_cons_succ] at x5 y5
      have zB := hB.size
      by_cases hlt : i < kl
      · obtain ⟨g, o, rfl, hg, A2, c2, hk, hc⟩ := (kid (HRT.out.bel hB)).2 i (by omega)
        obtain ⟨g', o', rfl, hg', A2', c2', hk', hc'⟩ := (kid (HRT'.out.bel hB)).2 i (by omega)
        have fk0 := hc 0 _ rfl
        have fk1 := hc 1 _ rfl
        have fk2 := hc 2 _ rfl
        have fk3 := hc 3 _ rfl
        have fk4 := hc 4 _ rfl
        have fk5 := hc 5 _ rfl
        have fk6 := hc 6 _ rfl
        have fk7 := hc 7 _ rfl
        have fk8 := hc 8 _ rfl
        have fl0 := hc' 0 _ rfl
        have fl1 := hc' 1 _ rfl
        have fl2 := hc' 2 _ rfl
        have fl3 := hc' 3 _ rfl
        have fl4 := hc' 4 _ rfl
        have fl5 := hc' 5 _ rfl
        have fl6 := hc' 6 _ rfl
        have fl7 := hc' 7 _ rfl
        have fl8 := hc' 8 _ rfl
        simp only [Nat.add_zero] at fk0 fl0
        clear hc hc'
        have htl : kids.take (i + 1) = kids.take i ++ [kids[i]'(by omega)] := List.take_succ_eq_append_getElem (by omega)
        have htm : mids.take (i + 1) = mids.take i ++ [mids[i]'(by omega)] := List.take_succ_eq_append_getElem (by omega)
        have ci := HKC.out i (by omega) (mids[i]'(by omega)) wr.drew _ _ (hk.bel (Below.refl _ _).drew) (hk'.bel (Below.refl _ _).drew)
        have hab : kids = mids → (kids[i]'(by omega)) = (mids[i]'(by omega)) := fun e => by subst e; rfl
        obtain ⟨x, hx⟩ : ∃ x, kids[i]'(by omega) = x := ⟨_, rfl⟩
        obtain ⟨y, hy⟩ : ∃ x, mids[i]'(by omega) = x := ⟨_, rfl⟩
        rw [hx] at fk0 fk1 fk2 fk3 fk4 fk5 fk6 fk7 fk8 hk htl
        rw [hy] at fl0 fl1 fl2 fl3 fl4 fl5 fl6 fl7 fl8 hk' htm
        simp only [hx, hy] at ci hab
        have HTL := Lib.hid htl
        have HTM := Lib.hid htm
        have HAB := Lib.hid hab
        clear hk hg hk' hg' htl htm hx hy hab
        generalize x.kind = k0' at *
        generalize x.set = k1' at *
        generalize x.kids.length = k2' at *
        generalize x.lo = k3' at *
        generalize x.hi = k4' at *
        generalize x.n = k5' at *
        generalize y.kind = m0' at *
        generalize y.set = m1' at *
        generalize y.kids.length = m2' at *
        generalize y.lo = m3' at *
        generalize y.hi = m4' at *
        generalize y.n = m5' at *
        cases hs : sameR x y
        · rw [hs] at ci
          have hz : GR = false := by rw [HZ.out]; exact sameL_no (fun e => by have := (same_iff x y).2 (HAB.out e); rw [hs] at this; cases this)
          subst hz
          go_wp2_with fail
          go_region_law (first | (go_simp; go_at_call 10; (with_reducible refine ci.mono ?_); rintro e w2 ⟨rfl, hb3⟩))
          all_goals
            have hb4 : Below wa.heap.size wa w2 := via hb3 (hB.drew)
            clear hb3
            go_wp2
            go_ret
            exact ⟨rfl, via hb4 ba⟩
        · rw [hs] at ci
          have hxy := (same_iff x y).1 hs
          have HX := Lib.hid hxy
          clear hs hxy
          go_wp2_with fail
          go_region_law (first | (go_simp; go_at_call 10; (with_reducible refine ci.mono ?_); rintro e w2 ⟨rfl, hb3⟩))
          all_goals
            have hb4 : Below wa.heap.size wa w2 := via hb3 (hB.drew)
            clear hb3
            go_wp2
            go_roundw
            case rel => exact ⟨i + 1, by go_num, by omega, by rw [HTL.out, HTM.out, HE.out, HX.out], hb4⟩
            case measure => simp [intOf]; omega
      · have hi2 : i = kl := by omega
        subst hi2
        have hz : GR = true := by
          rw [HZ.out]; refine (sameL_iff kids mids).2 ?_
          have := HE.out
          rw [List.take_of_length_le (by omega), List.take_of_length_le (by omega)] at this; exact this
        subst hz
        go_wp2
        go_ret
        exact ⟨rfl, via hB ba⟩
end EreX
end Go.Proofs.YtdonokghemhfiaaDoor
