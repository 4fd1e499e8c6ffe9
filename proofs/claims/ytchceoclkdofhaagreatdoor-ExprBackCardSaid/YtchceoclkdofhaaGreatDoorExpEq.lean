/- Are two expressions the same: the reference's walk. Condition: trees that fit. -/
import Derived.Test.YtchceoclkdofhaaGreatDoorExpE
namespace Go.Proofs.YtchceoclkdofhaaGreatDoor
set_option linter.unusedVariables false
set_option linter.unusedSimpArgs false
open Go.RowKit
namespace ExpW
open CalP CalW ExpP
set_option maxHeartbeats 1600000 in
set_option maxRecDepth 100000 in
theorem sameq_c {K K' : Nat → Prop} : ∀ (N : Nat) (a : Ex), nodesE a ≤ N → nodesE a ≤ 4611686018427387904 → ∀ (b : Ex) (w : World) (cs cs' : List Value), Et w K a cs → Et w K' b cs' →
    Calls Tryz.prog 12 #[.agg cs.toArray, .agg cs'.toArray] w fun x w' => x = .returned (.bool (sameE a b)) ∧ Below w.heap.size w w' := by
  intro N
  induction N with
  | zero => intro r h; cases r; simp [nodesE] at h
  | succ N ih =>
    intro a hN hbig b w cs cs' h h'
    obtain ⟨A, c, rfl⟩ := h.shape
    obtain ⟨A', c', rfl⟩ := h'.shape
    obtain ⟨k0, k1, k3, k4, kids⟩ := a
    obtain ⟨m0, m1, m3, m4, mids⟩ := b
    simp only [Ex.kind, Ex.n, Ex.name, Ex.op, Ex.kids] at h h' ⊢
    have hln := len_nodes kids
    have hkc : KidsC K K' 12 kids := fun i hi b w cs cs' h1 h2 => ih (kids[i]'hi) (by have := nodes_kid kids i hi; simp [nodesE] at hN; omega) (by have := nodes_kid kids i hi; simp [nodesE] at hbig; omega) b w cs cs' h1 h2
    obtain ⟨wa, hwa⟩ : ∃ z : World, z = (w.alloc (.cells (exC k0 k1 k3 k4 A kids.length c).toArray 24)).alloc (.cells (exC m0 m1 m3 m4 A' mids.length c').toArray 24) := ⟨_, rfl⟩
    have ba : Below w.heap.size w wa := by rw [hwa]; go_grown
    have HKC := Lib.hid hkc
    have HRT := Lib.hid (h.bel ba)
    have HRT' := Lib.hid (h'.bel ba)
    have xa : Blk wa w.heap.size 24 (exC k0 k1 k3 k4 A kids.length c).toArray := by rw [hwa]; exact (Blk.new _ _ _).alloc _
    have xb : Blk wa (w.heap.size + 1) 24 (exC m0 m1 m3 m4 A' mids.length c').toArray := by rw [hwa]; exact Blk.new1 _ _ _ _
    obtain ⟨GR, hGR⟩ : ∃ GR, sameE (.mk k0 k1 k3 k4 kids) (.mk m0 m1 m3 m4 mids) = GR := ⟨_, rfl⟩
    rw [hGR]
    have HG := Lib.hid hGR
    have hSL : GR = (k0 == m0 && k1 == m1 && k3.toList == m3.toList && k4.toList == m4.toList && sameL kids mids) := by rw [← hGR, sameE]
    have HSL := Lib.hid hSL
    have hbig2 : kids.length ≤ 4611686018427387904 := by simp [nodesE] at hbig; omega
    clear hGR hSL h h' hkc hln ih hN hbig
    obtain ⟨kl, hkl⟩ : ∃ kl, kids.length = kl := ⟨_, rfl⟩
    obtain ⟨km, hkm⟩ : ∃ kl, mids.length = kl := ⟨_, rfl⟩
    rw [hkl] at HRT xa hwa hbig2 ⊢
    rw [hkm] at HRT' xb hwa ⊢
    go_enter Tryz.func12, Tryz.ntmps12
    cases d0 : (k0 == m0)
    · have hz : GR = false := by rw [HSL.out, d0]; simp
      subst hz
      have n_d0 : (k0 != m0) = true := by show (!(k0 == m0)) = true; rw [d0]; rfl
      go_wp2
      go_ret
      exact ⟨rfl, by rw [← hwa]; exact ba⟩
    have n_d0 : (k0 != m0) = false := by show (!(k0 == m0)) = false; rw [d0]; rfl
    cases d1 : (k1 == m1)
    · have hz : GR = false := by rw [HSL.out, d0, d1]; simp
      subst hz
      have n_d1 : (k1 != m1) = true := by show (!(k1 == m1)) = true; rw [d1]; rfl
      go_wp2
      go_ret
      exact ⟨rfl, by rw [← hwa]; exact ba⟩
    have n_d1 : (k1 != m1) = false := by show (!(k1 == m1)) = false; rw [d1]; rfl
    cases d3 : (k3.toList == m3.toList)
    · have hz : GR = false := by rw [HSL.out, d0, d1, d3]; simp
      subst hz
      go_wp2
      go_ret
      exact ⟨rfl, by rw [← hwa]; exact ba⟩
    cases d4 : (k4.toList == m4.toList)
    · have hz : GR = false := by rw [HSL.out, d0, d1, d3, d4]; simp
      subst hz
      go_wp2
      go_ret
      exact ⟨rfl, by rw [← hwa]; exact ba⟩
    have hz : GR = sameL kids mids := by rw [HSL.out, d0, d1, d3, d4]; simp
    have HZ := Lib.hid hz
    clear hz
    by_cases hlen : kl = km
    rotate_left
    · have hz : GR = false := by rw [HZ.out]; exact sameL_no (fun e => hlen (by rw [← hkl, ← hkm, e]))
      subst hz
      have d6 : (((kl : Nat) : Int) != ((km : Nat) : Int)) = true := by simp; omega
      go_wp2
      go_ret
      exact ⟨rfl, by rw [← hwa]; exact ba⟩
    subst hlen
    go_wp2
    rw [← hwa]
    go_loopw [5] (fun v wr => ∃ (i : Nat), v = .int .i64 i ∧ i ≤ kl ∧ kids.take i = mids.take i ∧ Below wa.heap.size wa wr) (fun v _ => kl - (intOf v).toNat)
    case atStart => exact ⟨0, rfl, by omega, by simp, Below.refl _ _⟩
    case round =>
      obtain ⟨i, rfl, hi, heq, hB⟩ := hrel
      have HE := Lib.hid heq
      clear heq
      have x5 := (xa.next hB).cell 4
      have y5 := (xb.next hB).cell 4
      simp only [List.getElem?_toArray, List.getElem?_cons_zero, List.getElem?_cons_succ] at x5 y5
      have zB := hB.size
      by_cases hlt : i < kl
      · obtain ⟨g, o, A2, c2, rfl, hk, hc⟩ := Et.kid_ (HRT.out.bel hB) (i := i) (by omega)
        obtain ⟨g', o', A2', c2', rfl, hk', hc'⟩ := Et.kid_ (HRT'.out.bel hB) (i := i) (by omega)
        have fk0 := hc 0 _ rfl
        have fk1 := hc 1 _ rfl
        have fk2 := hc 2 _ rfl
        have fk3 := hc 3 _ rfl
        have fk4 := hc 4 _ rfl
        have fl0 := hc' 0 _ rfl
        have fl1 := hc' 1 _ rfl
        have fl2 := hc' 2 _ rfl
        have fl3 := hc' 3 _ rfl
        have fl4 := hc' 4 _ rfl
        simp only [Nat.add_zero] at fk0 fl0
        clear hc hc'
        have htl : kids.take (i + 1) = kids.take i ++ [kids[i]'(by omega)] := List.take_succ_eq_append_getElem (by omega)
        have htm : mids.take (i + 1) = mids.take i ++ [mids[i]'(by omega)] := List.take_succ_eq_append_getElem (by omega)
        have ci := HKC.out i (by omega) (mids[i]'(by omega)) wr.drew _ _ (hk.bel (Below.refl _ _).drew) (hk'.bel (Below.refl _ _).drew)
        have hab : kids = mids → (kids[i]'(by omega)) = (mids[i]'(by omega)) := fun e => by subst e; rfl
        obtain ⟨x, hx⟩ : ∃ x, kids[i]'(by omega) = x := ⟨_, rfl⟩
        obtain ⟨y, hy⟩ : ∃ x, mids[i]'(by omega) = x := ⟨_, rfl⟩
        rw [hx] at fk0 fk1 fk2 fk3 fk4 hk htl
        rw [hy] at fl0 fl1 fl2 fl3 fl4 hk' htm
        simp only [hx, hy] at ci hab
        have HTL := Lib.hid htl
        have HTM := Lib.hid htm
        have HAB := Lib.hid hab
        clear hk hk' htl htm hx hy hab
        generalize x.kind = k0' at *
        generalize x.n = k1' at *
        generalize x.name = k3' at *
        generalize x.op = k4' at *
        generalize x.kids.length = k2' at *
        generalize y.kind = m0' at *
        generalize y.n = m1' at *
        generalize y.name = m3' at *
        generalize y.op = m4' at *
        generalize y.kids.length = m2' at *
        cases hs : sameE x y
        · rw [hs] at ci
          have hz : GR = false := by rw [HZ.out]; exact sameL_no (fun e => by have := (same_iff x y).2 (HAB.out e); rw [hs] at this; cases this)
          subst hz
          go_wp2_with fail
          go_region_law (first | (go_simp; go_at_call 12; (with_reducible refine ci.mono ?_); rintro e w2 ⟨rfl, hb3⟩))
          all_goals
            have hb4 : Below wa.heap.size wa w2 := via hb3 (hB.drew)
            clear hb3
            go_wp2
            go_ret
            exact ⟨rfl, via hb4 ba⟩
        · rw [hs] at ci
          have hxy := (same_iff x y).1 hs
          have HX := Lib.hid hxy
          clear hs hxy
          go_wp2_with fail
          go_region_law (first | (go_simp; go_at_call 12; (with_reducible refine ci.mono ?_); rintro e w2 ⟨rfl, hb3⟩))
          all_goals
            have hb4 : Below wa.heap.size wa w2 := via hb3 (hB.drew)
            clear hb3
            go_wp2
            go_roundw
            case rel => exact ⟨i + 1, by go_num, by omega, by rw [HTL.out, HTM.out, HE.out, HX.out], hb4⟩
            case measure => simp [intOf]; omega
      · have hi2 : i = kl := by omega
        subst hi2
        have hz : GR = true := by
          rw [HZ.out]; refine (sameL_iff kids mids).2 ?_
          have := HE.out
          rw [List.take_of_length_le (by omega), List.take_of_length_le (by omega)] at this; exact this
        subst hz
        go_wp2
        go_ret
        exact ⟨rfl, via hB ba⟩
end ExpW
end Go.Proofs.YtchceoclkdofhaaGreatDoor
