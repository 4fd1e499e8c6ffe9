/- The walk of MemRuns. Condition: an argument that can be. -/
import Derived.Test.YtfhnocelmpnjgaaMemZb
namespace Go.Proofs.Ytfhnocelmpnjgaa
open Go.RowKit
namespace MemW
open QuoW MemP Own
theorem own_more {w : World} {B B' : Nat} {v : Value} {l : List Vr} (h : OwnV w B v l) (hB : B' ≤ B) : OwnV w B' v l :=
  ⟨h.1, h.2.imp id (fun ⟨g, cap, cur, h1, h2, h3⟩ => ⟨g, cap, cur, h1, by omega, h3⟩)⟩
def Small60 (L : List Vr) : Prop := ∀ p ∈ L, p.1.size ≤ 60 ∧ p.2.size ≤ 60
theorem small_put {L : List Vr} {a u : ByteArray} (h : Small60 L) (ha : a.size ≤ 60) (hu : u.size ≤ 60) : Small60 (putV (dropV L a) a u) := by
  intro p hp
  rcases mem_put.1 hp with rfl | ⟨hp, _⟩
  · exact ⟨ha, hu⟩
  · exact h p hp
/-- How 'now' stands. -/
structure Now (w wr : World) (v : Value) (L : List Vr) : Prop where
  own : OwnV wr w.heap.size v L
  may : May L
  small : Small60 L
  bel : Below w.heap.size w wr
theorem Now.fit {w wr : World} {v : Value} {L : List Vr} (h : Now w wr v L) : FitV L := fun p hp => by have := h.small p hp; omega
theorem set_cases (L : List Vr) (a u : ByteArray) : ((setV L a u).2 ≠ 0 ∧ (setV L a u).1 = []) ∨ ((setV L a u).2 = 0 ∧ (setV L a u).1 = putV (dropV L a) a u ∧ nmB a = true ∧ u.size ≤ 32 ∧ (dropV L a).length ≠ 16) := by
  unfold setV
  split
  · left; exact ⟨by decide, rfl⟩
  · next h1 =>
    split
    · left; exact ⟨by decide, rfl⟩
    · split
      · left; exact ⟨by decide, rfl⟩
      · next h2 h3 =>
        right
        simp only [Bool.not_eq_true, Bool.not_eq_false', Bool.and_eq_true] at h1
        exact ⟨rfl, rfl, h1.2, by omega, h3⟩
set_option maxHeartbeats 3200000 in
set_option maxRecDepth 100000 in
theorem runs_c (A : Option Addr) (n c : Nat) (l : List Vr) (w : World) (hr : Vrs w w.heap.size A n l) (hn : n ≤ 9223372036854775807) (hf : FitW l) :
    Calls Try.prog 3 #[.slice A n c] w fun e w' => e = .returned (.bool true) ∧ Below w.heap.size w w' := by
  have hl := Vrs.len hr
  have cw := awake_c w
  by_cases h40 : 40 < n
  · have d : decide ((40 : Int) < (n : Int)) = true := by simp; omega
    go_enter Try.func3, Try.ntmps3
    go_wp2_with fail
    (with_reducible refine cw.mono ?_)
    rintro e w1 ⟨rfl, hb1⟩
    go_wp2
    go_ret
    exact ⟨rfl, hb1⟩
  have d : decide ((40 : Int) < (n : Int)) = false := by simp; omega
  obtain ⟨i0, hi0, hz0, hz1, hz2⟩ := info_parts info_V
  have HF := Lib.hid hf
  clear hf
  go_enter Try.func3, Try.ntmps3
  go_wp2_with fail
  (with_reducible refine cw.mono ?_)
  rintro e w1 ⟨rfl, hb1⟩
  clear cw
  have hN0 : Now w w1 (.slice none 0 0) [] := ⟨World.ownsRow_nil _ _ _ _, ⟨(fun p hp => by cases hp), List.Pairwise.nil, by simp⟩, (fun p hp => by cases hp), hb1⟩
  go_wp2
  clear d hb1
  go_loopw [22, 3] (fun iv nv wr => ∃ (k : Nat) (L : List Vr), iv = .int .i64 k ∧ k ≤ n ∧ Now w wr nv L) (fun iv _ _ => n - (intOf iv).toNat)
  case atStart => exact ⟨0, [], rfl, by omega, hN0⟩
  case round =>
    clear hN0
    obtain ⟨z0, rfl⟩ : ∃ z : World, z = wr := ⟨_, rfl⟩
    obtain ⟨k, L, rfl, hk, hN⟩ := hrel
    have hB := hN.bel
    have zB := hB.size
    by_cases hlt : k < n
    rotate_left
    · obtain rfl : k = n := by omega
      go_wp2
      go_ret
      exact ⟨rfl, hB⟩
    obtain ⟨g, o, ⟨a, u⟩, rfl, hg, hp, q1, q2⟩ := Vrs.get (hr.below hB) hlt
    have fm := HF.out _ (List.mem_of_getElem? hp)
    simp only at q1 q2 fm
    clear hp
    by_cases ha : 60 < a.size
    · have d1 : decide ((60 : Int) < (a.size : Int)) = true := by simp; omega
      go_wp2
      go_ret
      exact ⟨rfl, by go_grown⟩
    have d1 : decide ((60 : Int) < (a.size : Int)) = false := by simp; omega
    by_cases hu : 60 < u.size
    · have d2 : decide ((60 : Int) < (u.size : Int)) = true := by simp; omega
      go_wp2
      go_ret
      exact ⟨rfl, by go_grown⟩
    have d2 : decide ((60 : Int) < (u.size : Int)) = false := by simp; omega
    have NN := Lib.hid hN
    have hLl := hN.may.len
    obtain ⟨A1, c1, rfl, R1⟩ := own_vrs hN.own
    obtain ⟨m, hm⟩ : ∃ m, L.length = m := ⟨_, rfl⟩
    have HM := Lib.hid hm
    have HO := Lib.hid hN.own
    rw [hm] at R1 hLl ⊢
    -- the block of v, and the copy
    obtain ⟨z1, hz1'⟩ : ∃ z : World, z = z0.alloc (.cells #[.string a, .string u] 25) := ⟨_, rfl⟩
    have hX : Blk z1 z0.heap.size 25 #[.string a, .string u] := by rw [hz1']; exact Blk.new _ _ _
    have hbz1 : Below z0.heap.size z0 z1 := by rw [hz1']; exact (Below.refl _ _).alloc (Nat.le_refl _) _
    have hz1s : z1.heap.size = z0.heap.size + 1 := by rw [hz1', World.size_alloc]
    have hO1 := Own.next hN.own hbz1
    rw [hm] at hO1
    clear hN hm
    have hnil : A1 = none ∨ ∃ g1, A1 = some ⟨g1, 0, none⟩ := by
      rcases HO.out.2 with ⟨e, _⟩ | ⟨g, cap, cur, e, _⟩
      · injection e with e; exact Or.inl e
      · injection e with e; exact Or.inr ⟨g, e⟩
    rcases hnil with rfl | ⟨g1, rfl⟩
    · have hm0 : m = 0 ∧ c1 = 0 := by
        rcases HO.out.2 with ⟨e, _⟩ | ⟨g, cap, cur, e, _⟩
        · injection e with _ e1 e2; have := HM.out; omega
        · cases e
      obtain ⟨e1, e2⟩ := hm0
      have hL0 : L = [] := List.eq_nil_of_length_eq_zero (by rw [HM.out]; exact e1)
      obtain ⟨w2, hw2⟩ : ∃ z : World, z = (z0.alloc (.cells #[.string a, .string u] 25)).alloc (.cells #[] 25) := ⟨_, rfl⟩
      have hb12 : Below z1.heap.size z1 w2 := by rw [hw2, ← hz1']; exact (Below.refl _ _).alloc (Nat.le_refl _) _
      obtain ⟨wv, hwv⟩ : ∃ v : Value, v = .slice (some ⟨z0.heap.size + 1, 0, none⟩) 0 0 := ⟨_, rfl⟩
      have hWw : OwnV w2 z0.heap.size wv L := by
        have := World.ownsRow_made (base := z0.heap.size) (e := 25) (size := 2) (z0.alloc (.cells #[.string a, .string u] 25)) #[] 0 (by rw [World.size_alloc]; omega) (Nat.zero_le _) (by simp)
        rw [World.size_alloc] at this
        rw [hL0, hwv, hw2]; exact this
      subst e1; subst e2
      clear hL0
      go_wp2_with fail
      rw [← hw2, ← hwv]
      clear hw2 hwv hz1'
      have hX2 := hX.next hb12
      have hb02 : Below z0.heap.size z0 w2 := hbz1.trans (hb12.mono (by omega))
      have hB2 := hB.trans (hb02.mono zB)
      have cst := set_c none 0 0 L a u w2 (Rd.more (R1.below hb02) hb02.size) NN.out.fit (by omega) (by omega) (by omega)
      clear R1
      (with_reducible refine cst.mono ?_)
      rintro e w3 ⟨sv, rfl, hown3, hb3⟩
      have hb03 := hb02.trans (hb3.mono hb02.size)
      have hB3 := hB.trans (hb03.mono zB)
      have hX3 := hX2.next hb3
      have hw3 := Own.next hWw hb3
      have hn3 := Own.next HO.out hb03
      obtain ⟨A3, k3, rfl, r3⟩ := own_vrs hw3
      rw [HM.out] at r3 ⊢
      obtain ⟨A4, k4, e4, r4⟩ := own_vrs hn3
      rw [HM.out] at e4 r4
      injection e4 with e4 _ e5
      subst e4; subst e5
      have cs := same_c none A3 0 0 0 k3 L L w3 w3.heap.size r4 r3 (by omega) (by omega)
      rw [show decide (L = L) = true by simp] at cs
      clear cst hn3 hw3 hWw
      rcases set_cases L a u with ⟨g1', g2'⟩ | ⟨g1', g2', g3', g4', g5'⟩
      · -- an error: nothing comes back
        have hsv : sv = .slice none 0 0 ∨ ∃ g cap, sv = .slice (some ⟨g, 0, none⟩) 0 cap := by
          rw [g2'] at hown3
          rcases hown3.2 with ⟨h, _⟩ | ⟨g, cap, _, h, _⟩
          · exact Or.inl h
          · exact Or.inr ⟨g, cap, h⟩
        generalize (setV L a u).2 = E at *
        have dE : ((E : Int) == 0) = false := by rw [beq_eq_false_iff_ne]; omega
        have dE2 : ((E : Int) != 0) = true := by simp [bne, dE]
        clear hown3 r3 r4 hX hX2 hX3
        have hnow : ∀ w4, Below w3.heap.size w3 w4 → Now w w4 (.slice none 0 0) L := fun w4 hb4 =>
          ⟨(by
            have h := Own.next HO.out (hb03.trans (hb4.mono hb03.size))
            have e : Value.slice none L.length 0 = Value.slice none 0 0 := by rw [HM.out]
            rw [e] at h
            exact h), NN.out.may, NN.out.small, hB3.trans (hb4.mono hB3.size) ⟩
        have HNOW := Lib.hid hnow
        clear hnow
        rcases hsv with rfl | ⟨g', cap', rfl⟩
        all_goals
          go_wp2_with fail
          (with_reducible refine cs.mono ?_)
          rintro e w4 ⟨rfl, hb4⟩
          have HN4 := Lib.hid (HNOW.out w4 hb4)
          go_wp2
          go_roundw
          case rel => exact ⟨k + 1, L, by go_num, by omega, HN4.out⟩
          case measure => simp [intOf]; omega
      · rw [g1']
        rw [g2'] at hown3
        have hmy := may_put NN.out.may g3' g4' g5'
        have hsm : Small60 (putV (dropV L a) a u) := small_put NN.out.small (by omega) (by omega)
        have hgt := get_put L a u
        have hot := fun p (hp : p ∈ L) (hne : p.1 ≠ a) => get_other (n := a) (v := u) NN.out.may.asc hp hne
        generalize putV (dropV L a) a u = N at *
        obtain ⟨A5, k5, rfl, r5⟩ := own_vrs hown3
        obtain ⟨m5, hm5⟩ : ∃ m5, N.length = m5 := ⟨_, rfl⟩
        have hN16 := hmy.len
        rw [hm5] at r5 hN16 ⊢
        have HOT := Lib.hid hot
        have HGT := Lib.hid hgt
        have HMY := Lib.hid hmy
        have HSM := Lib.hid hsm
        have HO3 := Lib.hid hown3
        have HM5 := Lib.hid hm5
        clear hot hgt hmy hsm hown3 g1' g2' g3' g4' g5' hm5 r4
        go_wp2_with fail
        (with_reducible refine cs.mono ?_)
        rintro e w4 ⟨rfl, hb4⟩
        have hB4 := hB3.trans (hb4.mono hB3.size)
        have r34 := r3.below hb4
        have r54 := r5.below hb4
        have hX4 := hX3.next hb4
        clear cs r3 r5 hX hX2 hX3
        go_wp2
        go_loopw [59] (fun jv wr => ∃ j : Nat, jv = .int .i64 j ∧ j ≤ 0 ∧ Below w4.heap.size w4 wr) (fun jv _ => 0 - (intOf jv).toNat)
        case atStart => exact ⟨0, rfl, by omega, Below.refl _ _⟩
        case round =>
          obtain ⟨y0, rfl⟩ : ∃ z : World, z = wr := ⟨_, rfl⟩
          obtain ⟨j, rfl, hj, hby⟩ := hrel
          have zy := hby.size
          have hXy := hX4.next hby
          have x0 := hXy.cell 0
          have x1 := hXy.cell 1
          simp only [List.getElem?_toArray, List.getElem?_cons_zero, List.getElem?_cons_succ] at x0 x1
          have hxl := hXy.lt
          by_cases hjm : j < 0
          · exact absurd hjm (Nat.not_lt_zero _)
          · have r5y := r54.below (hby.mono hb4.size)
            have cg := get_c A5 m5 k5 N a y0 (Rd.more r5y (by have := hb4.size; omega)) (by omega)
            unfold GetPost at cg
            rw [HGT.out] at cg
            go_wp2_with fail
            refine cg.mono ?_
            rintro e y2 ⟨rfl, hb2y⟩
            have hX2y := hXy.next hb2y
            have t1 := hX2y.cell 1
            simp only [List.getElem?_toArray, List.getElem?_cons_zero, List.getElem?_cons_succ] at t1
            have hb42 := hby.trans (hb2y.mono zy)
            have ee : (u.toList != u.toList) = false := by simp
            have cm := rmay_c A5 m5 k5 N y2 (Rd.more (r5y.below (hb2y.mono (by have := hb4.size; omega))) (by have := hb42.size; have := hb4.size; omega)) (fun p hp => by have := HSM.out p hp; omega) (by omega)
            rw [(may_iff N).2 HMY.out] at cm
            clear cg x0 x1
            go_wp2_with fail
            refine cm.mono ?_
            rintro e y3 ⟨rfl, hb3y⟩
            have hb43 := hb42.trans (hb3y.mono hb42.size)
            have hN5 : Now w y3 (.slice A5 m5 k5) N := by
              have h35 : Below w3.heap.size w3 y3 := hb4.trans (hb43.mono hb4.size)
              have h1 := Own.next HO3.out h35
              have e5 : Value.slice A5 N.length k5 = Value.slice A5 m5 k5 := by rw [HM5.out]
              rw [e5] at h1
              exact ⟨own_more h1 hB2.size, HMY.out, HSM.out, hB3.trans (h35.mono hB3.size)⟩
            have HN5 := Lib.hid hN5
            clear hN5 cm
            go_wp2
            go_roundw
            case rel => exact ⟨k + 1, N, by go_num, by omega, HN5.out⟩
            case measure => simp [intOf]; omega
    · have hcell : ∀ j v, (vcs L)[j]? = some v → z1.cell? ⟨g1, 0 + j, none⟩ = some v := by
        intro j v hv
        rcases Nat.eq_zero_or_pos m with h | h
        · have h2 := HM.out; rw [h] at h2; rw [List.eq_nil_of_length_eq_zero h2] at hv; cases hv
        · obtain ⟨ad, e, hlt2, h'⟩ := R1.2 h
          cases e
          have := h' j v hv
          rw [Nat.zero_add]
          rw [cell_lit] at this
          exact (hbz1.cell (p := ⟨g1, j, none⟩) hlt2).trans this
      have HC := Lib.hid hcell
      clear hcell
      have hE : ((z0.alloc (.cells #[.string a, .string u] 25)).alloc (.cells #[] 25)).ownsRow z0.heap.size 25 2 (.slice (some ⟨z0.heap.size + 1, 0, none⟩) 0 0) 0 [] := by
        have := World.ownsRow_made (base := z0.heap.size) (e := 25) (size := 2) (z0.alloc (.cells #[.string a, .string u] 25)) #[] 0 (by rw [World.size_alloc]; omega) (Nat.zero_le _) (by simp)
        rwa [World.size_alloc] at this
      go_wp2_with (at_builtin; refine wpList_append_own _ rfl _ _ 22 rfl z0.heap.size 25 i0 (.agg #[.string ⟨#[]⟩, .string ⟨#[]⟩]) 2 32 Try.underlying22 hi0 hz0 hz1 hz2 rfl (by decide) _ 0 [] rfl hE ⟨g1, 0, none⟩ m c1 (vcs L) rfl (by rw [vcs_len, HM.out]) (by intro j v hj; rw [cell_lit]; have := HC.out j v hj; rw [Nat.zero_add, hz1'] at this; exact Lib.cell?_alloc_some _ this) vcs_one (by unfold maxLen; omega) (by omega) (by rw [World.size_alloc, World.size_alloc]; omega) ?_)
      intro wv w2 hW hgrow _
      rw [← hz1'] at hgrow
      have hb12 : Below z1.heap.size z1 w2 := ((Below.refl _ z1).alloc (Nat.le_refl _) _).grown hgrow (by rw [World.size_alloc]; omega) (by intro j hj; simp [Value.ownBlock] at hj; omega)
      have hWw : OwnV w2 z0.heap.size wv L := by unfold OwnV; rw [HM.out]; exact hW
      have x0 := (hX.next hb12).cell 0
      have x1 := (hX.next hb12).cell 1
      simp only [List.getElem?_toArray, List.getElem?_cons_zero, List.getElem?_cons_succ] at x0 x1
      clear hW hgrow hz1' HC hE
      go_wp2_with fail
      clear x0 x1
      have hX2 := hX.next hb12
      have hb02 : Below z0.heap.size z0 w2 := hbz1.trans (hb12.mono (by omega))
      have hB2 := hB.trans (hb02.mono zB)
      have cst := set_c (some ⟨g1, 0, none⟩) m c1 L a u w2 (Rd.more (R1.below hb02) hb02.size) NN.out.fit (by omega) (by omega) (by omega)
      clear R1
      (with_reducible refine cst.mono ?_)
      rintro e w3 ⟨sv, rfl, hown3, hb3⟩
      have hb03 := hb02.trans (hb3.mono hb02.size)
      have hB3 := hB.trans (hb03.mono zB)
      have hX3 := hX2.next hb3
      have hw3 := Own.next hWw hb3
      have hn3 := Own.next HO.out hb03
      obtain ⟨A3, k3, rfl, r3⟩ := own_vrs hw3
      rw [HM.out] at r3 ⊢
      obtain ⟨A4, k4, e4, r4⟩ := own_vrs hn3
      rw [HM.out] at e4 r4
      injection e4 with e4 _ e5
      subst e4; subst e5
      have cs := same_c (some ⟨g1, 0, none⟩) A3 m c1 m k3 L L w3 w3.heap.size r4 r3 (by omega) (by omega)
      rw [show decide (L = L) = true by simp] at cs
      clear cst hn3 hw3 hWw
      rcases set_cases L a u with ⟨g1', g2'⟩ | ⟨g1', g2', g3', g4', g5'⟩
      · -- an error: nothing comes back
        have hsv : sv = .slice none 0 0 ∨ ∃ g cap, sv = .slice (some ⟨g, 0, none⟩) 0 cap := by
          rw [g2'] at hown3
          rcases hown3.2 with ⟨h, _⟩ | ⟨g, cap, _, h, _⟩
          · exact Or.inl h
          · exact Or.inr ⟨g, cap, h⟩
        generalize (setV L a u).2 = E at *
        have dE : ((E : Int) == 0) = false := by rw [beq_eq_false_iff_ne]; omega
        have dE2 : ((E : Int) != 0) = true := by simp [bne, dE]
        clear hown3 r3 r4 hX hX2 hX3
        have hnow : ∀ w4, Below w3.heap.size w3 w4 → Now w w4 (.slice (some ⟨g1, 0, none⟩) m c1) L := fun w4 hb4 =>
          ⟨(by
            have h := Own.next HO.out (hb03.trans (hb4.mono hb03.size))
            have e : Value.slice (some ⟨g1, 0, none⟩) L.length c1 = Value.slice (some ⟨g1, 0, none⟩) m c1 := by rw [HM.out]
            rw [e] at h
            exact h), NN.out.may, NN.out.small, hB3.trans (hb4.mono hB3.size) ⟩
        have HNOW := Lib.hid hnow
        clear hnow
        rcases hsv with rfl | ⟨g', cap', rfl⟩
        all_goals
          go_wp2_with fail
          (with_reducible refine cs.mono ?_)
          rintro e w4 ⟨rfl, hb4⟩
          have HN4 := Lib.hid (HNOW.out w4 hb4)
          go_wp2
          go_roundw
          case rel => exact ⟨k + 1, L, by go_num, by omega, HN4.out⟩
          case measure => simp [intOf]; omega
      · rw [g1']
        rw [g2'] at hown3
        have hmy := may_put NN.out.may g3' g4' g5'
        have hsm : Small60 (putV (dropV L a) a u) := small_put NN.out.small (by omega) (by omega)
        have hgt := get_put L a u
        have hot := fun p (hp : p ∈ L) (hne : p.1 ≠ a) => get_other (n := a) (v := u) NN.out.may.asc hp hne
        generalize putV (dropV L a) a u = N at *
        obtain ⟨A5, k5, rfl, r5⟩ := own_vrs hown3
        obtain ⟨m5, hm5⟩ : ∃ m5, N.length = m5 := ⟨_, rfl⟩
        have hN16 := hmy.len
        rw [hm5] at r5 hN16 ⊢
        have HOT := Lib.hid hot
        have HGT := Lib.hid hgt
        have HMY := Lib.hid hmy
        have HSM := Lib.hid hsm
        have HO3 := Lib.hid hown3
        have HM5 := Lib.hid hm5
        clear hot hgt hmy hsm hown3 g1' g2' g3' g4' g5' hm5 r4
        go_wp2_with fail
        (with_reducible refine cs.mono ?_)
        rintro e w4 ⟨rfl, hb4⟩
        have hB4 := hB3.trans (hb4.mono hB3.size)
        have r34 := r3.below hb4
        have r54 := r5.below hb4
        have hX4 := hX3.next hb4
        clear cs r3 r5 hX hX2 hX3
        go_wp2
        go_loopw [59] (fun jv wr => ∃ j : Nat, jv = .int .i64 j ∧ j ≤ m ∧ Below w4.heap.size w4 wr) (fun jv _ => m - (intOf jv).toNat)
        case atStart => exact ⟨0, rfl, by omega, Below.refl _ _⟩
        case round =>
          obtain ⟨y0, rfl⟩ : ∃ z : World, z = wr := ⟨_, rfl⟩
          obtain ⟨j, rfl, hj, hby⟩ := hrel
          have zy := hby.size
          have hXy := hX4.next hby
          have x0 := hXy.cell 0
          have x1 := hXy.cell 1
          simp only [List.getElem?_toArray, List.getElem?_cons_zero, List.getElem?_cons_succ] at x0 x1
          have hxl := hXy.lt
          by_cases hjm : j < m
          · obtain ⟨gx, ox, ⟨xa, xu⟩, rfl, hgx, hpx, p1, p2⟩ := Vrs.get (r34.below (hby.mono hb4.size)) hjm
            simp only at p1 p2
            obtain ⟨y1, hy1⟩ : ∃ z : World, z = y0.alloc (.cells #[.string xa, .string xu] 25) := ⟨_, rfl⟩
            have hbY : Below y0.heap.size y0 y1 := by rw [hy1]; exact (Below.refl _ _).alloc (Nat.le_refl _) _
            have hY : Blk y1 y0.heap.size 25 #[.string xa, .string xu] := by rw [hy1]; exact Blk.new _ _ _
            have hb41 := hby.trans (hbY.mono zy)
            have cg := get_c A5 m5 k5 N xa y1 (Rd.more (r54.below (hb41.mono hb4.size)) (by have := hb41.size; have := hb4.size; omega)) (by omega)
            unfold GetPost at cg
            have hpm := List.mem_of_getElem? hpx
            clear hpx
            go_wp2_with fail
            rw [← hy1]
            refine cg.mono ?_
            rintro e y2 ⟨rfl, hb2y⟩
            have hb42 := hb41.trans (hb2y.mono hb41.size)
            have hY2 := hY.next hb2y
            have hX2y := (hXy.next hbY).next hb2y
            have v0 := hY2.cell 0
            have v1 := hY2.cell 1
            have t0 := hX2y.cell 0
            simp only [List.getElem?_toArray, List.getElem?_cons_zero, List.getElem?_cons_succ] at v0 v1 t0
            clear cg hy1 x0 x1
            cases he : (xa.toList == a.toList)
            · have hne : (xa.toList != a.toList) = true := by simp [bne, he]
              have hg := HOT.out _ hpm ((MemP.eq_false xa a).1 he)
              simp only at hg
              rw [hg]
              have ee : (xu.toList != xu.toList) = false := by simp
              clear hg hpm
              go_wp2
              go_roundw
              case rel => exact ⟨j + 1, by go_num, by omega, hb42⟩
              case measure => simp [intOf]; omega
            · have hne : (xa.toList != a.toList) = false := by simp [bne, he]
              clear hpm
              go_wp2
              go_roundw
              case rel => exact ⟨j + 1, by go_num, by omega, hb42⟩
              case measure => simp [intOf]; omega
          · have r5y := r54.below (hby.mono hb4.size)
            have cg := get_c A5 m5 k5 N a y0 (Rd.more r5y (by have := hb4.size; omega)) (by omega)
            unfold GetPost at cg
            rw [HGT.out] at cg
            go_wp2_with fail
            refine cg.mono ?_
            rintro e y2 ⟨rfl, hb2y⟩
            have hX2y := hXy.next hb2y
            have t1 := hX2y.cell 1
            simp only [List.getElem?_toArray, List.getElem?_cons_zero, List.getElem?_cons_succ] at t1
            have hb42 := hby.trans (hb2y.mono zy)
            have ee : (u.toList != u.toList) = false := by simp
            have cm := rmay_c A5 m5 k5 N y2 (Rd.more (r5y.below (hb2y.mono (by have := hb4.size; omega))) (by have := hb42.size; have := hb4.size; omega)) (fun p hp => by have := HSM.out p hp; omega) (by omega)
            rw [(may_iff N).2 HMY.out] at cm
            clear cg x0 x1
            go_wp2_with fail
            refine cm.mono ?_
            rintro e y3 ⟨rfl, hb3y⟩
            have hb43 := hb42.trans (hb3y.mono hb42.size)
            have hN5 : Now w y3 (.slice A5 m5 k5) N := by
              have h35 : Below w3.heap.size w3 y3 := hb4.trans (hb43.mono hb4.size)
              have h1 := Own.next HO3.out h35
              have e5 : Value.slice A5 N.length k5 = Value.slice A5 m5 k5 := by rw [HM5.out]
              rw [e5] at h1
              exact ⟨own_more h1 hB2.size, HMY.out, HSM.out, hB3.trans (h35.mono hB3.size)⟩
            have HN5 := Lib.hid hN5
            clear hN5 cm
            go_wp2
            go_roundw
            case rel => exact ⟨k + 1, N, by go_num, by omega, HN5.out⟩
            case measure => simp [intOf]; omega
end MemW
end Go.Proofs.Ytfhnocelmpnjgaa
