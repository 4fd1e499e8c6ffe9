/- The walk of the reference's Same of sides. Conditions: lists that fit. -/
import Derived.Test.YtfkjogkpdebepaaStaE
namespace Go.Proofs.Ytfkjogkpdebepaa
open Go.RowKit
namespace StaE
open StaP StaL StaW StaG StaX StaZ
theorem bz_inj {a b : Bs} (h : (bz a).toList = (bz b).toList) : a = b := by
  rw [Lib.toList_data, Lib.toList_data, bz_list, bz_list] at h; exact h
theorem bz_ne {a b : Bs} (h : a ≠ b) : ((bz a).toList == (bz b).toList) = false := by
  rw [beq_eq_false_iff_ne]; exact fun e => h (bz_inj e)
theorem tx_get {w : World} {B n k : Nat} {A : Option Addr} {l : List Bs} (h : Rd w B 1 A n (strs l)) (hk : k < n) : ∃ g o p, A = some ⟨g, o, none⟩ ∧ g < B ∧ l[k]? = some p ∧ w.cell? ⟨g, o + k, none⟩ = some (.string (bz p)) := by
  obtain ⟨g, o, e, hb, hc⟩ := Rd.flat h (by omega) (by omega)
  have hl := h.1
  rw [List.length_map] at hl
  have hp : l[k]? = some (l[k]'(by omega)) := List.getElem?_eq_getElem (by omega)
  exact ⟨g, o, _, e, hb, hp, hc _ _ (by rw [strs, List.getElem?_map, hp]; rfl)⟩
set_option maxHeartbeats 12800000 in
set_option maxRecDepth 100000 in
theorem sameside_c (sd sd' : Sd) (m m' : MSd) (w : World) (B : Nat) (h : SdR w B sd m) (h' : SdR w B sd' m') (hB : B ≤ w.heap.size) :
    Calls Try.prog 41 #[sd.v, sd'.v] w fun e w' => (∃ r, e = .returned (.bool r) ∧ (r = true ↔ m = m')) ∧ Below w.heap.size w w' := by
  obtain ⟨la, lc, ga, gc, rfl, hla, hga, _, m7, mp, mk, mt, ⟨ml, _⟩, mf, ⟨ma, _⟩, mr, mu⟩ := h
  obtain ⟨la', lc', ga', gc', rfl, hla', hga', _, m7', mp', mk', mt', ⟨ml', _⟩, mf', ⟨ma', _⟩, mr', mu'⟩ := h'
  obtain ⟨fl, p, q, ty, ls, fy, ag, re, bu⟩ := m
  obtain ⟨fl', p', q', ty', ls', fy', ag', re', bu'⟩ := m'
  simp only at *
  have h1 := fl_back fl m7
  have h2 := fl_back fl' m7'
  simp only [mkSd, Sd.v]
  obtain ⟨A, hA⟩ : ∃ x, b0 fl = x := ⟨_, rfl⟩
  obtain ⟨Bq, hB⟩ : ∃ x, b1 fl = x := ⟨_, rfl⟩
  obtain ⟨C, hC⟩ : ∃ x, b2 fl = x := ⟨_, rfl⟩
  obtain ⟨A', hA'⟩ : ∃ x, b0 fl' = x := ⟨_, rfl⟩
  obtain ⟨Bq', hB'⟩ : ∃ x, b1 fl' = x := ⟨_, rfl⟩
  obtain ⟨C', hC'⟩ : ∃ x, b2 fl' = x := ⟨_, rfl⟩
  rw [hA, hB, hC] at h1
  rw [hA', hB', hC'] at h2
  rw [hA, hB, hC, hA', hB', hC']
  have H1 := Lib.hid h1
  have H2 := Lib.hid h2
  have HA := Lib.hid hA
  have HA' := Lib.hid hA'
  have HB := Lib.hid hB
  have HB' := Lib.hid hB'
  have HC := Lib.hid hC
  have HC' := Lib.hid hC'
  clear h1 h2 hA hB hC hA' hB' hC'
  have EQ : Hid ((fl, p, q, ty, ls, fy, ag, re, bu) = (fl', p', q', ty', ls', fy', ag', re', bu') → A = A' ∧ Bq = Bq' ∧ C = C' ∧ p = p' ∧ q = q' ∧ (bz ty).toList = (bz ty').toList ∧ (bz fy).toList = (bz fy').toList ∧ (bz re).toList = (bz re').toList ∧ (bz bu).toList = (bz bu').toList ∧ (ls.length : Int) = ls'.length ∧ (ag.length : Int) = ag'.length) := Lib.hid (fun e => by
    simp only [Prod.mk.injEq] at e
    obtain ⟨e1, e2, e3, e4, e5, e6, e7, e8, e9⟩ := e
    subst e1 e2 e3 e4 e5 e6 e7 e8 e9
    exact ⟨by rw [← HA.out, ← HA'.out], by rw [← HB.out, ← HB'.out], by rw [← HC.out, ← HC'.out], rfl, rfl, rfl, rfl, rfl, rfl, rfl, rfl⟩)
  go_enter Try.func41, Try.ntmps41
  go_wp2
  all_goals first
    | (go_ret; exact ⟨⟨false, rfl, fun h => (by cases h), fun e => (by obtain ⟨e1, e2, e3, e4, e5, e6, e7, e8, e9, e10, e11⟩ := EQ.out e; first | contradiction | (exfalso; simp_all))⟩, by go_grown⟩)
    | skip
  have g1 : A = A' := by assumption
  have g2 : Bq = Bq' := by assumption
  have g3 : C = C' := by assumption
  have g4 : p = p' := by assumption
  have g5 : q = q' := by assumption
  have g6 : (bz ty).toList = (bz ty').toList := by assumption
  have g7 : (bz fy).toList = (bz fy').toList := by assumption
  have g8 : (bz re).toList = (bz re').toList := by assumption
  have g9 : (bz bu).toList = (bz bu').toList := by assumption
  have g10 : (ls.length : Int) = (ls'.length : Int) := by assumption
  have g11 : ((ag.length : Int) != (ag'.length : Int)) = false := by assumption
  subst g1
  subst g2
  subst g3
  subst g4
  subst g5
  replace g6 := bz_inj g6
  replace g7 := bz_inj g7
  replace g8 := bz_inj g8
  replace g9 := bz_inj g9
  subst g6
  subst g7
  subst g8
  subst g9
  have hll : ls.length = ls'.length := by omega
  have hal : ag.length = ag'.length := by simp at g11; omega
  have hfl : fl = fl' := by rw [← H1.out, ← H2.out]
  subst hfl
  clear g10 g11 EQ H1 H2 HA HB HC HA' HB' HC'
  have key : ∀ r : Bool, (r = true ↔ (ls = ls' ∧ ag = ag')) → (r = true ↔ (fl, p, q, ty, ls, fy, ag, re, bu) = (fl, p, q, ty, ls', fy, ag', re, bu)) := fun r h => by
    rw [h]; simp
  have KEY := Lib.hid key
  clear key
  obtain ⟨W0, hW0⟩ : ∃ x, (w.alloc (.cells #[.bool A, .bool Bq, .bool C, .int .i64 p, .int .i64 q, .string (bz ty), .slice la ls.length lc, .string (bz fy), .slice ga ag.length gc, .string (bz re), .string (bz bu)] 48)).alloc (.cells #[.bool A, .bool Bq, .bool C, .int .i64 p, .int .i64 q, .string (bz ty), .slice la' ls'.length lc', .string (bz fy), .slice ga' ag'.length gc', .string (bz re), .string (bz bu)] 48) = x := ⟨_, rfl⟩
  have hb0 : Below w.heap.size w W0 := by rw [← hW0]; go_grown
  have k1 : Blk W0 w.heap.size 48 #[.bool A, .bool Bq, .bool C, .int .i64 p, .int .i64 q, .string (bz ty), .slice la ls.length lc, .string (bz fy), .slice ga ag.length gc, .string (bz re), .string (bz bu)] := by rw [← hW0]; exact (Blk.new _ _ _).alloc _
  have k2 : Blk W0 (w.heap.size + 1) 48 #[.bool A, .bool Bq, .bool C, .int .i64 p, .int .i64 q, .string (bz ty), .slice la' ls'.length lc', .string (bz fy), .slice ga' ag'.length gc', .string (bz re), .string (bz bu)] := by rw [← hW0]; exact Blk.new1 _ _ _ _
  have c6 := k1.cell 6
  have c8 := k1.cell 8
  have d6 := k2.cell 6
  have d8 := k2.cell 8
  simp only [List.getElem?_toArray, List.getElem?_cons_zero, List.getElem?_cons_succ] at c6 c8 d6 d8
  rw [hW0]
  replace hla := hla.below (hb0.mono hB)
  replace hla' := hla'.below (hb0.mono hB)
  replace hga := hga.below (hb0.mono hB)
  replace hga' := hga'.below (hb0.mono hB)
  clear hW0 k1 k2
  rw [← hll] at hla' d6
  rw [← hal] at hga' d8
  have HLL := Lib.hid hll
  have HAL := Lib.hid hal
  clear hll hal
  go_wp2_with fail
  go_loopw [5] (fun v wr => ∃ k q : Nat, v = .int .i64 k ∧ k ≤ ls.length ∧ Hid (ls.take k = ls'.take k) ∧ wr = W0.drewN q) (fun v _ => ls.length - (intOf v).toNat)
  case atStart => exact ⟨0, 0, rfl, by omega, Lib.hid rfl, rfl⟩
  case round =>
    obtain ⟨k, dq, rfl, hk, HK, rfl⟩ := hrel
    by_cases hlt : k < ls.length
    · have dk : decide ((k : Int) < (ls.length : Int)) = true := by simp; omega
      obtain ⟨g, o, x, rfl, _, hx, hc⟩ := tx_get hla hlt
      obtain ⟨g', o', x', rfl, _, hx', hc'⟩ := tx_get hla' hlt
      have HX := Lib.hid hx
      have HX' := Lib.hid hx'
      clear hx hx'
      by_cases hxx : x = x'
      rotate_left
      · have e1 := bz_ne hxx
        have e2 : ((bz x).toList != (bz x').toList) = true := by simp [bne, e1]
        have NE : Hid (¬ (ls = ls' ∧ ag = ag')) := Lib.hid (fun e => by have := HX.out; rw [e.1, HX'.out] at this; injection this with this; exact hxx this.symm)
        go_wp2_with fail
        go_quiet (fail)
        go_wp2
        go_ret
        exact ⟨⟨false, rfl, KEY.out false ⟨fun h => (by cases h), fun e => absurd e NE.out⟩⟩, hb0.trans (below_dn (below_dn (Below.refl _ _) _) _)⟩
      · subst hxx
        have TK : Hid (ls.take (k + 1) = ls'.take (k + 1)) := Lib.hid (by rw [List.take_add_one, List.take_add_one, HK.out, HX.out, HX'.out])
        go_wp2_with fail
        go_quiet (fail)
        go_wp2
        go_roundw
        case rel => exact ⟨k + 1, dq + nq, by go_num, by omega, TK, by first | rfl | simp⟩
        case measure => simp [intOf] <;> omega
    have dk : decide ((k : Int) < (ls.length : Int)) = false := by simp; omega
    have hls : Hid (ls = ls') := Lib.hid (by
      have ha := HK.out
      have hll := HLL.out
      rw [List.take_of_length_le (by omega), List.take_of_length_le (by omega)] at ha
      exact ha)
    go_wp2_with fail
    go_loopw [6] (fun v wr => ∃ k q : Nat, v = .int .i64 k ∧ k ≤ ag.length ∧ Hid (ag.take k = ag'.take k) ∧ wr = W0.drewN q) (fun v _ => ag.length - (intOf v).toNat)
    case atStart => exact ⟨0, dq, rfl, by omega, Lib.hid rfl, rfl⟩
    case round =>
      obtain ⟨j, eq, rfl, hj, HJ, rfl⟩ := hrel
      by_cases hlt : j < ag.length
      · have dj : decide ((j : Int) < (ag.length : Int)) = true := by simp; omega
        obtain ⟨g, o, x, rfl, _, hx, hc⟩ := in_get hga hlt
        obtain ⟨g', o', x', rfl, _, hx', hc'⟩ := in_get hga' hlt
        have HX := Lib.hid hx
        have HX' := Lib.hid hx'
        clear hx hx'
        by_cases hxx : x = x'
        rotate_left
        · have e1 : (x == x') = false := by rw [beq_eq_false_iff_ne]; exact hxx
          have e2 : (x != x') = true := by simp [bne, e1]
          have NE : Hid (¬ (ls = ls' ∧ ag = ag')) := Lib.hid (fun e => by have := HX.out; rw [e.2, HX'.out] at this; injection this with this; exact hxx this.symm)
          go_wp2_with fail
          go_quiet (fail)
          go_wp2
          go_ret
          exact ⟨⟨false, rfl, KEY.out false ⟨fun h => (by cases h), fun e => absurd e NE.out⟩⟩, hb0.trans (below_dn (below_dn (Below.refl _ _) _) _)⟩
        · subst hxx
          have TK : Hid (ag.take (j + 1) = ag'.take (j + 1)) := Lib.hid (by rw [List.take_add_one, List.take_add_one, HJ.out, HX.out, HX'.out])
          go_wp2_with fail
          go_quiet (fail)
          go_wp2
          go_roundw
          case rel => exact ⟨j + 1, eq + nq, by go_num, by omega, TK, by first | rfl | simp⟩
          case measure => simp [intOf] <;> omega
      have dj : decide ((j : Int) < (ag.length : Int)) = false := by simp; omega
      have hag : Hid (ag = ag') := Lib.hid (by
        have ha := HJ.out
        have hal := HAL.out
        rw [List.take_of_length_le (by omega), List.take_of_length_le (by omega)] at ha
        exact ha)
      go_wp2
      go_ret
      exact ⟨⟨true, rfl, KEY.out true ⟨fun _ => ⟨hls.out, hag.out⟩, fun _ => rfl⟩⟩, hb0.trans (below_dn (Below.refl _ _) _)⟩
end StaE
end Go.Proofs.Ytfkjogkpdebepaa
