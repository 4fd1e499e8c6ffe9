/- What may be reached: the walk of the reference's search. Condition: codes that are small. -/
import Derived.Test.YtdgonjncoggfeaaFloQ
namespace Go.Proofs.Ytdgonjncoggfeaa
set_option linter.unusedVariables false
set_option linter.unusedSimpArgs false
open Go.RowKit
namespace FloW
open FloP
def ReachR (I : List In) (W : List Wt) (w : World) (e : Ending) (w' : World) : Prop := ∃ (v : Value) (L : List Int), e = .returned v ∧ RdL w' v L ∧ Inc L ∧ (∀ i, i ∈ L ↔ Rch I W i) ∧ Below w.heap.size w w'
set_option maxHeartbeats 12800000 in
set_option maxRecDepth 100000 in
theorem rreach_c (A A' : Option Addr) (n c n' c' : Nat) (xs : List Ix) (ws : List Wx) (w : World) (h : Cd w w.heap.size A n A' n' xs ws) (hs : Sm n n' xs) :
    Calls Try.prog 9 #[cdv A n c A' n' c'] w (ReachR (xs.map inOf) (ws.map wtOf) w) := by
  obtain ⟨i0, hi0, hz0, hz1, hz2⟩ := info_parts info_Int
  have HS := Lib.hid hs
  simp only [cdv]
  obtain ⟨hsn, hsm, hsl⟩ := hs
  have HSL := Lib.hid hsl
  have hlw := h.len.1
  have HLW := Lib.hid hlw
  clear hlw hsl
  have E0 := Blk.new w 33 #[.slice A n c, .slice A' n' c']
  have B0 : Below w.heap.size w (w.alloc (.cells #[.slice A n c, .slice A' n' c'] 33)) := by go_grown
  obtain ⟨w1, hw1⟩ : ∃ q, w.alloc (.cells #[.slice A n c, .slice A' n' c'] 33) = q := ⟨_, rfl⟩
  have hz : w.heap.size < w1.heap.size := by rw [← hw1]; simp
  rw [hw1] at E0 B0
  obtain ⟨I, hI⟩ : ∃ I, xs.map inOf = I := ⟨_, rfl⟩
  obtain ⟨W, hW⟩ : ∃ W, ws.map wtOf = W := ⟨_, rfl⟩
  rw [hI, hW]
  have HI := Lib.hid hI
  have HW := Lib.hid hW
  have hIl : I.length = n := by rw [← hI, List.length_map, HLW.out]
  have HIl := Lib.hid hIl
  have hWl : W.length = n' := by rw [← hW, List.length_map, h.len.2]
  have HWl := Lib.hid hWl
  clear hIl hI hW hWl
  go_enter Try.func9, Try.ntmps9
  have E1 := E0.alloc (.cells #[.int .i64 0] 3)
  have B1 := B0.alloc B0.size (.cells #[.int .i64 0] 3)
  have q1 : TQ (w1.alloc (.cells #[.int .i64 0] 3)) w1.heap.size (.slice (some ⟨w1.heap.size, 0, none⟩) 1 1) [0] w1.heap.size := by
    refine ⟨0, 1, #[.int .i64 0], rfl, Nat.le_refl _, by simp, by unfold maxLen; omega, Blk.new _ _ _, by simp, fun j x hj => ?_⟩
    rcases j with _ | j
    · simp at hj; subst hj; rfl
    · simp at hj
  have hz1' : w1.heap.size < (w1.alloc (.cells #[.int .i64 0] 3)).heap.size := by simp
  go_wp2_with fail
  try rw [hw1]
  clear hw1
  go_loopg [4, 3] (n * 100 + 1) (fun gg tv ov wr => ∃ (todo out : List Int) (g : Nat), TQ wr w1.heap.size tv todo g ∧ g < wr.heap.size ∧ RdN wr ov out g ∧ Hid (Inc out ∧ (∀ x ∈ out, 0 ≤ x ∧ x < n) ∧ Srch I W (fun i => i ∈ out) todo) ∧ Blk wr w.heap.size 33 #[.slice A n c, .slice A' n' c'] ∧ Below w.heap.size w wr ∧ (n - out.length) * 100 + todo.length ≤ gg ∧ todo.length ≤ 100 * out.length + 1)
  case atStart =>
    refine ⟨[0], [], w1.heap.size, q1, hz1', RdN.nil _ _, Lib.hid ⟨List.Pairwise.nil, (fun x hx => by cases hx), ?_⟩, E1, B1, by simp, by simp⟩
    have := Srch.init I W
    have e : (fun i : Int => i ∈ ([] : List Int)) = fun _ => False := by funext i; simp
    rw [e]; exact this
  case round =>
    clear q1 E1 B1 E0 B0 hz1'
    obtain ⟨todo, out, g, Q1, hg1, R1, HH, E1, B1, hgk, hT⟩ := hrel
    obtain ⟨w3, rfl⟩ : ∃ x : World, x = wr := ⟨_, rfl⟩
    obtain ⟨ov, rfl⟩ : ∃ x : Value, x = u3 := ⟨_, rfl⟩
    have u0 := E1.cell 0
    have u1 := E1.cell 1
    simp only [List.getElem?_toArray, List.getElem?_cons_zero, List.getElem?_cons_succ] at u0 u1
    have hol : out.length ≤ n := inc_len HH.out.1 HH.out.2.1
    obtain ⟨o, cap, cur, rfl, hB, hlc, hcm, hb, hcs, hcell⟩ := Q1
    cases todo with
    | nil =>
      go_wp2_with fail
      go_ret
      exact ⟨_, out, rfl, R1.rd, HH.out.1, HH.out.2.2.done, B1⟩
    | cons t T0 =>
      rw [List.length_cons] at hlc hgk hT ⊢
      obtain ⟨f1, f2, f3⟩ := TQ.front hB hlc hcm hb hcs hcell
      unfold maxLen at hcm
      obtain ⟨N, hN⟩ : ∃ N, T0.length = N := ⟨_, rfl⟩
      have HN := Lib.hid hN
      by_cases hc1 : cap = 1
      · subst hc1
        have QQ := f3 rfl
        rw [hN] at QQ hlc hgk hT ⊢
        clear hN hcell
        have hN0 : N = 0 := by omega
        subst hN0
        simp only [Nat.zero_add] at hlc hgk hT ⊢
        have skip : ((t < 0 ∨ (I.length : Int) ≤ t) ∨ t ∈ out) → Hid (Inc out ∧ (∀ x ∈ out, 0 ≤ x ∧ x < n) ∧ Srch I W (fun i => i ∈ out) T0) := fun hh => Lib.hid ⟨HH.out.1, HH.out.2.1, HH.out.2.2.skip (fun x => List.mem_cons) hh⟩
        by_cases ht0 : t < 0
        · have d0 : decide (t < 0) = true := decide_eq_true ht0
          have hsk := skip (.inl (.inl ht0))
          go_wp2_with fail
          go_roundg ((n - out.length) * 100 + 0)
          case rel => exact ⟨T0, out, g, QQ, hg1, R1, hsk, E1, B1, by rw [HN.out]; exact Nat.le_refl _, by rw [HN.out]; omega⟩
          case measure => omega
        obtain ⟨k, rfl⟩ : ∃ k : Nat, t = k := ⟨t.toNat, by omega⟩
        have d0 : decide ((k : Int) < 0) = false := decide_eq_false (by omega)
        by_cases hkn : n ≤ k
        · have d2 : decide ((k : Int) ≥ (n : Int)) = true := decide_eq_true (by omega)
          have d3 : decide ((n : Int) ≤ (k : Int)) = true := decide_eq_true (by omega)
          have hsk := skip (.inl (.inr (by rw [HIl.out]; omega)))
          go_wp2_with fail
          go_roundg ((n - out.length) * 100 + 0)
          case rel => exact ⟨T0, out, g, QQ, hg1, R1, hsk, E1, B1, by rw [HN.out]; exact Nat.le_refl _, by rw [HN.out]; omega⟩
          case measure => omega
        have d2 : decide ((k : Int) ≥ (n : Int)) = false := decide_eq_false (by omega)
        have d3 : decide ((n : Int) ≤ (k : Int)) = false := decide_eq_false (by omega)
        have ch := has_c ov out k w3 R1.rd (by omega)
        obtain ⟨RB, hRB⟩ : ∃ R, decide ((k : Int) ∈ out) = R := ⟨_, rfl⟩
        rw [hRB] at ch
        have HRB := Lib.hid hRB
        clear hRB
        go_wp2_with fail
        (with_reducible refine ch.mono ?_)
        clear ch
        rintro e w4 ⟨rfl, rfl⟩
        cases RB
        rotate_left
        · have hsk := skip (.inr (of_decide_eq_true HRB.out))
          go_wp2_with fail
          go_roundg ((n - out.length) * 100 + 0)
          case rel => exact ⟨T0, out, g, QQ, hg1, R1, hsk, E1, B1, by rw [HN.out]; exact Nat.le_refl _, by rw [HN.out]; omega⟩
          case measure => omega
        have hnew : (k : Int) ∉ out := of_decide_eq_false HRB.out
        have HNEW := Lib.hid hnew
        clear skip hnew HRB
        have cp := put_own_c ov out k w4 R1.rd (by omega)
        go_wp2_with fail
        (with_reducible refine cp.mono ?_)
        clear cp
        rintro e w5 ⟨v5, rfl, r5, hv5, b5⟩
        have R5 : RdN w5 v5 (putS (k : Int) out) g := by
          rcases hv5 with ⟨_, e2⟩ | ho
          · have := put_len_new HNEW.out
            rw [e2] at this; omega
          · exact RdN.of ho hg1
        have B5 := via b5 B1
        have E5 := E1.next b5
        have Q5 := QQ.next b5
        have hg5 : g < w5.heap.size := Nat.lt_of_lt_of_le hg1 b5.size
        clear r5 hv5 b5 R1 B1 E1 hb f1 f2 f3 u0 u1
        have u0 := E5.cell 0
        have u1 := E5.cell 1
        simp only [List.getElem?_toArray, List.getElem?_cons_zero, List.getElem?_cons_succ] at u0 u1
        have cn := rnext_c A A' n c n' c' xs ws k w5 (h.next B5 B5.size) HS.out
        rw [HI.out, HW.out] at cn
        simp only [cdv] at cn
        go_wp2_with fail
        (with_reducible refine cn.mono ?_)
        clear cn
        rintro e w6 ⟨v6, rfl, r6, b6⟩
        obtain ⟨o2, cap2, cur2, eV, hB6, hl6, hm6, hb6, hs6, hc6⟩ := Q5.next b6
        injection eV with e1 e2 e3
        injection e1 with e1
        injection e1 with _ e4 _
        subst e4
        subst e3
        clear e2
        have B6 := via b6 B5
        have E6 := E5.next b6
        have R6 := R5.next b6
        have hg6 : g < w6.heap.size := Nat.lt_of_lt_of_le hg5 b6.size
        have hsr : ∀ M : List Int, M = nextN I W (k : Int) → Hid (Inc (putS (k : Int) out) ∧ (∀ x ∈ putS (k : Int) out, 0 ≤ x ∧ x < n) ∧ Srch I W (fun i => i ∈ putS (k : Int) out) (T0 ++ M)) := by
          intro M hM
          subst hM
          refine Lib.hid ⟨inc_put _ _ HH.out.1, fun x hx => ?_, HH.out.2.2.mark (t := (k : Int)) (todo' := T0) (fun x => List.mem_cons) (by omega) (by rw [HIl.out]; omega) (fun i => mem_put _ _ _) (fun x => List.mem_append)⟩
          rcases (mem_put _ _ _).1 hx with rfl | hx
          · omega
          · exact HH.out.2.1 x hx
        have hnl : (nextN I W (k : Int)).length ≤ 90 := by
          have h1 := norm_len (rawN I W (k : Int))
          have h2 := raw_len I W (k : Int) (fun x hx => by
            rw [← HI.out] at hx
            obtain ⟨y, hy, rfl⟩ := List.mem_map.1 hx
            have h1 := HSL.out y hy
            have h2 := ils_len (h.ils y hy)
            simp only; omega)
          rw [HIl.out, HWl.out] at h2
          have h3 : (nextN I W (k : Int)).length = (normL (rawN I W (k : Int))).length := rfl
          omega
        have hpl := put_len_new HNEW.out
        obtain ⟨L6, hL6⟩ : ∃ L, nextN I W (k : Int) = L := ⟨_, rfl⟩
        rw [hL6] at r6 hnl
        have HSR := hsr L6 hL6.symm
        obtain ⟨A6, c6, rfl, hl7, hm7, hr7, hn7⟩ := r6
        clear hsr hL6 Q5 b6 E5 R5 B5 u0 u1 QQ HH
        have HPL := Lib.hid hpl
        have hol2 : out.length + 1 ≤ n := by
          have := inc_len HSR.out.1 HSR.out.2.1
          rw [HPL.out] at this; omega
        have hN3 : 0 ≤ 3001 := by omega
        have hl6' : 0 ≤ 0 := by have := HN.out; omega
        cases A6 with
        | none =>
          obtain rfl := hn7 rfl
          have h0 : L6 = [] := List.eq_nil_of_length_eq_zero (by omega)
          subst h0
          have hsr2 := HSR.out
          rw [List.append_nil] at hsr2
          have HSR2 := Lib.hid hsr2
          clear hsr2
          have QF : TQ w6 w1.heap.size (.slice (some ⟨g, o, none⟩) 0 (0)) T0 g := ⟨o, 0, cur2, by rw [HN.out], hB6, hl6, hm6, hb6, hs6, hc6⟩
          simp only [List.length_nil]
          go_wp2_with fail
          go_roundg ((n - (putS (k : Int) out).length) * 100 + 0)
          case rel => exact ⟨T0, putS (k : Int) out, g, QF, hg6, R6, HSR2, E6, B6, by rw [HN.out]; exact Nat.le_refl _, by rw [HN.out, HPL.out]; omega⟩
          case measure => rw [HPL.out]; omega
        | some ad =>
          obtain ⟨M, hM⟩ : ∃ M, L6.length = M := ⟨_, rfl⟩
          have HM := Lib.hid hM
          rw [hM] at hl7 hr7 hnl ⊢
          have hnews : ∀ j u, (L6.map (Value.int .i64))[j]? = some u → w6.cell? (ad.add j) = some u := by
            intro j u hu
            have hj := (List.getElem?_eq_some_iff.1 hu).1
            rw [List.length_map, hM] at hj
            obtain ⟨ad2, e2, _, hcf⟩ := hr7.2 (by omega)
            cases e2
            exact hcf j u hu
          have holds : ∀ j u, (T0.map (Value.int .i64))[j]? = some u → w6.cell? ⟨g, o + j, none⟩ = some u := by
            intro j u hu
            rw [List.getElem?_map] at hu
            cases hx : T0[j]? with
            | none => rw [hx] at hu; cases hu
            | some x => rw [hx] at hu; cases hu; rw [hb6.cell]; exact hc6 j x hx
          have hspare : 0 + M ≤ 0 → ∀ j, j < (L6.map (Value.int .i64)).length → (w6.cell? ⟨g, o + 0 * 1 + j, none⟩).isSome = true ∧ w6.frozen? ⟨g, o + 0 * 1 + j, none⟩ = false := by
            intro hr j hj
            rw [List.length_map, hM] at hj
            refine ⟨?_, hb6.loose _⟩
            rw [hb6.cell, Array.getElem?_eq_getElem (by omega)]; rfl
          have hm6b : 0 ≤ maxLen := hm6
          clear hM
          go_wp2_with (at_builtin; refine wpList_append_arg _ rfl (.tmp 32) (.tmp 35) 29 rfl 3 i0 (.int .i64 0) 1 8 Try.underlying29 hi0 hz0 hz1 hz2 rfl (by decide) g (o) 0 (0) (T0.map (Value.int .i64)) rfl (by have := HN.out; simp only [List.length_map]; omega) holds ad M c6 (L6.map (Value.int .i64)) rfl (by have := HM.out; simp only [List.length_map]; omega) hnews (by intro u hu; obtain ⟨x, _, rfl⟩ := List.mem_map.1 hu; rfl) hspare (by unfold maxLen; omega) (by omega) ?_ ?_)
          · intro hroom
            obtain ⟨q7, t7⟩ := TQ.room (w := w6) (B := w1.heap.size) (L := T0) (M := L6) hB6 (by rw [HN.out, HM.out]; first | exact hroom | omega) hm6 hb6 hs6 hc6
            rw [HN.out, HM.out] at q7
            rw [HN.out] at t7
            try simp only [Nat.add_zero, Nat.zero_add] at q7 t7
            try rw [Nat.mul_one]
            have R7 := R6.tch t7
            have E7 := E6.tch t7 (by omega)
            have B7 := t7.below B6 (fun k hk => by omega) B6.size
            have hg7 : g < (w6.setCells g o (L6.map (Value.int .i64))).heap.size := by rw [Own.setCells_size]; exact hg6
            obtain ⟨w7, hw7⟩ : ∃ x, w6.setCells g o (L6.map (Value.int .i64)) = x := ⟨_, rfl⟩
            rw [hw7] at q7 R7 E7 B7 hg7 ⊢
            clear hw7 t7
            go_wp2_with fail
            go_roundg ((n - (putS (k : Int) out).length) * 100 + (T0 ++ L6).length)
            case rel => exact ⟨T0 ++ L6, putS (k : Int) out, g, q7, hg7, R7, HSR, E7, B7, Nat.le_refl _, by rw [List.length_append, HN.out, HM.out, HPL.out]; omega⟩
            case measure => rw [List.length_append, HN.out, HM.out, HPL.out]; omega
          · intro hgrow v7 w7 own7 hg7
            have own8 : OwnI w7 w6.heap.size v7 (T0 ++ L6) := by
              unfold OwnI; rw [List.length_append, List.map_append, HN.out, HM.out]; first | exact own7 | (rw [Nat.zero_add]; exact own7)
            have b7 : Below w6.heap.size w6 w7 := ⟨hg7.os, hg7.tape, hg7.output, hg7.size, fun k hk => hg7.block k hk (by simp)⟩
            have hne : v7 ≠ .slice none 0 0 := by
              intro e
              obtain ⟨_, _, e2, _, _, _, _⟩ := owi_rd own8
              rw [e] at e2
              injection e2 with _ e3 _
              rw [List.length_append, HN.out, HM.out] at e3; omega
            obtain ⟨g8, q8⟩ := TQ.of own8 hne
            obtain ⟨o8, cap8, cur8, rfl, hB8, hl8, hm8, hb8, hs8, hc8⟩ := q8
            have R7 : RdN w7 v5 (putS (k : Int) out) g8 := by
              obtain ⟨A9, c9, k1, k2, k3, k4, k5, k6⟩ := R6
              refine ⟨A9, c9, k1, k2, k3, (k4.below b7).more b7.size, k5, fun ad e hne2 => ?_⟩
              have hn9 : 0 < (putS (k : Int) out).length := List.length_pos_iff.2 hne2
              obtain ⟨ad3, e3, hb3, _⟩ := k4.2 hn9
              rw [e] at e3; cases e3
              omega
            have E7 := E6.next b7
            have B7 := via b7 B6
            have q9 : TQ w7 w1.heap.size (.slice (some ⟨g8, o8, none⟩) (T0 ++ L6).length cap8) (T0 ++ L6) g8 := ⟨o8, cap8, cur8, rfl, by have := B6.size; have := hg6; omega, hl8, hm8, hb8, hs8, hc8⟩
            have hg9 : g8 < w7.heap.size := hb8.lt
            clear own7 hg7 own8 b7 hne
            go_wp2_with fail
            go_roundg ((n - (putS (k : Int) out).length) * 100 + (T0 ++ L6).length)
            case rel => exact ⟨T0 ++ L6, putS (k : Int) out, g8, q9, hg9, R7, HSR, E7, B7, Nat.le_refl _, by rw [List.length_append, HN.out, HM.out, HPL.out]; omega⟩
            case measure => rw [List.length_append, HN.out, HM.out, HPL.out]; omega

      · have QQ := f2
        rw [hN] at QQ hlc hgk hT ⊢
        have hc2 : ¬ cap = 1 := hc1
        have hc3 : 1 ≤ N + 1 := by omega
        have ew : IntKind.i64.wrap ((N : Int) + 1) = (N : Int) + 1 := IntWalk.i64_in _ (by omega)
        clear hN hcell
        have skip : ((t < 0 ∨ (I.length : Int) ≤ t) ∨ t ∈ out) → Hid (Inc out ∧ (∀ x ∈ out, 0 ≤ x ∧ x < n) ∧ Srch I W (fun i => i ∈ out) T0) := fun hh => Lib.hid ⟨HH.out.1, HH.out.2.1, HH.out.2.2.skip (fun x => List.mem_cons) hh⟩
        by_cases ht0 : t < 0
        · have d0 : decide (t < 0) = true := decide_eq_true ht0
          have hsk := skip (.inl (.inl ht0))
          go_wp2_with fail
          go_roundg ((n - out.length) * 100 + N)
          case rel => exact ⟨T0, out, g, QQ, hg1, R1, hsk, E1, B1, by rw [HN.out]; exact Nat.le_refl _, by rw [HN.out]; omega⟩
          case measure => omega
        obtain ⟨k, rfl⟩ : ∃ k : Nat, t = k := ⟨t.toNat, by omega⟩
        have d0 : decide ((k : Int) < 0) = false := decide_eq_false (by omega)
        by_cases hkn : n ≤ k
        · have d2 : decide ((k : Int) ≥ (n : Int)) = true := decide_eq_true (by omega)
          have d3 : decide ((n : Int) ≤ (k : Int)) = true := decide_eq_true (by omega)
          have hsk := skip (.inl (.inr (by rw [HIl.out]; omega)))
          go_wp2_with fail
          go_roundg ((n - out.length) * 100 + N)
          case rel => exact ⟨T0, out, g, QQ, hg1, R1, hsk, E1, B1, by rw [HN.out]; exact Nat.le_refl _, by rw [HN.out]; omega⟩
          case measure => omega
        have d2 : decide ((k : Int) ≥ (n : Int)) = false := decide_eq_false (by omega)
        have d3 : decide ((n : Int) ≤ (k : Int)) = false := decide_eq_false (by omega)
        have ch := has_c ov out k w3 R1.rd (by omega)
        obtain ⟨RB, hRB⟩ : ∃ R, decide ((k : Int) ∈ out) = R := ⟨_, rfl⟩
        rw [hRB] at ch
        have HRB := Lib.hid hRB
        clear hRB
        go_wp2_with fail
        (with_reducible refine ch.mono ?_)
        clear ch
        rintro e w4 ⟨rfl, rfl⟩
        cases RB
        rotate_left
        · have hsk := skip (.inr (of_decide_eq_true HRB.out))
          go_wp2_with fail
          go_roundg ((n - out.length) * 100 + N)
          case rel => exact ⟨T0, out, g, QQ, hg1, R1, hsk, E1, B1, by rw [HN.out]; exact Nat.le_refl _, by rw [HN.out]; omega⟩
          case measure => omega
        have hnew : (k : Int) ∉ out := of_decide_eq_false HRB.out
        have HNEW := Lib.hid hnew
        clear skip hnew HRB
        have cp := put_own_c ov out k w4 R1.rd (by omega)
        go_wp2_with fail
        (with_reducible refine cp.mono ?_)
        clear cp
        rintro e w5 ⟨v5, rfl, r5, hv5, b5⟩
        have R5 : RdN w5 v5 (putS (k : Int) out) g := by
          rcases hv5 with ⟨_, e2⟩ | ho
          · have := put_len_new HNEW.out
            rw [e2] at this; omega
          · exact RdN.of ho hg1
        have B5 := via b5 B1
        have E5 := E1.next b5
        have Q5 := QQ.next b5
        have hg5 : g < w5.heap.size := Nat.lt_of_lt_of_le hg1 b5.size
        clear r5 hv5 b5 R1 B1 E1 hb f1 f2 f3 u0 u1
        have u0 := E5.cell 0
        have u1 := E5.cell 1
        simp only [List.getElem?_toArray, List.getElem?_cons_zero, List.getElem?_cons_succ] at u0 u1
        have cn := rnext_c A A' n c n' c' xs ws k w5 (h.next B5 B5.size) HS.out
        rw [HI.out, HW.out] at cn
        simp only [cdv] at cn
        go_wp2_with fail
        (with_reducible refine cn.mono ?_)
        clear cn
        rintro e w6 ⟨v6, rfl, r6, b6⟩
        obtain ⟨o2, cap2, cur2, eV, hB6, hl6, hm6, hb6, hs6, hc6⟩ := Q5.next b6
        injection eV with e1 e2 e3
        injection e1 with e1
        injection e1 with _ e4 _
        subst e4
        subst e3
        clear e2
        have B6 := via b6 B5
        have E6 := E5.next b6
        have R6 := R5.next b6
        have hg6 : g < w6.heap.size := Nat.lt_of_lt_of_le hg5 b6.size
        have hsr : ∀ M : List Int, M = nextN I W (k : Int) → Hid (Inc (putS (k : Int) out) ∧ (∀ x ∈ putS (k : Int) out, 0 ≤ x ∧ x < n) ∧ Srch I W (fun i => i ∈ putS (k : Int) out) (T0 ++ M)) := by
          intro M hM
          subst hM
          refine Lib.hid ⟨inc_put _ _ HH.out.1, fun x hx => ?_, HH.out.2.2.mark (t := (k : Int)) (todo' := T0) (fun x => List.mem_cons) (by omega) (by rw [HIl.out]; omega) (fun i => mem_put _ _ _) (fun x => List.mem_append)⟩
          rcases (mem_put _ _ _).1 hx with rfl | hx
          · omega
          · exact HH.out.2.1 x hx
        have hnl : (nextN I W (k : Int)).length ≤ 90 := by
          have h1 := norm_len (rawN I W (k : Int))
          have h2 := raw_len I W (k : Int) (fun x hx => by
            rw [← HI.out] at hx
            obtain ⟨y, hy, rfl⟩ := List.mem_map.1 hx
            have h1 := HSL.out y hy
            have h2 := ils_len (h.ils y hy)
            simp only; omega)
          rw [HIl.out, HWl.out] at h2
          have h3 : (nextN I W (k : Int)).length = (normL (rawN I W (k : Int))).length := rfl
          omega
        have hpl := put_len_new HNEW.out
        obtain ⟨L6, hL6⟩ : ∃ L, nextN I W (k : Int) = L := ⟨_, rfl⟩
        rw [hL6] at r6 hnl
        have HSR := hsr L6 hL6.symm
        obtain ⟨A6, c6, rfl, hl7, hm7, hr7, hn7⟩ := r6
        clear hsr hL6 Q5 b6 E5 R5 B5 u0 u1 QQ HH
        have HPL := Lib.hid hpl
        have hol2 : out.length + 1 ≤ n := by
          have := inc_len HSR.out.1 HSR.out.2.1
          rw [HPL.out] at this; omega
        have hN3 : N ≤ 3001 := by omega
        have hl6' : N ≤ (cap - 1) := by have := HN.out; omega
        cases A6 with
        | none =>
          obtain rfl := hn7 rfl
          have h0 : L6 = [] := List.eq_nil_of_length_eq_zero (by omega)
          subst h0
          have hsr2 := HSR.out
          rw [List.append_nil] at hsr2
          have HSR2 := Lib.hid hsr2
          clear hsr2
          have QF : TQ w6 w1.heap.size (.slice (some ⟨g, (o + 1), none⟩) N ((cap - 1))) T0 g := ⟨(o + 1), (cap - 1), cur2, by rw [HN.out], hB6, hl6, hm6, hb6, hs6, hc6⟩
          simp only [List.length_nil]
          go_wp2_with fail
          go_roundg ((n - (putS (k : Int) out).length) * 100 + N)
          case rel => exact ⟨T0, putS (k : Int) out, g, QF, hg6, R6, HSR2, E6, B6, by rw [HN.out]; exact Nat.le_refl _, by rw [HN.out, HPL.out]; omega⟩
          case measure => rw [HPL.out]; omega
        | some ad =>
          obtain ⟨M, hM⟩ : ∃ M, L6.length = M := ⟨_, rfl⟩
          have HM := Lib.hid hM
          rw [hM] at hl7 hr7 hnl ⊢
          have hnews : ∀ j u, (L6.map (Value.int .i64))[j]? = some u → w6.cell? (ad.add j) = some u := by
            intro j u hu
            have hj := (List.getElem?_eq_some_iff.1 hu).1
            rw [List.length_map, hM] at hj
            obtain ⟨ad2, e2, _, hcf⟩ := hr7.2 (by omega)
            cases e2
            exact hcf j u hu
          have holds : ∀ j u, (T0.map (Value.int .i64))[j]? = some u → w6.cell? ⟨g, (o + 1) + j, none⟩ = some u := by
            intro j u hu
            rw [List.getElem?_map] at hu
            cases hx : T0[j]? with
            | none => rw [hx] at hu; cases hu
            | some x => rw [hx] at hu; cases hu; rw [hb6.cell]; exact hc6 j x hx
          have hspare : N + M ≤ (cap - 1) → ∀ j, j < (L6.map (Value.int .i64)).length → (w6.cell? ⟨g, (o + 1) + N * 1 + j, none⟩).isSome = true ∧ w6.frozen? ⟨g, (o + 1) + N * 1 + j, none⟩ = false := by
            intro hr j hj
            rw [List.length_map, hM] at hj
            refine ⟨?_, hb6.loose _⟩
            rw [hb6.cell, Array.getElem?_eq_getElem (by omega)]; rfl
          have hm6b : (cap - 1) ≤ maxLen := hm6
          clear hM
          go_wp2_with (at_builtin; refine wpList_append_arg _ rfl (.tmp 32) (.tmp 35) 29 rfl 3 i0 (.int .i64 0) 1 8 Try.underlying29 hi0 hz0 hz1 hz2 rfl (by decide) g ((o + 1)) N ((cap - 1)) (T0.map (Value.int .i64)) rfl (by have := HN.out; simp only [List.length_map]; omega) holds ad M c6 (L6.map (Value.int .i64)) rfl (by have := HM.out; simp only [List.length_map]; omega) hnews (by intro u hu; obtain ⟨x, _, rfl⟩ := List.mem_map.1 hu; rfl) hspare (by unfold maxLen; omega) (by omega) ?_ ?_)
          · intro hroom
            obtain ⟨q7, t7⟩ := TQ.room (w := w6) (B := w1.heap.size) (L := T0) (M := L6) hB6 (by rw [HN.out, HM.out]; first | exact hroom | omega) hm6 hb6 hs6 hc6
            rw [HN.out, HM.out] at q7
            rw [HN.out] at t7
            try simp only [Nat.add_zero, Nat.zero_add] at q7 t7
            try rw [Nat.mul_one]
            have R7 := R6.tch t7
            have E7 := E6.tch t7 (by omega)
            have B7 := t7.below B6 (fun k hk => by omega) B6.size
            have hg7 : g < (w6.setCells g ((o + 1) + N) (L6.map (Value.int .i64))).heap.size := by rw [Own.setCells_size]; exact hg6
            obtain ⟨w7, hw7⟩ : ∃ x, w6.setCells g ((o + 1) + N) (L6.map (Value.int .i64)) = x := ⟨_, rfl⟩
            rw [hw7] at q7 R7 E7 B7 hg7 ⊢
            clear hw7 t7
            go_wp2_with fail
            go_roundg ((n - (putS (k : Int) out).length) * 100 + (T0 ++ L6).length)
            case rel => exact ⟨T0 ++ L6, putS (k : Int) out, g, q7, hg7, R7, HSR, E7, B7, Nat.le_refl _, by rw [List.length_append, HN.out, HM.out, HPL.out]; omega⟩
            case measure => rw [List.length_append, HN.out, HM.out, HPL.out]; omega
          · intro hgrow v7 w7 own7 hg7
            have own8 : OwnI w7 w6.heap.size v7 (T0 ++ L6) := by
              unfold OwnI; rw [List.length_append, List.map_append, HN.out, HM.out]; first | exact own7 | (rw [Nat.zero_add]; exact own7)
            have b7 : Below w6.heap.size w6 w7 := ⟨hg7.os, hg7.tape, hg7.output, hg7.size, fun k hk => hg7.block k hk (by simp)⟩
            have hne : v7 ≠ .slice none 0 0 := by
              intro e
              obtain ⟨_, _, e2, _, _, _, _⟩ := owi_rd own8
              rw [e] at e2
              injection e2 with _ e3 _
              rw [List.length_append, HN.out, HM.out] at e3; omega
            obtain ⟨g8, q8⟩ := TQ.of own8 hne
            obtain ⟨o8, cap8, cur8, rfl, hB8, hl8, hm8, hb8, hs8, hc8⟩ := q8
            have R7 : RdN w7 v5 (putS (k : Int) out) g8 := by
              obtain ⟨A9, c9, k1, k2, k3, k4, k5, k6⟩ := R6
              refine ⟨A9, c9, k1, k2, k3, (k4.below b7).more b7.size, k5, fun ad e hne2 => ?_⟩
              have hn9 : 0 < (putS (k : Int) out).length := List.length_pos_iff.2 hne2
              obtain ⟨ad3, e3, hb3, _⟩ := k4.2 hn9
              rw [e] at e3; cases e3
              omega
            have E7 := E6.next b7
            have B7 := via b7 B6
            have q9 : TQ w7 w1.heap.size (.slice (some ⟨g8, o8, none⟩) (T0 ++ L6).length cap8) (T0 ++ L6) g8 := ⟨o8, cap8, cur8, rfl, by have := B6.size; have := hg6; omega, hl8, hm8, hb8, hs8, hc8⟩
            have hg9 : g8 < w7.heap.size := hb8.lt
            clear own7 hg7 own8 b7 hne
            go_wp2_with fail
            go_roundg ((n - (putS (k : Int) out).length) * 100 + (T0 ++ L6).length)
            case rel => exact ⟨T0 ++ L6, putS (k : Int) out, g8, q9, hg9, R7, HSR, E7, B7, Nat.le_refl _, by rw [List.length_append, HN.out, HM.out, HPL.out]; omega⟩
            case measure => rw [List.length_append, HN.out, HM.out, HPL.out]; omega

end FloW
end Go.Proofs.Ytdgonjncoggfeaa
