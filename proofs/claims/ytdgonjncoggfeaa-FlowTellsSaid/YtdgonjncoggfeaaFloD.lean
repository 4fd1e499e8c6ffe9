/- Where one may go on from a place: the walk of the program's Next. Condition: codes that are small. -/
import Derived.Test.YtdgonjncoggfeaaFloC
import Derived.Deep.DeepCutAuto
import Derived.Laws.AppendOwnNone
import Derived.Deep.CutBlock
namespace Go.Proofs.Ytdgonjncoggfeaa
set_option linter.unusedVariables false
set_option linter.unusedSimpArgs false
open Go.RowKit
namespace FloW
open FloP
theorem raw_at {I : List In} {W : List Wt} {q : Nat} {x : In} (h : I[q]? = some x) : rawN I W q =
    (if x.1 = 4 ∨ x.1 = 6 then [x.2.1] else if x.1 = 5 then [(q : Int) + 1, x.2.1] else if x.1 = 7 then placesF [6, 12] 1 0 I else if x.1 = 15 then placesF [12] 0 0 I
    else if x.1 = 12 then ((q : Int) + 1) :: (listT W x.2.2 ++ openT W) else if x.1 < 1 ∨ 16 ≤ x.1 then [] else [(q : Int) + 1]) := by
  have hq := (List.getElem?_eq_some_iff.1 h).1
  unfold rawN
  rw [if_neg (by omega), Int.toNat_natCast, h]
theorem raw_out {I : List In} {W : List Wt} {p : Int} (h : p < 0 ∨ (I.length : Int) ≤ p) : rawN I W p = [] := by
  unfold rawN; rw [if_pos h]
theorem norm_nil {I : List In} {W : List Wt} {p : Int} (h : rawN I W p = []) : nextN I W p = [] := by
  unfold nextN; rw [h]
  have := norm_len []
  exact List.eq_nil_of_length_eq_zero (by simpa using this)
def NextPost (I : List In) (W : List Wt) (p : Int) (w : World) (e : Ending) (w' : World) : Prop := ∃ v, e = .returned v ∧ OwnI w' w.heap.size v (nextN I W p) ∧ Below w.heap.size w w'
theorem next_nil {I : List In} {W : List Wt} {p : Int} {w w' : World} (h : rawN I W p = []) (hb : Below w.heap.size w w') : NextPost I W p w (.returned (.slice none 0 0)) w' :=
  ⟨_, rfl, by rw [norm_nil h]; exact World.ownsRow_nil _ _ _ _, hb⟩
set_option maxHeartbeats 6400000 in
set_option maxRecDepth 100000 in
theorem next_c (A A' : Option Addr) (n c n' c' : Nat) (xs : List Ix) (ws : List Wx) (p : Int) (w : World) (h : Cd w w.heap.size A n A' n' xs ws) (hs : Sm n n' xs) :
    Calls Try.prog 6 #[cdv A n c A' n' c', .int .i64 p] w (NextPost (xs.map inOf) (ws.map wtOf) p w) := by
  obtain ⟨i0, hi0, hz0, hz1, hz2⟩ := info_parts info_Int
  have HS := Lib.hid hs
  simp only [cdv]
  obtain ⟨hsn, hsm, hsl⟩ := hs
  have HSL := Lib.hid hsl
  have hlw := h.len.1
  have HLW := Lib.hid hlw
  clear hlw hsl
  have E0 := Blk.new w 33 #[.slice A n c, .slice A' n' c']
  have B0 : Below w.heap.size w (w.alloc (.cells #[.slice A n c, .slice A' n' c'] 33)) := by go_grown
  obtain ⟨w1, hw1⟩ : ∃ q, w.alloc (.cells #[.slice A n c, .slice A' n' c'] 33) = q := ⟨_, rfl⟩
  have hz : w1.heap.size = w.heap.size + 1 := by rw [← hw1]; simp
  have HZ := Lib.hid hz
  clear hz
  rw [hw1] at E0 B0
  have u0 := E0.cell 0
  have u1 := E0.cell 1
  simp only [List.getElem?_toArray, List.getElem?_cons_zero, List.getElem?_cons_succ] at u0 u1
  obtain ⟨I, hI⟩ : ∃ I, xs.map inOf = I := ⟨_, rfl⟩
  obtain ⟨W, hW⟩ : ∃ W, ws.map wtOf = W := ⟨_, rfl⟩
  rw [hI, hW]
  have HI := Lib.hid hI
  have HW := Lib.hid hW
  have hIl : I.length = n := by rw [← hI, List.length_map, HLW.out]
  have HIl := Lib.hid hIl
  have hWl : W.length = n' := by rw [← hW, List.length_map, h.len.2]
  have HWl := Lib.hid hWl
  clear hIl hI hW hWl
  go_enter Try.func6, Try.ntmps6
  by_cases hp0 : p < 0
  · have dp : decide (p < 0) = true := decide_eq_true hp0
    have hr := next_nil (W := W) (raw_out (I := I) (W := W) (.inl hp0)) B0
    clear hsn hsm
    go_wp2
    go_ret
    exact hr
  obtain ⟨q, rfl⟩ : ∃ q : Nat, p = q := ⟨p.toNat, by omega⟩
  have dp : decide ((q : Int) < 0) = false := decide_eq_false (by omega)
  by_cases hqn : n ≤ q
  · have dq : decide ((q : Int) ≥ (n : Int)) = true := decide_eq_true (by omega)
    have dq2 : decide ((n : Int) ≤ (q : Int)) = true := decide_eq_true (by omega)
    have hr := next_nil (W := W) (raw_out (I := I) (W := W) (p := (q : Int)) (.inr (by rw [HIl.out]; omega))) B0
    clear hsn hsm
    go_wp2
    go_ret
    exact hr
  have dq : decide ((q : Int) ≥ (n : Int)) = false := decide_eq_false (by omega)
  have dq2 : decide ((n : Int) ≤ (q : Int)) = false := decide_eq_false (by omega)
  have ew : IntKind.i64.wrap ((q : Int) + 1) = (q : Int) + 1 := IntWalk.i64_in _ (by omega)
  have E2 := E0.alloc (.cells #[.int .i64 ((q : Int) + 1)] 3)
  have own2 : OwnI (w1.alloc (.cells #[.int .i64 ((q : Int) + 1)] 3)) w1.heap.size (.slice (some ⟨w1.heap.size, 0, none⟩) 1 1) [(q : Int) + 1] := World.ownsRow_lit w1 _ 1 (Nat.le_refl _) (by unfold maxLen; omega) rfl
  have B2 := B0.alloc B0.size (.cells #[.int .i64 ((q : Int) + 1)] 3)
  go_upto_region 4 with fail
  rw [HZ.out] at own2 ⊢
  obtain ⟨w2, hw2⟩ : ∃ x, w1.alloc (.cells #[.int .i64 ((q : Int) + 1)] 3) = x := ⟨_, rfl⟩
  rw [hw2] at E2 own2 B2 ⊢
  have hz2' : w2.heap.size = w.heap.size + 2 := by rw [← hw2, World.size_alloc, HZ.out]
  have HZ2 := Lib.hid hz2'
  clear hw2 hw1 u0 u1 E0 B0 hz2'
  have u0 := E2.cell 0
  have u1 := E2.cell 1
  simp only [List.getElem?_toArray, List.getElem?_cons_zero, List.getElem?_cons_succ] at u0 u1
  obtain ⟨gw, ow, y, rfl, hgw, hy, y0, y1, y2, y3, y4, y5, y6, y7, y8, y9, y10⟩ := (h.below B2).instr (k := q) (by omega)
  have HRAW := Lib.hid (raw_at (W := W) (x := inOf y) (by rw [← HI.out, List.getElem?_map, hy]; rfl : I[q]? = some (inOf y)))
  have hym := List.mem_of_getElem? hy
  have HYL := Lib.hid (HSL.out y hym)
  have HYK := Lib.hid (h.ils y hym)
  clear hy hym
  obtain ⟨op, a, nm, num, pA, pn, pc, ck, cN, cn, co, kA, kn, kc, lA, ln, lc, ks⟩ := y
  simp only at y0 y1 y2 y3 y4 y5 y6 y7 y8 y9 y10
  have E4 := E2.alloc (.cells #[.int .i64 op, .int .i64 a, .string nm, .int .i64 num, .slice pA pn pc, .int .i64 ck, .int .i64 cN, .string cn, .string co, .slice kA kn kc, .slice lA ln lc] 31)
  have G4 := Blk.new w2 31 #[.int .i64 op, .int .i64 a, .string nm, .int .i64 num, .slice pA pn pc, .int .i64 ck, .int .i64 cN, .string cn, .string co, .slice kA kn kc, .slice lA ln lc]
  have B4 := B2.alloc B2.size (.cells #[.int .i64 op, .int .i64 a, .string nm, .int .i64 num, .slice pA pn pc, .int .i64 ck, .int .i64 cN, .string cn, .string co, .slice kA kn kc, .slice lA ln lc] 31)
  have own4 := own2.alloc (.cells #[.int .i64 op, .int .i64 a, .string nm, .int .i64 num, .slice pA pn pc, .int .i64 ck, .int .i64 cN, .string cn, .string co, .slice kA kn kc, .slice lA ln lc] 31)
  go_upto_region 5 with fail
  obtain ⟨w4, hw4⟩ : ∃ x, w2.alloc (.cells #[.int .i64 op, .int .i64 a, .string nm, .int .i64 num, .slice pA pn pc, .int .i64 ck, .int .i64 cN, .string cn, .string co, .slice kA kn kc, .slice lA ln lc] 31) = x := ⟨_, rfl⟩
  rw [hw4] at E4 own4 B4 G4 ⊢
  rw [HZ2.out] at G4 ⊢
  have hz4' : w4.heap.size = w.heap.size + 3 := by rw [← hw4, World.size_alloc, HZ2.out]
  have HZ4 := Lib.hid hz4'
  clear hw4 u0 u1 E2 B2 own2 hz4' y0 y1 y2 y3 y4 y5 y6 y7 y8 y9 y10
  have u0 := E4.cell 0
  have u1 := E4.cell 1
  have z0 := G4.cell 0
  have z1 := G4.cell 1
  have z2 := G4.cell 2
  have z3 := G4.cell 3
  have z4 := G4.cell 4
  have z5 := G4.cell 5
  have z6 := G4.cell 6
  have z7 := G4.cell 7
  have z8 := G4.cell 8
  have z9 := G4.cell 9
  have z10 := G4.cell 10
  simp only [List.getElem?_toArray, List.getElem?_cons_zero, List.getElem?_cons_succ] at u0 u1 z0 z1 z2 z3 z4 z5 z6 z7 z8 z9 z10
  go_upto_block 0 with fail
  go_cut [5] (fun ov wx => OwnI wx w.heap.size ov (rawN I W (q : Int)) ∧ Below w.heap.size w wx)
  case first =>
    have hne : ∀ k : Int, ¬ op = k → (op == k) = false := fun k hk => by simpa using hk
    by_cases h4 : op = 4
    · subst h4
      have d : ((4 : Int) == 4) = true := rfl
      have HR : Hid (rawN I W (q : Int) = [a]) := Lib.hid (by rw [HRAW.out]; rfl)
      go_wp2_with fail
      go_meet
      case rel => exact ⟨by rw [HR.out]; exact owi_base (World.ownsRow_lit w4 _ 1 (Nat.le_refl _) (by unfold maxLen; omega) rfl) (by rw [HZ4.out]; omega), B4.alloc B4.size _⟩
    have d4 := hne 4 h4
    by_cases h6 : op = 6
    · subst h6
      have d : ((6 : Int) == 6) = true := rfl
      have HR : Hid (rawN I W (q : Int) = [a]) := Lib.hid (by rw [HRAW.out]; rfl)
      go_wp2_with fail
      go_meet
      case rel => exact ⟨by rw [HR.out]; exact owi_base (World.ownsRow_lit w4 _ 1 (Nat.le_refl _) (by unfold maxLen; omega) rfl) (by rw [HZ4.out]; omega), B4.alloc B4.size _⟩
    have d6 := hne 6 h6
    by_cases h5 : op = 5
    · subst h5
      have d : ((5 : Int) == 5) = true := rfl
      have HR : Hid (rawN I W (q : Int) = [(q : Int) + 1] ++ [a]) := Lib.hid (by rw [HRAW.out]; rfl)
      have hz4 : w.heap.size + 1 ≤ w4.heap.size := by rw [HZ4.out]; omega
      go_wp2_with (at_builtin; refine wpList_append_lies _ rfl (.tmp 42) (.tmp 45) 29 rfl (w.heap.size + 1) 3 i0 (.int .i64 0) 1 8 Try.underlying29 hi0 hz0 hz1 hz2 rfl (by decide) _ 1 ([.int .i64 ((q : Int) + 1)]) rfl (own4.alloc _) ⟨_, 0, none⟩ 1 1 [.int .i64 a] rfl rfl (World.news_of_block (heap_alloc_new _ _)) (by intro u hu; simp at hu; subst hu; rfl) (by omega) (by unfold maxLen; omega) (by omega) (by simp; omega) _ rfl ?_)
      intro g10 cap10 w10 own10 hgrow10 hat10 hlt10
      have B10 : Below w.heap.size w w10 := (B4.alloc B4.size _).grown hgrow10 (by have := B4.size; simp; omega) (fun k hk => by have := (own4.lt k hk).1; omega)
      have own11 := owi_snoc (l := [(q : Int) + 1]) (v := .slice (some ⟨g10, 0, none⟩) (1 + 1) cap10) own10
      clear own10 hgrow10 hat10 hlt10
      go_wp2_with fail
      go_meet
      case rel => exact ⟨by rw [HR.out]; exact owi_base own11 (by omega), B10⟩
    have d5 := hne 5 h5
    by_cases h7 : op = 7
    · subst h7
      have d : ((7 : Int) == 7) = true := rfl
      have HR : Hid (rawN I W (q : Int) = placesF [6, 12] 1 0 I) := Lib.hid (by rw [HRAW.out]; rfl)
      have pl := places_c (some ⟨gw, ow, none⟩) A' n c n' c' xs ws 1 w4.heap.size 2 2 [6, 12] (w4.alloc (.cells #[.int .i64 6, .int .i64 12] 3)) (h.next (B4.alloc B4.size _) (by have := B4.size; simp; omega)) HS.out (by decide) (by simp) rfl (by decide) (by
        intro j hj
        have hB := Blk.new w4 3 #[.int .i64 6, .int .i64 12]
        rw [Nat.zero_add, hB.cell j]
        rcases j with _ | _ | j
        · rfl
        · rfl
        · first | omega | (simp at hj; done) | (simp at hj; omega))
      rw [HI.out] at pl
      simp only [cdv] at pl
      go_wp2_with fail
      (with_reducible refine pl.mono ?_)
      clear pl
      rintro e w5 ⟨v5, rfl, own5, b5⟩
      have B5 := via b5 (B4.alloc B4.size (.cells #[.int .i64 6, .int .i64 12] 3))
      go_wp2_with fail
      go_meet
      case rel => exact ⟨by rw [HR.out]; exact owi_base own5 (by have := B4.size; simp; omega), B5⟩
    have d7 := hne 7 h7
    by_cases h15 : op = 15
    · subst h15
      have d : ((15 : Int) == 15) = true := rfl
      have HR : Hid (rawN I W (q : Int) = placesF [12] 0 0 I) := Lib.hid (by rw [HRAW.out]; rfl)
      have pl := places_c (some ⟨gw, ow, none⟩) A' n c n' c' xs ws 0 w4.heap.size 1 1 [12] (w4.alloc (.cells #[.int .i64 12] 3)) (h.next (B4.alloc B4.size _) (by have := B4.size; simp; omega)) HS.out (by decide) (by simp) rfl (by decide) (by
        intro j hj
        have hB := Blk.new w4 3 #[.int .i64 12]
        rw [Nat.zero_add, hB.cell j]
        rcases j with _ | j
        · rfl
        
        · first | omega | (simp at hj; done) | (simp at hj; omega))
      rw [HI.out] at pl
      simp only [cdv] at pl
      go_wp2_with fail
      (with_reducible refine pl.mono ?_)
      clear pl
      rintro e w5 ⟨v5, rfl, own5, b5⟩
      have B5 := via b5 (B4.alloc B4.size (.cells #[.int .i64 12] 3))
      go_wp2_with fail
      go_meet
      case rel => exact ⟨by rw [HR.out]; exact owi_base own5 (by have := B4.size; simp; omega), B5⟩
    have d15 := hne 15 h15
    by_cases h12 : op = 12
    · subst h12
      have d : ((12 : Int) == 12) = true := rfl
      have HR : Hid (rawN I W (q : Int) = [(q : Int) + 1] ++ (listT W ks ++ openT W)) := Lib.hid (by rw [HRAW.out]; rfl)
      have hz4 : w.heap.size + 1 ≤ w4.heap.size := by rw [HZ4.out]; omega
      have ce := expect_c (some ⟨gw, ow, none⟩) A' n c n' c' xs ws ⟨12, a, nm, num, pA, pn, pc, ck, cN, cn, co, kA, kn, kc, lA, ln, lc, ks⟩ w4 (h.next B4 B4.size) ((HYK.out.below B4).more B4.size) HYL.out HS.out
      rw [HW.out] at ce
      simp only [ixv, cdv] at ce
      go_wp2_with fail
      (with_reducible refine ce.mono ?_)
      clear ce
      rintro e w5 ⟨v5, rfl, own5, b5⟩
      have B5 := via b5 B4
      have own6 := owi_next own4 b5
      have hl5 : (listT W ks ++ openT W).length ≤ 24 := by
        have h1 : (listT W ks).length ≤ ks.length := filterMap_len _ _
        have h2 : (openT W).length ≤ W.length := filterMap_len _ _
        have h3 := ils_len HYK.out
        have h4 := HYL.out
        try simp only at h3 h4
        rw [HWl.out] at h2
        rw [List.length_append]; omega
      have hz5 : w.heap.size + 1 ≤ w5.heap.size := by have := b5.size; omega
      obtain ⟨L5, hL5⟩ : ∃ L, listT W ks ++ openT W = L := ⟨_, rfl⟩
      rw [hL5] at own5 hl5 HR
      clear hL5 b5 own4 u0 u1 z0 z1 z2 z3 z4 z5 z6 z7 z8 z9 z10
      rcases own5.2 with ⟨rfl, h2⟩ | ⟨g, cap, cur, rfl, h2, h3, h4', h5', _, _⟩
      · obtain rfl : L5 = [] := List.eq_nil_of_length_eq_zero h2
        go_wp2_with (at_builtin; refine wpList_append_own_none rfl (.tmp 59) (.tmp 62) 29 rfl (w.heap.size + 1) 3 i0 1 Try.underlying29 hi0 _ 1 [.int .i64 ((q : Int) + 1)] rfl own6 rfl ?_)
        go_wp2_with fail
        go_meet
        case rel => exact ⟨by rw [HR.out, List.append_nil]; exact owi_base own6 (by omega), B5⟩
      · obtain ⟨_, _, e1, _, _, r5, _⟩ := owi_rd own5
        have hnews : ∀ i u, (L5.map (Value.int .i64))[i]? = some u → w5.cell? ((⟨g, 0, none⟩ : Addr).add i) = some u := fun i u hu => own5.cells rfl i u hu
        go_wp2_with (at_builtin; refine wpList_append_own _ rfl (.tmp 59) (.tmp 62) 29 rfl (w.heap.size + 1) 3 i0 (.int .i64 0) 1 8 Try.underlying29 hi0 hz0 hz1 hz2 rfl (by decide) _ 1 [.int .i64 ((q : Int) + 1)] rfl own6 ⟨g, 0, none⟩ L5.length cap (L5.map (Value.int .i64)) rfl (by simp) hnews (by intro u hu; obtain ⟨x, _, rfl⟩ := List.mem_map.1 hu; rfl) (by unfold maxLen; omega) (by omega) hz5 ?_)
        intro v7 w7 own7 hgrow7 _
        have B7 : Below w.heap.size w w7 := B5.grown hgrow7 B5.size (fun i hi => by have := (own6.lt i hi).1; omega)
        have own8 : OwnI w7 w.heap.size v7 ([(q : Int) + 1] ++ L5) := owi_base (B := w.heap.size + 1) (by
          rw [List.length_append, List.map_append]; exact own7) (by omega)
        obtain ⟨A8, c8, rfl, _, _, _, _⟩ := owi_rd own8
        clear own7 hgrow7 own6 own5
        go_wp2_with fail
        go_meet
        case rel => exact ⟨by rw [HR.out]; exact own8, B7⟩
    have d12 := hne 12 h12
    by_cases hlo : op < 1
    · have dl : decide (op < 1) = true := decide_eq_true hlo
      have HR : Hid (rawN I W (q : Int) = []) := Lib.hid (by rw [HRAW.out]; simp only; rw [if_neg (by omega), if_neg h5, if_neg h7, if_neg h15, if_neg h12, if_pos (.inl hlo)])
      have hr := next_nil HR.out B4
      go_wp2
      go_ret
      exact hr
    have dl : decide (op < 1) = false := decide_eq_false hlo
    by_cases hhi : 16 ≤ op
    · have dh : decide (op ≥ 16) = true := decide_eq_true hhi
      have dh2 : decide (16 ≤ op) = true := decide_eq_true hhi
      have HR : Hid (rawN I W (q : Int) = []) := Lib.hid (by rw [HRAW.out]; simp only; rw [if_neg (by omega), if_neg h5, if_neg h7, if_neg h15, if_neg h12, if_pos (.inr hhi)])
      have hr := next_nil HR.out B4
      go_wp2
      go_ret
      exact hr
    have dh : decide (op ≥ 16) = false := decide_eq_false hhi
    have dh2 : decide (16 ≤ op) = false := decide_eq_false hhi
    have HR : Hid (rawN I W (q : Int) = [(q : Int) + 1]) := Lib.hid (by rw [HRAW.out]; simp only; rw [if_neg (by omega), if_neg h5, if_neg h7, if_neg h15, if_neg h12, if_neg (by omega)])
    go_wp2_with fail
    go_meet
    case rel => exact ⟨by rw [HR.out]; exact owi_base own4 (by omega), B4⟩
  case rest =>
    obtain ⟨own, B5⟩ := hcut
    have hlr : (rawN I W (q : Int)).length ≤ 1000 := by
      have := raw_len I W (q : Int) (fun x hx => by
        rw [← HI.out] at hx
        obtain ⟨y, hy, rfl⟩ := List.mem_map.1 hx
        have h1 := HSL.out y hy
        have h2 := ils_len (h.ils y hy)
        simp only; omega)
      rw [HIl.out, HWl.out] at this; omega
    obtain ⟨L, hL⟩ : ∃ L, rawN I W (q : Int) = L := ⟨_, rfl⟩
    have HNX : Hid (nextN I W (q : Int) = Lib.compact (L.mergeSort fun x y => decide (x ≤ y))) := Lib.hid (by rw [← hL]; rfl)
    rw [hL] at own hlr
    clear hL
    have so := sort_own own (by omega)
    have hlen : (L.mergeSort fun x y => decide (x ≤ y)).length ≤ 1000000 := by rw [List.length_mergeSort]; omega
    obtain ⟨L2, hL2⟩ : ∃ L2, (L.mergeSort fun x y => decide (x ≤ y)) = L2 := ⟨_, rfl⟩
    rw [hL2] at so hlen HNX
    clear hL2
    go_wp2_with fail
    (with_reducible refine so.mono ?_)
    clear so
    rintro e w6 ⟨rfl, own6, k6⟩
    have B6 := k6 _ B5 (Nat.le_refl _)
    have cp := compact_own own6 hlen
    go_wp2_with fail
    (with_reducible refine cp.mono ?_)
    clear cp
    rintro e w7 ⟨v7, rfl, own7, k7⟩
    have B7 := k7 _ B6 (Nat.le_refl _)
    go_wp2
    go_ret
    exact ⟨_, rfl, by rw [HNX.out]; exact own7, B7⟩
end FloW
end Go.Proofs.Ytdgonjncoggfeaa
