/- A number put among rising ones: the reference's walk. Condition: lists that fit. -/
import Derived.Test.YtdgonjncoggfeaaFloG
import Derived.Laws.AppendOwnNone
import Derived.Deep.Cut
namespace Go.Proofs.Ytdgonjncoggfeaa
set_option linter.unusedVariables false
set_option linter.unusedSimpArgs false
open Go.RowKit
namespace FloW
open FloP
set_option maxHeartbeats 6400000 in
set_option maxRecDepth 100000 in
theorem put_own_c (v : Value) (L : List Int) (x : Int) (w : World) (h : RdL w v L) (hl : L.length ≤ 100000) :
    Calls Try.prog 16 #[v, .int .i64 x] w fun e w' => ∃ v', e = .returned v' ∧ RdL w' v' (putS x L) ∧ ((v' = v ∧ putS x L = L) ∨ OwnI w' w.heap.size v' (putS x L)) ∧ Below w.heap.size w w' := by
  obtain ⟨i0, hi0, hz0, hz1, hz2⟩ := info_parts info_Int
  have HRD := Lib.hid h
  obtain ⟨A, c, rfl, hlc, hc, hr, hA⟩ := h
  unfold maxLen at hc
  obtain ⟨N, hN⟩ : ∃ N, L.length = N := ⟨_, rfl⟩
  have HN := Lib.hid hN
  rw [hN] at hlc hl hr HRD ⊢
  clear hN
  go_enter Try.func16, Try.ntmps16
  go_wp2_with fail
  go_loopw [5] (fun iv wr => ∃ k : Nat, iv = .int .i64 k ∧ k ≤ N ∧ Below w.heap.size w wr ∧ Hid (∀ j y, j < k → L[j]? = some y → y < x)) (fun iv _ => N - (intOf iv).toNat)
  case atStart => exact ⟨0, rfl, by omega, Below.refl _ _, Lib.hid (fun j y h => by omega)⟩
  case round =>
    obtain ⟨k, rfl, hk, B1, HX⟩ := hrel
    obtain ⟨w1, rfl⟩ : ∃ x : World, x = wr := ⟨_, rfl⟩
    by_cases hk2 : k < N
    · have di : decide ((k : Int) < (N : Int)) = true := decide_eq_true (by omega)
      obtain ⟨g, o, y, rfl, hg, hy, hcell⟩ := ils_get (hr.below B1) hk2
      by_cases hlt : y < x
      · have d : decide (y < x) = true := decide_eq_true hlt
        have HX2 : Hid (∀ j y, j < k + 1 → L[j]? = some y → y < x) := Lib.hid (fun j z hj hz => by
          by_cases e : j = k
          · subst e; rw [hy] at hz; cases hz; exact hlt
          · exact HX.out j z (by omega) hz)
        clear hy
        go_wp2
        go_roundw
        case rel => exact ⟨k + 1, by go_num, by omega, B1, HX2⟩
        case measure => simp [intOf]; omega
      · have d : decide (y < x) = false := decide_eq_false hlt
        have hput := put_at x L k (by rw [HN.out]; exact hk) (fun j z hj hz => HX.out j z hj hz) (fun z hz => by rw [hy] at hz; cases hz; exact hlt)
        by_cases he : y = x
        · subst he
          have de : (y == y) = true := by simp
          have hp2 : putS y L = L := by rw [hput, if_pos hy]
          have HP := Lib.hid hp2
          clear hput hp2 hy
          go_wp2
          go_ret
          exact ⟨_, rfl, by rw [HP.out]; exact HRD.out.next B1, .inl ⟨rfl, HP.out⟩, B1⟩
        · have de : (y == x) = false := by simpa using he
          have HPUT : Hid (putS x L = (L.take k ++ [x]) ++ L.drop k) := Lib.hid (by rw [hput, if_neg (by rw [hy]; intro e; cases e; exact he rfl)]; simp)
          obtain ⟨g2, o2, e2, _, hcf⟩ := Rd.flat hr (by omega) (by omega)
          cases e2
          have HNW1 : ∀ i u, ((L.take k).map (Value.int .i64))[i]? = some u → (w1.alloc (.cells #[] 3)).cell? ((⟨g, o, none⟩ : Addr).add i) = some u := by
            intro i u hu
            rw [List.getElem?_map, List.getElem?_take] at hu
            split at hu
            · have h1 := hcf i u (by rw [List.getElem?_map]; exact hu)
              rw [Addr.add_lit, (B1.alloc B1.size _).cell (by simpa using hg)]; exact h1
            · cases hu
          have HNW2 : Hid (∀ W, Below w.heap.size w W → ∀ i u, ((L.drop k).map (Value.int .i64))[i]? = some u → W.cell? ((⟨g, o + k, none⟩ : Addr).add i) = some u) := Lib.hid (by
            intro W hb i u hu
            rw [List.getElem?_map, List.getElem?_drop] at hu
            have h1 := hcf (k + i) u (by rw [List.getElem?_map]; exact hu)
            rw [Addr.add_lit, hb.cell (by simpa using hg)]
            rw [show o + k + i = o + (k + i) by omega]; exact h1)
          clear hput hy
          have hck : ¬ c = k := by omega
          have own0 : (w1.alloc (.cells #[] 3)).ownsRow w.heap.size 3 1 (.slice (some ⟨w1.heap.size, 0, none⟩) 0 0) 0 [] := owi_base (World.ownsRow_lit w1 _ 0 (Nat.le_refl _) (by unfold maxLen; omega) rfl) B1.size
          have B2 := B1.alloc B1.size (.cells #[] 3)
          have hz2' : w.heap.size ≤ (w1.alloc (.cells #[] 3)).heap.size := B2.size
          go_wp2_with (at_builtin; refine wpList_append_own _ rfl (.tmp 34) (.tmp 37) 29 rfl w.heap.size 3 i0 (.int .i64 0) 1 8 Try.underlying29 hi0 hz0 hz1 hz2 rfl (by decide) _ 0 (([] : List Value)) rfl own0 ⟨g, o, none⟩ k c ((L.take k).map (Value.int .i64)) rfl (by have := HN.out; simp only [List.length_map, List.length_take]; omega) HNW1 (by intro u hu; obtain ⟨x, _, rfl⟩ := List.mem_map.1 hu; rfl) (by unfold maxLen; omega) (by omega) hz2' ?_)
          intro v3 w3 own3 hgrow3 _
          have B3 : Below w.heap.size w w3 := B2.grown hgrow3 B2.size (fun i hi => by have := (own0.lt i hi).1; omega)
          try rw [List.nil_append] at own3
          try rw [Nat.zero_add] at own3
          have own3' : OwnI w3 w.heap.size v3 (L.take k) := by
            unfold OwnI; rw [List.length_take, HN.out, Nat.min_eq_left (by omega), List.map_take]; first | exact own3 | (rw [List.map_take] at own3; exact own3)
          obtain ⟨A3, c3, rfl, _, _, _, hlt3⟩ := owi_rd own3'
          have HTL : Hid ((L.take k).length = k) := Lib.hid (by rw [List.length_take, HN.out, Nat.min_eq_left (by omega)])
          unfold OwnI at own3'
          rw [HTL.out] at own3' hlt3 ⊢
          clear own3 hgrow3 own0 B2 B1 hz2'
          have hz3' : w.heap.size ≤ w3.heap.size := B3.size
          go_wp2_with (at_builtin; refine wpList_append_lies _ rfl (.tmp 39) (.tmp 41) 29 rfl w.heap.size 3 i0 (.int .i64 0) 1 8 Try.underlying29 hi0 hz0 hz1 hz2 rfl (by decide) _ k ((L.take k).map (Value.int .i64)) rfl (own3'.alloc _) ⟨_, 0, none⟩ 1 1 [.int .i64 x] rfl rfl (World.news_of_block (heap_alloc_new _ _)) (by intro u hu; simp at hu; subst hu; rfl) (by omega) (by unfold maxLen; omega) (by omega) (by simp; omega) _ rfl ?_)
          intro g10 cap10 w10 own10 hgrow10 hat10 hlt10
          have B10 : Below w.heap.size w w10 := (B3.alloc B3.size _).grown hgrow10 (by have := B3.size; simp; omega) (fun i hi => by have := (own3'.lt i hi).1; omega)
          have own11 : OwnI w10 w.heap.size (.slice (some ⟨g10, 0, none⟩) (k + 1) cap10) (L.take k ++ [x]) := by
            unfold OwnI
            rw [List.length_append, HTL.out]
            simpa [List.map_append, List.map_take] using own10
          have hz10 : w.heap.size ≤ w10.heap.size := B10.size
          clear own10 hgrow10 hat10 hlt10 own3'
          unfold OwnI at own11
          rw [List.length_append, HTL.out] at own11
          simp only [List.length_cons, List.length_nil, Nat.zero_add] at own11
          go_wp2_with (at_builtin; refine wpList_append_own _ rfl (.tmp 43) (.tmp 46) 29 rfl w.heap.size 3 i0 (.int .i64 0) 1 8 Try.underlying29 hi0 hz0 hz1 hz2 rfl (by decide) _ (k + 1) ((L.take k ++ [x]).map (Value.int .i64)) rfl own11 ⟨g, o + k, none⟩ (N - k) (c - k) ((L.drop k).map (Value.int .i64)) rfl (by have := HN.out; simp only [List.length_map, List.length_drop]; omega) (HNW2.out w10 B10) (by intro u hu; obtain ⟨x, _, rfl⟩ := List.mem_map.1 hu; rfl) (by unfold maxLen; omega) (by omega) hz10 ?_)
          intro v12 w12 own12 hgrow12 _
          have B12 : Below w.heap.size w w12 := B10.grown hgrow12 B10.size (fun i hi => by have := (own11.lt i hi).1; omega)
          have own13 : OwnI w12 w.heap.size v12 (putS x L) := by
            rw [HPUT.out]
            unfold OwnI
            rw [List.length_append, List.length_append, HTL.out, List.length_drop, HN.out]
            simpa [List.map_append, List.map_take, List.map_drop] using own12
          obtain ⟨A12, c12, rfl, _, _, _, _⟩ := owi_rd own13
          go_wp2
          go_ret
          exact ⟨_, rfl, RdL.of own13, .inr own13, B12⟩

    · obtain rfl : k = N := by omega
      have di : decide ((k : Int) < (k : Int)) = false := decide_eq_false (by omega)
      have hput := put_at x L k (by rw [HN.out]; exact hk) (fun j z hj hz => HX.out j z hj hz) (fun z hz => by have := (List.getElem?_eq_some_iff.1 hz).1; rw [HN.out] at this; omega)
      have HPUT : Hid (putS x L = L.take k ++ [x]) := Lib.hid (by
        rw [hput, if_neg (by intro e; have := (List.getElem?_eq_some_iff.1 e).1; rw [HN.out] at this; omega), List.drop_of_length_le (by rw [HN.out]; omega)])
      clear hput
      cases A with
      | none =>
        obtain rfl := hA rfl
        have hk0 : k = 0 := by omega
        subst hk0
        have HTK : Hid (L.take 0 = []) := Lib.hid rfl
        have own0 : (w1.alloc (.cells #[] 3)).ownsRow w.heap.size 3 1 (.slice (some ⟨w1.heap.size, 0, none⟩) 0 0) 0 [] := owi_base (World.ownsRow_lit w1 _ 0 (Nat.le_refl _) (by unfold maxLen; omega) rfl) B1.size
        have B2 := B1.alloc B1.size (.cells #[] 3)
        have hz2' : w.heap.size ≤ (w1.alloc (.cells #[] 3)).heap.size := B2.size
        have HTL : Hid ((L.take 0).length = 0) := Lib.hid rfl
        have B3 := B2
        have hz3' : w.heap.size ≤ (w1.alloc (.cells #[] 3)).heap.size := B3.size
        go_upto_region 7 with fail
        obtain ⟨w3, hw3⟩ : ∃ x, w1.alloc (.cells #[] 3) = x := ⟨_, rfl⟩
        rw [hw3] at own0 B2 B3 hz3' ⊢
        clear hw3
        generalize hv6 : Value.slice (some ⟨w1.heap.size, 0, none⟩) 0 0 = v6 at own0 ⊢
        clear hv6
        go_wp2_with (at_builtin; refine wpList_append_lies _ rfl (.tmp 39) (.tmp 41) 29 rfl w.heap.size 3 i0 (.int .i64 0) 1 8 Try.underlying29 hi0 hz0 hz1 hz2 rfl (by decide) _ 0 ([]) rfl (own0.alloc _) ⟨_, 0, none⟩ 1 1 [.int .i64 x] rfl rfl (World.news_of_block (heap_alloc_new _ _)) (by intro u hu; simp at hu; subst hu; rfl) (by omega) (by unfold maxLen; omega) (by omega) (by simp; omega) _ rfl ?_)
        intro g10 cap10 w10 own10 hgrow10 hat10 hlt10
        have B10 : Below w.heap.size w w10 := (B3.alloc B3.size _).grown hgrow10 (by have := B3.size; simp; omega) (fun i hi => by have := (own0.lt i hi).1; omega)
        have own11 : OwnI w10 w.heap.size (.slice (some ⟨g10, 0, none⟩) (0 + 1) cap10) (L.take 0 ++ [x]) := by
          unfold OwnI
          rw [List.length_append, HTL.out]
          simpa [List.map_append, List.map_take] using own10
        have hz10 : w.heap.size ≤ w10.heap.size := B10.size
        clear own10 hgrow10 hat10 hlt10 own0
        go_wp2_with (at_builtin; refine wpList_append_own_none rfl (.tmp 43) (.tmp 46) 29 rfl w.heap.size 3 i0 1 Try.underlying29 hi0 _ _ _ rfl own11 rfl ?_)
        go_wp2
        go_ret
        rw [HPUT.out]
        exact ⟨_, rfl, RdL.of own11, .inr own11, B10⟩

      | some ad =>
        have HPUT2 : Hid (putS x L = (L.take k ++ [x]) ++ L.drop k) := Lib.hid (by rw [HPUT.out, List.drop_of_length_le (by rw [HN.out]; omega), List.append_nil])
        have HNW1 : ∀ i u, ((L.take k).map (Value.int .i64))[i]? = some u → (w1.alloc (.cells #[] 3)).cell? (ad.add i) = some u := by
          intro i u hu
          have hik : i < k := by
            have := (List.getElem?_eq_some_iff.1 hu).1
            rw [List.length_map, List.length_take, HN.out] at this; omega
          obtain ⟨ad2, e2, h3, hcf⟩ := hr.2 (by omega)
          cases e2
          rw [List.getElem?_map, List.getElem?_take_of_lt hik] at hu
          rw [(B1.alloc B1.size _).cell (by rw [add_block]; exact h3)]
          exact hcf i u (by rw [List.getElem?_map]; exact hu)
        have HNW2 : Hid (∀ (ad2 : Addr) W, Below w.heap.size w W → ∀ i u, ((L.drop k).map (Value.int .i64))[i]? = some u → W.cell? (ad2.add i) = some u) := Lib.hid (by
          intro ad2 W hb i u hu
          have := (List.getElem?_eq_some_iff.1 hu).1
          rw [List.length_map, List.length_drop, HN.out] at this; omega)
        by_cases hk0 : k = 0
        · subst hk0
          have own0 : (w1.alloc (.cells #[] 3)).ownsRow w.heap.size 3 1 (.slice (some ⟨w1.heap.size, 0, none⟩) 0 0) 0 [] := owi_base (World.ownsRow_lit w1 _ 0 (Nat.le_refl _) (by unfold maxLen; omega) rfl) B1.size
          have B2 := B1.alloc B1.size (.cells #[] 3)
          have hz2' : w.heap.size ≤ (w1.alloc (.cells #[] 3)).heap.size := B2.size
          go_wp2_with (at_builtin; refine wpList_append_own _ rfl (.tmp 34) (.tmp 37) 29 rfl w.heap.size 3 i0 (.int .i64 0) 1 8 Try.underlying29 hi0 hz0 hz1 hz2 rfl (by decide) _ 0 (([] : List Value)) rfl own0 ad 0 c ((L.take 0).map (Value.int .i64)) rfl (by have := HN.out; simp only [List.length_map, List.length_take]; omega) HNW1 (by intro u hu; obtain ⟨x, _, rfl⟩ := List.mem_map.1 hu; rfl) (by unfold maxLen; omega) (by omega) hz2' ?_)
          intro v3 w3 own3 hgrow3 _
          have B3 : Below w.heap.size w w3 := B2.grown hgrow3 B2.size (fun i hi => by have := (own0.lt i hi).1; omega)
          try rw [List.nil_append] at own3
          try rw [Nat.zero_add] at own3
          have own3' : OwnI w3 w.heap.size v3 (L.take 0) := by
            unfold OwnI; rw [List.length_take, HN.out, Nat.min_eq_left (by omega), List.map_take]; first | exact own3 | (rw [List.map_take] at own3; exact own3)
          obtain ⟨A3, c3, rfl, _, _, _, hlt3⟩ := owi_rd own3'
          have HTL : Hid ((L.take 0).length = 0) := Lib.hid (by rw [List.length_take, HN.out, Nat.min_eq_left (by omega)])
          unfold OwnI at own3'
          rw [HTL.out] at own3' hlt3 ⊢
          clear own3 hgrow3 own0 B2 B1 hz2'
          have hz3' : w.heap.size ≤ w3.heap.size := B3.size
          go_wp2_with (at_builtin; refine wpList_append_lies _ rfl (.tmp 39) (.tmp 41) 29 rfl w.heap.size 3 i0 (.int .i64 0) 1 8 Try.underlying29 hi0 hz0 hz1 hz2 rfl (by decide) _ 0 ((L.take 0).map (Value.int .i64)) rfl (own3'.alloc _) ⟨_, 0, none⟩ 1 1 [.int .i64 x] rfl rfl (World.news_of_block (heap_alloc_new _ _)) (by intro u hu; simp at hu; subst hu; rfl) (by omega) (by unfold maxLen; omega) (by omega) (by simp; omega) _ rfl ?_)
          intro g10 cap10 w10 own10 hgrow10 hat10 hlt10
          have B10 : Below w.heap.size w w10 := (B3.alloc B3.size _).grown hgrow10 (by have := B3.size; simp; omega) (fun i hi => by have := (own3'.lt i hi).1; omega)
          have own11 : OwnI w10 w.heap.size (.slice (some ⟨g10, 0, none⟩) (0 + 1) cap10) (L.take 0 ++ [x]) := by
            unfold OwnI
            rw [List.length_append, HTL.out]
            simpa [List.map_append, List.map_take] using own10
          have hz10 : w.heap.size ≤ w10.heap.size := B10.size
          clear own10 hgrow10 hat10 hlt10 own3'
          unfold OwnI at own11
          rw [List.length_append, HTL.out] at own11
          simp only [List.length_cons, List.length_nil, Nat.zero_add] at own11
          go_wp2_with (at_builtin; refine wpList_append_own _ rfl (.tmp 43) (.tmp 46) 29 rfl w.heap.size 3 i0 (.int .i64 0) 1 8 Try.underlying29 hi0 hz0 hz1 hz2 rfl (by decide) _ (0 + 1) ((L.take 0 ++ [x]).map (Value.int .i64)) rfl own11 ad 0 c ((L.drop 0).map (Value.int .i64)) rfl (by have := HN.out; simp only [List.length_map, List.length_drop]; omega) (HNW2.out _ w10 B10) (by intro u hu; obtain ⟨x, _, rfl⟩ := List.mem_map.1 hu; rfl) (by unfold maxLen; omega) (by omega) hz10 ?_)
          intro v12 w12 own12 hgrow12 _
          have B12 : Below w.heap.size w w12 := B10.grown hgrow12 B10.size (fun i hi => by have := (own11.lt i hi).1; omega)
          have own13 : OwnI w12 w.heap.size v12 (putS x L) := by
            rw [HPUT2.out]
            unfold OwnI
            rw [List.length_append, List.length_append, HTL.out, List.length_drop, HN.out]
            simpa [List.map_append, List.map_take, List.map_drop] using own12
          obtain ⟨A12, c12, rfl, _, _, _, _⟩ := owi_rd own13
          go_wp2
          go_ret
          exact ⟨_, rfl, RdL.of own13, .inr own13, B12⟩

        · by_cases hck : c = k
          · subst hck
            have own0 : (w1.alloc (.cells #[] 3)).ownsRow w.heap.size 3 1 (.slice (some ⟨w1.heap.size, 0, none⟩) 0 0) 0 [] := owi_base (World.ownsRow_lit w1 _ 0 (Nat.le_refl _) (by unfold maxLen; omega) rfl) B1.size
            have B2 := B1.alloc B1.size (.cells #[] 3)
            have hz2' : w.heap.size ≤ (w1.alloc (.cells #[] 3)).heap.size := B2.size
            go_wp2_with (at_builtin; refine wpList_append_own _ rfl (.tmp 34) (.tmp 37) 29 rfl w.heap.size 3 i0 (.int .i64 0) 1 8 Try.underlying29 hi0 hz0 hz1 hz2 rfl (by decide) _ 0 (([] : List Value)) rfl own0 ad c c ((L.take c).map (Value.int .i64)) rfl (by have := HN.out; simp only [List.length_map, List.length_take]; omega) HNW1 (by intro u hu; obtain ⟨x, _, rfl⟩ := List.mem_map.1 hu; rfl) (by unfold maxLen; omega) (by omega) hz2' ?_)
            intro v3 w3 own3 hgrow3 _
            have B3 : Below w.heap.size w w3 := B2.grown hgrow3 B2.size (fun i hi => by have := (own0.lt i hi).1; omega)
            try rw [List.nil_append] at own3
            try rw [Nat.zero_add] at own3
            have own3' : OwnI w3 w.heap.size v3 (L.take c) := by
              unfold OwnI; rw [List.length_take, HN.out, Nat.min_eq_left (by omega), List.map_take]; first | exact own3 | (rw [List.map_take] at own3; exact own3)
            obtain ⟨A3, c3, rfl, _, _, _, hlt3⟩ := owi_rd own3'
            have HTL : Hid ((L.take c).length = c) := Lib.hid (by rw [List.length_take, HN.out, Nat.min_eq_left (by omega)])
            unfold OwnI at own3'
            rw [HTL.out] at own3' hlt3 ⊢
            clear own3 hgrow3 own0 B2 B1 hz2'
            have hz3' : w.heap.size ≤ w3.heap.size := B3.size
            go_wp2_with (at_builtin; refine wpList_append_lies _ rfl (.tmp 39) (.tmp 41) 29 rfl w.heap.size 3 i0 (.int .i64 0) 1 8 Try.underlying29 hi0 hz0 hz1 hz2 rfl (by decide) _ c ((L.take c).map (Value.int .i64)) rfl (own3'.alloc _) ⟨_, 0, none⟩ 1 1 [.int .i64 x] rfl rfl (World.news_of_block (heap_alloc_new _ _)) (by intro u hu; simp at hu; subst hu; rfl) (by omega) (by unfold maxLen; omega) (by omega) (by simp; omega) _ rfl ?_)
            intro g10 cap10 w10 own10 hgrow10 hat10 hlt10
            have B10 : Below w.heap.size w w10 := (B3.alloc B3.size _).grown hgrow10 (by have := B3.size; simp; omega) (fun i hi => by have := (own3'.lt i hi).1; omega)
            have own11 : OwnI w10 w.heap.size (.slice (some ⟨g10, 0, none⟩) (c + 1) cap10) (L.take c ++ [x]) := by
              unfold OwnI
              rw [List.length_append, HTL.out]
              simpa [List.map_append, List.map_take] using own10
            have hz10 : w.heap.size ≤ w10.heap.size := B10.size
            clear own10 hgrow10 hat10 hlt10 own3'
            unfold OwnI at own11
            rw [List.length_append, HTL.out] at own11
            simp only [List.length_cons, List.length_nil, Nat.zero_add] at own11
            go_wp2_with (at_builtin; refine wpList_append_own _ rfl (.tmp 43) (.tmp 46) 29 rfl w.heap.size 3 i0 (.int .i64 0) 1 8 Try.underlying29 hi0 hz0 hz1 hz2 rfl (by decide) _ (c + 1) ((L.take c ++ [x]).map (Value.int .i64)) rfl own11 ad 0 0 ((L.drop c).map (Value.int .i64)) rfl (by have := HN.out; simp only [List.length_map, List.length_drop]; omega) (HNW2.out _ w10 B10) (by intro u hu; obtain ⟨x, _, rfl⟩ := List.mem_map.1 hu; rfl) (by unfold maxLen; omega) (by omega) hz10 ?_)
            intro v12 w12 own12 hgrow12 _
            have B12 : Below w.heap.size w w12 := B10.grown hgrow12 B10.size (fun i hi => by have := (own11.lt i hi).1; omega)
            have own13 : OwnI w12 w.heap.size v12 (putS x L) := by
              rw [HPUT2.out]
              unfold OwnI
              rw [List.length_append, List.length_append, HTL.out, List.length_drop, HN.out]
              simpa [List.map_append, List.map_take, List.map_drop] using own12
            obtain ⟨A12, c12, rfl, _, _, _, _⟩ := owi_rd own13
            go_wp2
            go_ret
            exact ⟨_, rfl, RdL.of own13, .inr own13, B12⟩

          · have hck2 : ¬ k = c := fun e => hck e.symm
            have hck3 : k ≤ c := hlc
            have hc0 : ¬ c = 0 := by omega
            have own0 : (w1.alloc (.cells #[] 3)).ownsRow w.heap.size 3 1 (.slice (some ⟨w1.heap.size, 0, none⟩) 0 0) 0 [] := owi_base (World.ownsRow_lit w1 _ 0 (Nat.le_refl _) (by unfold maxLen; omega) rfl) B1.size
            have B2 := B1.alloc B1.size (.cells #[] 3)
            have hz2' : w.heap.size ≤ (w1.alloc (.cells #[] 3)).heap.size := B2.size
            go_wp2_with (at_builtin; refine wpList_append_own _ rfl (.tmp 34) (.tmp 37) 29 rfl w.heap.size 3 i0 (.int .i64 0) 1 8 Try.underlying29 hi0 hz0 hz1 hz2 rfl (by decide) _ 0 (([] : List Value)) rfl own0 ad k c ((L.take k).map (Value.int .i64)) rfl (by have := HN.out; simp only [List.length_map, List.length_take]; omega) HNW1 (by intro u hu; obtain ⟨x, _, rfl⟩ := List.mem_map.1 hu; rfl) (by unfold maxLen; omega) (by omega) hz2' ?_)
            intro v3 w3 own3 hgrow3 _
            have B3 : Below w.heap.size w w3 := B2.grown hgrow3 B2.size (fun i hi => by have := (own0.lt i hi).1; omega)
            try rw [List.nil_append] at own3
            try rw [Nat.zero_add] at own3
            have own3' : OwnI w3 w.heap.size v3 (L.take k) := by
              unfold OwnI; rw [List.length_take, HN.out, Nat.min_eq_left (by omega), List.map_take]; first | exact own3 | (rw [List.map_take] at own3; exact own3)
            obtain ⟨A3, c3, rfl, _, _, _, hlt3⟩ := owi_rd own3'
            have HTL : Hid ((L.take k).length = k) := Lib.hid (by rw [List.length_take, HN.out, Nat.min_eq_left (by omega)])
            unfold OwnI at own3'
            rw [HTL.out] at own3' hlt3 ⊢
            clear own3 hgrow3 own0 B2 B1 hz2'
            have hz3' : w.heap.size ≤ w3.heap.size := B3.size
            go_wp2_with (at_builtin; refine wpList_append_lies _ rfl (.tmp 39) (.tmp 41) 29 rfl w.heap.size 3 i0 (.int .i64 0) 1 8 Try.underlying29 hi0 hz0 hz1 hz2 rfl (by decide) _ k ((L.take k).map (Value.int .i64)) rfl (own3'.alloc _) ⟨_, 0, none⟩ 1 1 [.int .i64 x] rfl rfl (World.news_of_block (heap_alloc_new _ _)) (by intro u hu; simp at hu; subst hu; rfl) (by omega) (by unfold maxLen; omega) (by omega) (by simp; omega) _ rfl ?_)
            intro g10 cap10 w10 own10 hgrow10 hat10 hlt10
            have B10 : Below w.heap.size w w10 := (B3.alloc B3.size _).grown hgrow10 (by have := B3.size; simp; omega) (fun i hi => by have := (own3'.lt i hi).1; omega)
            have own11 : OwnI w10 w.heap.size (.slice (some ⟨g10, 0, none⟩) (k + 1) cap10) (L.take k ++ [x]) := by
              unfold OwnI
              rw [List.length_append, HTL.out]
              simpa [List.map_append, List.map_take] using own10
            have hz10 : w.heap.size ≤ w10.heap.size := B10.size
            clear own10 hgrow10 hat10 hlt10 own3'
            unfold OwnI at own11
            rw [List.length_append, HTL.out] at own11
            simp only [List.length_cons, List.length_nil, Nat.zero_add] at own11
            go_wp2_with (at_builtin; refine wpList_append_own _ rfl (.tmp 43) (.tmp 46) 29 rfl w.heap.size 3 i0 (.int .i64 0) 1 8 Try.underlying29 hi0 hz0 hz1 hz2 rfl (by decide) _ (k + 1) ((L.take k ++ [x]).map (Value.int .i64)) rfl own11 (ad.add k) 0 (c - k) ((L.drop k).map (Value.int .i64)) rfl (by have := HN.out; simp only [List.length_map, List.length_drop]; omega) (HNW2.out _ w10 B10) (by intro u hu; obtain ⟨x, _, rfl⟩ := List.mem_map.1 hu; rfl) (by unfold maxLen; omega) (by omega) hz10 ?_)
            intro v12 w12 own12 hgrow12 _
            have B12 : Below w.heap.size w w12 := B10.grown hgrow12 B10.size (fun i hi => by have := (own11.lt i hi).1; omega)
            have own13 : OwnI w12 w.heap.size v12 (putS x L) := by
              rw [HPUT2.out]
              unfold OwnI
              rw [List.length_append, List.length_append, HTL.out, List.length_drop, HN.out]
              simpa [List.map_append, List.map_take, List.map_drop] using own12
            obtain ⟨A12, c12, rfl, _, _, _, _⟩ := owi_rd own13
            go_wp2
            go_ret
            exact ⟨_, rfl, RdL.of own13, .inr own13, B12⟩

theorem put_c (v : Value) (L : List Int) (x : Int) (w : World) (h : RdL w v L) (hl : L.length ≤ 100000) :
    Calls Try.prog 16 #[v, .int .i64 x] w fun e w' => ∃ v', e = .returned v' ∧ RdL w' v' (putS x L) ∧ Below w.heap.size w w' :=
  (put_own_c v L x w h hl).mono (by
    rintro e w' ⟨v', h1, h2, _, h3⟩
    exact ⟨v', h1, h2, h3⟩)
end FloW
end Go.Proofs.Ytdgonjncoggfeaa
