/- What may be reached: the walk of the program's search. Condition: codes that are small. -/
import Derived.Test.YtdgonjncoggfeaaFloD
import Derived.Deep.LoopGhost
import Derived.OwnWalk
namespace Go.Proofs.Ytdgonjncoggfeaa
set_option linter.unusedVariables false
set_option linter.unusedSimpArgs false
open Go.RowKit
namespace FloW
open FloP
/-- Which places are marked. -/
def Mk (bs : List Bool) (i : Int) : Prop := ∃ k : Nat, i = k ∧ bs[k]? = some true
theorem mk_set {bs : List Bool} {k : Nat} (h : k < bs.length) (i : Int) : Mk (bs.set k true) i ↔ i = k ∨ Mk bs i := by
  constructor
  · rintro ⟨j, rfl, hj⟩
    rw [List.getElem?_set] at hj
    by_cases e : k = j
    · exact .inl (by omega)
    · rw [if_neg e] at hj; exact .inr ⟨j, rfl, hj⟩
  · rintro (rfl | ⟨j, rfl, hj⟩)
    · exact ⟨k, rfl, by rw [List.getElem?_set_self h]⟩
    · refine ⟨j, rfl, ?_⟩
      rw [List.getElem?_set]
      by_cases e : k = j
      · subst e; rw [if_pos rfl, if_pos h]
      · rw [if_neg e]; exact hj
theorem unmark {bs : List Bool} {k : Nat} (h : bs[k]? = some false) : (bs.set k true).count false + 1 = bs.count false := by
  obtain ⟨hk, e⟩ := List.getElem?_eq_some_iff.1 h
  rw [List.count_set hk]
  have : 0 < bs.count false := List.count_pos_iff.2 (List.mem_of_getElem? h)
  simp [e]; omega
theorem owi_cut {w : World} {B N c : Nat} {A : Option Addr} {l : List Int} {x : Int} (h : w.ownsRow B 3 1 (.slice A (N + 1) c) (N + 1) ((l ++ [x]).map (Value.int .i64))) : w.ownsRow B 3 1 (.slice A N c) N (l.map (Value.int .i64)) := by
  have hl : l.length = N := by have := h.1; simpa using this
  rcases h.2 with ⟨e, _⟩ | ⟨g, cap, cur, e, h2, h3, h4, h5, h6, h7⟩
  · cases e
  · cases e
    refine ⟨by simp [hl], .inr ⟨g, c, cur, rfl, h2, h3, by omega, h5, h6, ?_⟩⟩
    have := congrArg (List.take N) h7
    rw [List.take_take, List.map_append, List.take_left' (by simpa using hl)] at this
    rw [Nat.mul_one]; simpa [Nat.min_eq_left (show N ≤ N + 1 by omega)] using this
theorem owi_last {w : World} {B N c : Nat} {A : Option Addr} {l : List Int} {x : Int} (h : w.ownsRow B 3 1 (.slice A (l.length + 1) c) N ((l ++ [x]).map (Value.int .i64))) : ∃ g, A = some ⟨g, 0, none⟩ ∧ w.cell? ⟨g, l.length, none⟩ = some (.int .i64 x) := by
  rcases h.2 with ⟨e, _⟩ | ⟨g, cap, cur, e, h2, h3, h4, h5, h6, h7⟩
  · cases e
  · cases e
    have hc := h.cells rfl l.length (.int .i64 x) (by rw [List.getElem?_map, List.getElem?_append_right (Nat.le_refl _)]; simp)
    refine ⟨g, rfl, ?_⟩
    unfold Addr.add at hc
    split at hc
    · next hi => rw [hi]; exact hc
    · rwa [Nat.zero_add] at hc
theorem info_Bool : (Try.prog.info? 4).map (fun i => (i.zero, i.size, i.bytes)) = some (some (.bool false), 1, 1) := by kernel_rfl
def SeenPost (I : List In) (W : List Wt) (w : World) (e : Ending) (w' : World) : Prop := ∃ (v : Value) (bs : List Bool), e = .returned v ∧ bs.length = I.length ∧ (∀ i, Mk bs i ↔ Rch I W i) ∧ (∃ A c, v = .slice A bs.length c ∧ Rd w' w'.heap.size 1 A bs.length (bs.map Value.bool)) ∧ Below w.heap.size w w'
set_option maxHeartbeats 6400000 in
set_option maxRecDepth 100000 in
theorem seen_c (A A' : Option Addr) (n c n' c' : Nat) (xs : List Ix) (ws : List Wx) (w : World) (h : Cd w w.heap.size A n A' n' xs ws) (hs : Sm n n' xs) :
    Calls Try.prog 17 #[cdv A n c A' n' c'] w (SeenPost (xs.map inOf) (ws.map wtOf) w) := by
  obtain ⟨i0, hi0, hz0, hz1, hz2⟩ := info_parts info_Int
  obtain ⟨ib, hib, hb0, hb1, hb2⟩ := info_parts info_Bool
  have HS := Lib.hid hs
  simp only [cdv]
  obtain ⟨hsn, hsm, hsl⟩ := hs
  have HSL := Lib.hid hsl
  have hlw := h.len.1
  have HLW := Lib.hid hlw
  clear hlw hsl
  have E0 := Blk.new w 33 #[.slice A n c, .slice A' n' c']
  have B0 : Below w.heap.size w (w.alloc (.cells #[.slice A n c, .slice A' n' c'] 33)) := by go_grown
  obtain ⟨w1, hw1⟩ : ∃ q, w.alloc (.cells #[.slice A n c, .slice A' n' c'] 33) = q := ⟨_, rfl⟩
  have hz : w1.heap.size = w.heap.size + 1 := by rw [← hw1]; simp
  have HZ := Lib.hid hz
  clear hz
  rw [hw1] at E0 B0
  have u0 := E0.cell 0
  simp only [List.getElem?_toArray, List.getElem?_cons_zero, List.getElem?_cons_succ] at u0
  obtain ⟨I, hI⟩ : ∃ I, xs.map inOf = I := ⟨_, rfl⟩
  obtain ⟨W, hW⟩ : ∃ W, ws.map wtOf = W := ⟨_, rfl⟩
  rw [hI, hW]
  have HI := Lib.hid hI
  have HW := Lib.hid hW
  have hIl : I.length = n := by rw [← hI, List.length_map, HLW.out]
  have HIl := Lib.hid hIl
  have hWl : W.length = n' := by rw [← hW, List.length_map, h.len.2]
  have HWl := Lib.hid hWl
  clear hIl hI hW hWl
  go_enter Try.func17, Try.ntmps17
  go_wp2_with (refine wpList_make_full _ rfl (.tmp 8) (.tmp 8) 47 rfl w1.heap.size 4 ib (.bool false) 1 Try.underlying47 hib hb0 hb1 .i64 .i64 (n : Int) (n : Int) n rfl rfl rfl rfl (by rw [hb2]; omega) (by unfold maxLen; omega) (Nat.le_refl _) ?_)
  intro w2 ownm hgrow2
  have B2 : Below w.heap.size w w2 := B0.grown hgrow2 B0.size (fun k hk => by cases hk)
  have E2 : Blk w2 w.heap.size 33 #[.slice A n c, .slice A' n' c'] := (hgrow2.block _ E0.lt (by simp)).trans E0
  have M2 : Blk w2 w1.heap.size 4 ((List.replicate n false).map Value.bool).toArray := by
    rcases ownm.2 with ⟨e, _⟩ | ⟨g, cap, cur, e, _, h3, _, _, h6, h7⟩
    · cases e
    · cases e
      have : cur = ((List.replicate n false).map Value.bool).toArray := by
        apply Array.toList_inj.1
        rw [List.take_of_length_le (by simp [h6])] at h7
        rw [h7]; simp [madeCells, Value.cells, Nat.mod_one]; exact List.ext_getElem (by simp) (fun i _ _ => by simp)
      unfold Blk; rw [h3, this]
  have hz2' : w1.heap.size < w2.heap.size := M2.lt
  clear ownm hgrow2 E0 B0 u0
  have B3 := B2.alloc B2.size (.cells #[.int .i64 0] 3)
  have E3 := E2.alloc (.cells #[.int .i64 0] 3)
  have M3 := M2.alloc (.cells #[.int .i64 0] 3)
  have own3 : OwnI (w2.alloc (.cells #[.int .i64 0] 3)) w2.heap.size (.slice (some ⟨w2.heap.size, 0, none⟩) 1 1) [0] := World.ownsRow_lit w2 _ 1 (Nat.le_refl _) (by unfold maxLen; omega) rfl
  have hz3' : w2.heap.size ≤ (w2.alloc (.cells #[.int .i64 0] 3)).heap.size := by simp
  have HG : Hid (w.heap.size < w1.heap.size) := Lib.hid (by rw [HZ.out]; omega)
  go_wp2_with fail
  try clear hw1
  clear B2 E2 M2
  go_loopg [4] (n * 100 + 1) (fun gg tv wr => ∃ (T : List Int) (bs : List Bool), OwnI wr w2.heap.size tv T ∧ Blk wr w1.heap.size 4 ((bs.map Value.bool).toArray) ∧ bs.length = n ∧ Hid (Srch I W (Mk bs) T) ∧ Blk wr w.heap.size 33 #[.slice A n c, .slice A' n' c'] ∧ Below w.heap.size w wr ∧ w2.heap.size ≤ wr.heap.size ∧ bs.count false * 100 + T.length ≤ gg ∧ T.length + 100 * bs.count false ≤ 100 * n + 1)
  case atStart =>
    refine ⟨[0], List.replicate n false, own3, M3, by simp, Lib.hid ?_, E3, B3, hz3', by simp, by simp; omega⟩
    have := Srch.init I W
    have e : Mk (List.replicate n false) = fun _ => False := by
      funext i
      apply propext
      constructor
      · rintro ⟨k, _, hk⟩
        rw [List.getElem?_replicate] at hk
        split at hk <;> cases hk
      · exact fun h => h.elim
    rw [e]; exact this
  case round =>
    clear own3 M3 E3 B3 hz3'
    obtain ⟨T, bs, own1, M1, hbs, HSR, E1, B1, hz1', hgk, hT⟩ := hrel
    obtain ⟨w3, rfl⟩ : ∃ x : World, x = wr := ⟨_, rfl⟩
    have u0 := E1.cell 0
    have u1 := E1.cell 1
    simp only [List.getElem?_toArray, List.getElem?_cons_zero, List.getElem?_cons_succ] at u0 u1
    have HBS := Lib.hid hbs
    clear hbs
    rcases List.eq_nil_or_concat T with rfl | ⟨T0, t, rfl⟩
    · obtain ⟨A2, c2, rfl, _, _, _, _⟩ := owi_rd own1
      go_wp2
      go_ret
      refine ⟨_, bs, rfl, by rw [HBS.out, HIl.out], HSR.out.done, ⟨some ⟨w1.heap.size, 0, none⟩, n, by rw [HBS.out]; rfl, ?_⟩, B1⟩
      exact ⟨by simp, fun _ => ⟨_, rfl, M1.lt, fun i u hu => by
        unfold Addr.add
        split
        · next hi => subst hi; rw [M1.cell]; simpa using hu
        · rw [Nat.zero_add, M1.cell]; simpa using hu⟩⟩
    rw [List.concat_eq_append] at own1 hgk hT HSR
    obtain ⟨A2, c2, rfl, hc2, hm2, _, hlt2⟩ := owi_rd own1
    rw [List.length_append] at hgk hT hlt2 hc2 ⊢
    simp only [List.length_cons, List.length_nil, Nat.zero_add] at hgk hT hlt2 hc2 ⊢
    unfold OwnI at own1
    rw [List.length_append] at own1
    simp only [List.length_cons, List.length_nil, Nat.zero_add] at own1
    have own2 := owi_cut own1
    obtain ⟨g2, rfl, ct⟩ := owi_last own1
    obtain ⟨N, hN⟩ : ∃ N, T0.length = N := ⟨_, rfl⟩
    have HN := Lib.hid hN
    rw [hN] at own2 hgk hT hlt2 hc2 ct ⊢
    unfold maxLen at hm2
    clear hN own1
    have hcnt : bs.count false ≤ n := by rw [← HBS.out]; exact List.count_le_length
    have hN3 : N ≤ 3001 := by omega
    have dN : decide ((N : Int) + 1 > 0) = true := decide_eq_true (by omega)
    have dN2 : decide ((0 : Int) < (N : Int) + 1) = true := decide_eq_true (by omega)
    have ew : IntKind.i64.wrap ((N : Int) + 1 - 1) = (N : Int) := by rw [Int.add_sub_cancel]; exact IntWalk.i64_in _ (by omega)
    have hmem : ∀ x, x ∈ T0 ++ [t] ↔ x = t ∨ x ∈ T0 := fun x => by simp [or_comm]
    have HM := Lib.hid hmem
    clear hmem
    have skip : ((t < 0 ∨ (I.length : Int) ≤ t) ∨ Mk bs t) → Hid (Srch I W (Mk bs) T0) := fun hh => Lib.hid (HSR.out.skip HM.out hh)
    by_cases ht0 : t < 0
    · have d0 : decide (t ≥ 0) = false := decide_eq_false (by omega)
      have d1 : decide (0 ≤ t) = false := decide_eq_false (by omega)
      have hsk := skip (.inl (.inl ht0))
      go_wp2_with fail
      go_roundg (bs.count false * 100 + N)
      case rel => exact ⟨T0, bs, by unfold OwnI; rw [HN.out]; exact own2, M1, HBS.out, hsk, E1, B1, hz1', by rw [HN.out]; exact Nat.le_refl _, by rw [HN.out]; omega⟩
      case measure => omega
    obtain ⟨k, rfl⟩ : ∃ k : Nat, t = k := ⟨t.toNat, by omega⟩
    have d0 : decide ((k : Int) ≥ 0) = true := decide_eq_true (by omega)
    have d1 : decide ((0 : Int) ≤ (k : Int)) = true := decide_eq_true (by omega)
    by_cases hkn : n ≤ k
    · have d2 : decide ((k : Int) < (n : Int)) = false := decide_eq_false (by omega)
      have hsk := skip (.inl (.inr (by rw [HIl.out]; omega)))
      go_wp2_with fail
      go_roundg (bs.count false * 100 + N)
      case rel => exact ⟨T0, bs, by unfold OwnI; rw [HN.out]; exact own2, M1, HBS.out, hsk, E1, B1, hz1', by rw [HN.out]; exact Nat.le_refl _, by rw [HN.out]; omega⟩
      case measure => omega
    have d2 : decide ((k : Int) < (n : Int)) = true := decide_eq_true (by omega)
    have hkb : k < bs.length := by rw [HBS.out]; omega
    have m0 := M1.cell k
    have l0 := M1.loose k
    rw [List.getElem?_toArray, List.getElem?_map, List.getElem?_eq_getElem hkb] at m0
    simp only [Option.map_some] at m0
    obtain ⟨bk, hbk⟩ : ∃ bk, bs[k]'hkb = bk := ⟨_, rfl⟩
    rw [hbk] at m0
    have hbk2 : bs[k]? = some bk := by rw [List.getElem?_eq_getElem hkb, hbk]
    clear hbk
    cases bk with
    | true =>
      have hsk := skip (.inr ⟨k, rfl, hbk2⟩)
      clear hbk2
      go_wp2_with fail
      go_roundg (bs.count false * 100 + N)
      case rel => exact ⟨T0, bs, by unfold OwnI; rw [HN.out]; exact own2, M1, HBS.out, hsk, E1, B1, hz1', by rw [HN.out]; exact Nat.le_refl _, by rw [HN.out]; omega⟩
      case measure => omega
    | false =>
      have hun := unmark hbk2
      clear skip hbk2
      have M5 := M1.set_ k (.bool true)
      have hms : ((bs.map Value.bool).toArray.setIfInBounds k (.bool true)) = ((bs.set k true).map Value.bool).toArray := by
        rw [List.setIfInBounds_toArray, List.map_set]
      rw [hms] at M5
      have E5 := E1.far (p := ⟨w1.heap.size, k, none⟩) (by have := HG.out; simp only; omega) (.bool true)
      have B5 := B1.setCell (p := ⟨w1.heap.size, k, none⟩) (by have := HG.out; simp only; omega) (.bool true)
      have own5 := owi_far own2 ⟨w1.heap.size, k, none⟩ (fun g hg => by have := (own2.lt g hg).1; simp only; omega) (.bool true)
      have hz5 : w2.heap.size ≤ (w3.setCell ⟨w1.heap.size, k, none⟩ (.bool true)).heap.size := by simpa [World.setCell] using hz1'
      have v0 := E5.cell 0
      have v1 := E5.cell 1
      simp only [List.getElem?_toArray, List.getElem?_cons_zero, List.getElem?_cons_succ] at v0 v1
      have cn := next_c A A' n c n' c' xs ws k _ (h.next B5 B5.size) HS.out
      rw [HI.out, HW.out] at cn
      simp only [cdv] at cn
      go_wp2_with fail
      (with_reducible refine cn.mono ?_)
      clear cn
      rintro e w6 ⟨v6, rfl, own6, b6⟩
      have B6 := via b6 B5
      have E6 := E5.next b6
      have M6 := M5.next b6
      have own7 := owi_next own5 b6
      have hz6 : w2.heap.size ≤ w6.heap.size := Nat.le_trans hz5 b6.size
      have hnl : (nextN I W (k : Int)).length ≤ 90 := by
        have h1 := norm_len (rawN I W (k : Int))
        have h2 := raw_len I W (k : Int) (fun x hx => by
          rw [← HI.out] at hx
          obtain ⟨y, hy, rfl⟩ := List.mem_map.1 hx
          have h1 := HSL.out y hy
          have h2 := ils_len (h.ils y hy)
          simp only; omega)
        rw [HIl.out, HWl.out] at h2
        have h3 : (nextN I W (k : Int)).length = (normL (rawN I W (k : Int))).length := rfl
        omega
      have HSR2 : ∀ T2 : List Int, (∀ x, x ∈ T2 ↔ x ∈ T0 ∨ x ∈ nextN I W (k : Int)) → Hid (Srch I W (Mk (bs.set k true)) T2) := fun T2 h2 => Lib.hid (HSR.out.mark HM.out (by omega) (by rw [HIl.out]; omega) (mk_set hkb) h2)
      obtain ⟨L6, hL6⟩ : ∃ L, nextN I W (k : Int) = L := ⟨_, rfl⟩
      rw [hL6] at own6 hnl HSR2
      clear hL6 b6 M1 E1 B1 own2 M5 E5 B5 own5 v0 v1 u0 u1 m0 l0 hms hz5 hz1' HSR HM ct
      rcases own6.2 with ⟨rfl, h2⟩ | ⟨g, cap, cur, rfl, h2, h3, h4', h5', _, _⟩
      · obtain rfl : L6 = [] := List.eq_nil_of_length_eq_zero h2
        have hsr := HSR2 T0 (fun x => by simp)
        go_wp2_with (at_builtin; refine wpList_append_own_none rfl (.tmp 43) (.tmp 46) 29 rfl w2.heap.size 3 i0 1 Try.underlying29 hi0 _ N (T0.map (Value.int .i64)) rfl own7 rfl ?_)
        go_wp2_with fail
        go_roundg ((bs.set k true).count false * 100 + N)
        case rel => exact ⟨T0, bs.set k true, by unfold OwnI; rw [HN.out]; exact own7, M6, by rw [List.length_set]; exact HBS.out, hsr, E6, B6, hz6, by rw [HN.out]; exact Nat.le_refl _, by rw [HN.out]; omega⟩
        case measure => omega
      · have hnews : ∀ i u, (L6.map (Value.int .i64))[i]? = some u → w6.cell? ((⟨g, 0, none⟩ : Addr).add i) = some u := fun i u hu => own6.cells rfl i u hu
        have hsr := HSR2 (T0 ++ L6) (fun x => by simp)
        go_wp2_with (at_builtin; refine wpList_append_own _ rfl (.tmp 43) (.tmp 46) 29 rfl w2.heap.size 3 i0 (.int .i64 0) 1 8 Try.underlying29 hi0 hz0 hz1 hz2 rfl (by decide) _ N (T0.map (Value.int .i64)) rfl own7 ⟨g, 0, none⟩ L6.length cap (L6.map (Value.int .i64)) rfl (by simp) hnews (by intro u hu; obtain ⟨x, _, rfl⟩ := List.mem_map.1 hu; rfl) (by unfold maxLen; omega) (by omega) hz6 ?_)
        intro v7 w7 own8 hgrow7 _
        have B7 : Below w.heap.size w w7 := B6.grown hgrow7 B6.size (fun i hi => by have := (own7.lt i hi).1; have := HG.out; omega)
        have E7 : Blk w7 w.heap.size 33 #[.slice A n c, .slice A' n' c'] := (hgrow7.block _ E6.lt (fun e => by have := (own7.lt _ e.symm).1; have := HG.out; omega)).trans E6
        have M7 : Blk w7 w1.heap.size 4 (((bs.set k true).map Value.bool).toArray) := (hgrow7.block _ M6.lt (fun e => by have := (own7.lt _ e.symm).1; omega)).trans M6
        have hz7 : w2.heap.size ≤ w7.heap.size := Nat.le_trans hz6 hgrow7.size
        have own9 : OwnI w7 w2.heap.size v7 (T0 ++ L6) := by
          unfold OwnI; rw [List.length_append, List.map_append, HN.out]; exact own8
        obtain ⟨A8, c8, rfl, _, _, _, _⟩ := owi_rd own9
        clear own8 hgrow7 own7 own6 E6 M6 B6
        go_wp2_with fail
        go_roundg ((bs.set k true).count false * 100 + (T0 ++ L6).length)
        case rel => exact ⟨T0 ++ L6, bs.set k true, own9, M7, by rw [List.length_set]; exact HBS.out, hsr, E7, B7, hz7, Nat.le_refl _, by rw [List.length_append, HN.out]; omega⟩
        case measure => rw [List.length_append, HN.out]; omega
end FloW
end Go.Proofs.Ytdgonjncoggfeaa
