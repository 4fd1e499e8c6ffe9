/- What an expect leads to, and where instructions of some ops lie: the walks. Conditions: codes that are small. -/
import Derived.Test.YtdgonjncoggfeaaFloM
import Derived.Test.YtdgonjncoggfeaaShelf
import Derived.Deep.AppendLies
import Derived.Laws.OwnMore
import Derived.Deep.Onto
namespace Go.Proofs.Ytdgonjncoggfeaa
set_option linter.unusedVariables false
set_option linter.unusedSimpArgs false
open Go.RowKit
namespace FloW
open FloP
theorem info_Int : (Try.prog.info? 3).map (fun i => (i.zero, i.size, i.bytes)) = some (some (.int .i64 0), 1, 8) := by kernel_rfl
/-- A code that is small. -/
def Sm (n n' : Nat) (xs : List Ix) : Prop := n ≤ 30 ∧ n' ≤ 12 ∧ ∀ x ∈ xs, x.ln ≤ 12
theorem listT_snoc (W : List Wt) (l : List Int) (k : Int) : listT W (l ++ [k]) = listT W l ++ (if 0 ≤ k ∧ k < (W.length : Int) then ((W[k.toNat]?).map (fun w => w.1)).toList else []) := by
  unfold listT
  rw [List.filterMap_append]
  congr 1
  by_cases h : 0 ≤ k ∧ k < (W.length : Int)
  · rw [if_pos h]
    have hk : k.toNat < W.length := by omega
    simp [h, List.getElem?_eq_getElem hk]
  · rw [if_neg h]; simp [h]
theorem openT_snoc (W : List Wt) (x : Wt) : openT (W ++ [x]) = openT W ++ (if x.2 = true then [] else [x.1]) := by
  unfold openT
  rw [List.filterMap_append]
  congr 1
  cases h : x.2 <;> simp [h]
theorem take_snoc {α : Type} {l : List α} {k : Nat} {x : α} (h : l[k]? = some x) : l.take (k + 1) = l.take k ++ [x] := by
  rw [List.take_add_one, h]; rfl
theorem owi_grown {w w' : World} {B : Nat} {a : World} (hB : Below a.heap.size a w) {row : Option Nat} (hg : w.grownBy w' row) (hr : ∀ k, row = some k → a.heap.size ≤ k) : Below a.heap.size a w' := hB.grown hg hB.size (fun k hk => hr k hk)
theorem owi_base {w : World} {B B' : Nat} {v : Value} {t : TypeId} {z n : Nat} {cs : List Value} (h : w.ownsRow B t z v n cs) (hb : B' ≤ B) : w.ownsRow B' t z v n cs :=
  ⟨h.1, h.2.imp id (fun ⟨g, cap, cur, h1, h2, r⟩ => ⟨g, cap, cur, h1, Nat.le_trans hb h2, r⟩)⟩
set_option maxHeartbeats 6400000 in
set_option maxRecDepth 100000 in
theorem expect_c (A A' : Option Addr) (n c n' c' : Nat) (xs : List Ix) (ws : List Wx) (x : Ix) (w : World) (h : Cd w w.heap.size A n A' n' xs ws) (hk : Ils w w.heap.size x.lA x.ln x.ks) (hl : x.ln ≤ 12) (hs : Sm n n' xs) :
    Calls Try.prog 13 #[cdv A n c A' n' c', ixv x] w fun e w' => ∃ v, e = .returned v ∧ OwnI w' w.heap.size v (listT (ws.map wtOf) x.ks ++ openT (ws.map wtOf)) ∧ Below w.heap.size w w' := by
  obtain ⟨i0, hi0, hz0, hz1, hz2⟩ := info_parts info_Int
  obtain ⟨op, a, nm, num, pA, pn, pc, ck, cN, cn, co, kA, kn, kc, lA, ln, lc, ks⟩ := x
  simp only at hk hl
  simp only [ixv, cdv]
  obtain ⟨hsn, hsm, _⟩ := hs
  have hlk := ils_len hk
  have hlw := h.len.2
  have HLK := Lib.hid hlk
  have HLW := Lib.hid hlw
  clear hlk hlw
  have E0 := (Blk.new w 33 #[.slice A n c, .slice A' n' c']).alloc (.cells #[.int .i64 op, .int .i64 a, .string nm, .int .i64 num, .slice pA pn pc, .int .i64 ck, .int .i64 cN, .string cn, .string co, .slice kA kn kc, .slice lA ln lc] 31)
  have F0 := Blk.new1 w (.cells #[.slice A n c, .slice A' n' c'] 33) 31 #[.int .i64 op, .int .i64 a, .string nm, .int .i64 num, .slice pA pn pc, .int .i64 ck, .int .i64 cN, .string cn, .string co, .slice kA kn kc, .slice lA ln lc]
  have B0 : Below w.heap.size w ((w.alloc (.cells #[.slice A n c, .slice A' n' c'] 33)).alloc (.cells #[.int .i64 op, .int .i64 a, .string nm, .int .i64 num, .slice pA pn pc, .int .i64 ck, .int .i64 cN, .string cn, .string co, .slice kA kn kc, .slice lA ln lc] 31)) := by go_grown
  obtain ⟨w1, hw1⟩ : ∃ q, (w.alloc (.cells #[.slice A n c, .slice A' n' c'] 33)).alloc (.cells #[.int .i64 op, .int .i64 a, .string nm, .int .i64 num, .slice pA pn pc, .int .i64 ck, .int .i64 cN, .string cn, .string co, .slice kA kn kc, .slice lA ln lc] 31) = q := ⟨_, rfl⟩
  have hz : w.heap.size + 2 ≤ w1.heap.size := by rw [← hw1]; simp
  rw [hw1] at E0 B0 F0
  have u10 := F0.cell 10
  simp only [List.getElem?_toArray, List.getElem?_cons_zero, List.getElem?_cons_succ] at u10
  obtain ⟨W, hW⟩ : ∃ W, ws.map wtOf = W := ⟨_, rfl⟩
  rw [hW]
  have HW := Lib.hid hW
  have hWl : W.length = n' := by rw [← hW, List.length_map, HLW.out]
  have HWl := Lib.hid hWl
  clear hWl hW
  go_enter Try.func13, Try.ntmps13
  go_wp2_with fail
  try rw [hw1]
  clear hw1 u10 F0
  go_loopw [13, 5] (fun iv ov wr => ∃ i : Nat, iv = .int .i64 i ∧ i ≤ ln ∧ Blk wr w.heap.size 33 #[.slice A n c, .slice A' n' c'] ∧ Below w.heap.size w wr ∧ w1.heap.size ≤ wr.heap.size ∧ OwnI wr w1.heap.size ov (listT W (ks.take i))) (fun iv _ _ => ln - (intOf iv).toNat)
  case atStart => exact ⟨0, rfl, by omega, E0, B0, Nat.le_refl _, World.ownsRow_nil _ _ _ _⟩
  case round =>
    clear E0 B0
    obtain ⟨i, rfl, hi, E1, B1, hz1', own1⟩ := hrel
    obtain ⟨w2, rfl⟩ : ∃ x : World, x = wr := ⟨_, rfl⟩
    obtain ⟨A1, c1, rfl, hc1, hm1, _, hlt1⟩ := owi_rd own1
    have hll : (listT W (ks.take i)).length ≤ 12 := by
      have : (listT W (ks.take i)).length ≤ (ks.take i).length := filterMap_len _ _
      rw [List.length_take, HLK.out] at this; omega
    obtain ⟨N, hN⟩ : ∃ N, (listT W (ks.take i)).length = N := ⟨_, rfl⟩
    have HN := Lib.hid hN
    rw [hN] at hll hlt1 ⊢
    obtain ⟨L1, hL1⟩ : ∃ L, listT W (ks.take i) = L := ⟨_, rfl⟩
    have HL1 := Lib.hid hL1
    rw [hL1] at own1
    rw [hL1] at hN
    unfold OwnI at own1
    rw [hN] at own1
    clear hN hL1 hc1 hm1
    have x0 := E1.cell 0
    have x1 := E1.cell 1
    simp only [List.getElem?_toArray, List.getElem?_cons_zero, List.getElem?_cons_succ] at x0 x1
    by_cases hi2 : i < ln
    · have di : decide ((i : Int) < (ln : Int)) = true := decide_eq_true (by omega)
      obtain ⟨g, o, k, rfl, hg, hki, hck⟩ := ils_get (hk.below B1) hi2
      have HKI := Lib.hid (take_snoc hki)
      clear hki
      by_cases hk0 : 0 ≤ k
      · obtain ⟨q, rfl⟩ : ∃ q : Nat, k = q := ⟨k.toNat, by omega⟩
        have dk : decide ((q : Int) ≥ 0) = true := decide_eq_true (by omega)
        have dk2 : decide ((0 : Int) ≤ (q : Int)) = true := decide_eq_true (by omega)
        by_cases hq : q < n'
        · have dq : decide ((q : Int) < (n' : Int)) = true := decide_eq_true (by omega)
          obtain ⟨gw, ow, y, rfl, hgw, hy, _, _, _, _, y4, _, _⟩ := (h.below B1).watch hq
          have HR : Hid (listT W (ks.take (i + 1)) = L1 ++ [y.to]) := Lib.hid (by
            rw [HKI.out, listT_snoc, HL1.out, if_pos ⟨by omega, by rw [HWl.out]; omega⟩, ← HW.out, List.getElem?_map, Int.toNat_natCast, hy]; rfl)
          clear hy
          go_wp2_with (at_builtin; refine wpList_append_lies _ rfl (.tmp 26) (.tmp 33) 29 rfl w1.heap.size 3 i0 (.int .i64 0) 1 8 Try.underlying29 hi0 hz0 hz1 hz2 rfl (by decide) _ N (L1.map (Value.int .i64)) rfl (own1.alloc _) ⟨_, 0, none⟩ 1 1 [.int .i64 y.to] rfl rfl (World.news_of_block (heap_alloc_new _ _)) (by intro u hu; simp at hu; subst hu; rfl) (by omega) (by unfold maxLen; omega) (by omega) (by simp; omega) _ rfl ?_)
          intro g10 cap10 w10 own10 hgrow10 hat10 hlt10
          have B10 : Below w.heap.size w w10 := (B1.alloc B1.size _).grown hgrow10 (by have := B1.size; simp; omega) (fun k hk => by have := (own1.lt k hk).1; omega)
          have E10 : Blk w10 w.heap.size 33 #[.slice A n c, .slice (some ⟨gw, ow, none⟩) n' c'] := (hgrow10.block _ (E1.alloc _).lt (fun e => by have := (own1.lt _ e.symm).1; omega)).trans (E1.alloc _)
          have own11 := owi_snoc (l := L1) (v := .slice (some ⟨g10, 0, none⟩) (N + 1) cap10) (by rw [HL1.out] at HN; rw [HN.out]; exact own10)
          have hz10 : w1.heap.size ≤ w10.heap.size := by have := hgrow10.size; simp only [World.size_alloc] at this; omega
          clear own10 hgrow10 hat10 hlt10 E1 own1
          go_wp2
          go_roundw
          case rel => exact ⟨i + 1, by go_num, by omega, E10, B10, hz10, by rw [HR.out]; exact own11⟩
          case measure => simp [intOf]; omega
        · have dq : decide ((q : Int) < (n' : Int)) = false := decide_eq_false (by omega)
          have HR : Hid (listT W (ks.take (i + 1)) = L1) := Lib.hid (by
            rw [HKI.out, listT_snoc, HL1.out, if_neg (by rw [HWl.out]; omega), List.append_nil])
          go_wp2
          go_roundw
          case rel => exact ⟨i + 1, by go_num, by omega, E1, B1, hz1', by rw [HR.out]; rw [HL1.out] at HN; unfold OwnI; rw [HN.out]; exact own1⟩
          case measure => simp [intOf]; omega
      · have dk : decide (k ≥ 0) = false := decide_eq_false (by omega)
        have dk2 : decide (0 ≤ k) = false := decide_eq_false (by omega)
        have HR : Hid (listT W (ks.take (i + 1)) = L1) := Lib.hid (by
          rw [HKI.out, listT_snoc, HL1.out, if_neg (by omega), List.append_nil])
        go_wp2
        go_roundw
        case rel => exact ⟨i + 1, by go_num, by omega, E1, B1, hz1', by rw [HR.out]; rw [HL1.out] at HN; unfold OwnI; rw [HN.out]; exact own1⟩
        case measure => simp [intOf]; omega
    · obtain rfl : i = ln := by omega
      have di : decide ((i : Int) < (i : Int)) = false := decide_eq_false (by omega)
      have HL2 : Hid (listT W ks = L1) := Lib.hid (by rw [← HL1.out, ← HLK.out, List.take_length])
      rw [HL1.out] at HN
      clear di
      have di : decide ((i : Int) < (i : Int)) = false := decide_eq_false (by omega)
      go_wp2_with fail
      clear x0 x1 di
      go_loopw [39, 5] (fun iv ov wr => ∃ j : Nat, iv = .int .i64 j ∧ j ≤ n' ∧ Blk wr w.heap.size 33 #[.slice A n c, .slice A' n' c'] ∧ Below w.heap.size w wr ∧ w1.heap.size ≤ wr.heap.size ∧ OwnI wr w1.heap.size ov (L1 ++ openT (W.take j))) (fun iv _ _ => n' - (intOf iv).toNat)
      case atStart => exact ⟨0, rfl, by omega, E1, B1, hz1', by rw [List.take_zero]; unfold openT; rw [List.filterMap_nil, List.append_nil]; unfold OwnI; rw [HN.out]; exact own1⟩
      case round =>
        clear E1 B1 hz1' own1
        obtain ⟨j, rfl, hj, E1, B1, hz1', own1⟩ := hrel
        obtain ⟨w3, rfl⟩ : ∃ x : World, x = wr := ⟨_, rfl⟩
        obtain ⟨A2, c2, rfl, _, _, _, hlt2⟩ := owi_rd own1
        have hl2 : (L1 ++ openT (W.take j)).length ≤ 24 := by
          have : (openT (W.take j)).length ≤ (W.take j).length := filterMap_len _ _
          rw [List.length_take, HWl.out] at this; rw [List.length_append, HN.out]; omega
        obtain ⟨L2, hL2⟩ : ∃ L, L1 ++ openT (W.take j) = L := ⟨_, rfl⟩
        have HL3 := Lib.hid hL2
        rw [hL2] at own1 hl2 hlt2 ⊢
        obtain ⟨N2, hN2⟩ : ∃ N, L2.length = N := ⟨_, rfl⟩
        have HN2 := Lib.hid hN2
        unfold OwnI at own1
        rw [hN2] at own1 hl2 hlt2 ⊢
        clear hL2 hN2
        have x1 := E1.cell 1
        simp only [List.getElem?_toArray, List.getElem?_cons_zero, List.getElem?_cons_succ] at x1
        by_cases hj2 : j < n'
        · have dj : decide ((j : Int) < (n' : Int)) = true := decide_eq_true (by omega)
          obtain ⟨gw, ow, y, rfl, hgw, hy, y0, y1, y2, y3, y4, y5, y6⟩ := (h.below B1).watch hj2
          have HKJ : Hid (W.take (j + 1) = W.take j ++ [wtOf y]) := Lib.hid (take_snoc (by rw [← HW.out, List.getElem?_map, hy]; rfl))
          have HZ := Lib.hid hz1'
          obtain ⟨kd, pr, pk, pt, to, own, at_⟩ := y
          simp only at y0 y1 y2 y3 y4 y5 y6
          have G4 := Blk.new w3 41 #[.int .i64 kd, .int .i64 pr, .int .i64 pk, .string pt, .int .i64 to, .bool own, .int .i64 at_]
          have E4 := E1.alloc (.cells #[.int .i64 kd, .int .i64 pr, .int .i64 pk, .string pt, .int .i64 to, .bool own, .int .i64 at_] 41)
          have B4 := B1.alloc B1.size (.cells #[.int .i64 kd, .int .i64 pr, .int .i64 pk, .string pt, .int .i64 to, .bool own, .int .i64 at_] 41)
          have own4 := own1.alloc (.cells #[.int .i64 kd, .int .i64 pr, .int .i64 pk, .string pt, .int .i64 to, .bool own, .int .i64 at_] 41)
          have hz4 : w1.heap.size ≤ (w3.alloc (.cells #[.int .i64 kd, .int .i64 pr, .int .i64 pk, .string pt, .int .i64 to, .bool own, .int .i64 at_] 41)).heap.size := by simp; omega
          obtain ⟨w4, hw4⟩ : ∃ q, w3.alloc (.cells #[.int .i64 kd, .int .i64 pr, .int .i64 pk, .string pt, .int .i64 to, .bool own, .int .i64 at_] 41) = q := ⟨_, rfl⟩
          rw [hw4] at G4 E4 B4 own4 hz4
          have z4 := G4.cell 4
          have z5 := G4.cell 5
          simp only [List.getElem?_toArray, List.getElem?_cons_zero, List.getElem?_cons_succ] at z4 z5
          clear E1 B1 own1 hz1' hy
          cases own with
          | true =>
            have HR : Hid (L1 ++ openT (W.take (j + 1)) = L2) := Lib.hid (by rw [HKJ.out, openT_snoc, HL3.out.symm]; simp)
            go_wp2_with fail
            go_roundw
            case rel => exact ⟨j + 1, by go_num, by omega, E4, B4, hz4, by rw [HR.out]; unfold OwnI; rw [HN2.out]; exact own4⟩
            case measure => simp [intOf]; omega
          | false =>
            have HR : Hid (L1 ++ openT (W.take (j + 1)) = L2 ++ [to]) := Lib.hid (by rw [HKJ.out, openT_snoc, HL3.out.symm]; simp)
            go_wp2_with (at_builtin; refine wpList_append_lies _ rfl (.tmp 46) (.tmp 49) 29 rfl w1.heap.size 3 i0 (.int .i64 0) 1 8 Try.underlying29 hi0 hz0 hz1 hz2 rfl (by decide) _ N2 (L2.map (Value.int .i64)) rfl (own4.alloc _) ⟨_, 0, none⟩ 1 1 [.int .i64 to] rfl rfl (World.news_of_block (heap_alloc_new _ _)) (by intro u hu; simp at hu; subst hu; rfl) (by omega) (by unfold maxLen; omega) (by omega) (by simp; omega) _ rfl ?_)
            intro g10 cap10 w10 own10 hgrow10 hat10 hlt10
            have B10 : Below w.heap.size w w10 := (B4.alloc B4.size _).grown hgrow10 (by have := B4.size; simp; omega) (fun k hk => by have := (own4.lt k hk).1; omega)
            have E10 : Blk w10 w.heap.size 33 #[.slice A n c, .slice (some ⟨gw, ow, none⟩) n' c'] := (hgrow10.block _ (E4.alloc _).lt (fun e => by have := (own4.lt _ e.symm).1; omega)).trans (E4.alloc _)
            have own11 := owi_snoc (l := L2) (v := .slice (some ⟨g10, 0, none⟩) (N2 + 1) cap10) (by rw [HN2.out]; exact own10)
            have hz10 : w1.heap.size ≤ w10.heap.size := by have := hgrow10.size; simp only [World.size_alloc] at this; omega
            clear own10 hgrow10 hat10 hlt10 E4 own4
            go_wp2
            go_roundw
            case rel => exact ⟨j + 1, by go_num, by omega, E10, B10, hz10, by rw [HR.out]; exact own11⟩
            case measure => simp [intOf]; omega
        · obtain rfl : j = n' := by omega
          have dj : decide ((j : Int) < (j : Int)) = false := decide_eq_false (by omega)
          go_wp2
          go_ret
          refine ⟨_, rfl, ?_, B1⟩
          rw [HL2.out, ← List.take_length (l := W), HWl.out, HL3.out]
          unfold OwnI
          rw [HN2.out]
          exact owi_base own1 (by omega)
end FloW
end Go.Proofs.Ytdgonjncoggfeaa
