/- Where instructions of some ops lie: the walk. Condition: codes that are small. -/
import Derived.Test.YtdgonjncoggfeaaFloA
namespace Go.Proofs.Ytdgonjncoggfeaa
set_option linter.unusedVariables false
set_option linter.unusedSimpArgs false
open Go.RowKit
namespace FloW
open FloP
set_option maxHeartbeats 6400000 in
set_option maxRecDepth 100000 in
theorem places_c (A A' : Option Addr) (n c n' c' : Nat) (xs : List Ix) (ws : List Wx) (f : Int) (b m mc : Nat) (ops : List Int) (w : World) (h : Cd w w.heap.size A n A' n' xs ws) (hs : Sm n n' xs) (hf : 0 ≤ f ∧ f ≤ 1) (hb : b < w.heap.size) (hm : ops.length = m) (hm2 : m ≤ 100)
    (hops : ∀ j, j < ops.length → w.cell? ⟨b, 0 + j, none⟩ = some (.int .i64 (ops.getD j 0))) :
    Calls Try.prog 12 #[cdv A n c A' n' c', .int .i64 f, .slice (some ⟨b, 0, none⟩) m mc] w fun e w' => ∃ v, e = .returned v ∧ OwnI w' w.heap.size v (placesF ops f 0 (xs.map inOf)) ∧ Below w.heap.size w w' := by
  obtain ⟨i0, hi0, hz0, hz1, hz2⟩ := info_parts info_Int
  simp only [cdv]
  obtain ⟨hsn, hsm, _⟩ := hs
  have hlw := h.len.1
  have HLW := Lib.hid hlw
  clear hlw
  have E0 := Blk.new w 33 #[.slice A n c, .slice A' n' c']
  have B0 : Below w.heap.size w (w.alloc (.cells #[.slice A n c, .slice A' n' c'] 33)) := by go_grown
  obtain ⟨w1, hw1⟩ : ∃ q, w.alloc (.cells #[.slice A n c, .slice A' n' c'] 33) = q := ⟨_, rfl⟩
  have hz : w.heap.size + 1 ≤ w1.heap.size := by rw [← hw1]; simp
  rw [hw1] at E0 B0
  have u0 := E0.cell 0
  simp only [List.getElem?_toArray, List.getElem?_cons_zero, List.getElem?_cons_succ] at u0
  obtain ⟨I, hI⟩ : ∃ I, xs.map inOf = I := ⟨_, rfl⟩
  rw [hI]
  have HI := Lib.hid hI
  have hIl : I.length = n := by rw [← hI, List.length_map, HLW.out]
  have HIl := Lib.hid hIl
  have HM := Lib.hid hm
  have HOPS := Lib.hid hops
  clear hIl hI hops hm
  go_enter Try.func12, Try.ntmps12
  go_wp2_with fail
  try rw [hw1]
  clear hw1 u0
  go_loopw [13, 7] (fun iv ov wr => ∃ i : Nat, iv = .int .i64 i ∧ i ≤ n ∧ Blk wr w.heap.size 33 #[.slice A n c, .slice A' n' c'] ∧ Below w.heap.size w wr ∧ w1.heap.size ≤ wr.heap.size ∧ OwnI wr w1.heap.size ov (placesF ops f 0 (I.take i))) (fun iv _ _ => n - (intOf iv).toNat)
  case atStart => exact ⟨0, rfl, by omega, E0, B0, Nat.le_refl _, World.ownsRow_nil _ _ _ _⟩
  case round =>
    clear E0 B0
    obtain ⟨i, rfl, hi, E1, B1, hz1', own1⟩ := hrel
    obtain ⟨w3, rfl⟩ : ∃ x : World, x = wr := ⟨_, rfl⟩
    obtain ⟨A2, c2, rfl, _, _, _, hlt2⟩ := owi_rd own1
    have hl2 : (placesF ops f 0 (I.take i)).length ≤ 30 := by
      have := places_len ops f (I.take i) 0
      rw [List.length_take, HIl.out] at this; omega
    obtain ⟨L2, hL2⟩ : ∃ L, placesF ops f 0 (I.take i) = L := ⟨_, rfl⟩
    have HL3 := Lib.hid hL2
    rw [hL2] at own1 hl2 hlt2 ⊢
    obtain ⟨N2, hN2⟩ : ∃ N, L2.length = N := ⟨_, rfl⟩
    have HN2 := Lib.hid hN2
    unfold OwnI at own1
    rw [hN2] at own1 hl2 hlt2 ⊢
    clear hL2 hN2
    by_cases hi2 : i < n
    · have di : decide ((i : Int) < (n : Int)) = true := decide_eq_true (by omega)
      obtain ⟨gw, ow, y, rfl, hgw, hy, y0, y1, y2, y3, y4, y5, y6, y7, y8, y9, y10⟩ := (h.below B1).instr hi2
      have HKI : Hid (placesF ops f 0 (I.take (i + 1)) = L2 ++ if y.op ∈ ops then [(i : Int) + f] else []) := Lib.hid (by
        rw [take_snoc (x := inOf y) (by rw [← HI.out, List.getElem?_map, hy]; rfl), places_snoc, HL3.out, List.length_take, HIl.out, Nat.min_eq_left (by omega), Nat.zero_add])
      obtain ⟨op, a, nm, num, pA, pn, pc, ck, cN, cn, co, kA, kn, kc, lA, ln, lc, ks⟩ := y
      simp only at y0 y1 y2 y3 y4 y5 y6 y7 y8 y9 y10
      have G4 := Blk.new w3 31 #[.int .i64 op, .int .i64 a, .string nm, .int .i64 num, .slice pA pn pc, .int .i64 ck, .int .i64 cN, .string cn, .string co, .slice kA kn kc, .slice lA ln lc]
      have E4 := E1.alloc (.cells #[.int .i64 op, .int .i64 a, .string nm, .int .i64 num, .slice pA pn pc, .int .i64 ck, .int .i64 cN, .string cn, .string co, .slice kA kn kc, .slice lA ln lc] 31)
      have B4 := B1.alloc B1.size (.cells #[.int .i64 op, .int .i64 a, .string nm, .int .i64 num, .slice pA pn pc, .int .i64 ck, .int .i64 cN, .string cn, .string co, .slice kA kn kc, .slice lA ln lc] 31)
      have own4 := own1.alloc (.cells #[.int .i64 op, .int .i64 a, .string nm, .int .i64 num, .slice pA pn pc, .int .i64 ck, .int .i64 cN, .string cn, .string co, .slice kA kn kc, .slice lA ln lc] 31)
      have hz4 : w1.heap.size ≤ (w3.alloc (.cells #[.int .i64 op, .int .i64 a, .string nm, .int .i64 num, .slice pA pn pc, .int .i64 ck, .int .i64 cN, .string cn, .string co, .slice kA kn kc, .slice lA ln lc] 31)).heap.size := by simp; omega
      obtain ⟨w4, hw4⟩ : ∃ q, w3.alloc (.cells #[.int .i64 op, .int .i64 a, .string nm, .int .i64 num, .slice pA pn pc, .int .i64 ck, .int .i64 cN, .string cn, .string co, .slice kA kn kc, .slice lA ln lc] 31) = q := ⟨_, rfl⟩
      rw [hw4] at G4 E4 B4 own4 hz4
      have z0 := G4.cell 0
      simp only [List.getElem?_toArray, List.getElem?_cons_zero, List.getElem?_cons_succ] at z0
      clear E1 B1 own1 hz1' hy
      have ew : IntKind.i64.wrap ((i : Int) + f) = (i : Int) + f := IntWalk.i64_in _ (by omega)
      have ct := Try.slices_Contains_int b 0 m mc ops op w4 (by rw [HM.out]; omega) (by omega) (fun j hj => (B4.cell hb).trans (HOPS.out j hj))
      obtain ⟨RB, hRB⟩ : ∃ R, (ops.take m).contains op = R := ⟨_, rfl⟩
      rw [hRB] at ct
      have HRB := Lib.hid hRB
      clear hRB
      go_wp2_with fail
      (with_reducible refine ct.mono ?_)
      rintro e w5 ⟨rfl, rfl⟩
      clear ct hw4
      cases RB
      rotate_left
      · have hin : op ∈ ops := by
          have := HRB.out
          rw [← HM.out, List.take_length] at this; simpa using this
        have hR : placesF ops f 0 (I.take (i + 1)) = L2 ++ [(i : Int) + f] := by rw [HKI.out, if_pos hin]
        have HR := Lib.hid hR
        clear hR
        clear hin
        go_wp2_with (at_builtin; refine wpList_append_lies _ rfl (.tmp 22) (.tmp 26) 29 rfl w1.heap.size 3 i0 (.int .i64 0) 1 8 Try.underlying29 hi0 hz0 hz1 hz2 rfl (by decide) _ N2 (L2.map (Value.int .i64)) rfl (own4.alloc _) ⟨_, 0, none⟩ 1 1 [.int .i64 ((i : Int) + f)] rfl rfl (World.news_of_block (heap_alloc_new _ _)) (by intro u hu; simp at hu; subst hu; rfl) (by omega) (by unfold maxLen; omega) (by omega) (by simp; omega) _ rfl ?_)
        intro g10 cap10 w10 own10 hgrow10 hat10 hlt10
        have B10 : Below w.heap.size w w10 := (B4.alloc B4.size _).grown hgrow10 (by have := B4.size; simp; omega) (fun k hk => by have := (own4.lt k hk).1; omega)
        have E10 : Blk w10 w.heap.size 33 #[.slice (some ⟨gw, ow, none⟩) n c, .slice A' n' c'] := (hgrow10.block _ (E4.alloc _).lt (fun e => by have := (own4.lt _ e.symm).1; omega)).trans (E4.alloc _)
        have own11 := owi_snoc (l := L2) (v := .slice (some ⟨g10, 0, none⟩) (N2 + 1) cap10) (by rw [HN2.out]; exact own10)
        have hz10 : w1.heap.size ≤ w10.heap.size := by have := hgrow10.size; simp only [World.size_alloc] at this; omega
        clear own10 hgrow10 hat10 hlt10 E4 own4
        go_wp2
        go_roundw
        case rel => exact ⟨i + 1, by go_num, by omega, E10, B10, hz10, by rw [HR.out]; exact own11⟩
        case measure => simp [intOf]; omega
      · have hin : op ∉ ops := by
          have := HRB.out
          rw [← HM.out, List.take_length] at this; simpa using this
        have hR : placesF ops f 0 (I.take (i + 1)) = L2 := by rw [HKI.out, if_neg hin, List.append_nil]
        have HR := Lib.hid hR
        clear hR
        clear hin
        go_wp2
        go_roundw
        case rel => exact ⟨i + 1, by go_num, by omega, E4, B4, hz4, by rw [HR.out]; unfold OwnI; rw [HN2.out]; exact own4⟩
        case measure => simp [intOf]; omega
    · obtain rfl : i = n := by omega
      have di : decide ((i : Int) < (i : Int)) = false := decide_eq_false (by omega)
      go_wp2
      go_ret
      refine ⟨_, rfl, ?_, B1⟩
      rw [← List.take_length (l := I), HIl.out, HL3.out]
      unfold OwnI
      rw [HN2.out]
      exact owi_base own1 (by omega)
end FloW
end Go.Proofs.Ytdgonjncoggfeaa
