/- The list of all choices: the walk. No condition. -/
import Derived.Test.YtooinkhjoppijaaDoorTraO
import Derived.Deep.AppendLies
import Derived.Laws.OwnMore
import Derived.Deep.Onto
namespace Go.Proofs.YtooinkhjoppijaaDoor
set_option linter.unusedVariables false
set_option linter.unusedSimpArgs false
open Go.RowKit
namespace TraW
open TraP NumP NumW
theorem info_C : (Tryd.prog.info? 39).map (fun i => (i.zero, i.size, i.bytes)) = some (some (.agg #[.int .i64 0, .int .i64 0, .int .i64 0]), 3, 24) := by kernel_rfl
/-- Choices in memory of the call's own. -/
abbrev OwnC (w : World) (B : Nat) (v : Value) (l : List Ch) : Prop := w.ownsRow B 39 3 v l.length (ccs l)
theorem rowP_len (p m : Nat) : (rowP p m).length ≤ 1 + 2 * m := by
  induction m with
  | zero => simp [rowP]
  | succ m ih =>
    rw [rowP_succ, List.length_append]
    have : (rowN p m).length ≤ 2 := by unfold rowN; split <;> simp
    omega
theorem allC_len (i : Nat) : (allC i).length ≤ 3 + i * 131 := by
  induction i with
  | zero => simp [allC]
  | succ i ih =>
    rw [allC_succ, List.length_append]
    have := rowP_len i 65
    omega
theorem ccs_single (a b c : Int) : ccs [(a, b, c)] = [.int .i64 a, .int .i64 b, .int .i64 c] := rfl
theorem one_ints {a b c : Int} : ∀ u ∈ ([.int .i64 a, .int .i64 b, .int .i64 c] : List Value), u.oneCell' = true := by
  intro u hu
  simp only [List.mem_cons, List.not_mem_nil, or_false] at hu
  rcases hu with rfl | rfl | rfl <;> rfl
theorem own_snoc {w : World} {B : Nat} {v : Value} {l : List Ch} {a b c : Int} (h : w.ownsRow B 39 3 v (l.length + 1) (ccs l ++ [.int .i64 a, .int .i64 b, .int .i64 c])) : OwnC w B v (l ++ [(a, b, c)]) := by
  unfold OwnC
  rw [ccs_app, ccs_single, List.length_append]
  exact h
def AllPost (w : World) (e : Ending) (w' : World) : Prop := ∃ v, e = .returned v ∧ OwnC w' w.heap.size v (allC 8) ∧ Below w.heap.size w w'
set_option maxHeartbeats 3200000 in
set_option maxRecDepth 100000 in
theorem all_c (w : World) : Calls Tryd.prog 30 #[] w (AllPost w) := by
  obtain ⟨i0, hi0, hz0, hz1, hz2⟩ := info_parts info_C
  go_enter Tryd.func30, Tryd.ntmps30
  go_wp2
  have hown0 : OwnC (w.alloc (.cells #[.int .i64 1, .int .i64 0, .int .i64 0, .int .i64 2, .int .i64 0, .int .i64 0, .int .i64 6, .int .i64 0, .int .i64 0] 39)) w.heap.size (.slice (some ⟨w.heap.size, 0, none⟩) 3 3) (allC 0) :=
    World.ownsRow_lit w _ 3 (Nat.le_refl _) (by unfold maxLen; omega) rfl
  have hB0 : Below w.heap.size w (w.alloc (.cells #[.int .i64 1, .int .i64 0, .int .i64 0, .int .i64 2, .int .i64 0, .int .i64 0, .int .i64 6, .int .i64 0, .int .i64 0] 39)) := by go_grown
  generalize hw0 : w.alloc (.cells #[.int .i64 1, .int .i64 0, .int .i64 0, .int .i64 2, .int .i64 0, .int .i64 0, .int .i64 6, .int .i64 0, .int .i64 0] 39) = w0 at *
  clear hw0
  go_loopw [1, 2] (fun v p wr => ∃ i : Nat, p = .int .i64 i ∧ i ≤ 8 ∧ OwnC wr w.heap.size v (allC i) ∧ Below w.heap.size w wr) (fun _ p _ => 8 - (intOf p).toNat)
  case atStart => exact ⟨0, rfl, by omega, hown0, hB0⟩
  case round =>
    clear hown0 hB0
    obtain ⟨i, rfl, hi, hown, hB⟩ := hrel
    have hBz := hB.size
    have hlen := allC_len i
    by_cases hlt : i < 8
    · have d : decide ((i : Int) < 8) = true := by simp; omega
      rename_i v _
      generalize hu : v = u at *
      go_wp2_with (at_builtin; refine wpList_append_lies _ rfl (.tmp 12) (.tmp 15) 22 rfl w.heap.size 39 i0 (.agg #[.int .i64 0, .int .i64 0, .int .i64 0]) 3 24 Tryd.underlying22 hi0 hz0 hz1 hz2 rfl (by decide) _ (allC i).length (ccs (allC i)) rfl (hown.alloc _) ⟨wr.heap.size, 0, none⟩ 1 1 [.int .i64 4, .int .i64 (i : Int), .int .i64 0] rfl rfl (World.news_of_block (heap_alloc_new wr _)) one_ints (by omega) (by unfold maxLen; omega) (by omega) (by simp; omega) _ rfl ?_)
      intro g cap w5 hown5 hgrow hat hlt5
      have hB5 : Below w.heap.size w w5 := (hB.alloc hBz _).grown hgrow (by simp; omega) (fun k hk => (hown.lt k hk).1)
      have hown6 : OwnC w5 w.heap.size (.slice (some ⟨g, 0, none⟩) ((allC i).length + 1) cap) (allC i ++ rowP i 0) := own_snoc hown5
      clear hown5 hgrow hat hlt5 hown hB
      generalize (Value.slice (some ⟨g, 0, none⟩) ((allC i).length + 1) cap) = v5 at *
      go_wp2
      go_loopw [1, 3] (fun v n wr => ∃ j : Nat, n = .int .i64 j ∧ j ≤ 65 ∧ OwnC wr w.heap.size v (allC i ++ rowP i j) ∧ Below w.heap.size w wr) (fun _ n _ => 65 - (intOf n).toNat)
      case atStart => exact ⟨0, rfl, by omega, hown6, hB5⟩
      case round =>
        clear hown6 hB5
        obtain ⟨j, rfl, hj, hown, hB⟩ := hrel
        have hBz := hB.size
        have hlen2 := rowP_len i j
        have hl3 : (allC i ++ rowP i j).length ≤ 5000 := by rw [List.length_append]; omega
        by_cases hlt2 : j < 65
        · have d2 : decide ((j : Int) ≤ 64) = true := by simp; omega
          obtain ⟨L1, hL1⟩ : ∃ L, allC i ++ rowP i j = L := ⟨_, rfl⟩
          rw [hL1] at hown hl3
          have HL1 := Lib.hid hL1
          clear hL1
          go_wp2_with (at_builtin; refine wpList_append_lies _ rfl (.tmp 21) (.tmp 25) 22 rfl w.heap.size 39 i0 (.agg #[.int .i64 0, .int .i64 0, .int .i64 0]) 3 24 Tryd.underlying22 hi0 hz0 hz1 hz2 rfl (by decide) _ L1.length (ccs L1) rfl (hown.alloc _) ⟨_, 0, none⟩ 1 1 [.int .i64 5, .int .i64 (i : Int), .int .i64 (j : Int)] rfl rfl (World.news_of_block (heap_alloc_new _ _)) one_ints (by omega) (by unfold maxLen; omega) (by omega) (by simp; omega) _ rfl ?_)
          intro g7 cap7 w7 hown7 hgrow7 hat7 hlt7
          have hB7 : Below w.heap.size w w7 := (hB.alloc hBz _).grown hgrow7 (by simp; omega) (fun k hk => (hown.lt k hk).1)
          have hB7z := hB7.size
          have hown8 := own_snoc hown7
          clear hown7 hgrow7 hat7 hlt7 hown hB
          have hl4 : (L1 ++ [(5, (i : Int), (j : Int))]).length ≤ 5001 := by rw [List.length_append]; simp only [List.length_cons, List.length_nil]; omega
          have hlv : L1.length + 1 = (L1 ++ [(5, (i : Int), (j : Int))]).length := by rw [List.length_append]; rfl
          rw [hlv] at hown8 ⊢
          clear hlv
          by_cases h8 : j < 8
          · have d8 : decide ((j : Int) < 8) = true := by simp; omega
            have hstep : allC i ++ rowP i (j + 1) = (L1 ++ [(5, (i : Int), (j : Int))]) ++ [(3, (i : Int), (j : Int))] := by rw [← HL1.out, rowP_succ, rowN, if_pos h8]; simp
            have HST := Lib.hid hstep
            clear hstep
            generalize hL : L1 ++ [(5, (i : Int), (j : Int))] = L at *
            clear hL
            go_wp2_with (at_builtin; refine wpList_append_lies _ rfl (.tmp 29) (.tmp 33) 22 rfl w.heap.size 39 i0 (.agg #[.int .i64 0, .int .i64 0, .int .i64 0]) 3 24 Tryd.underlying22 hi0 hz0 hz1 hz2 rfl (by decide) _ L.length (ccs L) rfl (hown8.alloc _) ⟨_, 0, none⟩ 1 1 [.int .i64 3, .int .i64 (i : Int), .int .i64 (j : Int)] rfl rfl (World.news_of_block (heap_alloc_new _ _)) one_ints (by omega) (by unfold maxLen; omega) (by omega) (by simp; omega) _ rfl ?_)
            intro g9 cap9 w9 hown9 hgrow9 hat9 hlt9
            have hB9 : Below w.heap.size w w9 := (hB7.alloc hB7z _).grown hgrow9 (by simp; omega) (fun k hk => (hown8.lt k hk).1)
            have hown10 := own_snoc hown9
            clear hown9 hgrow9 hat9 hlt9
            go_wp2
            go_roundw
            case rel => exact ⟨j + 1, by go_num, by omega, by rw [HST.out]; exact hown10, hB9⟩
            case measure => simp [intOf]; omega
          · have d8 : decide ((j : Int) < 8) = false := by simp; omega
            have hstep : allC i ++ rowP i (j + 1) = L1 ++ [(5, (i : Int), (j : Int))] := by rw [← HL1.out, rowP_succ, rowN, if_neg h8]; simp
            have HST := Lib.hid hstep
            clear hstep
            generalize hL : L1 ++ [(5, (i : Int), (j : Int))] = L at *
            clear hL
            go_wp2
            go_roundw
            case rel => exact ⟨j + 1, by go_num, by omega, by rw [HST.out]; exact hown8, hB7⟩
            case measure => simp [intOf]; omega
        · have hj65 : j = 65 := by omega
          subst hj65
          rw [← allC_succ] at hown
          clear hl3 hlen2
          go_wp2
          go_roundw
          case rel => exact ⟨i + 1, by go_num, by omega, hown, hB⟩
          case measure => simp [intOf]; omega
    · have hi8 : i = 8 := by omega
      subst hi8
      clear hlen hlt
      go_wp2
      go_ret
      exact ⟨_, rfl, hown, hB⟩
end TraW
end Go.Proofs.YtooinkhjoppijaaDoor
