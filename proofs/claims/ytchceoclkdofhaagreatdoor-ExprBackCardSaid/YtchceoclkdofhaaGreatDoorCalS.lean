/- The small functions of sums: an op's strength, bare, ops of two numbers. Conditions: numbers of 64 bits. -/
import Derived.Test.YtchceoclkdofhaaGreatDoorCalTM
import Derived.Test.YtchceoclkdofhaaGreatDoorNumM
namespace Go.Proofs.YtchceoclkdofhaaGreatDoor
set_option linter.unusedVariables false
set_option linter.unusedSimpArgs false
open Go.RowKit
namespace CalW
open CalP
/-- An op is one of these, or none of them. -/
theorem op_ways (l : List UInt8) : l = [124, 124] ∨ l = [38, 38] ∨ l = [61, 61] ∨ l = [33, 61] ∨ l = [60] ∨ l = [62] ∨ l = [60, 61] ∨ l = [62, 61] ∨ l = [43] ∨ l = [45] ∨ l = [42] ∨ l = [47] ∨ l = [37] ∨ (l ≠ [124, 124] ∧ l ≠ [38, 38] ∧ l ≠ [61, 61] ∧ l ≠ [33, 61] ∧ l ≠ [60] ∧ l ≠ [62] ∧ l ≠ [60, 61] ∧ l ≠ [62, 61] ∧ l ≠ [43] ∧ l ≠ [45] ∧ l ≠ [42] ∧ l ≠ [47] ∧ l ≠ [37]) := by
  by_cases h0 : l = [124, 124]
  · simp [h0]
  by_cases h1 : l = [38, 38]
  · simp [h1]
  by_cases h2 : l = [61, 61]
  · simp [h2]
  by_cases h3 : l = [33, 61]
  · simp [h3]
  by_cases h4 : l = [60]
  · simp [h4]
  by_cases h5 : l = [62]
  · simp [h5]
  by_cases h6 : l = [60, 61]
  · simp [h6]
  by_cases h7 : l = [62, 61]
  · simp [h7]
  by_cases h8 : l = [43]
  · simp [h8]
  by_cases h9 : l = [45]
  · simp [h9]
  by_cases h10 : l = [42]
  · simp [h10]
  by_cases h11 : l = [47]
  · simp [h11]
  by_cases h12 : l = [37]
  · simp [h12]
  simp [h0, h1, h2, h3, h4, h5, h6, h7, h8, h9, h10, h11, h12]
set_option maxHeartbeats 1600000 in
theorem strength_c (op : ByteArray) (w : World) : Calls Tryz.prog 51 #[.string op] w fun e w' => e = .returned (.int .i64 (strength op)) ∧ w = w' := by
  have tl : op.toList = op.data.toList := Lib.toList_data _
  rcases op_ways op.data.toList with h | h | h | h | h | h | h | h | h | h | h | h | h | ⟨n0, n1, n2, n3, n4, n5, n6, n7, n8, n9, n10, n11, n12⟩
  · have t0 : (op.toList == [124, 124]) = true := by rw [tl, h]; decide
    have t1 : (op.toList == [38, 38]) = false := by rw [tl, h]; decide
    have t2 : (op.toList == [61, 61]) = false := by rw [tl, h]; decide
    have t3 : (op.toList == [33, 61]) = false := by rw [tl, h]; decide
    have t4 : (op.toList == [60]) = false := by rw [tl, h]; decide
    have t5 : (op.toList == [62]) = false := by rw [tl, h]; decide
    have t6 : (op.toList == [60, 61]) = false := by rw [tl, h]; decide
    have t7 : (op.toList == [62, 61]) = false := by rw [tl, h]; decide
    have t8 : (op.toList == [43]) = false := by rw [tl, h]; decide
    have t9 : (op.toList == [45]) = false := by rw [tl, h]; decide
    have t10 : (op.toList == [42]) = false := by rw [tl, h]; decide
    have t11 : (op.toList == [47]) = false := by rw [tl, h]; decide
    have t12 : (op.toList == [37]) = false := by rw [tl, h]; decide
    have hs : strength op = 1 := by unfold strength; rw [h]; rfl
    rw [hs]
    clear tl h
    go_enter Tryz.func51, Tryz.ntmps51
    go_wp2
    go_ret
    exact ⟨rfl, rfl⟩
  · have t0 : (op.toList == [124, 124]) = false := by rw [tl, h]; decide
    have t1 : (op.toList == [38, 38]) = true := by rw [tl, h]; decide
    have t2 : (op.toList == [61, 61]) = false := by rw [tl, h]; decide
    have t3 : (op.toList == [33, 61]) = false := by rw [tl, h]; decide
    have t4 : (op.toList == [60]) = false := by rw [tl, h]; decide
    have t5 : (op.toList == [62]) = false := by rw [tl, h]; decide
    have t6 : (op.toList == [60, 61]) = false := by rw [tl, h]; decide
    have t7 : (op.toList == [62, 61]) = false := by rw [tl, h]; decide
    have t8 : (op.toList == [43]) = false := by rw [tl, h]; decide
    have t9 : (op.toList == [45]) = false := by rw [tl, h]; decide
    have t10 : (op.toList == [42]) = false := by rw [tl, h]; decide
    have t11 : (op.toList == [47]) = false := by rw [tl, h]; decide
    have t12 : (op.toList == [37]) = false := by rw [tl, h]; decide
    have hs : strength op = 2 := by unfold strength; rw [h]; rfl
    rw [hs]
    clear tl h
    go_enter Tryz.func51, Tryz.ntmps51
    go_wp2
    go_ret
    exact ⟨rfl, rfl⟩
  · have t0 : (op.toList == [124, 124]) = false := by rw [tl, h]; decide
    have t1 : (op.toList == [38, 38]) = false := by rw [tl, h]; decide
    have t2 : (op.toList == [61, 61]) = true := by rw [tl, h]; decide
    have t3 : (op.toList == [33, 61]) = false := by rw [tl, h]; decide
    have t4 : (op.toList == [60]) = false := by rw [tl, h]; decide
    have t5 : (op.toList == [62]) = false := by rw [tl, h]; decide
    have t6 : (op.toList == [60, 61]) = false := by rw [tl, h]; decide
    have t7 : (op.toList == [62, 61]) = false := by rw [tl, h]; decide
    have t8 : (op.toList == [43]) = false := by rw [tl, h]; decide
    have t9 : (op.toList == [45]) = false := by rw [tl, h]; decide
    have t10 : (op.toList == [42]) = false := by rw [tl, h]; decide
    have t11 : (op.toList == [47]) = false := by rw [tl, h]; decide
    have t12 : (op.toList == [37]) = false := by rw [tl, h]; decide
    have hs : strength op = 3 := by unfold strength; rw [h]; rfl
    rw [hs]
    clear tl h
    go_enter Tryz.func51, Tryz.ntmps51
    go_wp2
    go_ret
    exact ⟨rfl, rfl⟩
  · have t0 : (op.toList == [124, 124]) = false := by rw [tl, h]; decide
    have t1 : (op.toList == [38, 38]) = false := by rw [tl, h]; decide
    have t2 : (op.toList == [61, 61]) = false := by rw [tl, h]; decide
    have t3 : (op.toList == [33, 61]) = true := by rw [tl, h]; decide
    have t4 : (op.toList == [60]) = false := by rw [tl, h]; decide
    have t5 : (op.toList == [62]) = false := by rw [tl, h]; decide
    have t6 : (op.toList == [60, 61]) = false := by rw [tl, h]; decide
    have t7 : (op.toList == [62, 61]) = false := by rw [tl, h]; decide
    have t8 : (op.toList == [43]) = false := by rw [tl, h]; decide
    have t9 : (op.toList == [45]) = false := by rw [tl, h]; decide
    have t10 : (op.toList == [42]) = false := by rw [tl, h]; decide
    have t11 : (op.toList == [47]) = false := by rw [tl, h]; decide
    have t12 : (op.toList == [37]) = false := by rw [tl, h]; decide
    have hs : strength op = 3 := by unfold strength; rw [h]; rfl
    rw [hs]
    clear tl h
    go_enter Tryz.func51, Tryz.ntmps51
    go_wp2
    go_ret
    exact ⟨rfl, rfl⟩
  · have t0 : (op.toList == [124, 124]) = false := by rw [tl, h]; decide
    have t1 : (op.toList == [38, 38]) = false := by rw [tl, h]; decide
    have t2 : (op.toList == [61, 61]) = false := by rw [tl, h]; decide
    have t3 : (op.toList == [33, 61]) = false := by rw [tl, h]; decide
    have t4 : (op.toList == [60]) = true := by rw [tl, h]; decide
    have t5 : (op.toList == [62]) = false := by rw [tl, h]; decide
    have t6 : (op.toList == [60, 61]) = false := by rw [tl, h]; decide
    have t7 : (op.toList == [62, 61]) = false := by rw [tl, h]; decide
    have t8 : (op.toList == [43]) = false := by rw [tl, h]; decide
    have t9 : (op.toList == [45]) = false := by rw [tl, h]; decide
    have t10 : (op.toList == [42]) = false := by rw [tl, h]; decide
    have t11 : (op.toList == [47]) = false := by rw [tl, h]; decide
    have t12 : (op.toList == [37]) = false := by rw [tl, h]; decide
    have hs : strength op = 4 := by unfold strength; rw [h]; rfl
    rw [hs]
    clear tl h
    go_enter Tryz.func51, Tryz.ntmps51
    go_wp2
    go_ret
    exact ⟨rfl, rfl⟩
  · have t0 : (op.toList == [124, 124]) = false := by rw [tl, h]; decide
    have t1 : (op.toList == [38, 38]) = false := by rw [tl, h]; decide
    have t2 : (op.toList == [61, 61]) = false := by rw [tl, h]; decide
    have t3 : (op.toList == [33, 61]) = false := by rw [tl, h]; decide
    have t4 : (op.toList == [60]) = false := by rw [tl, h]; decide
    have t5 : (op.toList == [62]) = true := by rw [tl, h]; decide
    have t6 : (op.toList == [60, 61]) = false := by rw [tl, h]; decide
    have t7 : (op.toList == [62, 61]) = false := by rw [tl, h]; decide
    have t8 : (op.toList == [43]) = false := by rw [tl, h]; decide
    have t9 : (op.toList == [45]) = false := by rw [tl, h]; decide
    have t10 : (op.toList == [42]) = false := by rw [tl, h]; decide
    have t11 : (op.toList == [47]) = false := by rw [tl, h]; decide
    have t12 : (op.toList == [37]) = false := by rw [tl, h]; decide
    have hs : strength op = 4 := by unfold strength; rw [h]; rfl
    rw [hs]
    clear tl h
    go_enter Tryz.func51, Tryz.ntmps51
    go_wp2
    go_ret
    exact ⟨rfl, rfl⟩
  · have t0 : (op.toList == [124, 124]) = false := by rw [tl, h]; decide
    have t1 : (op.toList == [38, 38]) = false := by rw [tl, h]; decide
    have t2 : (op.toList == [61, 61]) = false := by rw [tl, h]; decide
    have t3 : (op.toList == [33, 61]) = false := by rw [tl, h]; decide
    have t4 : (op.toList == [60]) = false := by rw [tl, h]; decide
    have t5 : (op.toList == [62]) = false := by rw [tl, h]; decide
    have t6 : (op.toList == [60, 61]) = true := by rw [tl, h]; decide
    have t7 : (op.toList == [62, 61]) = false := by rw [tl, h]; decide
    have t8 : (op.toList == [43]) = false := by rw [tl, h]; decide
    have t9 : (op.toList == [45]) = false := by rw [tl, h]; decide
    have t10 : (op.toList == [42]) = false := by rw [tl, h]; decide
    have t11 : (op.toList == [47]) = false := by rw [tl, h]; decide
    have t12 : (op.toList == [37]) = false := by rw [tl, h]; decide
    have hs : strength op = 4 := by unfold strength; rw [h]; rfl
    rw [hs]
    clear tl h
    go_enter Tryz.func51, Tryz.ntmps51
    go_wp2
    go_ret
    exact ⟨rfl, rfl⟩
  · have t0 : (op.toList == [124, 124]) = false := by rw [tl, h]; decide
    have t1 : (op.toList == [38, 38]) = false := by rw [tl, h]; decide
    have t2 : (op.toList == [61, 61]) = false := by rw [tl, h]; decide
    have t3 : (op.toList == [33, 61]) = false := by rw [tl, h]; decide
    have t4 : (op.toList == [60]) = false := by rw [tl, h]; decide
    have t5 : (op.toList == [62]) = false := by rw [tl, h]; decide
    have t6 : (op.toList == [60, 61]) = false := by rw [tl, h]; decide
    have t7 : (op.toList == [62, 61]) = true := by rw [tl, h]; decide
    have t8 : (op.toList == [43]) = false := by rw [tl, h]; decide
    have t9 : (op.toList == [45]) = false := by rw [tl, h]; decide
    have t10 : (op.toList == [42]) = false := by rw [tl, h]; decide
    have t11 : (op.toList == [47]) = false := by rw [tl, h]; decide
    have t12 : (op.toList == [37]) = false := by rw [tl, h]; decide
    have hs : strength op = 4 := by unfold strength; rw [h]; rfl
    rw [hs]
    clear tl h
    go_enter Tryz.func51, Tryz.ntmps51
    go_wp2
    go_ret
    exact ⟨rfl, rfl⟩
  · have t0 : (op.toList == [124, 124]) = false := by rw [tl, h]; decide
    have t1 : (op.toList == [38, 38]) = false := by rw [tl, h]; decide
    have t2 : (op.toList == [61, 61]) = false := by rw [tl, h]; decide
    have t3 : (op.toList == [33, 61]) = false := by rw [tl, h]; decide
    have t4 : (op.toList == [60]) = false := by rw [tl, h]; decide
    have t5 : (op.toList == [62]) = false := by rw [tl, h]; decide
    have t6 : (op.toList == [60, 61]) = false := by rw [tl, h]; decide
    have t7 : (op.toList == [62, 61]) = false := by rw [tl, h]; decide
    have t8 : (op.toList == [43]) = true := by rw [tl, h]; decide
    have t9 : (op.toList == [45]) = false := by rw [tl, h]; decide
    have t10 : (op.toList == [42]) = false := by rw [tl, h]; decide
    have t11 : (op.toList == [47]) = false := by rw [tl, h]; decide
    have t12 : (op.toList == [37]) = false := by rw [tl, h]; decide
    have hs : strength op = 5 := by unfold strength; rw [h]; rfl
    rw [hs]
    clear tl h
    go_enter Tryz.func51, Tryz.ntmps51
    go_wp2
    go_ret
    exact ⟨rfl, rfl⟩
  · have t0 : (op.toList == [124, 124]) = false := by rw [tl, h]; decide
    have t1 : (op.toList == [38, 38]) = false := by rw [tl, h]; decide
    have t2 : (op.toList == [61, 61]) = false := by rw [tl, h]; decide
    have t3 : (op.toList == [33, 61]) = false := by rw [tl, h]; decide
    have t4 : (op.toList == [60]) = false := by rw [tl, h]; decide
    have t5 : (op.toList == [62]) = false := by rw [tl, h]; decide
    have t6 : (op.toList == [60, 61]) = false := by rw [tl, h]; decide
    have t7 : (op.toList == [62, 61]) = false := by rw [tl, h]; decide
    have t8 : (op.toList == [43]) = false := by rw [tl, h]; decide
    have t9 : (op.toList == [45]) = true := by rw [tl, h]; decide
    have t10 : (op.toList == [42]) = false := by rw [tl, h]; decide
    have t11 : (op.toList == [47]) = false := by rw [tl, h]; decide
    have t12 : (op.toList == [37]) = false := by rw [tl, h]; decide
    have hs : strength op = 5 := by unfold strength; rw [h]; rfl
    rw [hs]
    clear tl h
    go_enter Tryz.func51, Tryz.ntmps51
    go_wp2
    go_ret
    exact ⟨rfl, rfl⟩
  · have t0 : (op.toList == [124, 124]) = false := by rw [tl, h]; decide
    have t1 : (op.toList == [38, 38]) = false := by rw [tl, h]; decide
    have t2 : (op.toList == [61, 61]) = false := by rw [tl, h]; decide
    have t3 : (op.toList == [33, 61]) = false := by rw [tl, h]; decide
    have t4 : (op.toList == [60]) = false := by rw [tl, h]; decide
    have t5 : (op.toList == [62]) = false := by rw [tl, h]; decide
    have t6 : (op.toList == [60, 61]) = false := by rw [tl, h]; decide
    have t7 : (op.toList == [62, 61]) = false := by rw [tl, h]; decide
    have t8 : (op.toList == [43]) = false := by rw [tl, h]; decide
    have t9 : (op.toList == [45]) = false := by rw [tl, h]; decide
    have t10 : (op.toList == [42]) = true := by rw [tl, h]; decide
    have t11 : (op.toList == [47]) = false := by rw [tl, h]; decide
    have t12 : (op.toList == [37]) = false := by rw [tl, h]; decide
    have hs : strength op = 6 := by unfold strength; rw [h]; rfl
    rw [hs]
    clear tl h
    go_enter Tryz.func51, Tryz.ntmps51
    go_wp2
    go_ret
    exact ⟨rfl, rfl⟩
  · have t0 : (op.toList == [124, 124]) = false := by rw [tl, h]; decide
    have t1 : (op.toList == [38, 38]) = false := by rw [tl, h]; decide
    have t2 : (op.toList == [61, 61]) = false := by rw [tl, h]; decide
    have t3 : (op.toList == [33, 61]) = false := by rw [tl, h]; decide
    have t4 : (op.toList == [60]) = false := by rw [tl, h]; decide
    have t5 : (op.toList == [62]) = false := by rw [tl, h]; decide
    have t6 : (op.toList == [60, 61]) = false := by rw [tl, h]; decide
    have t7 : (op.toList == [62, 61]) = false := by rw [tl, h]; decide
    have t8 : (op.toList == [43]) = false := by rw [tl, h]; decide
    have t9 : (op.toList == [45]) = false := by rw [tl, h]; decide
    have t10 : (op.toList == [42]) = false := by rw [tl, h]; decide
    have t11 : (op.toList == [47]) = true := by rw [tl, h]; decide
    have t12 : (op.toList == [37]) = false := by rw [tl, h]; decide
    have hs : strength op = 6 := by unfold strength; rw [h]; rfl
    rw [hs]
    clear tl h
    go_enter Tryz.func51, Tryz.ntmps51
    go_wp2
    go_ret
    exact ⟨rfl, rfl⟩
  · have t0 : (op.toList == [124, 124]) = false := by rw [tl, h]; decide
    have t1 : (op.toList == [38, 38]) = false := by rw [tl, h]; decide
    have t2 : (op.toList == [61, 61]) = false := by rw [tl, h]; decide
    have t3 : (op.toList == [33, 61]) = false := by rw [tl, h]; decide
    have t4 : (op.toList == [60]) = false := by rw [tl, h]; decide
    have t5 : (op.toList == [62]) = false := by rw [tl, h]; decide
    have t6 : (op.toList == [60, 61]) = false := by rw [tl, h]; decide
    have t7 : (op.toList == [62, 61]) = false := by rw [tl, h]; decide
    have t8 : (op.toList == [43]) = false := by rw [tl, h]; decide
    have t9 : (op.toList == [45]) = false := by rw [tl, h]; decide
    have t10 : (op.toList == [42]) = false := by rw [tl, h]; decide
    have t11 : (op.toList == [47]) = false := by rw [tl, h]; decide
    have t12 : (op.toList == [37]) = true := by rw [tl, h]; decide
    have hs : strength op = 6 := by unfold strength; rw [h]; rfl
    rw [hs]
    clear tl h
    go_enter Tryz.func51, Tryz.ntmps51
    go_wp2
    go_ret
    exact ⟨rfl, rfl⟩
  · have t0 : (op.toList == [124, 124]) = false := by rw [tl, beq_eq_false_iff_ne]; exact n0
    have t1 : (op.toList == [38, 38]) = false := by rw [tl, beq_eq_false_iff_ne]; exact n1
    have t2 : (op.toList == [61, 61]) = false := by rw [tl, beq_eq_false_iff_ne]; exact n2
    have t3 : (op.toList == [33, 61]) = false := by rw [tl, beq_eq_false_iff_ne]; exact n3
    have t4 : (op.toList == [60]) = false := by rw [tl, beq_eq_false_iff_ne]; exact n4
    have t5 : (op.toList == [62]) = false := by rw [tl, beq_eq_false_iff_ne]; exact n5
    have t6 : (op.toList == [60, 61]) = false := by rw [tl, beq_eq_false_iff_ne]; exact n6
    have t7 : (op.toList == [62, 61]) = false := by rw [tl, beq_eq_false_iff_ne]; exact n7
    have t8 : (op.toList == [43]) = false := by rw [tl, beq_eq_false_iff_ne]; exact n8
    have t9 : (op.toList == [45]) = false := by rw [tl, beq_eq_false_iff_ne]; exact n9
    have t10 : (op.toList == [42]) = false := by rw [tl, beq_eq_false_iff_ne]; exact n10
    have t11 : (op.toList == [47]) = false := by rw [tl, beq_eq_false_iff_ne]; exact n11
    have t12 : (op.toList == [37]) = false := by rw [tl, beq_eq_false_iff_ne]; exact n12
    have hs : strength op = 0 := by unfold strength strengthL; simp [n0, n1, n2, n3, n4, n5, n6, n7, n8, n9, n10, n11, n12]
    rw [hs]
    clear tl n0 n1 n2 n3 n4 n5 n6 n7 n8 n9 n10 n11 n12
    go_enter Tryz.func51, Tryz.ntmps51
    go_wp2
    go_ret
    exact ⟨rfl, rfl⟩
set_option maxHeartbeats 1600000 in
theorem rstrength_c (op : ByteArray) (w : World) : Calls Tryz.prog 34 #[.string op] w fun e w' => e = .returned (.int .i64 (strength op)) ∧ w = w' := by
  have tl : op.toList = op.data.toList := Lib.toList_data _
  rcases op_ways op.data.toList with h | h | h | h | h | h | h | h | h | h | h | h | h | ⟨n0, n1, n2, n3, n4, n5, n6, n7, n8, n9, n10, n11, n12⟩
  · have t0 : (op.toList == [124, 124]) = true := by rw [tl, h]; decide
    have t1 : (op.toList == [38, 38]) = false := by rw [tl, h]; decide
    have t2 : (op.toList == [61, 61]) = false := by rw [tl, h]; decide
    have t3 : (op.toList == [33, 61]) = false := by rw [tl, h]; decide
    have t4 : (op.toList == [60]) = false := by rw [tl, h]; decide
    have t5 : (op.toList == [62]) = false := by rw [tl, h]; decide
    have t6 : (op.toList == [60, 61]) = false := by rw [tl, h]; decide
    have t7 : (op.toList == [62, 61]) = false := by rw [tl, h]; decide
    have t8 : (op.toList == [43]) = false := by rw [tl, h]; decide
    have t9 : (op.toList == [45]) = false := by rw [tl, h]; decide
    have t10 : (op.toList == [42]) = false := by rw [tl, h]; decide
    have t11 : (op.toList == [47]) = false := by rw [tl, h]; decide
    have t12 : (op.toList == [37]) = false := by rw [tl, h]; decide
    have hs : strength op = 1 := by unfold strength; rw [h]; rfl
    rw [hs]
    clear tl h
    go_enter Tryz.func34, Tryz.ntmps34
    go_wp2
    go_ret
    exact ⟨rfl, rfl⟩
  · have t0 : (op.toList == [124, 124]) = false := by rw [tl, h]; decide
    have t1 : (op.toList == [38, 38]) = true := by rw [tl, h]; decide
    have t2 : (op.toList == [61, 61]) = false := by rw [tl, h]; decide
    have t3 : (op.toList == [33, 61]) = false := by rw [tl, h]; decide
    have t4 : (op.toList == [60]) = false := by rw [tl, h]; decide
    have t5 : (op.toList == [62]) = false := by rw [tl, h]; decide
    have t6 : (op.toList == [60, 61]) = false := by rw [tl, h]; decide
    have t7 : (op.toList == [62, 61]) = false := by rw [tl, h]; decide
    have t8 : (op.toList == [43]) = false := by rw [tl, h]; decide
    have t9 : (op.toList == [45]) = false := by rw [tl, h]; decide
    have t10 : (op.toList == [42]) = false := by rw [tl, h]; decide
    have t11 : (op.toList == [47]) = false := by rw [tl, h]; decide
    have t12 : (op.toList == [37]) = false := by rw [tl, h]; decide
    have hs : strength op = 2 := by unfold strength; rw [h]; rfl
    rw [hs]
    clear tl h
    go_enter Tryz.func34, Tryz.ntmps34
    go_wp2
    go_ret
    exact ⟨rfl, rfl⟩
  · have t0 : (op.toList == [124, 124]) = false := by rw [tl, h]; decide
    have t1 : (op.toList == [38, 38]) = false := by rw [tl, h]; decide
    have t2 : (op.toList == [61, 61]) = true := by rw [tl, h]; decide
    have t3 : (op.toList == [33, 61]) = false := by rw [tl, h]; decide
    have t4 : (op.toList == [60]) = false := by rw [tl, h]; decide
    have t5 : (op.toList == [62]) = false := by rw [tl, h]; decide
    have t6 : (op.toList == [60, 61]) = false := by rw [tl, h]; decide
    have t7 : (op.toList == [62, 61]) = false := by rw [tl, h]; decide
    have t8 : (op.toList == [43]) = false := by rw [tl, h]; decide
    have t9 : (op.toList == [45]) = false := by rw [tl, h]; decide
    have t10 : (op.toList == [42]) = false := by rw [tl, h]; decide
    have t11 : (op.toList == [47]) = false := by rw [tl, h]; decide
    have t12 : (op.toList == [37]) = false := by rw [tl, h]; decide
    have hs : strength op = 3 := by unfold strength; rw [h]; rfl
    rw [hs]
    clear tl h
    go_enter Tryz.func34, Tryz.ntmps34
    go_wp2
    go_ret
    exact ⟨rfl, rfl⟩
  · have t0 : (op.toList == [124, 124]) = false := by rw [tl, h]; decide
    have t1 : (op.toList == [38, 38]) = false := by rw [tl, h]; decide
    have t2 : (op.toList == [61, 61]) = false := by rw [tl, h]; decide
    have t3 : (op.toList == [33, 61]) = true := by rw [tl, h]; decide
    have t4 : (op.toList == [60]) = false := by rw [tl, h]; decide
    have t5 : (op.toList == [62]) = false := by rw [tl, h]; decide
    have t6 : (op.toList == [60, 61]) = false := by rw [tl, h]; decide
    have t7 : (op.toList == [62, 61]) = false := by rw [tl, h]; decide
    have t8 : (op.toList == [43]) = false := by rw [tl, h]; decide
    have t9 : (op.toList == [45]) = false := by rw [tl, h]; decide
    have t10 : (op.toList == [42]) = false := by rw [tl, h]; decide
    have t11 : (op.toList == [47]) = false := by rw [tl, h]; decide
    have t12 : (op.toList == [37]) = false := by rw [tl, h]; decide
    have hs : strength op = 3 := by unfold strength; rw [h]; rfl
    rw [hs]
    clear tl h
    go_enter Tryz.func34, Tryz.ntmps34
    go_wp2
    go_ret
    exact ⟨rfl, rfl⟩
  · have t0 : (op.toList == [124, 124]) = false := by rw [tl, h]; decide
    have t1 : (op.toList == [38, 38]) = false := by rw [tl, h]; decide
    have t2 : (op.toList == [61, 61]) = false := by rw [tl, h]; decide
    have t3 : (op.toList == [33, 61]) = false := by rw [tl, h]; decide
    have t4 : (op.toList == [60]) = true := by rw [tl, h]; decide
    have t5 : (op.toList == [62]) = false := by rw [tl, h]; decide
    have t6 : (op.toList == [60, 61]) = false := by rw [tl, h]; decide
    have t7 : (op.toList == [62, 61]) = false := by rw [tl, h]; decide
    have t8 : (op.toList == [43]) = false := by rw [tl, h]; decide
    have t9 : (op.toList == [45]) = false := by rw [tl, h]; decide
    have t10 : (op.toList == [42]) = false := by rw [tl, h]; decide
    have t11 : (op.toList == [47]) = false := by rw [tl, h]; decide
    have t12 : (op.toList == [37]) = false := by rw [tl, h]; decide
    have hs : strength op = 4 := by unfold strength; rw [h]; rfl
    rw [hs]
    clear tl h
    go_enter Tryz.func34, Tryz.ntmps34
    go_wp2
    go_ret
    exact ⟨rfl, rfl⟩
  · have t0 : (op.toList == [124, 124]) = false := by rw [tl, h]; decide
    have t1 : (op.toList == [38, 38]) = false := by rw [tl, h]; decide
    have t2 : (op.toList == [61, 61]) = false := by rw [tl, h]; decide
    have t3 : (op.toList == [33, 61]) = false := by rw [tl, h]; decide
    have t4 : (op.toList == [60]) = false := by rw [tl, h]; decide
    have t5 : (op.toList == [62]) = true := by rw [tl, h]; decide
    have t6 : (op.toList == [60, 61]) = false := by rw [tl, h]; decide
    have t7 : (op.toList == [62, 61]) = false := by rw [tl, h]; decide
    have t8 : (op.toList == [43]) = false := by rw [tl, h]; decide
    have t9 : (op.toList == [45]) = false := by rw [tl, h]; decide
    have t10 : (op.toList == [42]) = false := by rw [tl, h]; decide
    have t11 : (op.toList == [47]) = false := by rw [tl, h]; decide
    have t12 : (op.toList == [37]) = false := by rw [tl, h]; decide
    have hs : strength op = 4 := by unfold strength; rw [h]; rfl
    rw [hs]
    clear tl h
    go_enter Tryz.func34, Tryz.ntmps34
    go_wp2
    go_ret
    exact ⟨rfl, rfl⟩
  · have t0 : (op.toList == [124, 124]) = false := by rw [tl, h]; decide
    have t1 : (op.toList == [38, 38]) = false := by rw [tl, h]; decide
    have t2 : (op.toList == [61, 61]) = false := by rw [tl, h]; decide
    have t3 : (op.toList == [33, 61]) = false := by rw [tl, h]; decide
    have t4 : (op.toList == [60]) = false := by rw [tl, h]; decide
    have t5 : (op.toList == [62]) = false := by rw [tl, h]; decide
    have t6 : (op.toList == [60, 61]) = true := by rw [tl, h]; decide
    have t7 : (op.toList == [62, 61]) = false := by rw [tl, h]; decide
    have t8 : (op.toList == [43]) = false := by rw [tl, h]; decide
    have t9 : (op.toList == [45]) = false := by rw [tl, h]; decide
    have t10 : (op.toList == [42]) = false := by rw [tl, h]; decide
    have t11 : (op.toList == [47]) = false := by rw [tl, h]; decide
    have t12 : (op.toList == [37]) = false := by rw [tl, h]; decide
    have hs : strength op = 4 := by unfold strength; rw [h]; rfl
    rw [hs]
    clear tl h
    go_enter Tryz.func34, Tryz.ntmps34
    go_wp2
    go_ret
    exact ⟨rfl, rfl⟩
  · have t0 : (op.toList == [124, 124]) = false := by rw [tl, h]; decide
    have t1 : (op.toList == [38, 38]) = false := by rw [tl, h]; decide
    have t2 : (op.toList == [61, 61]) = false := by rw [tl, h]; decide
    have t3 : (op.toList == [33, 61]) = false := by rw [tl, h]; decide
    have t4 : (op.toList == [60]) = false := by rw [tl, h]; decide
    have t5 : (op.toList == [62]) = false := by rw [tl, h]; decide
    have t6 : (op.toList == [60, 61]) = false := by rw [tl, h]; decide
    have t7 : (op.toList == [62, 61]) = true := by rw [tl, h]; decide
    have t8 : (op.toList == [43]) = false := by rw [tl, h]; decide
    have t9 : (op.toList == [45]) = false := by rw [tl, h]; decide
    have t10 : (op.toList == [42]) = false := by rw [tl, h]; decide
    have t11 : (op.toList == [47]) = false := by rw [tl, h]; decide
    have t12 : (op.toList == [37]) = false := by rw [tl, h]; decide
    have hs : strength op = 4 := by unfold strength; rw [h]; rfl
    rw [hs]
    clear tl h
    go_enter Tryz.func34, Tryz.ntmps34
    go_wp2
    go_ret
    exact ⟨rfl, rfl⟩
  · have t0 : (op.toList == [124, 124]) = false := by rw [tl, h]; decide
    have t1 : (op.toList == [38, 38]) = false := by rw [tl, h]; decide
    have t2 : (op.toList == [61, 61]) = false := by rw [tl, h]; decide
    have t3 : (op.toList == [33, 61]) = false := by rw [tl, h]; decide
    have t4 : (op.toList == [60]) = false := by rw [tl, h]; decide
    have t5 : (op.toList == [62]) = false := by rw [tl, h]; decide
    have t6 : (op.toList == [60, 61]) = false := by rw [tl, h]; decide
    have t7 : (op.toList == [62, 61]) = false := by rw [tl, h]; decide
    have t8 : (op.toList == [43]) = true := by rw [tl, h]; decide
    have t9 : (op.toList == [45]) = false := by rw [tl, h]; decide
    have t10 : (op.toList == [42]) = false := by rw [tl, h]; decide
    have t11 : (op.toList == [47]) = false := by rw [tl, h]; decide
    have t12 : (op.toList == [37]) = false := by rw [tl, h]; decide
    have hs : strength op = 5 := by unfold strength; rw [h]; rfl
    rw [hs]
    clear tl h
    go_enter Tryz.func34, Tryz.ntmps34
    go_wp2
    go_ret
    exact ⟨rfl, rfl⟩
  · have t0 : (op.toList == [124, 124]) = false := by rw [tl, h]; decide
    have t1 : (op.toList == [38, 38]) = false := by rw [tl, h]; decide
    have t2 : (op.toList == [61, 61]) = false := by rw [tl, h]; decide
    have t3 : (op.toList == [33, 61]) = false := by rw [tl, h]; decide
    have t4 : (op.toList == [60]) = false := by rw [tl, h]; decide
    have t5 : (op.toList == [62]) = false := by rw [tl, h]; decide
    have t6 : (op.toList == [60, 61]) = false := by rw [tl, h]; decide
    have t7 : (op.toList == [62, 61]) = false := by rw [tl, h]; decide
    have t8 : (op.toList == [43]) = false := by rw [tl, h]; decide
    have t9 : (op.toList == [45]) = true := by rw [tl, h]; decide
    have t10 : (op.toList == [42]) = false := by rw [tl, h]; decide
    have t11 : (op.toList == [47]) = false := by rw [tl, h]; decide
    have t12 : (op.toList == [37]) = false := by rw [tl, h]; decide
    have hs : strength op = 5 := by unfold strength; rw [h]; rfl
    rw [hs]
    clear tl h
    go_enter Tryz.func34, Tryz.ntmps34
    go_wp2
    go_ret
    exact ⟨rfl, rfl⟩
  · have t0 : (op.toList == [124, 124]) = false := by rw [tl, h]; decide
    have t1 : (op.toList == [38, 38]) = false := by rw [tl, h]; decide
    have t2 : (op.toList == [61, 61]) = false := by rw [tl, h]; decide
    have t3 : (op.toList == [33, 61]) = false := by rw [tl, h]; decide
    have t4 : (op.toList == [60]) = false := by rw [tl, h]; decide
    have t5 : (op.toList == [62]) = false := by rw [tl, h]; decide
    have t6 : (op.toList == [60, 61]) = false := by rw [tl, h]; decide
    have t7 : (op.toList == [62, 61]) = false := by rw [tl, h]; decide
    have t8 : (op.toList == [43]) = false := by rw [tl, h]; decide
    have t9 : (op.toList == [45]) = false := by rw [tl, h]; decide
    have t10 : (op.toList == [42]) = true := by rw [tl, h]; decide
    have t11 : (op.toList == [47]) = false := by rw [tl, h]; decide
    have t12 : (op.toList == [37]) = false := by rw [tl, h]; decide
    have hs : strength op = 6 := by unfold strength; rw [h]; rfl
    rw [hs]
    clear tl h
    go_enter Tryz.func34, Tryz.ntmps34
    go_wp2
    go_ret
    exact ⟨rfl, rfl⟩
  · have t0 : (op.toList == [124, 124]) = false := by rw [tl, h]; decide
    have t1 : (op.toList == [38, 38]) = false := by rw [tl, h]; decide
    have t2 : (op.toList == [61, 61]) = false := by rw [tl, h]; decide
    have t3 : (op.toList == [33, 61]) = false := by rw [tl, h]; decide
    have t4 : (op.toList == [60]) = false := by rw [tl, h]; decide
    have t5 : (op.toList == [62]) = false := by rw [tl, h]; decide
    have t6 : (op.toList == [60, 61]) = false := by rw [tl, h]; decide
    have t7 : (op.toList == [62, 61]) = false := by rw [tl, h]; decide
    have t8 : (op.toList == [43]) = false := by rw [tl, h]; decide
    have t9 : (op.toList == [45]) = false := by rw [tl, h]; decide
    have t10 : (op.toList == [42]) = false := by rw [tl, h]; decide
    have t11 : (op.toList == [47]) = true := by rw [tl, h]; decide
    have t12 : (op.toList == [37]) = false := by rw [tl, h]; decide
    have hs : strength op = 6 := by unfold strength; rw [h]; rfl
    rw [hs]
    clear tl h
    go_enter Tryz.func34, Tryz.ntmps34
    go_wp2
    go_ret
    exact ⟨rfl, rfl⟩
  · have t0 : (op.toList == [124, 124]) = false := by rw [tl, h]; decide
    have t1 : (op.toList == [38, 38]) = false := by rw [tl, h]; decide
    have t2 : (op.toList == [61, 61]) = false := by rw [tl, h]; decide
    have t3 : (op.toList == [33, 61]) = false := by rw [tl, h]; decide
    have t4 : (op.toList == [60]) = false := by rw [tl, h]; decide
    have t5 : (op.toList == [62]) = false := by rw [tl, h]; decide
    have t6 : (op.toList == [60, 61]) = false := by rw [tl, h]; decide
    have t7 : (op.toList == [62, 61]) = false := by rw [tl, h]; decide
    have t8 : (op.toList == [43]) = false := by rw [tl, h]; decide
    have t9 : (op.toList == [45]) = false := by rw [tl, h]; decide
    have t10 : (op.toList == [42]) = false := by rw [tl, h]; decide
    have t11 : (op.toList == [47]) = false := by rw [tl, h]; decide
    have t12 : (op.toList == [37]) = true := by rw [tl, h]; decide
    have hs : strength op = 6 := by unfold strength; rw [h]; rfl
    rw [hs]
    clear tl h
    go_enter Tryz.func34, Tryz.ntmps34
    go_wp2
    go_ret
    exact ⟨rfl, rfl⟩
  · have t0 : (op.toList == [124, 124]) = false := by rw [tl, beq_eq_false_iff_ne]; exact n0
    have t1 : (op.toList == [38, 38]) = false := by rw [tl, beq_eq_false_iff_ne]; exact n1
    have t2 : (op.toList == [61, 61]) = false := by rw [tl, beq_eq_false_iff_ne]; exact n2
    have t3 : (op.toList == [33, 61]) = false := by rw [tl, beq_eq_false_iff_ne]; exact n3
    have t4 : (op.toList == [60]) = false := by rw [tl, beq_eq_false_iff_ne]; exact n4
    have t5 : (op.toList == [62]) = false := by rw [tl, beq_eq_false_iff_ne]; exact n5
    have t6 : (op.toList == [60, 61]) = false := by rw [tl, beq_eq_false_iff_ne]; exact n6
    have t7 : (op.toList == [62, 61]) = false := by rw [tl, beq_eq_false_iff_ne]; exact n7
    have t8 : (op.toList == [43]) = false := by rw [tl, beq_eq_false_iff_ne]; exact n8
    have t9 : (op.toList == [45]) = false := by rw [tl, beq_eq_false_iff_ne]; exact n9
    have t10 : (op.toList == [42]) = false := by rw [tl, beq_eq_false_iff_ne]; exact n10
    have t11 : (op.toList == [47]) = false := by rw [tl, beq_eq_false_iff_ne]; exact n11
    have t12 : (op.toList == [37]) = false := by rw [tl, beq_eq_false_iff_ne]; exact n12
    have hs : strength op = 0 := by unfold strength strengthL; simp [n0, n1, n2, n3, n4, n5, n6, n7, n8, n9, n10, n11, n12]
    rw [hs]
    clear tl n0 n1 n2 n3 n4 n5 n6 n7 n8 n9 n10 n11 n12
    go_enter Tryz.func34, Tryz.ntmps34
    go_wp2
    go_ret
    exact ⟨rfl, rfl⟩
set_option maxHeartbeats 1600000 in
set_option maxRecDepth 100000 in
theorem bare_c (k n : Int) (nm op : ByteArray) (A : Option Addr) (m c : Nat) (w : World) :
    Calls Tryz.prog 59 #[.agg (exC k n nm op A m c).toArray] w fun x w' => x = .returned (.bool (bareE k n nm op)) ∧ Below w.heap.size w w' := by
  have t1 : nm.toList = nm.data.toList := Lib.toList_data _
  have t2 : op.toList = op.data.toList := Lib.toList_data _
  unfold bareE
  rw [← t1, ← t2]
  clear t1 t2
  go_enter Tryz.func59, Tryz.ntmps59
  go_wp2
  all_goals
    go_ret
    refine ⟨by simp_all, by go_grown⟩
/-- A number and an error. -/
abbrev tup (p : Int × Int) : Value := .tuple #[.int .i64 p.1, .int .i64 p.2]
theorem res_tup (n : Int) : NumW.res n = tup (resP n) := by unfold NumW.res resP NumW.I64; by_cases h : -9223372036854775808 ≤ n ∧ n ≤ 9223372036854775807 <;> simp [h]
end CalW
end Go.Proofs.YtchceoclkdofhaaGreatDoor
