/- Which choices and heads may be: the walks. No condition. -/
import Derived.Test.YtooinkhjoppijaaDoorMem
import Derived.Test.YtooinkhjoppijaaDoorTraP
namespace Go.Proofs.YtooinkhjoppijaaDoor
set_option linter.unusedVariables false
set_option linter.unusedSimpArgs false
open Go.RowKit
namespace TraW
open TraP
/-- A choice's cells. -/
abbrev chC (c : Ch) : List Value := [.int .i64 c.1, .int .i64 c.2.1, .int .i64 c.2.2]
abbrev chV (c : Ch) : Value := .agg #[.int .i64 c.1, .int .i64 c.2.1, .int .i64 c.2.2]
theorem within_c (n m : Int) (w : World) : Calls Tryd.prog 36 #[.int .i64 n, .int .i64 m] w fun e w' => e = .returned (.bool (inB n m)) ∧ w = w' := by
  obtain ⟨R, hR⟩ : ∃ R, inB n m = R := ⟨_, rfl⟩
  rw [hR]
  have H := Lib.hid hR
  clear hR
  by_cases h0 : 0 ≤ n <;> by_cases h1 : n ≤ m
  all_goals
    go_enter Tryd.func36, Tryd.ntmps36
    go_wp2
    go_ret
    exact ⟨ret_bool (by rw [← H.out]; simp [inB, h0, h1]), rfl⟩
set_option maxHeartbeats 1000000 in
theorem head_c (k n : Int) (w : World) : Calls Tryd.prog 21 #[.int .i64 k, .int .i64 n] w fun e w' => e = .returned (.bool (headB k n)) ∧ w = w' := by
  obtain ⟨R, hR⟩ : ∃ R, headB k n = R := ⟨_, rfl⟩
  rw [hR]
  have H := Lib.hid hR
  clear hR
  have cw := within_c n 59 w
  generalize hI : inB n 59 = I at cw
  have HI := Lib.hid hI
  clear hI
  go_enter Tryd.func21, Tryd.ntmps21
  go_wp2_with (first
    | (go_at_call 36; (with_reducible refine cw.mono ?_); rintro e w' ⟨rfl, rfl⟩))
  all_goals
    go_ret
    exact ⟨ret_bool (by rw [← H.out]; simp_all [headB, HI.out] <;> omega), rfl⟩
set_option maxHeartbeats 1000000 in
theorem one_c (c : Ch) (w : World) : Calls Tryd.prog 24 #[chV c] w fun e w' => e = .returned (.bool (oneB c)) ∧ Below w.heap.size w w' := by
  obtain ⟨k, p, n⟩ := c
  obtain ⟨R, hR⟩ : ∃ R, oneB (k, p, n) = R := ⟨_, rfl⟩
  rw [hR]
  have H := Lib.hid hR
  clear hR
  have cw := fun a b W => within_c a b W
  simp only [chV]
  go_enter Tryd.func24, Tryd.ntmps24
  go_wp2_with (first
    | (go_at_call 36; (with_reducible refine (cw _ _ _).mono ?_); rintro e w' ⟨rfl, rfl⟩))
  all_goals
    go_ret
    exact ⟨ret_bool (by rw [← H.out]; simp_all [oneB] <;> omega), by go_grown⟩
set_option maxHeartbeats 1000000 in
theorem mayk_c (c : Ch) (w : World) : Calls Tryd.prog 23 #[chV c] w fun e w' => e = .returned (.bool (!oneB c)) ∧ Below w.heap.size w w' := by
  have co := fun W => one_c c W
  generalize oneB c = R at *
  obtain ⟨k, p, n⟩ := c
  simp only [chV] at *
  go_enter Tryd.func23, Tryd.ntmps23
  go_wp2_with fail
  (with_reducible refine (co _).mono ?_)
  rintro e w2 ⟨rfl, b2⟩
  have B2 := via (a := w) b2 (by go_grown)
  go_wp2
  go_ret
  exact ⟨rfl, B2⟩
set_option maxHeartbeats 1000000 in
theorem rone_c (c : Ch) (w : World) : Calls Tryd.prog 15 #[chV c] w fun e w' => e = .returned (.bool (oneB c)) ∧ Below w.heap.size w w' := by
  obtain ⟨k, p, n⟩ := c
  obtain ⟨R, hR⟩ : ∃ R, oneB (k, p, n) = R := ⟨_, rfl⟩
  rw [hR]
  have H := Lib.hid hR
  clear hR
  simp only [chV]
  go_enter Tryd.func15, Tryd.ntmps15
  go_wp2
  all_goals
    go_ret
    exact ⟨ret_bool (by rw [← H.out]; simp_all [oneB, inB] <;> omega), by go_grown⟩
end TraW
end Go.Proofs.YtooinkhjoppijaaDoor
