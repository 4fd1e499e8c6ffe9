/- The walks of the reference's Mag and of. Conditions: numbers of 64 bits. -/
import Derived.Test.YtooinkhjoppijaaDoorMem
namespace Go.Proofs.YtooinkhjoppijaaDoor
set_option linter.unusedVariables false
set_option linter.unusedSimpArgs false
open Go.RowKit
namespace NumW
/-- A number of 64 bits. -/
def I64 (n : Int) : Prop := -9223372036854775808 ≤ n ∧ n ≤ 9223372036854775807
instance (n : Int) : Decidable (I64 n) := inferInstanceAs (Decidable (_ ∧ _))
/-- A number, or that there is no room. -/
def res (n : Int) : Value := if I64 n then .tuple #[.int .i64 n, .int .i64 0] else .tuple #[.int .i64 0, .int .i64 3]
theorem res_in {n : Int} (h : -9223372036854775808 ≤ n ∧ n ≤ 9223372036854775807) : res n = .tuple #[.int .i64 n, .int .i64 0] := if_pos h
theorem res_out {n : Int} (h : ¬ (-9223372036854775808 ≤ n ∧ n ≤ 9223372036854775807)) : res n = .tuple #[.int .i64 0, .int .i64 3] := if_neg h
theorem res_two {n : Int} {r : Value} (h : res n = r) : ∃ p q : Int, r = .tuple #[.int .i64 p, .int .i64 q] := by
  subst h; unfold res; split <;> exact ⟨_, _, rfl⟩
section
variable (a b : Int) (w : World) (a0 : -9223372036854775808 ≤ a) (a1 : a ≤ 9223372036854775807)
include a0 a1
theorem wrap_neg (h : a < 0) : IntKind.u64.wrap (-(IntKind.u64.wrap a)) = (a.natAbs : Int) := by
  rw [IntKind.wrap_u64, IntKind.wrap_u64]; omega
set_option maxHeartbeats 400000 in
theorem mag_c : Calls Tryd.prog 52 #[.int .i64 a] w fun e w' => e = .returned (.int .u64 (a.natAbs : Int)) ∧ w = w' := by
  by_cases h : a < 0
  · go_enter Tryd.func52, Tryd.ntmps52
    go_wp2
    go_ret
    exact ⟨ret_u64i (wrap_neg a a0 a1 h), rfl⟩
  · go_enter Tryd.func52, Tryd.ntmps52
    go_wp2
    go_ret
    exact ⟨ret_u64i (by omega), rfl⟩
end
set_option maxHeartbeats 400000 in
theorem of_c (neg : Bool) (m : Int) (w : World) (m0 : 0 ≤ m) (m1 : m ≤ 18446744073709551615) : Calls Tryd.prog 43 #[.bool neg, .int .u64 m] w fun e w' => e = .returned (res (if neg = true then -m else m)) ∧ w = w' := by
  cases neg
  · simp only [Bool.false_eq_true, if_false]
    by_cases hm : m < 9223372036854775808
    · rw [res_in (by omega)]
      go_enter Tryd.func43, Tryd.ntmps43
      go_wp2
      go_ret2
      exact ⟨rfl, rfl⟩
    · rw [res_out (by omega)]
      go_enter Tryd.func43, Tryd.ntmps43
      go_wp2
      go_ret2
      exact ⟨rfl, rfl⟩
  · simp only [if_true]
    by_cases hm : m < 9223372036854775808
    · rw [res_in (by omega)]
      go_enter Tryd.func43, Tryd.ntmps43
      go_wp2
      go_ret2
      exact ⟨ret_two (by omega), rfl⟩
    · by_cases he : m = 9223372036854775808
      · subst he
        rw [res_in (by omega)]
        go_enter Tryd.func43, Tryd.ntmps43
        go_wp2
        go_ret2
        exact ⟨rfl, rfl⟩
      · rw [res_out (by omega)]
        go_enter Tryd.func43, Tryd.ntmps43
        go_wp2
        go_ret2
        exact ⟨rfl, rfl⟩
end NumW
end Go.Proofs.YtooinkhjoppijaaDoor
