/- How tightly a kind binds, and the token of a sign. No condition. -/
import Derived.Test.YtchceoclkdofhaaGreatDoorExpO
namespace Go.Proofs.YtchceoclkdofhaaGreatDoor
set_option linter.unusedVariables false
set_option linter.unusedSimpArgs false
open Go.RowKit
namespace ExpW
open CalP CalW ExpP
def bindsK (k : Int) (op : ByteArray) : Nat := if k = 4 then strength op else if k = 2 ∨ k = 3 then 7 else 8
set_option maxRecDepth 100000 in
set_option maxHeartbeats 1600000 in
theorem binds_c (k n : Int) (nm op : ByteArray) (A : Option Addr) (m c : Nat) (w : World) :
    Calls Tryz.prog 53 #[.agg (exC k n nm op A m c).toArray] w fun x w' => x = .returned (.int .i64 (bindsK k op : Nat)) ∧ Below w.heap.size w w' := by
  unfold bindsK
  have cst := fun W => strength_c op W
  by_cases h4 : k = 4
  · rw [if_pos h4]
    have e4 : (k == 4) = true := by simpa using h4
    clear h4
    go_enter Tryz.func53, Tryz.ntmps53
    go_wp2_with fail
    (with_reducible refine (cst _).mono ?_)
    rintro x w9 ⟨rfl, hw9⟩
    have b9 : Below w.heap.size w w9 := by rw [← hw9]; go_grown
    clear hw9 cst
    go_wp2_with fail
    go_ret
    exact ⟨rfl, b9⟩
  · rw [if_neg h4]
    have e4 : (k == 4) = false := by simpa using h4
    clear h4 cst
    by_cases h2 : k = 2
    · rw [if_pos (.inl h2)]
      have e2 : (k == 2) = true := by simpa using h2
      clear h2
      go_enter Tryz.func53, Tryz.ntmps53
      go_wp2_with fail
      go_ret
      exact ⟨rfl, by go_grown⟩
    · have e2 : (k == 2) = false := by simpa using h2
      by_cases h3 : k = 3
      · rw [if_pos (.inr h3)]
        have e3 : (k == 3) = true := by simpa using h3
        clear h2 h3
        go_enter Tryz.func53, Tryz.ntmps53
        go_wp2_with fail
        go_ret
        exact ⟨rfl, by go_grown⟩
      · rw [if_neg (by omega)]
        have e3 : (k == 3) = false := by simpa using h3
        clear h2 h3
        go_enter Tryz.func53, Tryz.ntmps53
        go_wp2_with fail
        go_ret
        exact ⟨rfl, by go_grown⟩
theorem tsign_c (s : ByteArray) (w : World) :
    Calls Tryz.prog 54 #[.string s] w fun x w' => x = .returned (.agg #[.int .i64 4, .string s, .int .i64 0, .slice none 0 0, .int .i64 0]) ∧ Below w.heap.size w w' := by
  go_enter Tryz.func54, Tryz.ntmps54
  go_wp2_with fail
  refine bodyPost_ret (results_cell_row (by rfl) _ _ w.heap.size 47 #[.int .i64 4, .string s, .int .i64 0, .slice none 0 0, .int .i64 0] (0, 0) _ (by rfl) (by exact Blk.new _ _ _) Tryz.underlying47 rfl (by kernel_rfl)) rfl ⟨rfl, by go_grown⟩
/-- The tokens of expressions are bare: nothing is told that isn't their kind's. -/
theorem tbare_c (k n : Int) (s : ByteArray) (q : Int) (hk : k = 2 ∨ k = 4 ∨ k = 6) (h2 : k = 2 → s = noB) (hn : k ≠ 2 → n = 0) (w : World) :
    Calls Tryz.prog 83 #[.agg #[.int .i64 k, .string s, .int .i64 n, .slice none 0 0, .int .i64 q]] w fun x w' => x = .returned (.bool true) ∧ Below w.heap.size w w' := by
  rcases hk with rfl | rfl | rfl
  · obtain rfl := h2 rfl
    clear h2 hn
    cases hz : (n == 0)
    all_goals
      go_enter Tryz.func83, Tryz.ntmps83
      go_wp2_with fail
      go_ret
      exact ⟨rfl, by go_grown⟩
  all_goals
    obtain rfl := hn (by decide)
    clear h2 hn
    cases hz : s.toList.isEmpty
    all_goals
      have hz2 : (s.toList == []) = s.toList.isEmpty := by cases s.toList <;> rfl
      rw [hz] at hz2
      go_enter Tryz.func83, Tryz.ntmps83
      go_wp2_with fail
      go_ret
      exact ⟨rfl, by go_grown⟩
mutual
/-- The tokens of an expression, in brackets where it binds less tightly. -/
def tellE : Ex → Nat → List Tk
  | .mk k n nm op l, within =>
    let body := if k = 1 then [⟨6, nm, 0⟩] else if k = 2 then ⟨4, ⟨#[45]⟩, 0⟩ :: tellH l 7 else if k = 3 then ⟨4, ⟨#[33]⟩, 0⟩ :: tellH l 7
      else if k = 4 then tellH l (strength op) ++ ⟨4, op, 0⟩ :: tellT l (strength op + 1) else [⟨2, noB, n⟩]
    if bindsK k op < within then ⟨4, ⟨#[40]⟩, 0⟩ :: body ++ [⟨4, ⟨#[41]⟩, 0⟩] else body
def tellH : List Ex → Nat → List Tk
  | [], _ => []
  | x :: _, d => tellE x d
def tellT : List Ex → Nat → List Tk
  | _ :: y :: _, d => tellE y d
  | _, _ => []
end
end ExpW
end Go.Proofs.YtchceoclkdofhaaGreatDoor
