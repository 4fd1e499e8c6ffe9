/- Which trees may be: the walk of bare; of kids. Conditions: trees that fit. -/
import Derived.Test.YtpdmjegbjcefjaaDoorEreF
namespace Go.Proofs.YtpdmjegbjcefjaaDoor
set_option linter.unusedVariables false
set_option linter.unusedSimpArgs false
open Go.RowKit
namespace EreX
open EreP EreW
def bareR (k : Int) (s : Nat) (lo hi n : Int) : Bool := (k == 1 || s == 0) && (k == 6 || lo == 0 && hi == 0) && (k == 7 || n == 0)
def inR (lo hi : Int) : Bool := decide (0 ≤ lo) && decide (lo ≤ 8) && (hi == -1 || (decide (lo ≤ hi) && decide (hi ≤ 8)))
mutual
/-- How many groups were met; none, if it may not be. -/
def rightR : Re → Nat → Nat → Nat → Option Nat
  | .mk k s kids lo hi n, lv, d, g =>
    if bareR k s lo hi n = false then none
    else if k = 0 then (if lv ≤ 1 ∧ kids.length = 0 then some g else none)
    else if k = 1 then (if kids.length = 0 then some g else none)
    else if k = 2 ∨ k = 3 then (if lv ≤ 2 ∧ kids.length = 0 then some g else none)
    else if k = 4 then (if lv ≤ 1 ∧ 1 < kids.length then rightL kids 2 d g else none)
    else if k = 5 then (if lv = 0 ∧ 1 < kids.length then rightL kids 1 d g else none)
    else if k = 6 then (if lv ≤ 2 ∧ inR lo hi = true ∧ kids.length = 1 then rightL kids 3 d g else none)
    else if k = 7 then (if n = numG g ∧ d < 64 ∧ kids.length = 1 then rightL kids 0 (d + 1) (g + 1) else none)
    else none
def rightL : List Re → Nat → Nat → Nat → Option Nat
  | [], _, _, g => some g
  | x :: l, lv, d, g => match rightR x lv d g with | none => none | some g' => rightL l lv d g'
end
theorem right_drop (l : List Re) (i : Nat) (h : i < l.length) (lv d g : Nat) : rightL (l.drop i) lv d g = match rightR (l[i]'h) lv d g with | none => none | some g' => rightL (l.drop (i + 1)) lv d g' := by
  rw [List.drop_eq_getElem_cons h, rightL]
mutual
theorem right_le : ∀ (r : Re) (lv d g q : Nat), rightR r lv d g = some q → q ≤ g + nodesR r
  | .mk k s kids lo hi n, lv, d, g, q => by
    intro h
    have ih := rightL_le kids
    unfold nodesR
    unfold rightR at h
    repeat' split at h
    all_goals first
      | cases h; done
      | (injection h with h; omega)
      | (have := ih _ _ _ _ h; omega)
theorem rightL_le : ∀ (l : List Re) (lv d g q : Nat), rightL l lv d g = some q → q ≤ g + nodesL l
  | [], lv, d, g, q => by intro h; rw [rightL] at h; injection h with h; omega
  | x :: l, lv, d, g, q => by
    intro h
    rw [rightL] at h
    unfold nodesL
    cases hx : rightR x lv d g with
    | none => rw [hx] at h; cases h
    | some g' =>
      rw [hx] at h
      have h1 := right_le x lv d g g' hx
      have h2 := rightL_le l lv d g' q h
      omega
end
set_option maxHeartbeats 1600000 in
set_option maxRecDepth 100000 in
theorem bare_c {K : Nat → Prop} (k : Int) (S : Nat) (l : List Re) (lo hi n : Int) (A : Option Addr) (m c : Nat) (w : World) (hS : S < 2 ^ 256) :
    Calls Tryd.prog 66 #[.agg (reC k S A m c lo hi n).toArray] w fun x w' => x = .returned (.bool (bareR k S lo hi n)) ∧ Below w.heap.size w w' := by
  have hset : ∀ W, (Op.equalIn 10000 24 (.agg #[.int .u64 (word S 0), .int .u64 (word S 1), .int .u64 (word S 2), .int .u64 (word S 3)]) (.agg #[.int .u64 0, .int .u64 0, .int .u64 0, .int .u64 0])).run Tryd.prog W = .ok (S == 0) W := fun W => set_same S 0 hS (by decide) W
  clear hS
  go_enter Tryd.func66, Tryd.ntmps66
  unfold bareR
  generalize (S == 0) = bs at *
  go_wp2
  all_goals
    go_ret
    refine ⟨by simp_all, by go_grown⟩
end EreX
end Go.Proofs.YtpdmjegbjcefjaaDoor
