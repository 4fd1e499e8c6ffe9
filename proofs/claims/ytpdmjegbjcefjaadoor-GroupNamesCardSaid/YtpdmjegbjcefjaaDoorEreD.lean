/- The walk of the expression reader's class. Conditions: texts that fit. -/
import Derived.Test.YtpdmjegbjcefjaaDoorEreC
import Derived.Test.YtpdmjegbjcefjaaDoorEreT
import Derived.Deep.LoopGhost
namespace Go.Proofs.YtpdmjegbjcefjaaDoor
set_option linter.unusedVariables false
set_option linter.unusedSimpArgs false
open Go.RowKit
namespace EreW
open EreP
theorem item_last {l r : Bs} {c : UInt8} (h : itemP l = .ok (c, r)) : ∃ pre, l = pre ++ c :: r := by
  cases l with
  | nil => cases h
  | cons d l =>
    rw [itemP.eq_def] at h
    simp only at h
    split at h
    · cases h
    · split at h
      · cases l with
        | nil => cases h
        | cons e l => simp only at h; injection h with h; injection h with h1 h2; subst h1; subst h2; exact ⟨[d], rfl⟩
      · injection h with h; injection h with h1 h2; subst h1; subst h2; exact ⟨[], rfl⟩
theorem rest_back {s : ByteArray} {i k : Nat} {pre : Bs} {c : UInt8} (h : rest s i = pre ++ c :: rest s k) (hi : i ≤ s.size) (hk : k ≤ s.size) : 0 < k ∧ k - 1 < s.size ∧ rest s (k - 1) = c :: rest s k := by
  have hl := congrArg List.length h
  rw [rest_len, List.length_append, List.length_cons, rest_len] at hl
  have h1 : 0 < k := by omega
  have e : i + pre.length = k - 1 := by omega
  refine ⟨h1, by omega, ?_⟩
  have h2 := congrArg (List.drop pre.length) h
  rw [List.drop_left] at h2
  rw [← h2, ← e]
  show List.drop (i + pre.length) _ = List.drop pre.length (List.drop i _)
  rw [List.drop_drop]
theorem span_err {l : Bs} {e : Bs × Nat} (h : itemP l = .error e) : spanP l = .error e := by unfold spanP; rw [h]
theorem span_one {l r : Bs} {a : UInt8} (h : itemP l = .ok (a, r)) (hr : r.head? ≠ some 45) : spanP l = .ok ((a, a), r) := by
  unfold spanP; rw [h]
  cases r with
  | nil => rfl
  | cons c r => simp at hr; simp [hr]
theorem span_err2 {l r : Bs} {a : UInt8} {e : Bs × Nat} (h : itemP l = .ok (a, 45 :: r)) (h2 : itemP r = .error e) : spanP l = .error e := by
  unfold spanP; rw [h]; simp [h2]
theorem span_bad {l r r2 : Bs} {a b : UInt8} (h : itemP l = .ok (a, 45 :: r)) (h2 : itemP r = .ok (b, r2)) (hlt : b < a) : spanP l = .error (b :: r2, 1) := by
  unfold spanP; rw [h]; simp [h2, hlt]
theorem span_two {l r r2 : Bs} {a b : UInt8} (h : itemP l = .ok (a, 45 :: r)) (h2 : itemP r = .ok (b, r2)) (hlt : ¬ b < a) : spanP l = .ok ((a, b), r2) := by
  unfold spanP; rw [h]; simp [h2, hlt]
end EreW
end Go.Proofs.YtpdmjegbjcefjaaDoor
