/- The walk of the expression reader's times. Conditions: texts that fit. -/
import Derived.Test.YtpdmjegbjcefjaaDoorEreU
import Derived.Test.YtpdmjegbjcefjaaDoorEreD
namespace Go.Proofs.YtpdmjegbjcefjaaDoor
set_option linter.unusedVariables false
set_option linter.unusedSimpArgs false
open Go.RowKit
namespace EreW
open EreP
abbrev digs : ByteArray := ⟨#[48, 49, 50, 51, 52, 53, 54, 55, 56]⟩
theorem dig_any (c : UInt8) (a : Nat) (ha : a ≤ 8) : (digs.extract a 9).data.toList.contains c = decide (48 + a ≤ c.toNat ∧ c.toNat ≤ 56) := by
  have h : ∀ (x : Fin 256) (y : Fin 9), (digs.extract y.val 9).data.toList.contains (UInt8.ofNat x.val) = decide (48 + y.val ≤ x.val ∧ x.val ≤ 56) := by decide +kernel
  have := h ⟨c.toNat, c.toNat_lt⟩ ⟨a, by omega⟩
  simpa using this
theorem dig_all (c : UInt8) : digs.data.toList.contains c = decide (48 ≤ c.toNat ∧ c.toNat ≤ 56) := by
  have h : ∀ (x : Fin 256), digs.data.toList.contains (UInt8.ofNat x.val) = decide (48 ≤ x.val ∧ x.val ≤ 56) := by decide +kernel
  have := h ⟨c.toNat, c.toNat_lt⟩
  simpa using this
theorem needP_of {s : ByteArray} {i : Nat} {x : UInt8} {α : Type} (v : α) (h : i < s.size) (hc : (s[i]'h) = x) : needP x v (rest s i) = .ok (v, rest s (i + 1)) := by
  rw [rest_cons s i h, needP, hc]; simp
theorem needP_no {s : ByteArray} {i : Nat} {x : UInt8} {α : Type} (v : α) (h : (rest s i).head? ≠ some x) : needP x v (rest s i) = .error (rest s i, 1) := by
  cases hr : rest s i with
  | nil => rfl
  | cons c r => rw [hr] at h; simp at h; simp [needP, h]
end EreW
end Go.Proofs.YtpdmjegbjcefjaaDoor
