/- The walk of the expression reader's atom. Conditions: texts that fit; a premise on groups. -/
import Derived.Test.YtpdmjegbjcefjaaDoorEreV
import Derived.Test.YtpdmjegbjcefjaaDoorEreK
import Derived.Test.YtpdmjegbjcefjaaDoorEreB
namespace Go.Proofs.YtpdmjegbjcefjaaDoor
set_option linter.unusedVariables false
set_option linter.unusedSimpArgs false
open Go.RowKit
namespace EreX
open EreP EreW
/-- What group does, behind a (, so deep. -/
def grpF (d : Nat) : Bs → Nat → R3 Re := (grpP (64 - d)).getD (fun r _ => .error (r, 1))
theorem rep_any (c : UInt8) (r : Bs) : peekB (⟨#[42, 43, 63, 123]⟩ : ByteArray).data.toList (c :: r) 0 = isRep c := by
  show List.contains [42, 43, 63, 123] c = _
  rw [Bool.eq_iff_iff]; simp [isRep, or_assoc]
theorem par_any (c x : UInt8) (r : Bs) : peekB (⟨#[x]⟩ : ByteArray).data.toList (c :: r) 0 = (c == x) := by
  show List.contains [x] c = _
  rw [Bool.eq_iff_iff]; simp
theorem byte_ne {c : UInt8} {k : Nat} (hk : k < 256) (h : (c == UInt8.ofNat k) = false) : ((c.toNat : Int) == (k : Int)) = false := by
  rw [beq_eq_false_iff_ne] at h ⊢
  intro e; apply h
  have : c.toNat = k := by omega
  rw [← this]; simp
theorem tree_on {B R : Nat} {w w' : World} {r : Re} {cs : List Value} (h : Rt w (B ≤ ·) r cs) (t : Tch (On R) w w') (hR : R < B) : Rt w' (B ≤ ·) r cs := h.tch t (fun b hb e => by subst e; omega)
theorem tree_x {B X B' : Nat} {w w' : World} {r : Re} {cs : List Value} (h : Rt w (B ≤ ·) r cs) (t : Tch (· = X) w w') (hX : X < B) (hB : B' ≤ B) : Rt w' (B' ≤ ·) r cs :=
  h.keep (fun b hb => by omega) (fun b hb hl => t.block b hl (fun e => by subst e; omega))
theorem tree_more {B B' : Nat} {w : World} {r : Re} {cs : List Value} (h : Rt w (B ≤ ·) r cs) (hB : B' ≤ B) : Rt w (B' ≤ ·) r cs := h.keep (fun b hb => by omega) (fun _ _ _ => rfl)
end EreX
end Go.Proofs.YtpdmjegbjcefjaaDoor
