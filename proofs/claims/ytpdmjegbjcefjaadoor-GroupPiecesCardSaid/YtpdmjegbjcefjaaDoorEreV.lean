/- The walks of one, several and times. Conditions: texts that fit. -/
import Derived.Test.YtpdmjegbjcefjaaDoorEreD
namespace Go.Proofs.YtpdmjegbjcefjaaDoor
set_option linter.unusedVariables false
set_option linter.unusedSimpArgs false
open Go.RowKit
namespace EreW
open EreP
theorem far9 {w : World} {X g : Nat} {t : TypeId} {cs : Array Value} {v0 v1 v2 v3 v4 v5 v6 v7 v8 : Value} (h : Blk w g t cs) (hg : g ≠ X) : Blk (((((((((w.setCell ⟨X, 0, none⟩ v0).setCell ⟨X, 1, none⟩ v1).setCell ⟨X, 2, none⟩ v2).setCell ⟨X, 3, none⟩ v3).setCell ⟨X, 4, none⟩ v4).setCell ⟨X, 5, none⟩ v5).setCell ⟨X, 6, none⟩ v6).setCell ⟨X, 7, none⟩ v7).setCell ⟨X, 8, none⟩ v8) g t cs := (((((((((h.far (p := ⟨X, 0, none⟩) hg v0).far (p := ⟨X, 1, none⟩) hg v1).far (p := ⟨X, 2, none⟩) hg v2).far (p := ⟨X, 3, none⟩) hg v3).far (p := ⟨X, 4, none⟩) hg v4).far (p := ⟨X, 5, none⟩) hg v5).far (p := ⟨X, 6, none⟩) hg v6).far (p := ⟨X, 7, none⟩) hg v7).far (p := ⟨X, 8, none⟩) hg v8)
theorem tch9 {S : Nat → Prop} {w0 w : World} {X : Nat} {v0 v1 v2 v3 v4 v5 v6 v7 v8 : Value} (h : Tch S w0 w) (hS : S X) : Tch S w0 (((((((((w.setCell ⟨X, 0, none⟩ v0).setCell ⟨X, 1, none⟩ v1).setCell ⟨X, 2, none⟩ v2).setCell ⟨X, 3, none⟩ v3).setCell ⟨X, 4, none⟩ v4).setCell ⟨X, 5, none⟩ v5).setCell ⟨X, 6, none⟩ v6).setCell ⟨X, 7, none⟩ v7).setCell ⟨X, 8, none⟩ v8) := (((((((((h.setCell (p := ⟨X, 0, none⟩) hS v0).setCell (p := ⟨X, 1, none⟩) hS v1).setCell (p := ⟨X, 2, none⟩) hS v2).setCell (p := ⟨X, 3, none⟩) hS v3).setCell (p := ⟨X, 4, none⟩) hS v4).setCell (p := ⟨X, 5, none⟩) hS v5).setCell (p := ⟨X, 6, none⟩) hS v6).setCell (p := ⟨X, 7, none⟩) hS v7).setCell (p := ⟨X, 8, none⟩) hS v8)
theorem below9 {B : Nat} {w0 w : World} {X : Nat} {v0 v1 v2 v3 v4 v5 v6 v7 v8 : Value} (h : Below B w0 w) (hS : B ≤ X) : Below B w0 (((((((((w.setCell ⟨X, 0, none⟩ v0).setCell ⟨X, 1, none⟩ v1).setCell ⟨X, 2, none⟩ v2).setCell ⟨X, 3, none⟩ v3).setCell ⟨X, 4, none⟩ v4).setCell ⟨X, 5, none⟩ v5).setCell ⟨X, 6, none⟩ v6).setCell ⟨X, 7, none⟩ v7).setCell ⟨X, 8, none⟩ v8) := (((((((((h.setCell (p := ⟨X, 0, none⟩) hS v0).setCell (p := ⟨X, 1, none⟩) hS v1).setCell (p := ⟨X, 2, none⟩) hS v2).setCell (p := ⟨X, 3, none⟩) hS v3).setCell (p := ⟨X, 4, none⟩) hS v4).setCell (p := ⟨X, 5, none⟩) hS v5).setCell (p := ⟨X, 6, none⟩) hS v6).setCell (p := ⟨X, 7, none⟩) hS v7).setCell (p := ⟨X, 8, none⟩) hS v8)
theorem tch_new {R : Nat} {S : Nat → Prop} {w w1 w3 : World} (t0 : Tch (On R) w w1) (t1 : Tch S w1 w3) (hS : ∀ b, S b → w.heap.size ≤ b) : Tch (On R) w w3 :=
  ⟨t1.os.trans t0.os, t1.tape.trans t0.tape, t1.output.trans t0.output, Nat.le_trans t0.size t1.size, fun k hk hs => (t1.block k (by have := t0.size; omega) (fun e => by have := hS k e; omega)).trans (t0.block k hk hs)⟩
theorem one_range (c : Nat) : 0 ||| rangeS c c = oneS c := by
  apply Nat.eq_of_testBit_eq; intro i
  rw [Nat.zero_or, range_bit, one_bit, Bool.eq_iff_iff]; simp; omega
theorem not_zero : notS 0 = allS := by unfold notS; rw [Nat.xor_zero]
theorem not0_c (w : World) :
    Calls Tryd.prog 82 #[.agg #[.int .u64 0, .int .u64 0, .int .u64 0, .int .u64 0]] w fun x w' => x = .returned (setV allS) ∧ Below w.heap.size w w' := by
  rw [← not_zero]; exact not_c 0 w
theorem lt_256 (c : UInt8) : c.toNat < 256 := by have := c.toNat_lt; omega
theorem several_many (kind : Int) (l : List Re) (h : 2 ≤ l.length) : several kind l = .mk kind 0 l 0 0 0 := by
  match l, h with
  | _ :: _ :: _, _ => rfl
theorem Rts.bel {w w' : World} {K : Nat → Prop} {l : List Re} {xs : List Value} (h : Rts w K l xs) (hb : Below w.heap.size w w') : Rts w' K l xs := h.tch (S := fun _ => False) (Tch.of_below hb |>.more (fun _ h => h)) (fun _ _ h => h)
/-- One, or a kind that has them all. -/
def SevPost (kind : Int) (l : List Re) (K : Nat → Prop) (w : World) (x : Ending) (w' : World) : Prop :=
  ∃ cs, x = .returned (.agg cs.toArray) ∧ Rt w' K (several kind l) cs ∧ Below w.heap.size w w'
end EreW
end Go.Proofs.YtpdmjegbjcefjaaDoor
namespace Go.Proofs.YtpdmjegbjcefjaaDoor
set_option linter.unusedVariables false
set_option linter.unusedSimpArgs false
open Go.RowKit
namespace EreW
open EreP
abbrev digs : ByteArray := ⟨#[48, 49, 50, 51, 52, 53, 54, 55, 56]⟩
theorem dig_any (c : UInt8) (a : Nat) (ha : a ≤ 8) : (digs.extract a 9).data.toList.contains c = decide (48 + a ≤ c.toNat ∧ c.toNat ≤ 56) := by
  have h : ∀ (x : Fin 256) (y : Fin 9), (digs.extract y.val 9).data.toList.contains (UInt8.ofNat x.val) = decide (48 + y.val ≤ x.val ∧ x.val ≤ 56) := by decide +kernel
  have := h ⟨c.toNat, c.toNat_lt⟩ ⟨a, by omega⟩
  simpa using this
theorem dig_all (c : UInt8) : digs.data.toList.contains c = decide (48 ≤ c.toNat ∧ c.toNat ≤ 56) := by
  have h : ∀ (x : Fin 256), digs.data.toList.contains (UInt8.ofNat x.val) = decide (48 ≤ x.val ∧ x.val ≤ 56) := by decide +kernel
  have := h ⟨c.toNat, c.toNat_lt⟩
  simpa using this
theorem needP_of {s : ByteArray} {i : Nat} {x : UInt8} {α : Type} (v : α) (h : i < s.size) (hc : (s[i]'h) = x) : needP x v (rest s i) = .ok (v, rest s (i + 1)) := by
  rw [rest_cons s i h, needP, hc]; simp
theorem needP_no {s : ByteArray} {i : Nat} {x : UInt8} {α : Type} (v : α) (h : (rest s i).head? ≠ some x) : needP x v (rest s i) = .error (rest s i, 1) := by
  cases hr : rest s i with
  | nil => rfl
  | cons c r => rw [hr] at h; simp at h; simp [needP, h]
end EreW
end Go.Proofs.YtpdmjegbjcefjaaDoor
