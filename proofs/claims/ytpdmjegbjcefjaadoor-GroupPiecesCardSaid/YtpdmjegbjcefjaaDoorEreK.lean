/- The walk of the expression reader's class, continued. Conditions: texts that fit. -/
import Derived.Test.YtpdmjegbjcefjaaDoorEreD
namespace Go.Proofs.YtpdmjegbjcefjaaDoor
set_option linter.unusedVariables false
set_option linter.unusedSimpArgs false
open Go.RowKit
namespace EreW
open EreP
theorem words4 (w : World) (Y : Nat) (a b : Nat) (h : Blk w Y 24 (wcells a)) :
    Blk ((((w.setCell ⟨Y, 0, none⟩ (.int .u64 (word b 0))).setCell ⟨Y, 1, none⟩ (.int .u64 (word b 1))).setCell ⟨Y, 2, none⟩ (.int .u64 (word b 2))).setCell ⟨Y, 3, none⟩ (.int .u64 (word b 3))) Y 24 (wcells b) :=
  (((h.set_ 0 _).set_ 1 _).set_ 2 _).set_ 3 _
theorem far4 (w : World) (Y g : Nat) (t : TypeId) (cs : Array Value) (v0 v1 v2 v3 : Value) (h : Blk w g t cs) (hg : g ≠ Y) :
    Blk ((((w.setCell ⟨Y, 0, none⟩ v0).setCell ⟨Y, 1, none⟩ v1).setCell ⟨Y, 2, none⟩ v2).setCell ⟨Y, 3, none⟩ v3) g t cs :=
  (((h.far (p := ⟨Y, 0, none⟩) hg v0).far (p := ⟨Y, 1, none⟩) hg v1).far (p := ⟨Y, 2, none⟩) hg v2).far (p := ⟨Y, 3, none⟩) hg v3
theorem tch4 {S : Nat → Prop} {w0 w : World} (Y : Nat) (v0 v1 v2 v3 : Value) (h : Tch S w0 w) (hS : S Y) :
    Tch S w0 ((((w.setCell ⟨Y, 0, none⟩ v0).setCell ⟨Y, 1, none⟩ v1).setCell ⟨Y, 2, none⟩ v2).setCell ⟨Y, 3, none⟩ v3) :=
  (((h.setCell (p := ⟨Y, 0, none⟩) hS v0).setCell (p := ⟨Y, 1, none⟩) hS v1).setCell (p := ⟨Y, 2, none⟩) hS v2).setCell (p := ⟨Y, 3, none⟩) hS v3
theorem far9 {w : World} {X g : Nat} {t : TypeId} {cs : Array Value} {v0 v1 v2 v3 v4 v5 v6 v7 v8 : Value} (h : Blk w g t cs) (hg : g ≠ X) : Blk (((((((((w.setCell ⟨X, 0, none⟩ v0).setCell ⟨X, 1, none⟩ v1).setCell ⟨X, 2, none⟩ v2).setCell ⟨X, 3, none⟩ v3).setCell ⟨X, 4, none⟩ v4).setCell ⟨X, 5, none⟩ v5).setCell ⟨X, 6, none⟩ v6).setCell ⟨X, 7, none⟩ v7).setCell ⟨X, 8, none⟩ v8) g t cs := (((((((((h.far (p := ⟨X, 0, none⟩) hg v0).far (p := ⟨X, 1, none⟩) hg v1).far (p := ⟨X, 2, none⟩) hg v2).far (p := ⟨X, 3, none⟩) hg v3).far (p := ⟨X, 4, none⟩) hg v4).far (p := ⟨X, 5, none⟩) hg v5).far (p := ⟨X, 6, none⟩) hg v6).far (p := ⟨X, 7, none⟩) hg v7).far (p := ⟨X, 8, none⟩) hg v8)
theorem tch9 {S : Nat → Prop} {w0 w : World} {X : Nat} {v0 v1 v2 v3 v4 v5 v6 v7 v8 : Value} (h : Tch S w0 w) (hS : S X) : Tch S w0 (((((((((w.setCell ⟨X, 0, none⟩ v0).setCell ⟨X, 1, none⟩ v1).setCell ⟨X, 2, none⟩ v2).setCell ⟨X, 3, none⟩ v3).setCell ⟨X, 4, none⟩ v4).setCell ⟨X, 5, none⟩ v5).setCell ⟨X, 6, none⟩ v6).setCell ⟨X, 7, none⟩ v7).setCell ⟨X, 8, none⟩ v8) := (((((((((h.setCell (p := ⟨X, 0, none⟩) hS v0).setCell (p := ⟨X, 1, none⟩) hS v1).setCell (p := ⟨X, 2, none⟩) hS v2).setCell (p := ⟨X, 3, none⟩) hS v3).setCell (p := ⟨X, 4, none⟩) hS v4).setCell (p := ⟨X, 5, none⟩) hS v5).setCell (p := ⟨X, 6, none⟩) hS v6).setCell (p := ⟨X, 7, none⟩) hS v7).setCell (p := ⟨X, 8, none⟩) hS v8)
theorem tch_new {R : Nat} {S : Nat → Prop} {w w1 w3 : World} (t0 : Tch (On R) w w1) (t1 : Tch S w1 w3) (hS : ∀ b, S b → w.heap.size ≤ b) : Tch (On R) w w3 :=
  ⟨t1.os.trans t0.os, t1.tape.trans t0.tape, t1.output.trans t0.output, Nat.le_trans t0.size t1.size, fun k hk hs => (t1.block k (by have := t0.size; omega) (fun e => by have := hS k e; omega)).trans (t0.block k hk hs)⟩
theorem item_err {l r : Bs} {e : Nat} (h : itemP l = .error (r, e)) : r.length ≤ l.length := by
  cases l with
  | nil => cases h; exact Nat.le_refl _
  | cons d l =>
    rw [itemP.eq_def] at h
    simp only at h
    split at h
    · injection h with h; injection h with h _; subst h; exact Nat.le_refl _
    · split at h
      · cases l with
        | nil => simp only at h; injection h with h; injection h with h _; subst h; simp
        | cons e l => cases h
      · cases h
theorem span_err_len {l r : Bs} {e : Nat} (h : spanP l = .error (r, e)) : r.length ≤ l.length := by
  unfold spanP at h
  split at h
  · next e1 => injection h with h; subst h; exact item_err e1
  · next low r1 e1 =>
    have h1 := item_len e1
    cases r1 with
    | nil => cases h
    | cons c r1 =>
      simp only at h
      split at h
      · split at h
        · next e2 => injection h with h; subst h; have := item_err e2; simp at h1; omega
        · next high r2 e2 =>
          have := item_len e2
          split at h
          · injection h with h; injection h with h _; subst h; simp at h1 ⊢; omega
          · cases h
      · cases h
theorem tch_in {R B : Nat} {w w0 w1 : World} (t0 : Tch (On R) w w0) (t1 : Tch (fun b => b = R ∨ b = B) w0 w1) (hB : w.heap.size ≤ B) : Tch (On R) w w1 :=
  ⟨t1.os.trans t0.os, t1.tape.trans t0.tape, t1.output.trans t0.output, Nat.le_trans t0.size t1.size, fun k hk hs => (t1.block k (by have := t0.size; omega) (fun e => by rcases e with e | e; exact hs e; omega)).trans (t0.block k hk hs)⟩
theorem lt_toNat {a b : UInt8} : decide (a.toNat < b.toNat) = decide (a < b) := by
  rw [Bool.eq_iff_iff, decide_eq_true_eq, decide_eq_true_eq, UInt8.lt_iff_toNat_lt]
theorem lt_256 (c : UInt8) : c.toNat < 256 := by have := c.toNat_lt; omega
end EreW
end Go.Proofs.YtpdmjegbjcefjaaDoor
