/- The walk of state's reader.variable; pairs of parsers. Conditions: texts that fit. -/
import Derived.Test.YtfkjogkpdebepaaStaL
namespace Go.Proofs.Ytfkjogkpdebepaa
open Go.RowKit
namespace StaV
open StaP StaR StaN StaL
def pairP {α β : Type} (p : Pr α) (q : Pr β) : Pr (α × β) := fun l => match p l with
  | .error e => .error e
  | .ok (x, r) => match q r with
    | .error e => .error e
    | .ok (y, r') => .ok ((x, y), r')
theorem Run.pair {α β : Type} {p : Pr α} {q : Pr β} {a a1 a2 : St} {g : α → Prop} {g' : β → Prop} (h : Run p a a1 g) (k : Run q a1 a2 g') : Run (pairP p q) a a2 (fun x => g x.1 ∧ g' x.2) := by
  cases a with
  | error er => have : a1 = .error er := h; subst this; exact k
  | ok l =>
    simp only [Run] at h ⊢
    rw [pairP]
    cases hp : p l with
    | error er => rw [hp] at h; simp only at h ⊢; subst h; exact k
    | ok v =>
      obtain ⟨x, r⟩ := v
      rw [hp] at h
      obtain ⟨h1, h2⟩ := h
      subst h1
      simp only [Run] at k ⊢
      cases hq : q r with
      | error er => rw [hq] at k; exact k
      | ok v => obtain ⟨y, r'⟩ := v; rw [hq] at k; exact ⟨k.1, h2, k.2⟩
theorem fit_pair {α β : Type} {p : Pr α} {q : Pr β} {f : α → Bs} {g : β → Bs} {o : α → Prop} {o' : β → Prop} (h : Fit p f o) (k : Fit q g o') : Fit (pairP p q) (fun x => f x.1 ++ g x.2) (fun x => o x.1 ∧ o' x.2) := by
  refine ⟨fun x z hx => ?_, fun l x z e => ?_⟩
  · rw [pairP, List.append_assoc, h.there _ _ hx.1]
    simp only
    rw [k.there _ _ hx.2]
  · rw [pairP] at e
    cases hp : p l with
    | error er => rw [hp] at e; cases e
    | ok v =>
      obtain ⟨a, r⟩ := v
      rw [hp] at e
      simp only at e
      cases hq : q r with
      | error er => rw [hq] at e; cases e
      | ok v =>
        obtain ⟨b, r'⟩ := v
        rw [hq] at e
        injection e with e; injection e with e1 e2
        subst e1; subst e2
        obtain ⟨h1, h2⟩ := h.back _ _ _ hp
        obtain ⟨k1, k2⟩ := k.back _ _ _ hq
        exact ⟨by rw [h1, k1, List.append_assoc], h2, k2⟩
/-- A cell of a block that is new. -/
theorem tch_new {S : Nat → Prop} {a w : World} {g o : Nat} (h : Tch S a w) (hg : a.heap.size ≤ g) (v : Value) : Tch S a (w.setCell ⟨g, o, none⟩ v) :=
  ⟨h.os, h.tape, h.output, by simpa [World.setCell] using h.size, fun i hi hs => (Below.heap_setCell w ⟨g, o, none⟩ v i (by show i ≠ g; omega)).trans (h.block i hi hs)⟩
abbrev varP : Pr (Bs × Bs) := pairP textP textP
/-- What 'variable' answers. -/
def VPost (s : ByteArray) (R i e : Nat) (w : World) (x : Ending) (w' : World) : Prop :=
  ∃ (n m : ByteArray) (i' e' : Nat), x = .returned (.agg #[.string n, .string m]) ∧ n.size ≤ 65536 ∧ m.size ≤ 65536 ∧ Rdr w' R s i' e' ∧ i' ≤ s.size ∧ Tch (On R) w w' ∧ Run varP (ab s i e) (ab s i' e') (fun p => p = (n.data.toList, m.data.toList))
set_option maxHeartbeats 3200000 in
set_option maxRecDepth 100000 in
theorem variable_c (R : Nat) (s : ByteArray) (i e : Nat) (w : World) (h : Rdr w R s i e) (his : i ≤ s.size) (hs : s.size ≤ 4611686018427387904) :
    Calls Try.prog 16 #[.pointer (some ⟨R, 0, none⟩)] w (VPost s R i e w) := by
  have hw : w.heap.size ≠ R := by have := h.lt; omega
  have c1 := text_c R s i e (w.alloc (.cells #[.string ⟨#[]⟩, .string ⟨#[]⟩] 45)) (h.alloc _) his hs
  go_enter Try.func16, Try.ntmps16
  go_wp2_with fail
  (with_reducible refine c1.mono ?_)
  rintro x w1 ⟨n, i1, e1, rfl, hn, h1, hi1, t1, r1⟩
  have c2 := text_c R s i1 e1 w1 h1 hi1 hs
  go_wp2_with fail
  (with_reducible refine c2.mono ?_)
  rintro x w2 ⟨m, i2, e2, rfl, hm, h2, hi2, t2, r2⟩
  have b0 : Blk w2 w.heap.size 45 #[.string ⟨#[]⟩, .string ⟨#[]⟩] := ((Blk.new w _ _).tch t1 hw).tch t2 hw
  have k0 := b0.cell 0
  have k1 := b0.cell 1
  have l0 := b0.loose 0
  have l1 := b0.loose 1
  simp only [List.getElem?_toArray, List.getElem?_cons_zero, List.getElem?_cons_succ] at k0 k1
  have T2 : Tch (On R) w w2 := (((Tch.refl _ w).alloc _).trans t1).trans t2
  go_wp2
  have b5 : Blk ((w2.setCell ⟨w.heap.size, 0, none⟩ (.string n)).setCell ⟨w.heap.size, 1, none⟩ (.string m)) w.heap.size 45 #[.string n, .string m] := (b0.set_ 0 (.string n)).set_ 1 (.string m)
  have h5 : Rdr ((w2.setCell ⟨w.heap.size, 0, none⟩ (.string n)).setCell ⟨w.heap.size, 1, none⟩ (.string m)) R s i2 e2 := (h2.far (p := ⟨w.heap.size, 0, none⟩) (Ne.symm hw) _).far (p := ⟨w.heap.size, 1, none⟩) (Ne.symm hw) _
  have T5 : Tch (On R) w ((w2.setCell ⟨w.heap.size, 0, none⟩ (.string n)).setCell ⟨w.heap.size, 1, none⟩ (.string m)) := tch_new (tch_new T2 (Nat.le_refl _) _) (Nat.le_refl _) _
  generalize (w2.setCell ⟨w.heap.size, 0, none⟩ (.string n)).setCell ⟨w.heap.size, 1, none⟩ (.string m) = w5 at *
  clear k0 k1 l0 l1
  have k0 := b5.cell 0
  have k1 := b5.cell 1
  simp only [List.getElem?_toArray, List.getElem?_cons_zero, List.getElem?_cons_succ] at k0 k1
  refine bodyPost_ret (by simp [results, Try.results16, go_sem, k0, k1]; try rfl) rfl ?_
  exact ⟨n, m, i2, e2, rfl, hn, hm, h5, hi2, T5, (Run.pair r1 r2).mono fun x hx => Prod.ext hx.1 hx.2⟩
end StaV
end Go.Proofs.Ytfkjogkpdebepaa
