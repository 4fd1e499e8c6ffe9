/- Small facts on memory and texts that all walks share. No program. No condition. -/
import Derived.Test.YtchceoclkdofhaaGreatDoorRows
import Derived.WalkKit
import Derived.WalkSpells
import Derived.WalkLawsBesides
import Derived.Handy
import Derived.Deep.QuietTactic
import Derived.BigQuiet
import Derived.Lib.Hide
import Derived.Lib.IndexBytes
namespace Go.Proofs.YtchceoclkdofhaaGreatDoor
open Go.RowKit
theorem ret_i64 {a b : Int} (h : a = b) : Ending.returned (.int .i64 a) = .returned (.int .i64 b) := by rw [h]
theorem ret_u64i {a b : Int} (h : a = b) : Ending.returned (.int .u64 a) = .returned (.int .u64 b) := by rw [h]
theorem ret_two {a b : Int} {k : IntKind} {x : Value} (h : a = b) : Ending.returned (.tuple #[.int k a, x]) = .returned (.tuple #[.int k b, x]) := by rw [h]
theorem ret_bool {a b : Bool} (h : a = b) : Ending.returned (.bool a) = .returned (.bool b) := by rw [h]
theorem ret_str {a b : ByteArray} (h : a = b) : Ending.returned (.string a) = .returned (.string b) := by rw [h]
/-- Behind a call: what was below the call's first block before it, is so behind it. -/
theorem below_via {B : Nat} {a W w1 : World} (hb : Below W.heap.size W w1) (h : Below B a W) (hB : B ≤ W.heap.size) : Below B a w1 := h.trans (hb.mono hB)
theorem via {a W w1 : World} (hb : Below W.heap.size W w1) (h : Below a.heap.size a W) : Below a.heap.size a w1 := h.trans (hb.mono h.size)
theorem bcell {W w1 : World} (hb : Below W.heap.size W w1) : (∀ b o, b < W.heap.size → w1.cell? ⟨b, o, none⟩ = W.cell? ⟨b, o, none⟩) ∧ (∀ b o, b < W.heap.size → w1.frozen? ⟨b, o, none⟩ = W.frozen? ⟨b, o, none⟩) :=
  ⟨fun b o h => hb.cell (p := ⟨b, o, none⟩) h, fun b o h => hb.frozen (p := ⟨b, o, none⟩) h⟩
/-- Block g is these cells, all of which may be written. -/
def Blk (w : World) (g : Nat) (t : TypeId) (cs : Array Value) : Prop := w.heap[g]? = some (.cells cs t (0, 0))
namespace Blk
set_option linter.unusedVariables false
set_option linter.unusedSimpArgs false
variable {w w' : World} {g : Nat} {t : TypeId} {cs : Array Value}
theorem lt (h : Blk w g t cs) : g < w.heap.size := (Array.getElem?_eq_some_iff.1 h).1
theorem cell (h : Blk w g t cs) (i : Nat) : w.cell? ⟨g, i, none⟩ = cs[i]? := cell_of_row w g i cs t (0, 0) h
theorem loose (h : Blk w g t cs) (i : Nat) : w.frozen? ⟨g, i, none⟩ = false := by
  unfold Blk at h; simp [World.frozen?, h]
theorem new (w : World) (t : TypeId) (cs : Array Value) : Blk (w.alloc (.cells cs t)) w.heap.size t cs := heap_alloc_new w _
theorem alloc (h : Blk w g t cs) (o : Obj) : Blk (w.alloc o) g t cs := (Below.heap_alloc w o g h.lt).trans h
theorem new1 (w : World) (o : Obj) (t : TypeId) (cs : Array Value) : Blk ((w.alloc o).alloc (.cells cs t)) (w.heap.size + 1) t cs := by
  have h := new (w.alloc o) t cs
  rwa [World.size_alloc] at h
theorem new2 (w : World) (o o' : Obj) (t : TypeId) (cs : Array Value) : Blk (((w.alloc o).alloc o').alloc (.cells cs t)) (w.heap.size + 1 + 1) t cs := by
  have h := new1 (w.alloc o) o' t cs
  rwa [World.size_alloc] at h
theorem drewN (h : Blk w g t cs) (n : Nat) : Blk (w.drewN n) g t cs := h
theorem set_ (h : Blk w g t cs) (i : Nat) (u : Value) : Blk (w.setCell ⟨g, i, none⟩ u) g t (cs.setIfInBounds i u) := by
  unfold Blk at h ⊢; simp [World.setCell, Array.getElem?_modify, h]
theorem far (h : Blk w g t cs) {p : Addr} (hp : g ≠ p.block) (u : Value) : Blk (w.setCell p u) g t cs := (Below.heap_setCell w p u g hp).trans h
theorem below {B : Nat} (h : Blk w g t cs) (hb : Below B w w') (hg : g < B) : Blk w' g t cs := (hb.block g hg).trans h
theorem next {W w1 : World} (h : Blk W g t cs) (hb : Below W.heap.size W w1) : Blk w1 g t cs := h.below hb h.lt
/-- Behind a call all its cells are as they were. -/
theorem kept {W w1 : World} (h : Blk W g t cs) (hb : Below W.heap.size W w1) : (∀ o, w1.cell? ⟨g, o, none⟩ = cs[o]?) ∧ (∀ o, w1.frozen? ⟨g, o, none⟩ = false) ∧ g < w1.heap.size :=
  have h1 := h.below hb h.lt
  ⟨h1.cell, h1.loose, h1.lt⟩
end Blk
theorem bytes_ext {x y : ByteArray} (h : x.data.toList = y.data.toList) : x = y := by
  cases x; cases y; congr 1; exact Array.toList_inj.1 h
theorem one_le {x : ByteArray} (h : x.toList.isEmpty = false) : 1 ≤ x.size := by
  rw [Lib.toList_data] at h
  rw [Lib.size_eq]
  cases e : x.data.toList with
  | nil => rw [e] at h; cases h
  | cons _ _ => simp
theorem empty_eq {x : ByteArray} (h : x.toList.isEmpty = true) : x = ByteArray.empty := by
  rw [Lib.toList_data] at h
  exact bytes_ext (by rw [List.isEmpty_iff.1 h]; rfl)
theorem add_block (a : Addr) (n : Nat) : (a.add n).block = a.block := by unfold Addr.add; split <;> rfl
theorem add_twice (a : Addr) (i j : Nat) : (a.add i).add j = a.add (i + j) := by
  unfold Addr.add
  by_cases hi : i = 0 <;> by_cases hj : j = 0 <;> simp [hi, hj, Nat.add_assoc]
/-- A slice of n elements of 'size' cells reads as these cells; it lies below block B. -/
def Rd (w : World) (B size : Nat) (A : Option Addr) (n : Nat) (xs : List Value) : Prop :=
  xs.length = n * size ∧ (0 < n → ∃ ad, A = some ad ∧ ad.block < B ∧ ∀ j u, xs[j]? = some u → w.cell? (ad.add j) = some u)
namespace Rd
variable {w w' : World} {B B' size n : Nat} {A : Option Addr} {xs : List Value}
theorem nil : Rd w B size A 0 [] := ⟨by simp, fun h => absurd h (by omega)⟩
theorem keep (h : Rd w B size A n xs) (hk : ∀ p : Addr, p.block < B → w'.cell? p = w.cell? p) : Rd w' B size A n xs := by
  refine ⟨h.1, fun hn => ?_⟩
  obtain ⟨ad, e, hb, hc⟩ := h.2 hn
  exact ⟨ad, e, hb, fun j u hu => (hk (ad.add j) (by rw [add_block]; exact hb)).trans (hc j u hu)⟩
theorem more (h : Rd w B size A n xs) (hB : B ≤ B') : Rd w B' size A n xs := by
  refine ⟨h.1, fun hn => ?_⟩
  obtain ⟨ad, e, hb, hc⟩ := h.2 hn
  exact ⟨ad, e, Nat.lt_of_lt_of_le hb hB, hc⟩
theorem below (h : Rd w B size A n xs) (hb : Below B w w') : Rd w' B size A n xs := h.keep fun _ hp => hb.cell hp
theorem alloc (h : Rd w B size A n xs) (hB : B ≤ w.heap.size) (o : Obj) : Rd (w.alloc o) B size A n xs := h.keep fun p hp => World.cell?_alloc_lt w o p (by omega)
/-- An element's cell. -/
theorem one {k : Nat} (h : Rd w B 1 A n xs) (hk : k < n) : ∃ ad u, A = some ad ∧ ad.block < B ∧ xs[k]? = some u ∧ w.cell? (ad.add k) = some u := by
  obtain ⟨ad, e, hb, hc⟩ := h.2 (by omega)
  have hl : k < xs.length := by have := h.1; omega
  exact ⟨ad, xs[k], e, hb, List.getElem?_eq_getElem hl, hc k _ (List.getElem?_eq_getElem hl)⟩
end Rd
theorem cell_spot_none {w : World} {a : Addr} {v : Value} (h : w.cell? a = some v) : a.spot = none := by
  unfold World.cell? at h
  split at h
  · split at h
    · cases h
    · next hs => cases e : a.spot with
      | none => rfl
      | some x => rw [e] at hs; simp at hs
  · cases h
/-- The same with the address written out. -/
theorem Rd.flat {w : World} {B size n : Nat} {A : Option Addr} {xs : List Value} (h : Rd w B size A n xs) (hn : 0 < n) (hs : 0 < size) :
    ∃ g o, A = some ⟨g, o, none⟩ ∧ g < B ∧ ∀ j u, xs[j]? = some u → w.cell? ⟨g, o + j, none⟩ = some u := by
  obtain ⟨⟨g, o, sp⟩, e, hb, hc⟩ := h.2 hn
  have hl : 0 < xs.length := by rw [h.1]; exact Nat.mul_pos hn hs
  have h0 := hc 0 _ (List.getElem?_eq_getElem hl)
  have : sp = none := cell_spot_none (a := ⟨g, o, sp⟩) (by simpa [Addr.add] using h0)
  subst this
  refine ⟨g, o, e, hb, fun j u hu => ?_⟩
  have := hc j u hu
  unfold Addr.add at this
  split at this
  · next hj => subst hj; exact this
  · exact this
theorem below_dn {B : Nat} {a w : World} (h : Below B a w) (n : Nat) : Below B a (w.drewN n) := ⟨h.os, h.tape, h.output, h.size, h.block⟩
theorem Rd.str {w : World} {B n k : Nat} {A : Option Addr} {ls : List ByteArray} (h : Rd w B 1 A n (ls.map Value.string)) (hk : k < n) :
    ∃ ad x, A = some ad ∧ ad.block < B ∧ ls[k]? = some x ∧ w.cell? (ad.add k) = some (.string x) := by
  obtain ⟨ad, u, e, hb, hx, hc⟩ := h.one hk
  rw [List.getElem?_map] at hx
  cases hl : ls[k]? with
  | none => rw [hl] at hx; cases hx
  | some x => rw [hl] at hx; cases hx; exact ⟨ad, x, e, hb, rfl, hc⟩
theorem Rd.num {w : World} {B n k : Nat} {A : Option Addr} {gs : List Int} (h : Rd w B 1 A n (gs.map (Value.int .i64))) (hk : k < n) :
    ∃ ad x, A = some ad ∧ ad.block < B ∧ gs[k]? = some x ∧ w.cell? (ad.add k) = some (.int .i64 x) := by
  obtain ⟨ad, u, e, hb, hx, hc⟩ := h.one hk
  rw [List.getElem?_map] at hx
  cases hl : gs[k]? with
  | none => rw [hl] at hx; cases hx
  | some x => rw [hl] at hx; cases hx; exact ⟨ad, x, e, hb, rfl, hc⟩
/-- The worlds that differ from W0 by what is new alone. A region that draws its order, reads, and calls what turns nothing old, is walked once, in the order of its text. -/
structure Cls (W0 : World) where
  val : World
  ok : Below W0.heap.size W0 val
instance (W0 : World) : Nonempty (Cls W0) := ⟨⟨W0, Below.refl _ _⟩⟩
theorem wp_region_cls {P : Program} {id : Nat} {Q : Exit → Act → World → Prop} {a : Act} {w : World} {l : List Oper} (hm : P.follows .mixedOrders = true) (hB : Region.lexB .any l.toArray = true)
    (h : wpQuiet P l.toArray (fun w' => ∃ x : Cls w, w' = x.val) (fun a' => ∀ w', (∃ x : Cls w, w' = x.val) → Q .normal a' w') l a) : (Code.region id l.toArray true).wp P Q a w :=
  wp_region_quiet (C := fun w' => ∃ x : Cls w, w' = x.val) hm hB ⟨⟨{ w with drawn := w.drawn + 1 }, (Below.refl _ w).drew⟩, rfl⟩ (by simpa using h)
/-- A call within such a region. -/
theorem call_cls {P : Program} {f : FuncId} {args : Array Value} {W0 : World} {x : Cls W0} {v : Value} (h : Calls P f args x.val fun e w' => e = .returned v ∧ Below x.val.heap.size x.val w') :
    Calls P f args x.val fun e w'' => e = .returned v ∧ ∃ y : Cls W0, w'' = y.val :=
  h.mono fun _ _ ⟨he, hb⟩ => ⟨he, ⟨_, via hb x.ok⟩, rfl⟩
theorem call_cls_drew {P : Program} {f : FuncId} {args : Array Value} {W0 : World} {x : Cls W0} {v : Value} (h : Calls P f args x.val fun e w' => e = .returned v ∧ ∃ n, w' = x.val.drewN n) :
    Calls P f args x.val fun e w'' => e = .returned v ∧ ∃ y : Cls W0, w'' = y.val :=
  h.mono fun _ _ ⟨he, n, hn⟩ => ⟨he, ⟨_, hn ▸ below_dn x.ok n⟩, rfl⟩
theorem Blk.cls {W0 : World} {g : Nat} {t : TypeId} {cs : Array Value} (h : Blk W0 g t cs) : ∀ (x : Cls W0) (o : Nat), x.val.cell? ⟨g, o, none⟩ = cs[o]? := fun x => (h.next x.ok).cell
/-- What is left where of what was there the blocks of S alone may have turned. -/
structure Tch (S : Nat → Prop) (w w' : World) : Prop where
  os : w'.os = w.os
  tape : w'.tape = w.tape
  output : w'.output = w.output
  size : w.heap.size ≤ w'.heap.size
  block : ∀ k, k < w.heap.size → ¬ S k → w'.heap[k]? = w.heap[k]?
namespace Tch
variable {S : Nat → Prop} {w w' a : World}
theorem refl (S : Nat → Prop) (w : World) : Tch S w w := ⟨rfl, rfl, rfl, Nat.le_refl _, fun _ _ _ => rfl⟩
theorem trans (h : Tch S a w) (k : Tch S w w') : Tch S a w' :=
  ⟨k.os.trans h.os, k.tape.trans h.tape, k.output.trans h.output, Nat.le_trans h.size k.size, fun i hi hs => (k.block i (Nat.lt_of_lt_of_le hi h.size) hs).trans (h.block i hi hs)⟩
theorem setCell (h : Tch S a w) {p : Addr} (hp : S p.block) (v : Value) : Tch S a (w.setCell p v) :=
  ⟨h.os, h.tape, h.output, by simpa [World.setCell] using h.size, fun i hi hs => (Below.heap_setCell w p v i (fun e => hs (e ▸ hp))).trans (h.block i hi hs)⟩
theorem alloc (h : Tch S a w) (o : Obj) : Tch S a (w.alloc o) :=
  ⟨h.os, h.tape, h.output, by rw [World.size_alloc]; have := h.size; omega, fun i hi hs => (Below.heap_alloc w o i (Nat.lt_of_lt_of_le hi h.size)).trans (h.block i hi hs)⟩
theorem drewN (h : Tch S a w) (n : Nat) : Tch S a (w.drewN n) := ⟨h.os, h.tape, h.output, h.size, h.block⟩
theorem of_below (hb : Below w.heap.size w w') : Tch S w w' := ⟨hb.os, hb.tape, hb.output, hb.size, fun i hi _ => hb.block i hi⟩
theorem of_grown {row : Option Nat} (h : w.grownBy w' row) (hr : ∀ k, row = some k → S k) : Tch S w w' :=
  ⟨h.os, h.tape, h.output, h.size, fun i hi hs => h.block i hi (fun e => hs (hr i e.symm))⟩
theorem more {S' : Nat → Prop} (h : Tch S w w') (hs : ∀ k, S k → S' k) : Tch S' w w' := ⟨h.os, h.tape, h.output, h.size, fun i hi h' => h.block i hi (fun k => h' (hs i k))⟩
theorem below {B : Nat} (h : Tch S w w') (hb : Below B a w) (hs : ∀ k, S k → B ≤ k) (hB : B ≤ w.heap.size) : Below B a w' :=
  hb.trans ⟨h.os, h.tape, h.output, h.size, fun i hi => h.block i (by omega) (fun k => by have := hs i k; omega)⟩
end Tch
theorem Blk.tch {S : Nat → Prop} {w w' : World} {g : Nat} {t : TypeId} {cs : Array Value} (h : Blk w g t cs) (k : Tch S w w') (hg : ¬ S g) : Blk w' g t cs := (k.block g h.lt hg).trans h
end Go.Proofs.YtchceoclkdofhaaGreatDoor
