/- What state's lists keep in memory, in general words; a list's parser with a store. No program. No condition. -/
import Derived.Test.YtfkjogkpdebepaaStaT
import Derived.Deep.AppendLies
import Derived.Deep.RegionLaw
namespace Go.Proofs.Ytfkjogkpdebepaa
open Go.RowKit
namespace StaL
open StaP StaR StaN
/-- A step so many times. -/
def repS {σ : Type} (st : σ → Pr σ) : Nat → σ → Pr σ
  | 0, a => fun l => .ok (a, l)
  | n + 1, a => fun l => match st a l with
    | .error e => .error e
    | .ok (a', r) => repS st n a' r
def listS {σ : Type} (st : σ → Pr σ) (a : σ) : Pr σ := fun l => match manyP 0 65536 l with
  | .error e => .error e
  | .ok (n, r) => repS st n a r
theorem repS_succ {σ : Type} (st : σ → Pr σ) (n : Nat) (a : σ) (l : Bs) : repS st (n + 1) a l = match st a l with
    | .error e => .error e
    | .ok (a', r) => repS st n a' r := rfl
/-- The step that puts one more behind. -/
def onto {α : Type} (p : Pr α) (xs : List α) : Pr (List α) := fun l => match p l with
  | .error e => .error e
  | .ok (x, r) => .ok (xs ++ [x], r)
theorem rep_onto {α : Type} (p : Pr α) : ∀ (n : Nat) (xs : List α) (l : Bs), repS (onto p) n xs l = match repP p n l with
    | .error e => .error e
    | .ok (ys, r) => .ok (xs ++ ys, r) := by
  intro n
  induction n with
  | zero => intro xs l; simp [repS, repP]
  | succ n ih =>
    intro xs l
    rw [repS_succ, repP_succ, onto]
    cases hp : p l with
    | error e => rfl
    | ok v =>
      obtain ⟨x, r⟩ := v
      simp only
      rw [ih]
      cases repP p n r with
      | error e => rfl
      | ok v => obtain ⟨ys, r'⟩ := v; simp
theorem list_onto {α : Type} (p : Pr α) (l : Bs) : listS (onto p) [] l = listP p l := by
  rw [listS, listP]
  cases manyP 0 65536 l with
  | error e => rfl
  | ok v =>
    obtain ⟨n, r⟩ := v
    simp only
    rw [rep_onto]
    cases repP p n r with
    | error e => rfl
    | ok v => obtain ⟨ys, r'⟩ := v; simp
/-- The step of ages. -/
def ageS (out : List Int) : Pr (List Int) := fun l => match manyP 1 (65536 - (out.length : Int)) l with
  | .error e => .error e
  | .ok (k, r) => match numP r with
    | .error e => .error e
    | .ok (a, r') => if out.getLast? = some a then .error (r, 1) else .ok (out ++ List.replicate k a, r')
theorem age_rep : ∀ (n : Nat) (out : List Int) (l : Bs), repS ageS n out l = ageP n out l := by
  intro n
  induction n with
  | zero => intro out l; rfl
  | succ n ih =>
    intro out l
    rw [repS_succ, ageP_succ, ageS]
    cases manyP 1 (65536 - (out.length : Int)) l with
    | error e => rfl
    | ok v =>
      obtain ⟨k, r⟩ := v
      simp only
      cases numP r with
      | error e => rfl
      | ok v => obtain ⟨a, r'⟩ := v; simp only; by_cases h : out.getLast? = some a; rw [if_pos h, if_pos h]; rw [if_neg h, if_neg h]; exact ih _ _
theorem age_list (l : Bs) : listS ageS [] l = agesP l := by
  rw [listS, agesP]
  cases manyP 0 65536 l with
  | error e => rfl
  | ok v => obtain ⟨n, r⟩ := v; simp only; rw [age_rep]
/-- What no change turns but to blocks of type e and to readers. -/
def Stable {σ : Type} (e : TypeId) (J : World → σ → List Value → Prop) : Prop :=
  ∀ (W W' : World) (a : σ) (cs : List Value), (∀ (g : Nat) (c : Array Value) (t : TypeId) (f : Nat × Nat), t ≠ e → t ≠ RT → W.heap[g]? = some (.cells c t f) → W'.heap[g]? = some (.cells c t f)) → J W a cs → J W' a cs
/-- All rows of type e are as they were. -/
def Rows (e : TypeId) (W W' : World) : Prop := ∀ (g : Nat) (c : Array Value), W.heap[g]? = some (.cells c e (0, 0)) → W'.heap[g]? = some (.cells c e (0, 0))
/-- What one element's reading answers. -/
def OPost {σ : Type} (e : TypeId) (S : Nat → Prop) (s : ByteArray) (R : Nat) (st : σ → Pr σ) (J : World → σ → List Value → Prop) (shape : Value → List Value → Prop) (a : σ) (cs : List Value) (j : Nat) (W : World) (x : Ending) (W' : World) : Prop :=
  ∃ (v : Value) (c1 : List Value) (j' e' : Nat) (a' : σ), x = .returned v ∧ shape v c1 ∧ Rdr W' R s j' e' ∧ j' ≤ s.size ∧ Tch S W W' ∧ Rows e W W' ∧ J W' a' (cs ++ c1) ∧
    ((e' ≠ 0 ∧ st a (s.data.toList.drop j) = .error (s.data.toList.drop j', e')) ∨ (e' = 0 ∧ st a (s.data.toList.drop j) = .ok (a', s.data.toList.drop j')))
/-- What a list's reading answers. -/
def LPost {σ : Type} (e : TypeId) (sz : Nat) (S : Nat → Prop) (s : ByteArray) (R : Nat) (st : σ → Pr σ) (J : World → σ → List Value → Prop) (a : σ) (i er : Nat) (w : World) (x : Ending) (w' : World) : Prop :=
  ∃ (v : Value) (n : Nat) (cs : List Value) (i' e' : Nat) (b : σ), x = .returned v ∧ w'.ownsRow w.heap.size e sz v n cs ∧ n ≤ 65536 ∧ Rdr w' R s i' e' ∧ i' ≤ s.size ∧ Tch S w w' ∧ J w' b cs ∧ Run (listS st a) (ab s i er) (ab s i' e') (fun a' => a' = b)
/-- A list's loop. -/
def LL {σ : Type} (e : TypeId) (sz : Nat) (S : Nat → Prop) (s : ByteArray) (R : Nat) (st : σ → Pr σ) (J : World → σ → List Value → Prop) (a : σ) (i er : Nat) (w : World) (v nv : Value) (wr : World) : Prop :=
  ∃ (k m : Nat) (cs : List Value) (j e' : Nat) (b : σ), nv = .int .i64 k ∧ wr.ownsRow w.heap.size e sz v m cs ∧ Rdr wr R s j e' ∧ j ≤ s.size ∧ Tch S w wr ∧ m + k ≤ 65536 ∧ J wr b cs ∧
    ((e' ≠ 0 ∧ Run (listS st a) (ab s i er) (ab s j e') (fun _ => False)) ∨ (e' = 0 ∧ er = 0 ∧ Hid (listS st a (s.data.toList.drop i) = repS st k b (s.data.toList.drop j))))
theorem blk_ne {w : World} {g h : Nat} {c c' : Array Value} {e e' : TypeId} {f f' : Nat × Nat} (hg : w.heap[g]? = some (Obj.cells c e f)) (hh : w.heap[h]? = some (Obj.cells c' e' f')) (hne : e ≠ e') : g ≠ h := by
  intro x; subst x; rw [hg] at hh; injection hh with h1; injection h1 with h2 h3 h4; exact hne h3
theorem own_keep {w w' : World} {B : Nat} {e : TypeId} {size : Nat} {v : Value} {n : Nat} {xs : List Value} (h : w.ownsRow B e size v n xs) (hk : Rows e w w') : w'.ownsRow B e size v n xs := by
  refine ⟨h.1, ?_⟩
  rcases h.2 with hn | ⟨g, cap, cur, rfl, hb, hgg, rest⟩
  · exact .inl hn
  · exact .inr ⟨g, cap, cur, rfl, hb, hk g cur hgg, rest⟩
/-- The reader alone was turned. -/
theorem rdr_keeps {w w' : World} {R : Nat} {s : ByteArray} {i : Nat} {e : Int} (h : Rdr w R s i e) (k : Tch (On R) w w') (g : Nat) (c : Array Value) (t : TypeId) (f : Nat × Nat) (ht : t ≠ RT) (hg : w.heap[g]? = some (.cells c t f)) : w'.heap[g]? = some (.cells c t f) :=
  (k.block g (Array.getElem?_eq_some_iff.1 hg).1 (blk_ne hg h ht)).trans hg
theorem rdr_rows {w w' : World} {R : Nat} {s : ByteArray} {i : Nat} {e : Int} {t : TypeId} (h : Rdr w R s i e) (k : Tch (On R) w w') (ht : t ≠ RT) : Rows t w w' := fun g c hg => rdr_keeps h k g c t (0, 0) ht hg
theorem grow_keep {w w1 : World} {B n size : Nat} {v : Value} {xs : List Value} {et : TypeId} (hown : w.ownsRow B et size v n xs) (hg : w.grownBy w1 v.ownBlock) :
    ∀ (g : Nat) (c : Array Value) (e : TypeId) (f : Nat × Nat), e ≠ et → w.heap[g]? = some (Obj.cells c e f) → w1.heap[g]? = some (Obj.cells c e f) := fun g c e f h1 hgg => by
  refine (hg.block g (Array.getElem?_eq_some_iff.1 hgg).1 fun hx => ?_).trans hgg
  rcases hown.2 with ⟨rfl, _⟩ | ⟨g', cap, cur, rfl, _, hg', _⟩
  · cases hx
  · simp only [Value.ownBlock, Option.some.injEq] at hx; exact blk_ne hgg hg' h1 hx
theorem alloc_keep {w : World} (o : Obj) (g : Nat) (c : Array Value) (t : TypeId) (f : Nat × Nat) (hg : w.heap[g]? = some (.cells c t f)) : (w.alloc o).heap[g]? = some (.cells c t f) :=
  (Below.heap_alloc w o g (Array.getElem?_eq_some_iff.1 hg).1).trans hg
theorem tch_grown {S : Nat → Prop} {a w w' : World} {row : Option Nat} (h : Tch S a w) (hg : w.grownBy w' row) (hr : ∀ k, row = some k → a.heap.size ≤ k) : Tch S a w' :=
  ⟨hg.os.trans h.os, hg.tape.trans h.tape, hg.output.trans h.output, Nat.le_trans h.size hg.size, fun i hi hs => (hg.block i (Nat.lt_of_lt_of_le hi h.size) (fun e => by have := hr i e.symm; omega)).trans (h.block i hi hs)⟩
theorem own_shape {w : World} {B : Nat} {n : Nat} {v : Value} {e : TypeId} {xs : List Value} {size : Nat} (h : w.ownsRow B e size v n xs) : ∃ a c, v = .slice a n c := by
  rcases h.2 with ⟨rfl, rfl⟩ | ⟨g, cap, cur, rfl, _⟩ <;> exact ⟨_, _, rfl⟩
theorem list_bad {σ : Type} {st : σ → Pr σ} {b : σ} {a : St} {er : Er} {g : Nat → Prop} {g' : σ → Prop} (h : Run (manyP 0 65536) a (.error er) g) : Run (listS st b) a (.error er) g' := by
  cases a with
  | error e => exact h
  | ok l =>
    simp only [Run] at h ⊢
    rw [listS]
    cases hp : manyP 0 65536 l with
    | error e => rw [hp] at h; exact h
    | ok v => obtain ⟨x, r⟩ := v; rw [hp] at h; cases h.1
theorem tch_on {S : Nat → Prop} {R : Nat} {w w' : World} (h : Tch (On R) w w') (hS : S R) : Tch S w w' := h.more (fun k e => by rw [show k = R from e]; exact hS)
end StaL
end Go.Proofs.Ytfkjogkpdebepaa
