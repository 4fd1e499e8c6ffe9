/- Arguments opened, type by type, whatever their nesting. No condition. -/
import Derived.Test.YtchceoclkdofhaaGreatDoorOpen
namespace Go.Proofs.YtchceoclkdofhaaGreatDoor
set_option linter.unusedVariables false
set_option linter.unusedSimpArgs false
open Go.ChangeShapes Go.WideShapes Go.ChangeAt Go.RowKit Go.Deep
/-- These cells are data of this type. -/
def Opn {H : Type} (enc : TypeId × Value → H) (P : Program) (w : World) (base : Nat) (spare : Nat → Bool) (held : Bool) (t : TypeId) (cs : List Value) : Prop := ∃ fuel x, DataW.trod enc P w base spare held fuel t cs = some x
namespace Opn
section
variable {H : Type} {enc : TypeId × Value → H} {P : Program} {w : World} {base : Nat} {spare : Nat → Bool} {held : Bool} {t : TypeId} {cs : List Value}
theorem of {v : Value} {d : DataW H} {p : List MemPlace} (h : DataW.Trod enc P w base spare held t v d p) : Opn enc P w base spare held t v.cells.toList := by
  obtain ⟨fuel, h⟩ := h
  exact ⟨fuel, _, h⟩
theorem bool (ht : P.underlying t = some .bool) (h : Opn enc P w base spare held t cs) : ∃ b, cs = [.bool b] := by
  obtain ⟨f, x, h⟩ := h
  obtain ⟨b, e, _⟩ := DataW.trod_bool ht h
  exact ⟨b, e⟩
theorem int {k : IntKind} (ht : P.underlying t = some (.int k)) (h : Opn enc P w base spare held t cs) : ∃ n, cs = [.int k n] ∧ (Lit.int k n).wf = true := by
  obtain ⟨f, x, h⟩ := h
  obtain ⟨b, e, _, h⟩ := DataW.trod_int ht h
  exact ⟨b, e, h⟩
theorem str (ht : P.underlying t = some .string) (h : Opn enc P w base spare held t cs) : ∃ s : ByteArray, cs = [.string s] ∧ s.size ≤ maxLen := by
  obtain ⟨f, x, h⟩ := h
  obtain ⟨b, e, _, h⟩ := DataW.trod_string ht h
  exact ⟨b, e, h⟩
theorem struct {fs : Array Field} (ht : P.underlying t = some (.struct fs)) (h : Opn enc P w base spare held t cs) :
    cs.length = P.cellsOf t ∧ ∀ (i : Nat) (f : Field), fs[i]? = some f → Opn enc P w base spare held f.type ((cs.drop f.offset).take (P.cellsOf f.type)) := by
  obtain ⟨f, x, h⟩ := h
  obtain ⟨xs, n, _, _, hl, hx, hg⟩ := DataW.trod_struct ht h
  refine ⟨hl, fun i f hf => ?_⟩
  have hi : i < fs.size := (Array.getElem?_eq_some_iff.1 hf).1
  exact ⟨n, _, (hg i f hf).trans (List.getElem?_eq_getElem (by omega))⟩
/-- A struct's field. -/
theorem field {fs : Array Field} (h : Opn enc P w base spare held t cs) (ht : P.underlying t = some (.struct fs)) (i o n : Nat) {ft : TypeId} (hf : fs[i]?.map (fun f => (f.type, f.offset)) = some (ft, o)) (hn : P.cellsOf ft = n) : Opn enc P w base spare held ft ((cs.drop o).take n) := by
  obtain ⟨hl, hg⟩ := struct ht h
  cases e : fs[i]? with
  | none => rw [e] at hf; cases hf
  | some f =>
    rw [e] at hf
    injection hf with hf
    injection hf with h1 h2
    subst h1; subst h2; subst hn
    exact hg i f e
theorem elem {m : Nat} {e : TypeId} (h : Opn enc P w base spare held t cs) (ht : P.underlying t = some (.array m e)) (n : Nat) (hn : P.cellsOf e = n) (i : Nat) (hi : i < m) : Opn enc P w base spare held e ((cs.drop (i * n)).take n) := by
  obtain ⟨f, x, h⟩ := h
  obtain ⟨xs, k, _, _, hl, hx, hg⟩ := DataW.trod_array ht h
  subst hn
  exact ⟨k, _, (hg i hi).trans (List.getElem?_eq_getElem (by omega))⟩
theorem array {m : Nat} {e : TypeId} (ht : P.underlying t = some (.array m e)) (h : Opn enc P w base spare held t cs) :
    cs.length = P.cellsOf t ∧ ∀ (i : Nat), i < m → Opn enc P w base spare held e ((cs.drop (i * P.cellsOf e)).take (P.cellsOf e)) := by
  obtain ⟨f, x, h⟩ := h
  obtain ⟨xs, n, _, _, hl, hx, hg⟩ := DataW.trod_array ht h
  exact ⟨hl, fun i hi => ⟨n, _, (hg i hi).trans (List.getElem?_eq_getElem (by omega))⟩⟩
end
/-- An element's cell within rows of one length. -/
theorem flat_at {α : Type} (sz : Nat) : ∀ (rows : List (List α)), (∀ r ∈ rows, r.length = sz) → ∀ (i j : Nat) (r : List α), rows[i]? = some r → j < sz → rows.flatten[i * sz + j]? = r[j]? := by
  intro rows
  induction rows with
  | nil => intro _ i j r h; cases h
  | cons q rows ih =>
    intro hl i j r h hj
    have hq := hl q (List.mem_cons_self ..)
    rw [List.flatten_cons]
    cases i with
    | zero =>
      simp at h; subst h
      rw [Nat.zero_mul, Nat.zero_add, List.getElem?_append_left (by omega)]
    | succ i =>
      rw [List.getElem?_append_right (by rw [hq, Nat.succ_mul]; omega), hq, show (i + 1) * sz + j - sz = i * sz + j by rw [Nat.succ_mul]; omega]
      exact ih (fun r hr => hl r (List.mem_cons_of_mem _ hr)) i j r (by simpa using h) hj
theorem flat_len {α : Type} (sz : Nat) : ∀ (rows : List (List α)), (∀ r ∈ rows, r.length = sz) → rows.flatten.length = rows.length * sz := by
  intro rows
  induction rows with
  | nil => intro _; simp
  | cons q rows ih =>
    intro hl
    rw [List.flatten_cons, List.length_append, hl q (List.mem_cons_self ..), ih (fun r hr => hl r (List.mem_cons_of_mem _ hr)), List.length_cons, Nat.succ_mul]; omega
section
variable {H : Type} {enc : TypeId × Value → H} {P : Program} {w : World} {base : Nat} {spare : Nat → Bool} {held : Bool} {t : TypeId} {cs : List Value}
/-- A slice: its elements' cells. -/
theorem slice {e : TypeId} {sz : Nat} (ht : P.underlying t = some (.slice e)) (hC : P.cellsOf e = sz) (hs : 0 < sz) (h : Opn enc P w base spare held t cs) :
    ∃ (A : Option Addr) (n c : Nat) (rows : List (List Value)), cs = [.slice A n c] ∧ n ≤ c ∧ c ≤ maxLen ∧ rows.length = n ∧ (∀ r ∈ rows, r.length = sz ∧ Opn enc P w base spare held e r) ∧ Rd w w.heap.size sz A n rows.flatten := by
  obtain ⟨fuel, x, h⟩ := h
  rcases open_slice ht h with ⟨h1, _⟩ | ⟨a, len, cap, m, n, D, Pl, h1, _, h2, h3, h4, _, hx⟩
  · exact ⟨none, 0, 0, [], h1, Nat.le_refl _, Nat.zero_le _, rfl, (fun r hr => by cases hr), Rd.nil⟩
  · have hle : len ≤ m := by rw [h4]; split <;> omega
    have key : ∀ i, i < len → ∃ r : List Value, r.length = sz ∧ Opn enc P w base spare held e r ∧ ∀ j u, r[j]? = some u → w.cell? (a.add (i * sz + j)) = some u := fun i hi => by
      obtain ⟨cs', hc, hr⟩ := hx i (by omega)
      rw [hC] at hc
      obtain ⟨_, hl, hat⟩ := World.cells?_some hc
      refine ⟨cs', hl, ⟨_, _, hr⟩, fun j u hu => ?_⟩
      have := hat j (by rw [← hl]; exact (List.getElem?_eq_some_iff.1 hu).1)
      rw [add_twice] at this
      rw [this]; exact hu
    obtain ⟨f, hf⟩ := choose_lt key
    have hlen : ((List.range len).map f).length = len := by simp
    have hrow : ∀ r ∈ (List.range len).map f, r.length = sz ∧ Opn enc P w base spare held e r := fun r hr => by
      obtain ⟨i, hi, rfl⟩ := List.mem_map.1 hr
      have := hf i (List.mem_range.1 hi)
      exact ⟨this.1, this.2.1⟩
    have hrl : ∀ r ∈ (List.range len).map f, r.length = sz := fun r hr => (hrow r hr).1
    refine ⟨some a, len, cap, (List.range len).map f, h1, h2, h3, hlen, hrow, by rw [flat_len sz _ hrl, hlen], fun hn => ⟨a, rfl, ?_, fun j u hu => ?_⟩⟩
    · obtain ⟨q1, _, q3⟩ := hf 0 hn
      have := World.block_lt_of_cell? w _ (q3 0 _ (List.getElem?_eq_getElem (by omega)))
      rwa [add_block] at this
    · have hj : j < len * sz := by
        have h5 := (List.getElem?_eq_some_iff.1 hu).1
        rw [flat_len sz _ hrl, hlen] at h5; exact h5
      have hi : j / sz < len := Nat.div_lt_of_lt_mul (by rw [Nat.mul_comm]; exact hj)
      have hp : ((List.range len).map f)[j / sz]? = some (f (j / sz)) := by simp [hi]
      have hm : j % sz < sz := Nat.mod_lt _ hs
      have e1 := flat_at sz _ hrl (j / sz) (j % sz) _ hp hm
      have ej : j / sz * sz + j % sz = j := Nat.div_add_mod' j sz
      rw [ej, hu] at e1
      have := (hf (j / sz) hi).2.2 (j % sz) u e1.symm
      rwa [ej] at this
end
theorem flat_map1 {α β : Type} (f : α → β) (l : List α) : l.flatMap (fun z => [f z]) = l.map f := by
  induction l with
  | nil => rfl
  | cons a l ih => rw [List.flatMap_cons, ih]; rfl
/-- Each row is some element's cells: a list of elements. -/
theorem each {α : Type} {Q : List Value → α → Prop} : ∀ (rows : List (List Value)), (∀ r ∈ rows, ∃ x, Q r x) → ∃ xs : List α, xs.length = rows.length ∧ ∀ (i : Nat) (r : List Value) (x : α), rows[i]? = some r → xs[i]? = some x → Q r x := by
  intro rows
  induction rows with
  | nil => intro _; exact ⟨[], rfl, fun i r x h => by cases h⟩
  | cons q rows ih =>
    intro h
    obtain ⟨x, hx⟩ := h q (List.mem_cons_self ..)
    obtain ⟨xs, hl, hg⟩ := ih (fun r hr => h r (List.mem_cons_of_mem _ hr))
    refine ⟨x :: xs, by simp [hl], fun i r y hr hy => ?_⟩
    cases i with
    | zero => simp at hr hy; subst hr; subst hy; exact hx
    | succ i => exact hg i r y (by simpa using hr) (by simpa using hy)
theorem each_flat {α : Type} {f : α → List Value} {Q : α → Prop} : ∀ (rows : List (List Value)), (∀ r ∈ rows, ∃ x, r = f x ∧ Q x) → ∃ xs : List α, xs.length = rows.length ∧ rows.flatten = xs.flatMap f ∧ ∀ x ∈ xs, Q x := by
  intro rows
  induction rows with
  | nil => intro _; exact ⟨[], rfl, rfl, fun x h => by cases h⟩
  | cons q rows ih =>
    intro h
    obtain ⟨x, hx, hq⟩ := h q (List.mem_cons_self ..)
    obtain ⟨xs, hl, hg, hQ⟩ := ih (fun r hr => h r (List.mem_cons_of_mem _ hr))
    refine ⟨x :: xs, by simp [hl], by rw [List.flatten_cons, List.flatMap_cons, hx, hg], fun y hy => ?_⟩
    rcases List.mem_cons.1 hy with rfl | hy
    · exact hq
    · exact hQ y hy
section
variable {H : Type} {enc : TypeId × Value → H} {P : Program} {w : World} {base : Nat} {spare : Nat → Bool} {held : Bool} {t : TypeId} {cs : List Value}
theorem ints {e : TypeId} {k : IntKind} (ht : P.underlying t = some (.slice e)) (he : P.underlying e = some (.int k)) (hC : P.cellsOf e = 1) (h : Opn enc P w base spare held t cs) :
    ∃ (A : Option Addr) (n c : Nat) (l : List Int), cs = [.slice A n c] ∧ n ≤ c ∧ c ≤ maxLen ∧ l.length = n ∧ (∀ z ∈ l, (Lit.int k z).wf = true) ∧ Rd w w.heap.size 1 A n (l.map (Value.int k)) := by
  obtain ⟨A, n, c, rows, e1, h1, h2, h3, h4, h5⟩ := slice ht hC (by omega) h
  obtain ⟨l, hl, hf, hq⟩ := each_flat (f := fun z => [Value.int k z]) (Q := fun z => (Lit.int k z).wf = true) rows (fun r hr => int he (h4 r hr).2)
  refine ⟨A, n, c, l, e1, h1, h2, hl.trans h3, hq, ?_⟩
  rw [hf, flat_map1] at h5; exact h5
theorem strs {e : TypeId} (ht : P.underlying t = some (.slice e)) (he : P.underlying e = some .string) (hC : P.cellsOf e = 1) (h : Opn enc P w base spare held t cs) :
    ∃ (A : Option Addr) (n c : Nat) (l : List ByteArray), cs = [.slice A n c] ∧ n ≤ c ∧ c ≤ maxLen ∧ l.length = n ∧ (∀ z ∈ l, z.size ≤ maxLen) ∧ Rd w w.heap.size 1 A n (l.map Value.string) := by
  obtain ⟨A, n, c, rows, e1, h1, h2, h3, h4, h5⟩ := slice ht hC (by omega) h
  obtain ⟨l, hl, hf, hq⟩ := each_flat (f := fun z => [Value.string z]) (Q := fun z : ByteArray => z.size ≤ maxLen) rows (fun r hr => str he (h4 r hr).2)
  refine ⟨A, n, c, l, e1, h1, h2, hl.trans h3, hq, ?_⟩
  rw [hf, flat_map1] at h5; exact h5
end
end Opn
end Go.Proofs.YtchceoclkdofhaaGreatDoor
