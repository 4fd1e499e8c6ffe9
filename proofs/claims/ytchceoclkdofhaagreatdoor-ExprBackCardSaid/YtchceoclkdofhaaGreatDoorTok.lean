/- A row of tokens of one's own that grows, and what a walk that writes it keeps. Condition: none. -/
import Derived.Test.YtchceoclkdofhaaGreatDoorExpV
import Derived.Test.YtchceoclkdofhaaGreatDoorRnd
import Derived.Deep.AppendLies
namespace Go.Proofs.YtchceoclkdofhaaGreatDoor
set_option linter.unusedVariables false
set_option linter.unusedSimpArgs false
open Go.RowKit
namespace Tok
open CalP CalW ExpP ExpT
/-- A token's cells, as an expression's tokens are laid. -/
abbrev tk0 (t : Tk) : List Value := [.int .i64 t.kind, .string t.word, .int .i64 t.n, .slice none 0 0, .int .i64 0]
def OwnT (w : World) (B : Nat) (v : Value) (l : List Tk) : Prop := w.ownsRow B 47 5 v l.length (l.flatMap tk0)
/-- What was turned: new blocks, and the block of the row. -/
structure Gr (w w' : World) (v v' : Value) : Prop where
  grown : w.grownBy w' v.ownBlock
  own : ∀ g, v'.ownBlock = some g → v.ownBlock = some g ∨ w.heap.size ≤ g
theorem Gr.refl (w : World) (v : Value) : Gr w w v v := ⟨World.grownBy.refl _ _, fun g h => .inl h⟩
theorem Gr.of_below {w w' : World} (h : Below w.heap.size w w') (v : Value) : Gr w w' v v := ⟨⟨h.os, h.tape, h.output, h.size, fun k hk _ => h.block k hk⟩, fun g h => .inl h⟩
theorem Gr.trans {w w1 w2 : World} {v v1 v2 : Value} (h : Gr w w1 v v1) (k : Gr w1 w2 v1 v2) : Gr w w2 v v2 := by
  refine ⟨⟨k.grown.os.trans h.grown.os, k.grown.tape.trans h.grown.tape, k.grown.output.trans h.grown.output, Nat.le_trans h.grown.size k.grown.size, fun b hb hne => ?_⟩, fun g hg => ?_⟩
  · refine (k.grown.block b (Nat.lt_of_lt_of_le hb h.grown.size) (fun e => ?_)).trans (h.grown.block b hb hne)
    rcases h.own b e.symm with h1 | h1
    · exact hne h1.symm
    · omega
  · rcases k.own g hg with h1 | h1
    · exact h.own g h1
    · have := h.grown.size; exact .inr (by omega)
theorem Gr.drew {w w' : World} {v v' : Value} (h : Gr w w' v v') : Gr w w'.drew v v' := ⟨⟨h.grown.os, h.grown.tape, h.grown.output, h.grown.size, h.grown.block⟩, h.own⟩
theorem Gr.below {w0 w w' : World} {B : Nat} {v v' : Value} (h : Gr w w' v v') (hb : Below B w0 w) (hB : B ≤ w.heap.size) (hv : ∀ g, v.ownBlock = some g → B ≤ g) : Below B w0 w' := hb.grown h.grown hB hv
/-- A walk that writes a row of its own: the row, and a box of the walk's that is apart from it. -/
structure St (B b : Nat) (T : TypeId) (w0 w : World) (cs : Array Value) (v0 v : Value) (l : List Tk) : Prop where
  bel : Below B w0 w
  hB : B ≤ w.heap.size
  own : OwnT w B v l
  bx : Blk w b T cs
  ne : v.ownBlock ≠ some b
  hb : w0.heap.size ≤ b
  gr : Gr w0 w v0 v
/-- A block with a token in it, apart from the row. -/
structure Nw (w : World) (v : Value) (g : Nat) (t : Tk) : Prop where
  blk : Blk w g 47 (tk0 t).toArray
  ne : v.ownBlock ≠ some g
variable {B b : Nat} {T : TypeId} {w0 w w' : World} {cs : Array Value} {v0 v v' : Value} {l l' : List Tk}
theorem St.next (h : St B b T w0 w cs v0 v l) (k : Below w.heap.size w w') : St B b T w0 w' cs v0 v l :=
  ⟨h.bel.trans (k.mono h.hB), Nat.le_trans h.hB k.size, own_bel h.own k, h.bx.next k, h.ne, h.hb, h.gr.trans (Gr.of_below k v)⟩
theorem St.drew (h : St B b T w0 w cs v0 v l) : St B b T w0 w.drew cs v0 v l := ⟨⟨h.bel.os, h.bel.tape, h.bel.output, h.bel.size, h.bel.block⟩, h.hB, h.own, h.bx, h.ne, h.hb, h.gr.drew⟩
theorem St.lt (h : St B b T w0 w cs v0 v l) : ∀ g, v.ownBlock = some g → B ≤ g ∧ g < w.heap.size := fun g hg => h.own.lt g hg
theorem St.to (h : St B b T w0 w cs v0 v l) (k : Gr w w' v v') (o : OwnT w' B v' l') : St B b T w0 w' cs v0 v' l' :=
  ⟨k.below h.bel h.hB (fun g hg => (h.lt g hg).1), Nat.le_trans h.hB k.grown.size, o, (k.grown.block b h.bx.lt (fun e => h.ne e.symm)).trans h.bx, fun e => by
    rcases k.own b e with h1 | h1
    · exact h.ne h1
    · have := h.bx.lt; omega, h.hb, h.gr.trans k⟩
theorem St.fresh (h : St B b T w0 w cs v0 v l) (t : Tk) (hw : w.alloc (.cells (tk0 t).toArray 47) = w') : St B b T w0 w' cs v0 v l ∧ Nw w' v w.heap.size t := by
  have hb : Below w.heap.size w w' := by rw [← hw]; go_grown
  refine ⟨h.next hb, ?_, fun e => ?_⟩
  · rw [← hw]; exact Blk.new _ _ _
  · have := (h.lt _ e).2; omega
theorem Nw.next {g : Nat} {t : Tk} (h : Nw w v g t) (k : Below w.heap.size w w') : Nw w' v g t := ⟨h.blk.next k, h.ne⟩
theorem Nw.to {g : Nat} {t : Tk} (h : Nw w v g t) (k : Gr w w' v v') : Nw w' v' g t :=
  ⟨(k.grown.block g h.blk.lt (fun e => h.ne e.symm)).trans h.blk, fun e => by
    rcases k.own g e with h1 | h1
    · exact h.ne h1
    · have := h.blk.lt; omega⟩
set_option maxRecDepth 100000 in
theorem tk_info : ∃ i, Tryz.prog.info? 47 = some i ∧ i.zero = some (.agg zT) ∧ i.size = 5 ∧ i.bytes = 64 := ⟨_, rfl, by kernel_rfl, by kernel_rfl, by kernel_rfl⟩
theorem tk0_one (t : Tk) : ∀ u ∈ tk0 t, u.oneCell' = true := by intro u hu; simp at hu; rcases hu with rfl | rfl | rfl | rfl | rfl <;> rfl
theorem tk0_len (l : List Tk) : (l.flatMap tk0).length = l.length * 5 := by
  induction l with
  | nil => rfl
  | cons t l ih => rw [List.flatMap_cons, List.length_append, ih]; simp; omega
theorem own_app {g cap : Nat} {t : Tk} (h : w.ownsRow B 47 5 (.slice (some ⟨g, 0, none⟩) (l.length + 1) cap) (l.length + 1) (l.flatMap tk0 ++ tk0 t)) : OwnT w B (.slice (some ⟨g, 0, none⟩) (l.length + 1) cap) (l ++ [t]) := by
  unfold OwnT
  rw [List.length_append, List.flatMap_append]
  simpa using h
theorem gr_app {g : Nat} {v' : Value} (hg : v'.ownBlock = some g) (hgrow : w.grownBy w' v.ownBlock) (hat : v.ownBlock = some g ∨ g = w.heap.size) : Gr w w' v v' :=
  ⟨hgrow, fun k hk => by rw [hg] at hk; cases hk; rcases hat with h | h; exact .inl h; exact .inr (by omega)⟩
set_option maxRecDepth 100000 in
/-- A token more: at a step of a region that draws. -/
theorem app_step {ops : Array Oper} {o : Oper} {a : Act} {K : Act → World → Prop} {Q : Exit → Act → World → Prop} {E : Prop} (hgd : o.guard = none) (s x : Operand)
    (ho : o.op = .call { callee := .builtin .append, args := #[s, x], argTypes := #[31, 31] }) (hown : OwnT w B v l) (hB : B ≤ w.heap.size)
    (hs : a.eval s = v) (g : Nat) (c : Nat) (t : Tk) (hx : a.eval x = .slice (some ⟨g, 0, none⟩) 1 c) (hn : Blk w g 47 (tk0 t).toArray) (hl : l.length + 1 ≤ 1000000)
    (hK : ∀ v' w', OwnT w' B v' (l ++ [t]) → Gr w w' v v' → K (a.put o.dst v') w') :
    if Region.wanted o (yielded ops a.tmps) = true then Oper.wp Tryz.prog o a w K Q else E := by
  obtain ⟨i0, hi0, hz0, hz1, hz2⟩ := tk_info
  refine step_append_lies _ hgd s x 31 ho B 47 i0 (.agg zT) 5 64 Tryz.underlying31 hi0 hz0 hz1 hz2 rfl (by decide) v l.length (l.flatMap tk0) hs hown ⟨g, 0, none⟩ 1 c (tk0 t) hx rfl (World.news_of_block hn) (tk0_one t) (by omega) (by unfold maxLen; omega) (by omega) hB w.heap.size rfl ?_
  intro g' cap w' h1 h2 h3 h4
  exact hK _ w' (own_app h1) (gr_app rfl h2 h3)
set_option maxRecDepth 100000 in
/-- The same at a plain region's list. -/
theorem app_list {ops : Array Oper} {rest : List Oper} {o : Oper} {a : Act} {Q : Exit → Act → World → Prop} (hgd : o.guard = none) (s x : Operand)
    (ho : o.op = .call { callee := .builtin .append, args := #[s, x], argTypes := #[31, 31] }) (hown : OwnT w B v l) (hB : B ≤ w.heap.size)
    (hs : a.eval s = v) (g : Nat) (c : Nat) (t : Tk) (hx : a.eval x = .slice (some ⟨g, 0, none⟩) 1 c) (hn : Blk w g 47 (tk0 t).toArray) (hl : l.length + 1 ≤ 1000000)
    (hK : ∀ v' w', OwnT w' B v' (l ++ [t]) → Gr w w' v v' → wpList Tryz.prog ops Q rest (a.put o.dst v') w') :
    wpList Tryz.prog ops Q (o :: rest) a w := by
  obtain ⟨i0, hi0, hz0, hz1, hz2⟩ := tk_info
  refine wpList_append_lies _ hgd s x 31 ho B 47 i0 (.agg zT) 5 64 Tryz.underlying31 hi0 hz0 hz1 hz2 rfl (by decide) v l.length (l.flatMap tk0) hs hown ⟨g, 0, none⟩ 1 c (tk0 t) hx rfl (World.news_of_block hn) (tk0_one t) (by omega) (by unfold maxLen; omega) (by omega) hB w.heap.size rfl ?_
  intro g' cap w' h1 h2 h3 h4
  exact hK _ w' (own_app h1) (gr_app rfl h2 h3)
theorem tc_own : ∀ (m l : List Tk) (xs : List Value), TC l xs → (∀ t ∈ m, I64 t.n ∧ t.word.size ≤ maxLen) → TC (l ++ m) (xs ++ m.flatMap tk0)
  | [], l, xs => fun h _ => by simpa using h
  | t :: m, l, xs => fun h hm => by
    have := tc_own m (l ++ [t]) (xs ++ tk0 t) (.snoc h t none 0 0 0 (hm t (by simp)).1 (hm t (by simp)).2) (fun x hx => hm x (by simp [hx]))
    simpa [List.append_assoc] using this
theorem own_tc {l : List Tk} (hm : ∀ t ∈ l, I64 t.n ∧ t.word.size ≤ maxLen) : TC l (l.flatMap tk0) := by simpa using tc_own l [] [] .nil hm
end Tok
end Go.Proofs.YtchceoclkdofhaaGreatDoor
