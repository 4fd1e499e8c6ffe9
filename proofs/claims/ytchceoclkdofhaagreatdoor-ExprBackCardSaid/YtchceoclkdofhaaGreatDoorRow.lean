/- Whole structs stored and loaded in one step: what is kept; a struct among several results. No program. No condition. -/
import Derived.Test.YtchceoclkdofhaaGreatDoorMem
import Derived.Laws.Rows
import Derived.Laws.Tables
namespace Go.Proofs.YtchceoclkdofhaaGreatDoor
open Go.RowKit
namespace Rowk
set_option linter.unusedVariables false
set_option linter.unusedSimpArgs false
theorem blk_row {w : World} {g : Nat} {t : TypeId} {cs : Array Value} (h : Blk w g t cs) (c : Array Value) : Blk (w.setRow g c) g t c := setRow_heap w g cs c t (0, 0) h
theorem heap_row {w : World} {g k : Nat} (hk : k ≠ g) (c : Array Value) : (w.setRow g c).heap[k]? = w.heap[k]? := by
  unfold World.setRow
  rw [Array.getElem?_modify, if_neg (fun e => hk e.symm)]
theorem far_row {w : World} {g h : Nat} {t : TypeId} {cs : Array Value} (b : Blk w h t cs) (hg : h ≠ g) (c : Array Value) : Blk (w.setRow g c) h t cs := (heap_row hg c).trans b
theorem tch_row {S : Nat → Prop} {a w : World} {g : Nat} (h : Tch S a w) (hg : a.heap.size ≤ g) (c : Array Value) : Tch S a (w.setRow g c) :=
  ⟨h.os, h.tape, h.output, by rw [setRow_size]; exact h.size, fun i hi hs => (heap_row (by omega) c).trans (h.block i hi hs)⟩
theorem tch_row_in {S : Nat → Prop} {a w : World} {g : Nat} (h : Tch S a w) (hg : S g) (c : Array Value) : Tch S a (w.setRow g c) :=
  ⟨h.os, h.tape, h.output, by rw [setRow_size]; exact h.size, fun i hi hs => (heap_row (fun e => hs (by rw [e]; exact hg)) c).trans (h.block i hi hs)⟩
theorem other_row {w : World} {g : Nat} {t : TypeId} {cs : Array Value} (h : Blk w g t cs) (c : Array Value) (k : Nat) (d : Array Value) (e : TypeId) (f : Nat × Nat) (he : t ≠ e) (hk : w.heap[k]? = some (.cells d e f)) : (w.setRow g c).heap[k]? = some (.cells d e f) := by
  by_cases hg : k = g
  · subst hg; unfold Blk at h; rw [h] at hk; injection hk with hk; injection hk with _ h2; exact absurd h2 he
  · exact (heap_row hg c).trans hk
/-- A struct in a cell and two values more. -/
theorem results_three {P : Program} {fn : Func} {p a b : Tmp} {ty : TypeId} (h : fn.results = #[.cell p ty, .tmp a, .tmp b]) (tmps : Array Value) (w : World) (g : Nat) (t : TypeId) (cs : Array Value) (fr : Nat × Nat) (d : TypeDesc) (va vb : Value)
    (hp : tmps.getD p undef = .pointer (some ⟨g, 0, none⟩)) (ha : tmps.getD a undef = va) (hb : tmps.getD b undef = vb) (hg : w.heap[g]? = some (.cells cs t fr))
    (hu : P.underlying ty = some d) (hd : (match d with | .struct _ | .array _ _ => true | _ => false) = true) (hi : (P.info? ty).map (·.size) = some cs.size) :
    (results fn tmps).run P w = .ok (.tuple #[.agg cs, va, vb]) w := by
  have hp' : tmps[p]?.getD undef = .pointer (some ⟨g, 0, none⟩) := by simpa using hp
  have ha' : tmps[a]?.getD undef = va := by simpa using ha
  have hb' : tmps[b]?.getD undef = vb := by simpa using hb
  simp [results, h, hp', ha', hb', asAddr, run_loadVar_row w g t ty cs fr d hg hu hd hi]
/-- A struct stored in a region that draws its order. -/
theorem step_store_row {P : Program} {ops : Array Oper} {o : Oper} {a : Act} {w : World} {K : Act → World → Prop} {Q : Exit → Act → World → Prop} {E : Prop} (hgd : o.guard = none) (ty : TypeId) (x y : Operand) (ho : o.op = .store ty x y)
    (g : Nat) (cells : Array Value) (hx : a.eval x = .pointer (some ⟨g, 0, none⟩)) (hy : a.eval y = .agg cells)
    (t : TypeId) (old : Array Value) (hg : w.heap[g]? = some (.cells old t (0, 0))) (hi : (P.info? ty).map (·.size) = some cells.size)
    (hold : old.size = cells.size) (h1 : cells.all (·.oneCell') = true)
    (h : K (a.put o.dst undef) (w.setRow g cells)) : if Region.wanted o (yielded ops a.tmps) = true then Oper.wp P o a w K Q else E := by
  have hw : Region.wanted o (yielded ops a.tmps) = true := by simp [Region.wanted, hgd]
  rw [if_pos hw]
  exact wp_store_row ty x y ho g cells hx hy t old hg hi hold h1 h
theorem tch_drew {S : Nat → Prop} {a w : World} (h : Tch S a w) : Tch S a w.drew := ⟨h.os, h.tape, h.output, h.size, h.block⟩
end Rowk
end Go.Proofs.YtchceoclkdofhaaGreatDoor
