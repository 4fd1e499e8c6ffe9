/- The walks of the expression reader's row, alt and group. Conditions: texts that fit. -/
import Derived.Test.YtpdmjegbjcefjaaDoorEreY
namespace Go.Proofs.YtpdmjegbjcefjaaDoor
set_option linter.unusedVariables false
set_option linter.unusedSimpArgs false
open Go.RowKit
namespace EreX
open EreP EreW
theorem info_R : (Tryd.prog.info? 27).map (fun i => (i.zero, i.size, i.bytes)) = some (some (.agg #[.int .i64 0, .int .u64 0, .int .u64 0, .int .u64 0, .int .u64 0, .slice none 0 0, .int .i64 0, .int .i64 0, .int .i64 0]), 9, 88) := by kernel_rfl
/-- Blocks from one on, but not that of a row. -/
abbrev Kv (B : Nat) (v : Value) : Nat → Prop := fun b => B ≤ b ∧ v.ownBlock ≠ some b
theorem rts_lt {w : World} {K : Nat → Prop} {l : List Re} {xs : List Value} (h : Rts w K l xs) : Rts w (fun b => K b ∧ b < w.heap.size) l xs := by
  obtain ⟨css, hl, e, ha⟩ := h
  exact ⟨css, hl, e, fun i h h' => (ha i h h').lt_⟩
theorem rts_keep {w w' : World} {K K' : Nat → Prop} {l : List Re} {xs : List Value} (h : Rts w K l xs) (hK : ∀ b, K b → K' b) (hk : ∀ b, K b → b < w.heap.size → w'.heap[b]? = w.heap[b]?) : Rts w' K' l xs := by
  obtain ⟨css, hl, e, ha⟩ := h
  exact ⟨css, hl, e, fun i h h' => (ha i h h').keep hK hk⟩
/-- One more, behind the others: whatever row it came to lie in. -/
theorem rts_snoc {o : Obj} {B g cap H : Nat} {w0 w w' : World} {v : Value} {l : List Re} {xs cs : List Value} {r : Re} (h : Rts w (Kv B v) l xs) (hr : Rt w (w0.heap.size ≤ ·) r cs) (hB : B ≤ w0.heap.size)
    (hv : ∀ k, v.ownBlock = some k → k < w0.heap.size) (hgrow : (w.alloc o).grownBy w' v.ownBlock) (hat : v.ownBlock = some g ∨ g = H) (hH : w.heap.size + 1 = H) :
    Rts w' (Kv B (.slice (some ⟨g, 0, none⟩) (l.length + 1) cap)) (l ++ [r]) (xs ++ cs) := by
  have hg : ∀ b, b < w.heap.size → v.ownBlock ≠ some b → b ≠ g := by
    intro b hb hne e
    subst e
    rcases hat with h1 | h1
    · exact hne h1
    · omega
  have same : ∀ b, b < w.heap.size → v.ownBlock ≠ some b → w'.heap[b]? = w.heap[b]? := by
    intro b hb hne
    rw [hgrow.block b (by rw [World.size_alloc]; omega) (fun e => hne e.symm)]
    exact Below.heap_alloc w _ b hb
  have ob : (Value.slice (some (⟨g, 0, none⟩ : Addr)) (l.length + 1) cap).ownBlock = some g := rfl
  refine Rts.snoc (rts_keep (rts_lt h) (fun b hb => ⟨hb.1.1, ?a⟩) (fun b hb hl => same b hl hb.1.2)) (hr.lt_.keep (fun b hb => ⟨by omega, ?b⟩) (fun b hb hl => same b hl ?c))
  case a => rw [ob]; intro e; injection e with e; exact hg b hb.2 hb.1.2 e.symm
  case b =>
    rw [ob]; intro e; injection e with e
    exact hg b hb.2 (fun e2 => by have := hv b e2; omega) e.symm
  case c => intro e2; have := hv b e2; omega
theorem end_any (c : UInt8) (r : Bs) : peekB (⟨#[124, 41]⟩ : ByteArray).data.toList (c :: r) 0 = rowEnd (c :: r) := by
  show List.contains [124, 41] c = _
  rw [Bool.eq_iff_iff]; simp [rowEnd]
end EreX
end Go.Proofs.YtpdmjegbjcefjaaDoor
