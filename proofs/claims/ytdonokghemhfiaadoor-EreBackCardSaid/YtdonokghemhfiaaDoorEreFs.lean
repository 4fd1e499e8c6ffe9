/- Sets compared. No condition. -/
import Derived.Test.YtdonokghemhfiaaDoorEreFd
import Derived.DeepKeys
import Derived.Laws.StructEq
namespace Go.Proofs.YtdonokghemhfiaaDoor
open Go.RowKit
namespace EreX
open EreP EreW
theorem word_lt (S k : Nat) : word S k < 18446744073709551616 := Nat.mod_lt _ (by decide)
theorem wf_word (S k : Nat) : (Lit.int .u64 ((word S k : Nat) : Int)).wf = true := by
  have := word_lt S k
  simp [Lit.wf]
  have e1 : IntKind.u64.min = 0 := by rfl
  have e2 : IntKind.u64.max = 18446744073709551615 := by rfl
  rw [e1, e2]
  omega
abbrev wordsV (S : Nat) : Value := .agg #[.int .u64 (word S 0), .int .u64 (word S 1), .int .u64 (word S 2), .int .u64 (word S 3)]
theorem set_lits (S : Nat) : Tryd.prog.keyLits 2 25 (wordsV S).cells.toList = some [.int .u64 (word S 0), .int .u64 (word S 1), .int .u64 (word S 2), .int .u64 (word S 3)] := by
  have u := Tryd.underlying25
  have u2 := Tryd.underlying23
  have c1 : Tryd.prog.cellsOf 25 = 4 := by kernel_rfl
  have c2 : Tryd.prog.cellsOf 23 = 1 := by kernel_rfl
  have f0 := wf_word S 0
  have f1 := wf_word S 1
  have f2 := wf_word S 2
  have f3 := wf_word S 3
  simp [Program.keyLits, u, u2, c1, c2, Value.cells, List.range, List.range.loop, f0, f1, f2, f3]
set_option maxRecDepth 100000 in
theorem set_run (S S' : Nat) (w : World) : ∃ r : Bool, (Op.equalIn 10000 25 (wordsV S) (wordsV S')).run Tryd.prog w = .ok r w ∧ (r = true ↔ ∀ k, k < 4 → word S k = word S' k) := by
  obtain ⟨r, hr, hiff⟩ := run_equalIn_deep (P := Tryd.prog) 9998 2 25 (by kernel_rfl) w 2 2 (wordsV S) (wordsV S') _ _ (by kernel_rfl) (by kernel_rfl) (set_lits S) (set_lits S')
  refine ⟨r, hr, hiff.trans ?_⟩
  simp only [List.cons.injEq, Lit.int.injEq, true_and, and_true, Int.natCast_inj]
  constructor
  · rintro ⟨h0, h1, h2, h3⟩ k hk
    rcases (by omega : k = 0 ∨ k = 1 ∨ k = 2 ∨ k = 3) with rfl | rfl | rfl | rfl <;> assumption
  · intro h; exact ⟨h 0 (by omega), h 1 (by omega), h 2 (by omega), h 3 (by omega)⟩
set_option maxRecDepth 100000 in
theorem set_same (S S' : Nat) (hS : S < 2 ^ 256) (hS' : S' < 2 ^ 256) (w : World) : (Op.equalIn 10000 25 (wordsV S) (wordsV S')).run Tryd.prog w = .ok (S == S') w := by
  obtain ⟨r, hr, hiff⟩ := set_run S S' w
  rw [hr]
  congr 1
  rw [Bool.eq_iff_iff, hiff, beq_iff_eq]
  exact ⟨fun h => set_ext hS hS' h, fun h _ _ => by rw [h]⟩
end EreX
end Go.Proofs.YtdonokghemhfiaaDoor
