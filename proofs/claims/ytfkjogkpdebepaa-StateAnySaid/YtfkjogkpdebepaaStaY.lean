/- The walk of strings.Builder's String at a builder that is a struct's only field; a node's bytes. Conditions: at least one byte, fewer than 2^47. -/
import Derived.Test.YtfkjogkpdebepaaStaX
import Derived.Test.YtfkjogkpdebepaaStaD
import Derived.Lib.UnsafeStr
import Derived.Shelf.RegionOpenPlain
namespace Go.Proofs.Ytfkjogkpdebepaa
open Go.RowKit
namespace StaX
open StaP StaB StaW StaG StaL
theorem byte_cells : Try.prog.cellsOf 5 = 1 := by kernel_rfl
set_option maxHeartbeats 1600000 in
set_option maxRecDepth 100000 in
theorem string_c (B b : Nat) (l : List UInt8) (w : World) (h : IsB B b l w) (h0 : l ≠ []) :
    Calls Try.prog 33 #[.pointer (some ⟨b, 0, none⟩)] w fun e w' => e = .returned (.string (bz l)) ∧ Below B w w' := by
  have hl0 : l.length ≠ 0 := fun e => h0 (List.length_eq_zero_iff.1 e)
  obtain ⟨p, hA⟩ : ∃ p, Lib.BuilderAtF BT 5 B b p (Lib.byteCells l) w := by rcases h with h | h <;> exact ⟨_, h⟩
  obtain ⟨_, v, hbk, hown, _⟩ := hA
  rw [Lib.byteCells_length] at hown
  obtain ⟨g, cap, cur, fz, rfl, hg1, hg2, hg3, hg4, hg5⟩ : ∃ g cap cur fz, v = .slice (some ⟨g, 0, none⟩) l.length cap ∧ B ≤ g ∧ w.heap[g]? = some (.cells cur 5 fz) ∧ l.length ≤ cur.size ∧ cap ≤ maxLen ∧ l.length ≤ cap := by
    rcases hown.2 with ⟨_, hz⟩ | ⟨g, cap, cur, fz, e, hg1, hg2, _, hg4, hg5, hg6, _⟩
    · exact absurd hz hl0
    · exact ⟨g, cap, cur, fz, e, hg1, hg2, by omega, hg5, hg4⟩
  have hcs : ∀ j x, l[j]? = some x → w.cell? ((⟨g, 0, none⟩ : Addr).add j) = some (.int .u8 x.toNat) := fun j x hx => hown.cells (g := g) rfl j (.int .u8 x.toNat) (by simp [Lib.byteCells, hx])
  have c1 : w.drew.cell? ⟨b, 1, none⟩ = some (.slice (some ⟨g, 0, none⟩) l.length cap) := by
    rw [Lib.cell_of_heap (show w.drew.heap[b]? = _ from hbk)]; rfl
  have e1 : (Builtin.unsafeSliceData_ #[69] 100 #[.slice (some ⟨g, 0, none⟩) l.length cap]).run Try.prog w.drew = .ok (.pointer (some ⟨g, 0, none⟩)) w.drew := Lib.run_unsafeSliceData_row _ _ _ _ _ _ (by omega)
  have e2 : (Builtin.unsafeString_ #[100, 3] 9 #[.pointer (some ⟨g, 0, none⟩), .int .i64 l.length]).run Try.prog w.drew = .ok (.string (bz l)) (w.drew.freeze ⟨g, 0, none⟩ l.length) :=
    Lib.run_unsafeString_row w.drew 100 3 9 5 Try.underlying100 byte_cells g cur.size (by have hq : w.drew.heap[g]? = some (.cells cur 5 fz) := hg2; simp [World.shape?, hq]) l h0 hg3 (by unfold maxLen at hg4; omega) hcs
  have hB : Below B w (w.drew.freeze ⟨g, 0, none⟩ l.length) := Lib.below_freeze (Below.drew (Below.refl B w)) (p := ⟨g, 0, none⟩) hg1 _
  go_enter Try.func33, Try.ntmps33
  go_wp2
  have mixed : Try.prog.follows .mixedOrders = true := by kernel_rfl
  go_region_o
  all_goals
    go_wp2
    go_ret
    exact ⟨rfl, hB⟩
end StaX
end Go.Proofs.Ytfkjogkpdebepaa
