/- Numbers that a function owns, sorted and made single. Condition: lists that fit. -/
import Derived.Test.YtdgonjncoggfeaaFloB
import Derived.Sort.OwnSortedInts
import Derived.Lib.OwnBridge
namespace Go.Proofs.Ytdgonjncoggfeaa
set_option linter.unusedVariables false
set_option linter.unusedSimpArgs false
open Go.RowKit
namespace FloW
open FloP
def Kept (B : Nat) (w w' : World) : Prop := ∀ a : World, Below a.heap.size a w → a.heap.size ≤ B → Below a.heap.size a w'
theorem sort_own {w : World} {B : Nat} {v : Value} {L : List Int} (h : OwnI w B v L) (hl : L.length ≤ 1000000) :
    Calls Try.prog 14 #[v] w fun e w' => e = .returned (.tuple #[]) ∧ OwnI w' B v (L.mergeSort fun x y => decide (x ≤ y)) ∧ Kept B w w' := by
  have hlen : (L.mergeSort fun x y => decide (x ≤ y)).length = L.length := List.length_mergeSort _
  rcases h.2 with ⟨rfl, h2⟩ | ⟨g, cap, cur, rfl, h2, h3, h4, h5, h6, h7⟩
  · obtain rfl : L = [] := List.eq_nil_of_length_eq_zero h2
    refine (Try.slices_Sort_int_none none 0 w).mono ?_
    rintro e w' ⟨rfl, rfl⟩
    exact ⟨rfl, by simpa using h, fun a ha _ => ha⟩
  · obtain ⟨g', cap', e1, hg, hlt, _, _, _, hH⟩ := Go.Lib.holds_of_ownsRow (zs := L) h (by simp)
    cases e1
    refine (Try.slices_Sort_int g 0 cap L w hH hlt (by omega)).mono ?_
    rintro e w' ⟨rfl, n, os, rfl⟩
    refine ⟨rfl, ?_, fun a ha hB => ha.grown (grownBy_sortedI _) ha.size (fun k hk => by cases hk; omega)⟩
    unfold OwnI
    rw [hlen]
    exact ownsRow_sortedI hlen hg h3 h4 h5 h6
theorem compact_own {w : World} {B : Nat} {v : Value} {L : List Int} (h : OwnI w B v L) (hl : L.length ≤ 1000000) :
    Calls Try.prog 15 #[v] w fun e w' => ∃ v', e = .returned v' ∧ OwnI w' B v' (Lib.compact L) ∧ Kept B w w' := by
  rcases h.2 with ⟨rfl, h2⟩ | ⟨g, cap, cur, rfl, h2, h3, h4, h5, h6, h7⟩
  · obtain rfl : L = [] := List.eq_nil_of_length_eq_zero h2
    refine (Try.slices_Compact_int_empty none 0 w).mono ?_
    rintro e w' ⟨rfl, rfl⟩
    exact ⟨_, rfl, by rw [show Lib.compact ([] : List Int) = [] from List.eq_nil_of_length_eq_zero (by have := Go.Lib.compact_length_le ([] : List Int); simpa using this)]; exact h, fun a ha _ => ha⟩
  · obtain ⟨g', cap', e1, hg, hlt, hc, _, _, hH⟩ := Go.Lib.holds_of_ownsRow (zs := L) h (by simp)
    cases e1
    have hcl : (Lib.compact L).length ≤ L.length := Go.Lib.compact_length_le L
    refine (Try.slices_Compact_int g 0 cap L w hH (by omega) (by omega)).mono ?_
    rintro e w' ⟨rfl, n, rfl⟩
    refine ⟨_, rfl, ?_, fun a ha hB => Go.Lib.below_putRow ha (by omega)⟩
    have := Go.Lib.ownsRow_putRow (q := n) (ys := Lib.compact L ++ List.replicate (L.length - (Lib.compact L).length) 0) h (by simp; omega) hcl
    rw [List.take_left] at this
    exact this
end FloW
end Go.Proofs.Ytdgonjncoggfeaa
