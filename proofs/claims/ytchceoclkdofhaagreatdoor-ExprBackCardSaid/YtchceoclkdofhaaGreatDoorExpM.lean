/- The names of variables in an expression, each once, rising: the program's walk. Condition: trees that fit. -/
import Derived.Test.YtchceoclkdofhaaGreatDoorExpN
import Derived.Test.YtchceoclkdofhaaGreatDoorShelf
import Derived.Sort.OwnSorted
import Derived.Lib.OwnBridge
namespace Go.Proofs.YtchceoclkdofhaaGreatDoor
set_option linter.unusedVariables false
set_option linter.unusedSimpArgs false
open Go.RowKit Go.Lib Go.Sort
namespace ExpW
open CalP CalW ExpP
def OwnB (w : World) (B : Nat) (v : Value) (L : List (List UInt8)) : Prop := w.ownsRow B 9 1 v L.length (L.map encStr)
def Kept (B : Nat) (w w' : World) : Prop := ∀ a : World, Below a.heap.size a w → a.heap.size ≤ B → Below a.heap.size a w'
theorem sort_own {w : World} {B : Nat} {v : Value} {L : List (List UInt8)} (h : OwnB w B v L) (hl : L.length ≤ 1000000) :
    Calls Tryz.prog 25 #[v] w fun e w' => e = .returned (.tuple #[]) ∧ OwnB w' B v (L.mergeSort fun x y => decide (x ≤ y)) ∧ Kept B w w' := by
  have hlen : (L.mergeSort fun x y => decide (x ≤ y)).length = L.length := List.length_mergeSort _
  rcases h.2 with ⟨rfl, h2⟩ | ⟨g, cap, cur, rfl, h2, h3, h4, h5, h6, h7⟩
  · obtain rfl : L = [] := List.eq_nil_of_length_eq_zero h2
    refine (Tryz.slices_Sort_string_none none 0 w).mono ?_
    rintro e w' ⟨rfl, rfl⟩
    exact ⟨rfl, by simpa using h, fun a ha _ => ha⟩
  · obtain ⟨g', cap', e1, hg, hlt, _, _, _, hH⟩ := Go.Lib.holds_of_ownsRow (zs := L) h (by simp)
    cases e1
    refine (Tryz.slices_Sort_string g 0 cap L w hH hlt (by omega)).mono ?_
    rintro e w' ⟨rfl, n, os, rfl⟩
    refine ⟨rfl, ?_, fun a ha hB => ha.grown (grownBy_sorted _) ha.size (fun k hk => by cases hk; omega)⟩
    unfold OwnB
    rw [hlen]
    exact ownsRow_sorted hlen hg h3 h4 h5 h6
theorem compact_own {w : World} {B : Nat} {v : Value} {L : List (List UInt8)} (h : OwnB w B v L) (hl : L.length ≤ 1000000) :
    Calls Tryz.prog 26 #[v] w fun e w' => ∃ v', e = .returned v' ∧ OwnB w' B v' (Lib.compact L) ∧ Kept B w w' := by
  rcases h.2 with ⟨rfl, h2⟩ | ⟨g, cap, cur, rfl, h2, h3, h4, h5, h6, h7⟩
  · obtain rfl : L = [] := List.eq_nil_of_length_eq_zero h2
    refine (Tryz.slices_Compact_string_empty none 0 w).mono ?_
    rintro e w' ⟨rfl, rfl⟩
    exact ⟨_, rfl, by rw [show Lib.compact ([] : List (List UInt8)) = [] from List.eq_nil_of_length_eq_zero (by have := Go.Lib.compact_length_le ([] : List (List UInt8)); simpa using this)]; exact h, fun a ha _ => ha⟩
  · obtain ⟨g', cap', e1, hg, hlt, hc, _, _, hH⟩ := Go.Lib.holds_of_ownsRow (zs := L) h (by simp)
    cases e1
    have hcl : (Lib.compact L).length ≤ L.length := Go.Lib.compact_length_le L
    refine (Tryz.slices_Compact_string g 0 cap L w hH (by omega) (by omega)).mono ?_
    rintro e w' ⟨rfl, n, rfl⟩
    refine ⟨_, rfl, ?_, fun a ha hB => Go.Lib.below_putRow ha (by omega)⟩
    have := Go.Lib.ownsRow_putRow (q := n) (ys := Lib.compact L ++ List.replicate (L.length - (Lib.compact L).length) []) h (by simp; omega) hcl
    rw [List.take_left] at this
    exact this
theorem own_sb {w : World} {B : Nat} {v : Value} {xs : List ByteArray} (h : OwnS w B v xs) : OwnB w B v (xs.map (·.data.toList)) := by
  unfold OwnB
  unfold OwnS at h
  rw [List.length_map, List.map_map]
  exact h
/-- The names, each once, rising. -/
def namesE (r : Ex) : List (List UInt8) := Lib.compact (((gathE r).map (·.data.toList)).mergeSort fun x y => decide (x ≤ y))
set_option maxRecDepth 100000 in
set_option maxHeartbeats 1600000 in
theorem names_c (r : Ex) (w : World) (cs : List Value) (h : Et w (· < w.heap.size) r cs) (hn : nodesE r ≤ 100000) :
    Calls Tryz.prog 9 #[.agg cs.toArray] w fun x w' => ∃ v, x = .returned v ∧ OwnB w' w.heap.size v (namesE r) ∧ Below w.heap.size w w' := by
  obtain ⟨wa, hwa⟩ : ∃ z : World, w.alloc (.cells cs.toArray 24) = z := ⟨_, rfl⟩
  have ba : Below w.heap.size w wa := by rw [← hwa]; go_grown
  have cg := gather_c (B := w.heap.size) (nodesE r) r (Nat.le_refl _) wa cs (.slice none 0 0) [] (h.bel ba) (World.ownsRow_nil _ _ _ _) ba.size (by simpa using (by omega : nodesE r ≤ 1000000))
  have hgl := gath_nodes r
  obtain ⟨A, c, rfl⟩ := h.shape
  obtain ⟨NE, hNE⟩ : ∃ z, namesE r = z := ⟨_, rfl⟩
  rw [hNE]
  have HNE := Lib.hid hNE
  obtain ⟨L, hL⟩ : ∃ z, gathE r = z := ⟨_, rfl⟩
  rw [hL] at cg hgl
  have HL := Lib.hid hL
  clear hNE hL h
  generalize r.kind = k0 at *
  generalize r.n = k1 at *
  generalize r.name = k3 at *
  generalize r.op = k4 at *
  generalize r.kids.length = k2 at *
  have xa : Blk wa w.heap.size 24 (exC k0 k1 k3 k4 A k2 c).toArray := by rw [← hwa]; exact Blk.new _ _ _
  have p0 := xa.cell 0
  have p1 := xa.cell 1
  have p2 := xa.cell 2
  have p3 := xa.cell 3
  have p4 := xa.cell 4
  simp only [List.getElem?_toArray, List.getElem?_cons_zero, List.getElem?_cons_succ] at p0 p1 p2 p3 p4
  go_enter Tryz.func9, Tryz.ntmps9
  go_wp2_with fail
  (with_reducible refine cg.mono ?_)
  clear cg p0 p1 p2 p3 p4 hwa xa
  rintro x w2 ⟨v, rfl, ho, b2⟩
  have B2 := ba.trans b2
  rw [List.nil_append] at ho
  have ho2 := own_sb ho
  have hll : (L.map (·.data.toList)).length ≤ 1000000 := by rw [List.length_map]; omega
  have c1 := sort_own ho2 hll
  go_wp2_with fail
  (with_reducible refine c1.mono ?_)
  clear c1
  rintro x w3 ⟨rfl, ho3, kp3⟩
  have B3 := kp3 w B2 (Nat.le_refl _)
  have c2 := compact_own ho3 (by rw [List.length_mergeSort]; exact hll)
  go_wp2_with fail
  (with_reducible refine c2.mono ?_)
  clear c2
  rintro x w4 ⟨v4, rfl, ho4, kp4⟩
  have B4 := kp4 w B3 (Nat.le_refl _)
  go_wp2_with fail
  go_ret
  refine ⟨v4, rfl, ?_, B4⟩
  rw [← HNE.out, namesE, HL.out]
  exact ho4
end ExpW
end Go.Proofs.YtchceoclkdofhaaGreatDoor
