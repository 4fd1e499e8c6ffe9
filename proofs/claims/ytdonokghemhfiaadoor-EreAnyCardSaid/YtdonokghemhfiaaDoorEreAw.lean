/- The walk of the law's awake. Conditions: none. -/
import Derived.Test.YtdonokghemhfiaaDoorErePt
import Derived.Test.YtdonokghemhfiaaDoorEreO
import Derived.Test.YtdonokghemhfiaaDoorEreF
namespace Go.Proofs.YtdonokghemhfiaaDoor
set_option linter.unusedVariables false
set_option linter.unusedSimpArgs false
open Go.RowKit
namespace EreX
open EreP EreW
abbrev R0 : Re := .mk 4 0 [.mk 6 0 [.mk 7 0 [.mk 5 0 [.mk 1 (1 <<< 97) [] 0 0 0, .mk 1 (1 <<< 98) [] 0 0 0] 0 0 0] 0 0 1] 0 (-1) 0, .mk 3 0 [] 0 0 0] 0 0 0
theorem r0_parse : parseP [40, 97, 124, 98, 41, 42, 36] = .ok R0 := by kernel_rfl
theorem r0_print : printR R0 = ([40, 97, 124, 98, 41, 42, 36], 0) := by kernel_rfl
theorem r0_groups : groupsR R0 = 1 := by kernel_rfl
theorem r0_nodes : nodesR R0 = 7 := by kernel_rfl
theorem r1_parse : parseP [97, 42, 42] = .error (2, 1) := by kernel_rfl
set_option maxHeartbeats 3200000 in
set_option maxRecDepth 100000 in
theorem awake_c (w : World) : Calls Tryd.prog 7 #[] w fun x w' => x = .returned (.bool true) ∧ Below w.heap.size w w' := by
  obtain ⟨r, hr⟩ : ∃ r, r = R0 := ⟨_, rfl⟩
  have cp0 : Calls Tryd.prog 8 #[.string ⟨#[40, 97, 124, 98, 41, 42, 36]⟩] w fun x w' => Below w.heap.size w w' ∧ ∃ A c, x = .returned (.tuple #[.agg (reC r.kind r.set A r.kids.length c r.lo r.hi r.n).toArray, .int .i64 0, .int .i64 0]) ∧ Rt w' (w.heap.size ≤ ·) r (reC r.kind r.set A r.kids.length c r.lo r.hi r.n) := by
    refine (parse_c _ w).mono ?_
    rintro x w' ⟨hb, ⟨r', cs, hp, rfl, hR⟩ | ⟨off, e, _, hp, _⟩⟩
    · have e1 := hp.symm.trans r0_parse
      injection e1 with e1
      rw [← hr] at e1
      subst e1
      obtain ⟨A, c, rfl, _, _⟩ := hR.shape
      exact ⟨hb, A, c, rfl, hR⟩
    · have e1 := hp.symm.trans r0_parse
      cases e1
  have cp1 := fun W : World => show Calls Tryd.prog 8 #[.string ⟨#[97, 42, 42]⟩] W fun x w' => Below W.heap.size W w' ∧ x = .returned (.tuple #[.agg ([.int .i64 0, .int .u64 0, .int .u64 0, .int .u64 0, .int .u64 0, .slice none 0 0, .int .i64 0, .int .i64 0, .int .i64 0] : List Value).toArray, .int .i64 2, .int .i64 1]) from by
    refine (parse_c _ W).mono ?_
    rintro x w' ⟨hb, ⟨r', cs, hp, rfl, hR⟩ | ⟨off, e, _, hp, rfl⟩⟩
    · have e1 := hp.symm.trans r1_parse
      cases e1
    · have e1 := hp.symm.trans r1_parse
      injection e1 with e1
      injection e1 with e2 e3
      subst e2 e3
      exact ⟨hb, rfl⟩
  have hn : nodesR r = 7 := by rw [hr]; exact r0_nodes
  have cpr := fun W cs (h : Rt W (w.heap.size ≤ ·) r cs) => print_c r W cs h (by omega)
  rw [show printR r = ([40, 97, 124, 98, 41, 42, 36], 0) from by rw [hr]; exact r0_print] at cpr
  have cg := fun W cs (h : Rt W (w.heap.size ≤ ·) r cs) => groups_c (nodesR r) r (Nat.le_refl _) W cs h (by omega)
  rw [show groupsR r = 1 from by rw [hr]; exact r0_groups] at cg
  have csm := fun W cs (h : Rt W (w.heap.size ≤ ·) r cs) => same_c (nodesR r) r (Nat.le_refl _) (by omega) r W cs cs h h
  rw [same_yes] at csm
  clear hr hn
  generalize hk0 : r.kind = k0 at *
  generalize hk1 : r.set = k1 at *
  generalize hk2 : r.kids.length = k2 at *
  generalize hk3 : r.lo = k3 at *
  generalize hk4 : r.hi = k4 at *
  generalize hk5 : r.n = k5 at *
  clear hk0 hk1 hk2 hk3 hk4 hk5
  have CPR := Lib.hid cpr
  have CG := Lib.hid cg
  have CSM := Lib.hid csm
  clear cpr cg csm
  go_enter Tryd.func7, Tryd.ntmps7
  go_wp2_with fail
  (with_reducible refine cp0.mono ?_)
  rintro e w1 ⟨b1, A, c, rfl, hR⟩
  clear cp0
  have x1 : Blk (w1.alloc (.cells (reC k0 k1 A k2 c k3 k4 k5).toArray 28)) w1.heap.size 28 (reC k0 k1 A k2 c k3 k4 k5).toArray := Blk.new _ _ _
  have H1 := Lib.hid (hR.bel ((Below.refl _ _).alloc (Nat.le_refl _) (.cells (reC k0 k1 A k2 c k3 k4 k5).toArray 28)))
  have B1 : Below w.heap.size w (w1.alloc (.cells (reC k0 k1 A k2 c k3 k4 k5).toArray 28)) := b1.alloc b1.size _
  have cpr := CPR.out _ _ H1.out
  clear CPR hR b1
  go_wp2_with fail
  (with_reducible refine cpr.mono ?_)
  rintro e w2 ⟨rfl, b2⟩
  have x2 := x1.next b2
  have H2 := Lib.hid (H1.out.bel b2)
  have B2 := via b2 B1
  have cp := cp1 w2
  clear x1 H1 B1 cpr b2 cp1
  go_wp2_with fail
  (with_reducible refine cp.mono ?_)
  rintro e w3 ⟨b3, rfl⟩
  have x3 := (x2.next b3).alloc (.cells #[.int .i64 0, .int .u64 0, .int .u64 0, .int .u64 0, .int .u64 0, .slice none 0 0, .int .i64 0, .int .i64 0, .int .i64 0] 28)
  have H3 := Lib.hid ((H2.out.bel b3).bel ((Below.refl _ _).alloc (Nat.le_refl _) (.cells #[.int .i64 0, .int .u64 0, .int .u64 0, .int .u64 0, .int .u64 0, .slice none 0 0, .int .i64 0, .int .i64 0, .int .i64 0] 28)))
  have B3 : Below w.heap.size w (w3.alloc (.cells #[.int .i64 0, .int .u64 0, .int .u64 0, .int .u64 0, .int .u64 0, .slice none 0 0, .int .i64 0, .int .i64 0, .int .i64 0] 28)) := (via b3 B2).alloc (via b3 B2).size _
  clear x2 H2 B2 cp b3
  have cg := CG.out _ _ H3.out
  have p0 := x3.cell 0
  have p1 := x3.cell 1
  have p2 := x3.cell 2
  have p3 := x3.cell 3
  have p4 := x3.cell 4
  have p5 := x3.cell 5
  have p6 := x3.cell 6
  have p7 := x3.cell 7
  have p8 := x3.cell 8
  simp only [List.getElem?_toArray, List.getElem?_cons_zero, List.getElem?_cons_succ] at p0 p1 p2 p3 p4 p5 p6 p7 p8
  go_wp2_with fail
  (with_reducible refine cg.mono ?_)
  rintro e w4 ⟨rfl, b4⟩
  have x4 := x3.next b4
  have H4 := Lib.hid (H3.out.bel b4)
  have B4 := via b4 B3
  clear x3 H3 B3 cg b4 p0 p1 p2 p3 p4 p5 p6 p7 p8
  have cs := CSM.out _ _ H4.out
  have p0 := x4.cell 0
  have p1 := x4.cell 1
  have p2 := x4.cell 2
  have p3 := x4.cell 3
  have p4 := x4.cell 4
  have p5 := x4.cell 5
  have p6 := x4.cell 6
  have p7 := x4.cell 7
  have p8 := x4.cell 8
  simp only [List.getElem?_toArray, List.getElem?_cons_zero, List.getElem?_cons_succ] at p0 p1 p2 p3 p4 p5 p6 p7 p8
  go_wp2_with fail
  (with_reducible refine cs.mono ?_)
  rintro e w5 ⟨rfl, b5⟩
  go_wp2
  go_ret
  exact ⟨rfl, via b5 B4⟩
end EreX
end Go.Proofs.YtdonokghemhfiaaDoor
