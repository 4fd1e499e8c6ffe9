/- The walk of the law EreSames. Conditions: none. -/
import Derived.Test.YtdonokghemhfiaaDoorEreAw
import Derived.Test.YtdonokghemhfiaaDoorEreF
namespace Go.Proofs.YtdonokghemhfiaaDoor
set_option linter.unusedVariables false
set_option linter.unusedSimpArgs false
open Go.RowKit
namespace EreX
open EreP EreW
set_option maxHeartbeats 3200000 in
set_option maxRecDepth 100000 in
theorem sames_c {K K' : Nat → Prop} (a b : Re) (w : World) (cs cs' : List Value) (h : Rt w K a cs) (h' : Rt w K' b cs') :
    Calls Tryd.prog 5 #[.agg cs.toArray, .agg cs'.toArray] w fun x w' => x = .returned (.bool true) ∧ Below w.heap.size w w' := by
  obtain ⟨A, c, rfl, _, _⟩ := h.shape
  obtain ⟨A2, c2, rfl, _, _⟩ := h'.shape
  generalize hhk0 : a.kind = k0 at *
  generalize hhk1 : a.set = k1 at *
  generalize hhk2 : a.kids.length = k2 at *
  generalize hhk3 : a.lo = k3 at *
  generalize hhk4 : a.hi = k4 at *
  generalize hhk5 : a.n = k5 at *
  clear hhk0 hhk1 hhk2 hhk3 hhk4 hhk5
  generalize hhl0 : b.kind = l0 at *
  generalize hhl1 : b.set = l1 at *
  generalize hhl2 : b.kids.length = l2 at *
  generalize hhl3 : b.lo = l3 at *
  generalize hhl4 : b.hi = l4 at *
  generalize hhl5 : b.n = l5 at *
  clear hhl0 hhl1 hhl2 hhl3 hhl4 hhl5
  obtain ⟨wa, hwa⟩ : ∃ z : World, z = (w.alloc (.cells (reC k0 k1 A k2 c k3 k4 k5).toArray 28)).alloc (.cells (reC l0 l1 A2 l2 c2 l3 l4 l5).toArray 28) := ⟨_, rfl⟩
  have xa : Blk wa w.heap.size 28 (reC k0 k1 A k2 c k3 k4 k5).toArray := by rw [hwa]; exact (Blk.new _ _ _).alloc _
  have xb : Blk wa (w.heap.size + 1) 28 (reC l0 l1 A2 l2 c2 l3 l4 l5).toArray := by rw [hwa]; exact Blk.new1 _ _ _ _
  have ba : Below w.heap.size w wa := by rw [hwa]; go_grown
  have HA := Lib.hid (h.bel ba)
  have HB := Lib.hid (h'.bel ba)
  clear h h'
  have cw := awake_c wa
  have CSA := Lib.hid (fun W (hh : Rt W K a (reC k0 k1 A k2 c k3 k4 k5)) => small_c a W _ 60 hh (by decide) (by decide))
  have CSB := Lib.hid (fun W (hh : Rt W K' b (reC l0 l1 A2 l2 c2 l3 l4 l5)) => small_c b W _ 60 hh (by decide) (by decide))
  go_enter Tryd.func5, Tryd.ntmps5
  go_wp2_with fail
  rw [← hwa]
  clear hwa
  (with_reducible refine cw.mono ?_)
  rintro e w1 ⟨rfl, b1⟩
  have xa1 := xa.next b1
  have xb1 := xb.next b1
  have B1 := via b1 ba
  have HA1 := Lib.hid (HA.out.bel b1)
  have HB1 := Lib.hid (HB.out.bel b1)
  clear xa xb cw HA HB b1 ba
  have ca := CSA.out _ HA1.out
  have p0 := xa1.cell 0
  have p1 := xa1.cell 1
  have p2 := xa1.cell 2
  have p3 := xa1.cell 3
  have p4 := xa1.cell 4
  have p5 := xa1.cell 5
  have p6 := xa1.cell 6
  have p7 := xa1.cell 7
  have p8 := xa1.cell 8
  simp only [List.getElem?_toArray, List.getElem?_cons_zero, List.getElem?_cons_succ] at p0 p1 p2 p3 p4 p5 p6 p7 p8
  by_cases hna : (nodesR a : Int) ≤ 60
  rotate_left
  · have da : decide ((nodesR a : Int) ≤ 60) = false := by simpa using hna
    rw [da] at ca
    go_wp2_with fail
    (with_reducible refine ca.mono ?_)
    rintro e w2 ⟨rfl, b2⟩
    go_wp2
    go_ret
    exact ⟨rfl, via b2 B1⟩
  have da : decide ((nodesR a : Int) ≤ 60) = true := by simpa using hna
  rw [da] at ca
  go_wp2_with fail
  (with_reducible refine ca.mono ?_)
  rintro e w2 ⟨rfl, b2⟩
  have xa2 := xa1.next b2
  have xb2 := xb1.next b2
  have B2 := via b2 B1
  have HA2 := Lib.hid (HA1.out.bel b2)
  have HB2 := Lib.hid (HB1.out.bel b2)
  clear xa1 xb1 HA1 HB1 b2 B1 ca da p0 p1 p2 p3 p4 p5 p6 p7 p8
  have cb := CSB.out _ HB2.out
  have p0 := xb2.cell 0
  have p1 := xb2.cell 1
  have p2 := xb2.cell 2
  have p3 := xb2.cell 3
  have p4 := xb2.cell 4
  have p5 := xb2.cell 5
  have p6 := xb2.cell 6
  have p7 := xb2.cell 7
  have p8 := xb2.cell 8
  simp only [List.getElem?_toArray, List.getElem?_cons_zero, List.getElem?_cons_succ] at p0 p1 p2 p3 p4 p5 p6 p7 p8
  by_cases hnb : (nodesR b : Int) ≤ 60
  rotate_left
  · have db : decide ((nodesR b : Int) ≤ 60) = false := by simpa using hnb
    rw [db] at cb
    go_wp2_with fail
    (with_reducible refine cb.mono ?_)
    rintro e w3 ⟨rfl, b3⟩
    go_wp2
    go_ret
    exact ⟨rfl, via b3 B2⟩
  have db : decide ((nodesR b : Int) ≤ 60) = true := by simpa using hnb
  rw [db] at cb
  go_wp2_with fail
  (with_reducible refine cb.mono ?_)
  rintro e w3 ⟨rfl, b3⟩
  have xa3 := xa2.next b3
  have xb3 := xb2.next b3
  have B3 := via b3 B2
  have HA3 := Lib.hid (HA2.out.bel b3)
  have HB3 := Lib.hid (HB2.out.bel b3)
  clear xa2 xb2 HA2 HB2 b3 B2 cb db p0 p1 p2 p3 p4 p5 p6 p7 p8
  have cp := fun x : Cls w3 => call_cls (x := x) (v := .bool (sameR a b)) (same_c (nodesR a) a (Nat.le_refl _) (by omega) b x.val _ _ (HA3.out.bel x.ok) (HB3.out.bel x.ok))
  have cq := fun x : Cls w3 => call_cls (x := x) (v := .bool (sameR a b)) (sameq_c (nodesR a) a (Nat.le_refl _) (by omega) b x.val _ _ (HA3.out.bel x.ok) (HB3.out.bel x.ok))
  have c3 := fun x : Cls w3 => call_cls (x := x) (v := .bool (sameR a a)) (same_c (nodesR a) a (Nat.le_refl _) (by omega) a x.val _ _ (HA3.out.bel x.ok) (HA3.out.bel x.ok))
  have c4 := fun x : Cls w3 => call_cls (x := x) (v := .bool (sameR b b)) (same_c (nodesR b) b (Nat.le_refl _) (by omega) b x.val _ _ (HB3.out.bel x.ok) (HB3.out.bel x.ok))
  rw [same_yes] at c3 c4
  have p0 := fun x : Cls w3 => xa3.cls x 0
  have p1 := fun x : Cls w3 => xa3.cls x 1
  have p2 := fun x : Cls w3 => xa3.cls x 2
  have p3 := fun x : Cls w3 => xa3.cls x 3
  have p4 := fun x : Cls w3 => xa3.cls x 4
  have p5 := fun x : Cls w3 => xa3.cls x 5
  have p6 := fun x : Cls w3 => xa3.cls x 6
  have p7 := fun x : Cls w3 => xa3.cls x 7
  have p8 := fun x : Cls w3 => xa3.cls x 8
  have q0 := fun x : Cls w3 => xb3.cls x 0
  have q1 := fun x : Cls w3 => xb3.cls x 1
  have q2 := fun x : Cls w3 => xb3.cls x 2
  have q3 := fun x : Cls w3 => xb3.cls x 3
  have q4 := fun x : Cls w3 => xb3.cls x 4
  have q5 := fun x : Cls w3 => xb3.cls x 5
  have q6 := fun x : Cls w3 => xb3.cls x 6
  have q7 := fun x : Cls w3 => xb3.cls x 7
  have q8 := fun x : Cls w3 => xb3.cls x 8
  simp only [List.getElem?_toArray, List.getElem?_cons_zero, List.getElem?_cons_succ] at p0 p1 p2 p3 p4 p5 p6 p7 p8 q0 q1 q2 q3 q4 q5 q6 q7 q8
  clear hna hnb xa3 xb3 CSA CSB
  generalize sameR a b = sb at *
  have h1 : (sb == sb) = true := by simp
  go_wp2_with fail
  refine wp_region_cls (by kernel_rfl) (by kernel_rfl) ?_
  repeat (quiet_step (first
    | (go_at_call 14; first | (with_reducible exact cp _) | (with_reducible exact c3 _) | (with_reducible exact c4 _))
    | (go_at_call 10; with_reducible exact cq _)))
  refine wpQuiet_nil ?_
  rintro _ ⟨y, rfl⟩
  have hB9 := via y.ok B3
  generalize y.val = w9 at *
  go_wp2
  go_ret
  exact ⟨rfl, hB9⟩
end EreX
end Go.Proofs.YtdonokghemhfiaaDoor
