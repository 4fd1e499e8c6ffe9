/- The walks of Print and May. Conditions: trees that fit. -/
import Derived.Test.YtpdmjegbjcefjaaDoorEreTx
import Derived.Test.YtpdmjegbjcefjaaDoorEreRb
import Derived.Test.YtpdmjegbjcefjaaDoorEreO
import Derived.Test.YtpdmjegbjcefjaaDoorEreF
namespace Go.Proofs.YtpdmjegbjcefjaaDoor
set_option linter.unusedVariables false
set_option linter.unusedSimpArgs false
open Go.RowKit
namespace EreX
open EreP EreW QuoB
mutual
theorem right_ok : ∀ (r : Re) (lv d g q : Nat), rightR r lv d g = some q → okT r = true
  | .mk k s kids lo hi n, lv, d, g, q => by
    intro h
    have ih := rightL_ok kids
    have hz : kids.length = 0 → okTL kids = true := fun e => by rw [List.length_eq_zero_iff.1 e]; rfl
    rw [okT]
    unfold rightR at h
    repeat' split at h
    all_goals first
      | cases h; done
      | (have h1 := ih _ _ _ _ h; rw [h1]; have h2 : k ≠ 6 := (by omega); simp [h2]; done)
      | (have h1 := ih _ _ _ _ h; rw [h1]; simp_all; done)
      | (have h1 := hz (by omega); rw [h1]; have h2 : k ≠ 6 := (by omega); simp [h2])
theorem rightL_ok : ∀ (l : List Re) (lv d g q : Nat), rightL l lv d g = some q → okTL l = true
  | [], lv, d, g, q => by intro _; rfl
  | x :: l, lv, d, g, q => by
    intro h
    rw [rightL] at h
    rw [okTL, Bool.and_eq_true]
    cases hx : rightR x lv d g with
    | none => rw [hx] at h; cases h
    | some g' =>
      rw [hx] at h
      exact ⟨right_ok x lv d g g' hx, rightL_ok l lv d g' q h⟩
end
/-- What Print tells. -/
def printR (r : Re) : Bs × Int := match rightR r 0 0 0 with
  | none => ([], 5)
  | some _ => if 200 < (textR r).length then ([], 2) else (textR r, 0)
set_option maxHeartbeats 3200000 in
set_option maxRecDepth 100000 in
theorem print_c {K : Nat → Prop} (r : Re) (w : World) (cs : List Value) (h : Rt w K r cs) (hn : nodesR r ≤ 1073741824) :
    Calls Tryd.prog 41 #[.agg cs.toArray] w fun x w' => x = .returned (.tuple #[.string ⟨(printR r).1.toArray⟩, .int .i64 (printR r).2]) ∧ Below w.heap.size w w' := by
  obtain ⟨A, c, rfl, hS, hnil⟩ := h.shape
  have h2 := h.lt_
  generalize hk0 : r.kind = k0 at *
  generalize hk1 : r.set = k1 at *
  generalize hk2 : r.kids.length = k2 at *
  generalize hk3 : r.lo = k3 at *
  generalize hk4 : r.hi = k4 at *
  generalize hk5 : r.n = k5 at *
  obtain ⟨wj, hwj⟩ : ∃ z : World, z = (w.alloc (.cells (reC k0 k1 A k2 c k3 k4 k5).toArray 27)).alloc (.cells #[.int .i64 0] 95) := ⟨_, rfl⟩
  have xj : Blk wj w.heap.size 27 (reC k0 k1 A k2 c k3 k4 k5).toArray := by rw [hwj]; exact (Blk.new _ _ _).alloc _
  have jj : Jdg wj (w.heap.size + 1) 0 := by rw [hwj]; exact Blk.new1 _ _ _ _
  have bj : Below w.heap.size w wj := by rw [hwj]; go_grown
  have zj : wj.heap.size = w.heap.size + 2 := by rw [hwj, World.size_alloc, World.size_alloc]
  have hj := h2.bel bj
  have cr := right_c (nodesR r) r (Nat.le_refl _) wj _ (w.heap.size + 1) 0 0 0 hj jj (fun b hb => by have := hb.2; omega) (by omega) (by omega) (by omega)
  unfold JPost at cr
  rw [show ((0 : Nat) : Int) = 0 from rfl] at cr
  have p0 := xj.cell 0
  have p1 := xj.cell 1
  have p2 := xj.cell 2
  have p3 := xj.cell 3
  have p4 := xj.cell 4
  have p5 := xj.cell 5
  have p6 := xj.cell 6
  have p7 := xj.cell 7
  have p8 := xj.cell 8
  simp only [List.getElem?_toArray, List.getElem?_cons_zero, List.getElem?_cons_succ] at p0 p1 p2 p3 p4 p5 p6 p7 p8
  have HH := Lib.hid hj
  have hok := right_ok r 0 0 0
  obtain ⟨PR, hPR⟩ : ∃ PR, printR r = PR := ⟨_, rfl⟩
  rw [hPR]
  unfold printR at hPR
  obtain ⟨RR, hRR⟩ : ∃ RR, rightR r 0 0 0 = RR := ⟨_, rfl⟩
  rw [hRR] at cr hok hPR
  have HPR := Lib.hid hPR
  clear hRR h h2 hj jj hPR
  go_enter Tryd.func41, Tryd.ntmps41
  go_wp2_with fail
  rw [← hwj]
  clear hwj
  (with_reducible refine cr.mono ?_)
  rintro e w2 ⟨rfl, t2, _⟩
  have b2 : Below w.heap.size w w2 := t2.below bj (fun k hk => by have e : k = w.heap.size + 1 := hk; omega) (by omega)
  have z2 := t2.size
  have x2 := xj.tch t2 (by show ¬ (w.heap.size = w.heap.size + 1); omega)
  have HR2 := Lib.hid (HH.out.tch t2 (fun b hb e => by have := hb.2; have e : b = w.heap.size + 1 := e; omega))
  clear cr t2 p0 p1 p2 p3 p4 p5 p6 p7 p8 xj HH
  cases RR with
  | none =>
    clear hok HR2
    have hz : PR = ([], 5) := HPR.out.symm
    subst hz
    go_wp2
    go_ret2
    exact ⟨rfl, b2⟩
  | some q =>
    have hok := hok q rfl
    obtain ⟨w3, hw3⟩ : ∃ z : World, z = w2.alloc (.cells #[.pointer none, .slice none 0 0] BT) := ⟨_, rfl⟩
    have bb : Blk w3 w2.heap.size BT #[.pointer none, .slice none 0 0] := by rw [hw3]; exact Blk.new _ _ _
    have hI : IsB w.heap.size w2.heap.size [] w3 := Or.inl ⟨by omega, .slice none 0 0, bb, World.ownsRowF_nil _ _ _ _, by simp [Value.ownBlock]⟩
    have b3 : Below w.heap.size w w3 := by rw [hw3]; exact b2.alloc (by omega) _
    have x3 : Blk w3 w.heap.size 27 (reC k0 k1 A k2 c k3 k4 k5).toArray := by rw [hw3]; exact x2.alloc _
    have HR3 := Lib.hid (show Rt w3 (fun b => K b ∧ b < w.heap.size) r _ by rw [hw3]; exact HR2.out.bel ((Below.refl _ _).alloc (Nat.le_refl _) _))
    have z3 := b3.size
    have ct := text_c w.heap.size w2.heap.size (fun g hg => hg.2) (nodesR r) r (Nat.le_refl _) w3 _ [] HR3.out hI z3 hok (by simp; omega)
    have q0 := (x2.alloc (.cells #[.pointer none, .slice none 0 0] BT)).cell 0
    have q1 := (x2.alloc (.cells #[.pointer none, .slice none 0 0] BT)).cell 1
    have q2 := (x2.alloc (.cells #[.pointer none, .slice none 0 0] BT)).cell 2
    have q3 := (x2.alloc (.cells #[.pointer none, .slice none 0 0] BT)).cell 3
    have q4 := (x2.alloc (.cells #[.pointer none, .slice none 0 0] BT)).cell 4
    have q5 := (x2.alloc (.cells #[.pointer none, .slice none 0 0] BT)).cell 5
    have q6 := (x2.alloc (.cells #[.pointer none, .slice none 0 0] BT)).cell 6
    have q7 := (x2.alloc (.cells #[.pointer none, .slice none 0 0] BT)).cell 7
    have q8 := (x2.alloc (.cells #[.pointer none, .slice none 0 0] BT)).cell 8
    simp only [List.getElem?_toArray, List.getElem?_cons_zero, List.getElem?_cons_succ] at q0 q1 q2 q3 q4 q5 q6 q7 q8
    unfold TPost at ct
    rw [List.nil_append] at ct
    have hz : PR = if 200 < (textR r).length then ([], 2) else (textR r, 0) := HPR.out.symm
    clear HPR
    obtain ⟨TX, hTX⟩ : ∃ TX, textR r = TX := ⟨_, rfl⟩
    rw [hTX] at hz ct
    have HZ := Lib.hid hz
    clear hz hTX
    clear HR2 HR3 hok x2 bb hI
    go_wp2_with fail
    rw [← hw3]
    clear hw3
    (with_reducible refine ct.mono ?_)
    rintro e w4 ⟨rfl, I4, W4⟩
    have b4 : Below w.heap.size w w4 := b3.trans W4.below
    have cl := Tryd.Builder_Len_f _ _ _ w4 I4
    rw [Lib.byteCells_length] at cl
    have cst := Tryd.Builder_String_any_f _ _ _ w4 I4 b4.size
    clear ct q0 q1 q2 q3 q4 q5 q6 q7 q8 x3 I4 W4 b3 z3
    by_cases hlen : 200 < TX.length
    · have d : decide ((200 : Int) < (TX.length : Int)) = true := by simp; omega
      have hz := HZ.out
      rw [if_pos hlen] at hz
      subst hz
      go_wp2_with fail
      (with_reducible refine cl.mono ?_)
      rintro e w5 ⟨rfl, rfl⟩
      go_wp2
      go_ret2
      exact ⟨rfl, b4⟩
    · have d : decide ((200 : Int) < (TX.length : Int)) = false := by simp; omega
      have hz := HZ.out
      rw [if_neg hlen] at hz
      subst hz
      go_wp2_with fail
      (with_reducible refine cl.mono ?_)
      rintro e w5 ⟨rfl, rfl⟩
      go_wp2_with fail
      (with_reducible refine cst.mono ?_)
      rintro e w6 ⟨rfl, _, b6⟩
      go_wp2
      go_ret2
      exact ⟨rfl, b4.trans b6⟩
set_option maxHeartbeats 1600000 in
set_option maxRecDepth 100000 in
theorem may_c {K : Nat → Prop} (r : Re) (w : World) (cs : List Value) (h : Rt w K r cs) (hn : nodesR r ≤ 1073741824) :
    Calls Tryd.prog 23 #[.agg cs.toArray] w fun x w' => x = .returned (.bool ((printR r).2 == 0)) ∧ Below w.heap.size w w' := by
  obtain ⟨A, c, rfl, hS, hnil⟩ := h.shape
  have cp := fun W (hW : Below w.heap.size w W) => print_c r W _ (h.bel hW) hn
  generalize printR r = PR at *
  generalize hk0 : r.kind = k0 at *
  generalize hk1 : r.set = k1 at *
  generalize hk2 : r.kids.length = k2 at *
  generalize hk3 : r.lo = k3 at *
  generalize hk4 : r.hi = k4 at *
  generalize hk5 : r.n = k5 at *
  obtain ⟨wj, hwj⟩ : ∃ z : World, z = (w.alloc (.cells (reC k0 k1 A k2 c k3 k4 k5).toArray 27)) := ⟨_, rfl⟩
  have bj : Below w.heap.size w wj := by rw [hwj]; go_grown
  go_enter Tryd.func23, Tryd.ntmps23
  go_wp2_with fail
  rw [← hwj]
  (with_reducible refine (cp wj bj).mono ?_)
  rintro e w2 ⟨rfl, b2⟩
  go_wp2
  go_ret
  exact ⟨rfl, via b2 bj⟩
end EreX
end Go.Proofs.YtpdmjegbjcefjaaDoor
namespace Go.Proofs.YtpdmjegbjcefjaaDoor
set_option linter.unusedVariables false
set_option linter.unusedSimpArgs false
open Go.RowKit
namespace EreX
open EreP EreW
abbrev R0 : Re := .mk 4 0 [.mk 6 0 [.mk 7 0 [.mk 5 0 [.mk 1 (1 <<< 97) [] 0 0 0, .mk 1 (1 <<< 98) [] 0 0 0] 0 0 0] 0 0 1] 0 (-1) 0, .mk 3 0 [] 0 0 0] 0 0 0
theorem r0_parse : parseP [40, 97, 124, 98, 41, 42, 36] = .ok R0 := by kernel_rfl
theorem r0_print : printR R0 = ([40, 97, 124, 98, 41, 42, 36], 0) := by kernel_rfl
theorem r0_groups : groupsR R0 = 1 := by kernel_rfl
theorem r0_nodes : nodesR R0 = 7 := by kernel_rfl
theorem r1_parse : parseP [97, 42, 42] = .error (2, 1) := by kernel_rfl
end EreX
end Go.Proofs.YtpdmjegbjcefjaaDoor
namespace Go.Proofs.YtpdmjegbjcefjaaDoor
set_option linter.unusedVariables false
set_option linter.unusedSimpArgs false
open Go.RowKit
namespace EreX
open EreP EreW
end EreX
end Go.Proofs.YtpdmjegbjcefjaaDoor
