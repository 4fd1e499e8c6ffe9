/- The law of ExprAny walked. Condition: the table of strconv. -/
import Derived.Test.YtchceoclkdofhaaGreatDoorExpHM
import Derived.Test.YtchceoclkdofhaaGreatDoorExpC
namespace Go.Proofs.YtchceoclkdofhaaGreatDoor
set_option linter.unusedVariables false
set_option linter.unusedSimpArgs false
open Go.RowKit
namespace ExpW
open CalP CalW ExpP ExpT QuoP Tok
theorem rmay_c {K : Nat → Prop} : ∀ (N : Nat) (r : Ex), nodesE r ≤ N → ∀ (w : World) (cs : List Value) (d : Nat), Et w K r cs → shortE r → d ≤ 64 →
    Calls Tryz.prog 17 #[.agg cs.toArray, .int .i64 d] w fun x w' => x = .returned (.bool (rightE r d)) ∧ Below w.heap.size w w' := by
  intro N
  induction N with
  | zero => intro r h; have := nodes_pos r; omega
  | succ N ih =>
    intro r hN w cs d h hs hd
    obtain ⟨k, n, nm, op, kids⟩ := r
    obtain ⟨A, c, rfl⟩ := h.shape
    rw [shortE] at hs
    rw [nodesE] at hN
    refine rmay_step k n nm op kids A c w d h hs.1 hd (fun i hi W cs2 h2 hd2 => ?_)
    exact ih _ (by have := nodes_kid kids i hi; omega) W cs2 (d + 1) h2 (short_kid kids i hi hs.2.2) hd2
set_option maxRecDepth 100000 in
set_option maxHeartbeats 6400000 in
theorem any_c (s : ByteArray) (i : Int) (w : World) (ht : Tab w) : Calls Tryz.prog 6 #[.string s, .int .i64 i] w fun x w' => x = .returned (.bool true) ∧ Below w.heap.size w w' := by
  have c0 := awake_c w ht
  by_cases hs : s.size ≤ 150
  rotate_left
  · have d1 : decide ((150 : Int) < (s.size : Int)) = true := decide_eq_true (by omega)
    go_enter Tryz.func6, Tryz.ntmps6
    go_wp2_with fail
    (with_reducible refine c0.mono ?_)
    rintro x w1 ⟨rfl, b1⟩
    go_wp2_with fail
    go_ret
    exact ⟨rfl, b1⟩
  have d1 : decide ((150 : Int) < (s.size : Int)) = false := decide_eq_false (by omega)
  have c1 : ∀ W, Calls Tryz.prog 13 #[.string s] W fun x w' => Below W.heap.size W w' ∧ ∃ (A : Option Addr) (c : Nat) (l : List Tk) (b er : Int), x = .returned (.tuple #[.slice A l.length c, .int .i64 b, .int .i64 er]) ∧ l.length ≤ 150 ∧ Words l ∧ Tks w' w'.heap.size A l := by
    intro W
    refine (scan_c s W).mono ?_
    rintro x w2 ⟨b2, ⟨A, c, l, hsc, hll, rfl, hT⟩ | ⟨b, er, _, hne, rfl⟩⟩
    · exact ⟨b2, A, c, l, 0, 0, rfl, by omega, scan_words _ _ l hsc, hT⟩
    · exact ⟨b2, none, 0, [], b, er, rfl, by simp, (fun t ht => by cases ht), tks_nil⟩
  go_enter Tryz.func6, Tryz.ntmps6
  go_wp2_with fail
  (with_reducible refine c0.mono ?_)
  clear c0
  rintro x w1 ⟨rfl, b1⟩
  have c1 := c1 w1
  go_wp2_with fail
  (with_reducible refine c1.mono ?_)
  clear c1
  rintro x w2 ⟨b2, A, c, l, b, er, rfl, hl, hw, hT⟩
  have B2 := via b2 b1
  clear b1 b2
  have c2 := parse_c A c l i w2 hT (by omega)
  unfold PaX at c2
  have hsh := parse_short hw i
  have hnd := fun x k e => parse_nodes (l := l) (i := i) (x := x) (k := k) (e := e)
  have c3 := fun W (hb : Below w2.heap.size w2 W) => parseq_c A c l i W (tks_more (hT.bel hb) hb.size) (by omega)
  unfold PaX at c3
  clear hT hw
  obtain ⟨R, hR⟩ : ∃ R, parseX l i = R := ⟨_, rfl⟩
  rw [hR] at c2 c3 hsh hnd
  obtain ⟨y, k, e⟩ := R
  have hnd := hnd y k e rfl
  dsimp only at hsh
  clear hR
  obtain ⟨ll, hll⟩ : ∃ ll, l.length = ll := ⟨_, rfl⟩
  rw [hll] at c2 c3 hl hnd ⊢
  clear hll
  have HC3 := Lib.hid c3
  clear c3
  go_wp2_with fail
  (with_reducible refine c2.mono ?_)
  clear c2
  rintro x w3 ⟨b3, y', cs, k', e', rfl, hE, hp⟩
  injection hp with hp1 hp2
  injection hp2 with hp2 hp3
  subst hp1 hp2 hp3
  have B3 := via b3 B2
  have hE2 := et_lt hE
  clear hE
  obtain ⟨w4, hw4⟩ : ∃ z : World, w3.alloc (.cells cs.toArray 24) = z := ⟨_, rfl⟩
  have b4 : Below w3.heap.size w3 w4 := by rw [← hw4]; go_grown
  have x4 : Blk w4 w3.heap.size 24 cs.toArray := by rw [← hw4]; exact Blk.new _ _ _
  have hE4 := et_lt (hE2.bel b4)
  have B4 := via b4 B3
  have c5 := HC3.out w4 (via b4 b3)
  clear hE2 b4 B3 HC3 b3
  obtain ⟨k0, k1, k3, k4, A3, k2, c3, rfl⟩ := et_both hE4
  go_upto_region 7 with fail
  try rw [hw4]
  clear hw4
  go_wp2_with fail
  (with_reducible refine c5.mono ?_)
  clear c5
  rintro x w5 ⟨b5, z, cs6, k6, e6, rfl, hE5, hp⟩
  injection hp with hp1 hp2
  injection hp2 with hp2 hp3
  subst hp1 hp2 hp3
  have x5 := x4.next b5
  have B5 := via b5 B4
  have hE45 := hE4.bel b5
  obtain ⟨w6, hw6⟩ : ∃ z : World, w5.alloc (.cells cs6.toArray 24) = z := ⟨_, rfl⟩
  have b6 : Below w5.heap.size w5 w6 := by rw [← hw6]; go_grown
  have x6 := x5.next b6
  have y6 : Blk w6 w5.heap.size 24 cs6.toArray := by rw [← hw6]; exact Blk.new _ _ _
  have hE6 := hE45.bel b6
  have hF6 := et_lt (hE5.bel b6)
  have B6 := via b6 B5
  clear b5 b6 x4 x5 hE4 hE45 hE5 B4 B5
  obtain ⟨z0, z1, z3, z4, A6, z2, c6, rfl⟩ := et_both hF6
  have HSM := Lib.hid (fun (W : World) (hb : Below w6.heap.size w6 W) => (sameq_c (nodesE y) y (Nat.le_refl _) (by omega) y W _ _ (hE6.bel hb) (hF6.bel hb)))
  have HM := Lib.hid (fun (W : World) (hb : Below w6.heap.size w6 W) => may_c y W _ (hE6.bel hb) hsh)
  have HRM := Lib.hid (fun (W : World) (hb : Below w6.heap.size w6 W) => rmay_c (nodesE y) y (Nat.le_refl _) W _ 0 (hE6.bel hb) hsh (by omega))
  clear hE6 hF6 hsh
  go_upto_region 8 with fail
  try rw [hw6]
  clear hw6
  have hsy := (same_iff y y).2 rfl
  have m1 := fun x : Cls w6 => call_cls (x := x) (v := .bool true) (by have := HSM.out x.val x.ok; rw [hsy] at this; exact this)
  have m2 := fun x : Cls w6 => call_cls (x := x) (v := .bool (rightE y 0)) (HM.out x.val x.ok)
  have m3 : ∀ x : Cls w6, Calls Tryz.prog 17 #[.agg (exC k0 k1 k3 k4 A3 k2 c3).toArray, .int .i64 0] x.val fun e w'' => e = .returned (.bool (rightE y 0)) ∧ ∃ y : Cls w6, w'' = y.val := fun x : Cls w6 => call_cls (x := x) (v := .bool (rightE y 0)) (HRM.out x.val x.ok)
  generalize rightE y 0 = RR at *
  have p0 := fun x : Cls w6 => x6.cls x 0
  have p1 := fun x : Cls w6 => x6.cls x 1
  have p2 := fun x : Cls w6 => x6.cls x 2
  have p3 := fun x : Cls w6 => x6.cls x 3
  have p4 := fun x : Cls w6 => x6.cls x 4
  have q0 := fun x : Cls w6 => y6.cls x 0
  have q1 := fun x : Cls w6 => y6.cls x 1
  have q2 := fun x : Cls w6 => y6.cls x 2
  have q3 := fun x : Cls w6 => y6.cls x 3
  have q4 := fun x : Cls w6 => y6.cls x 4
  simp only [List.getElem?_toArray, List.getElem?_cons_zero, List.getElem?_cons_succ] at p0 p1 p2 p3 p4 q0 q1 q2 q3 q4
  have e1 : ((k : Int) == (k : Int)) = true := by simp
  have e2 : (e == e) = true := by simp
  have e3 : (RR == RR) = true := by simp
  clear HSM HM HRM hsy hnd x6 y6
  go_simp
  cases he : (e != 0)
  all_goals
    refine wp_region_cls (by kernel_rfl) (by kernel_rfl) ?_
    repeat (quiet_step (first
      | (go_at_call 12; with_reducible exact m1 _)
      | (go_at_call 18; with_reducible exact m2 _)
      | (go_at_call 17; with_reducible exact m3 _)))
    refine wpQuiet_nil ?_
    rintro _ ⟨z, rfl⟩
    have B7 := via z.ok B6
    clear m1 m2 m3 p0 p1 p2 p3 p4 q0 q1 q2 q3 q4
    generalize z.val = w7 at *
    go_wp2_with fail
    go_ret
    exact ⟨by first | rfl | simp, B7⟩
end ExpW
end Go.Proofs.YtchceoclkdofhaaGreatDoor
