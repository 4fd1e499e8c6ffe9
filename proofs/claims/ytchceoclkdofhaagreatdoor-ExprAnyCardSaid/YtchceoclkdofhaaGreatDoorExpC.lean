/- An expression in brackets: the law walked. Condition: the table of strconv. -/
import Derived.Test.YtchceoclkdofhaaGreatDoorExpHM
import Derived.Test.YtchceoclkdofhaaGreatDoorExpBM
namespace Go.Proofs.YtchceoclkdofhaaGreatDoor
set_option linter.unusedVariables false
set_option linter.unusedSimpArgs false
open Go.RowKit
namespace ExpW
open CalP CalW ExpP ExpT QuoP Tok
theorem parse0 (i : Int) (h : 0 ≤ i ∧ i ≤ 0) : parseX [] i = (zEx, 0, 1) := by
  obtain rfl : i = 0 := by omega
  kernel_rfl
theorem tks_nil {w : World} {B : Nat} {A : Option Addr} : Tks w B A [] := fun h => absurd h (Nat.not_lt_zero _)
theorem brk_cat (s : ByteArray) : (⟨#[40]⟩ : ByteArray) ++ s ++ ⟨#[10, 41]⟩ = brk s := by
  apply bytes_ext
  rw [brk_list]
  simp
set_option maxRecDepth 100000 in
set_option maxHeartbeats 6400000 in
theorem brackets_c (s : ByteArray) (w : World) (ht : Tab w) : Calls Tryz.prog 4 #[.string s] w fun x w' => x = .returned (.bool true) ∧ Below w.heap.size w w' := by
  have c0 := awake_c w ht
  by_cases hs : s.size ≤ 100
  rotate_left
  · have d1 : decide ((100 : Int) < (s.size : Int)) = true := decide_eq_true (by omega)
    go_enter Tryz.func4, Tryz.ntmps4
    go_wp2_with fail
    (with_reducible refine c0.mono ?_)
    rintro x w1 ⟨rfl, b1⟩
    go_wp2_with fail
    go_ret
    exact ⟨rfl, b1⟩
  have d1 : decide ((100 : Int) < (s.size : Int)) = false := decide_eq_false (by omega)
  have c1 := fun W => scan_c s W
  unfold ScanPost at c1
  have HC1 := Lib.hid c1
  clear c1
  go_enter Tryz.func4, Tryz.ntmps4
  go_wp2_with fail
  (with_reducible refine c0.mono ?_)
  clear c0
  rintro x w1 ⟨rfl, b1⟩
  have c1 := HC1.out w1
  clear HC1
  go_wp2_with fail
  (with_reducible refine c1.mono ?_)
  clear c1
  rintro x w2 ⟨b2, ⟨A, c, l, hsc, hll, rfl, hT⟩ | ⟨b, er, _, hne, rfl⟩⟩
  rotate_left
  · have c2 := parse_c none 0 [] 0 w2 tks_nil (by simp)
    unfold PaX at c2
    rw [parse0 0 (by omega)] at c2
    have c2' : Calls Tryz.prog 14 #[.slice none 0 0, .int .i64 0] w2 _ := c2
    clear c2
    have qe : (er != 0) = true := by simpa using hne
    have B2 := via b2 b1
    clear b1 b2 hne
    go_wp2_with fail
    (with_reducible refine c2'.mono ?_)
    clear c2'
    rintro x w3 ⟨b3, y, cs, k, e, rfl, hE, hp⟩
    injection hp with hp1 hp2
    injection hp2 with hp2 hp3
    subst hp2 hp3
    have B3 := via b3 B2
    obtain ⟨A3, c3, rfl⟩ := hE.shape
    clear hE hp1 B2 b3
    generalize y.kind = k0 at *
    generalize y.n = k1 at *
    generalize y.name = k3 at *
    generalize y.op = k4 at *
    generalize y.kids.length = k2 at *
    go_wp2_with fail
    go_ret
    exact ⟨rfl, B3.alloc B3.size _⟩
  have B2 := via b2 b1
  clear b1 b2
  have c2 := parse_c A c l 0 w2 hT (by omega)
  unfold PaX at c2
  clear hT
  go_wp2_with fail
  (with_reducible refine c2.mono ?_)
  clear c2
  rintro x w3 ⟨b3, y, cs, k, e, rfl, hE, hp⟩
  have B3 := via b3 B2
  have hE2 := et_lt hE
  clear hE b3 B2
  obtain ⟨w4, hw4⟩ : ∃ z : World, w3.alloc (.cells cs.toArray 24) = z := ⟨_, rfl⟩
  have b4 : Below w3.heap.size w3 w4 := by rw [← hw4]; go_grown
  have x4 : Blk w4 w3.heap.size 24 cs.toArray := by rw [← hw4]; exact Blk.new _ _ _
  have hE4 := et_lt (hE2.bel b4)
  have B4 := via b4 B3
  clear hE2 b4 B3
  by_cases he : e = 0
  rotate_left
  · have qe : (e != 0) = true := by simpa using he
    obtain ⟨A3, c3, rfl⟩ := hE4.shape
    clear hE4 hp hsc x4
    generalize y.kind = k0 at *
    generalize y.n = k1 at *
    generalize y.name = k3 at *
    generalize y.op = k4 at *
    generalize y.kids.length = k2 at *
    go_wp2_with fail
    go_ret
    exact ⟨rfl, B4⟩
  subst he
  by_cases hk : k = l.length
  rotate_left
  · have qk : ((k : Int) == (l.length : Int)) = false := by simpa using fun h => hk (by omega)
    have qk2 : ((k : Int) != (l.length : Int)) = true := by simpa using fun h => hk (by omega)
    obtain ⟨A3, c3, rfl⟩ := hE4.shape
    clear hE4 hp hsc x4
    generalize l.length = ll at *
    generalize y.kind = k0 at *
    generalize y.n = k1 at *
    generalize y.name = k3 at *
    generalize y.op = k4 at *
    generalize y.kids.length = k2 at *
    go_wp2_with fail
    go_ret
    exact ⟨rfl, B4⟩
  subst hk
  have hbz := brk_size s
  have c5 := fun W => scan_c (brk s) W
  unfold ScanPost at c5
  rw [scan_brk hsc] at c5
  have hcat := brk_cat s
  have HPB := Lib.hid (parse_brk hp)
  have hsq : ∀ (z : Ex) (W : World) (cs' : List Value) (K' : Nat → Prop), y = z → Below w4.heap.size w4 W → Et W K' z cs' → Calls Tryz.prog 12 #[.agg cs.toArray, .agg cs'.toArray] W fun x w' => x = .returned (.bool true) ∧ Below W.heap.size W w' := by
    intro z W cs' K' hz hb hE'
    subst hz
    have hfin : nodesE y ≤ 4611686018427387904 := by
      have := parse_nodes hp
      omega
    have := sameq_c (nodesE y) y (Nat.le_refl _) hfin y W cs cs' (hE4.bel hb) hE'
    rwa [(same_iff y y).2 rfl] at this
  have HSQ := Lib.hid hsq
  have HC5 := Lib.hid c5
  clear hsq c5 hp hsc
  obtain ⟨A3, c3, rfl⟩ := hE4.shape
  clear hE4
  obtain ⟨ll, hll2⟩ : ∃ ll, l.length = ll := ⟨_, rfl⟩
  have hbl : (brkL l).length = ll + 2 := by simp [hll2]
  rw [hll2] at hll ⊢
  obtain ⟨S, hS⟩ : ∃ S, brk s = S := ⟨_, rfl⟩
  rw [hS] at hcat hbz HC5
  clear hS
  have hml : (ll : Int) ≤ 100 := by omega
  have p0 := x4.cell 0
  have p1 := x4.cell 1
  have p2 := x4.cell 2
  have p3 := x4.cell 3
  have p4 := x4.cell 4
  simp only [List.getElem?_toArray, List.getElem?_cons_zero, List.getElem?_cons_succ] at p0 p1 p2 p3 p4
  generalize y.kind = k0 at *
  generalize y.n = k1 at *
  generalize y.name = k3 at *
  generalize y.op = k4 at *
  generalize y.kids.length = k2 at *
  have c5 := HC5.out w4
  clear HC5 p0 p1 p2 p3 p4
  go_upto_region 9 with fail
  try rw [hw4]
  clear hw4
  go_wp2_with fail
  (with_reducible refine c5.mono ?_)
  clear c5
  rintro x w5 ⟨b5, ⟨A5, c5, l5, e5, _, rfl, hT5⟩ | ⟨b, er, e5 | e5, _, _⟩⟩
  rotate_left
  · cases e5
  · omega
  injection e5 with e5
  subst e5
  have c6 := parse_c A5 c5 (brkL l) 0 w5 hT5 (by omega)
  unfold PaX at c6
  rw [hbl] at c6 ⊢
  clear hT5
  go_wp2_with fail
  (with_reducible refine c6.mono ?_)
  clear c6
  rintro x w6 ⟨b6, z, cs6, k6, e6, rfl, hE6, hp6⟩
  have b7 := via b6 b5
  have x6 := x4.next b7
  have B6 := via b7 B4
  obtain ⟨w7, hw7⟩ : ∃ z : World, w6.alloc (.cells cs6.toArray 24) = z := ⟨_, rfl⟩
  have b8 : Below w6.heap.size w6 w7 := by rw [← hw7]; go_grown
  have x7 := x6.next b8
  have y7 : Blk w7 w6.heap.size 24 cs6.toArray := by rw [← hw7]; exact Blk.new _ _ _
  have B7 := via b8 B6
  have b9 := via b8 b7
  have hE7 := hE6.bel b8
  clear b5 b6 b7 b8 x4 x6 B4 B6 hE6
  rcases HPB.out z k6 e6 hp6 with rfl | ⟨rfl, hk6, hyz⟩
  · obtain ⟨A6, c6, rfl⟩ := hE7.shape
    clear hE7 hp6 HPB HSQ y7 x7
    generalize z.kind = z0 at *
    generalize z.n = z1 at *
    generalize z.name = z3 at *
    generalize z.op = z4 at *
    generalize z.kids.length = z2 at *
    go_wp2_with fail
    go_ret
    exact ⟨rfl, B7⟩
  have cq := HSQ.out z w7 cs6 _ hyz b9 hE7
  rw [hll2] at hk6
  have hk7 : (k6 : Int) = (ll : Int) + 2 := by omega
  obtain ⟨A6, c6, rfl⟩ := hE7.shape
  clear hE7 hp6 HPB HSQ hyz hk6
  have p0 := x7.cell 0
  have p1 := x7.cell 1
  have p2 := x7.cell 2
  have p3 := x7.cell 3
  have p4 := x7.cell 4
  have q0 := y7.cell 0
  have q1 := y7.cell 1
  have q2 := y7.cell 2
  have q3 := y7.cell 3
  have q4 := y7.cell 4
  simp only [List.getElem?_toArray, List.getElem?_cons_zero, List.getElem?_cons_succ] at p0 p1 p2 p3 p4 q0 q1 q2 q3 q4
  generalize z.kind = z0 at *
  generalize z.n = z1 at *
  generalize z.name = z3 at *
  generalize z.op = z4 at *
  generalize z.kids.length = z2 at *
  have qk : ((k6 : Int) == (ll : Int) + 2) = true := by rw [hk7]; exact beq_self_eq_true _
  clear hk7
  go_wp2_with fail
  (with_reducible refine cq.mono ?_)
  clear cq p0 p1 p2 p3 p4 q0 q1 q2 q3 q4
  rintro x w8 ⟨rfl, b8⟩
  have B8 := via b8 B7
  go_wp2_with fail
  go_ret
  exact ⟨rfl, B8⟩
end ExpW
end Go.Proofs.YtchceoclkdofhaaGreatDoor
