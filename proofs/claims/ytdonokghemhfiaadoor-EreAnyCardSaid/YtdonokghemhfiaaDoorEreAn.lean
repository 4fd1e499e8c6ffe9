/- The law EreAny. Conditions: none. -/
import Derived.Test.YtdonokghemhfiaaDoorEreNm
import Derived.Test.YtdonokghemhfiaaDoorEreNp
import Derived.Test.YtdonokghemhfiaaDoorEreQw
namespace Go.Proofs.YtdonokghemhfiaaDoor
set_option linter.unusedVariables false
set_option linter.unusedSimpArgs false
open Go.RowKit
namespace EreX
open EreP EreW
theorem post_ok {s : ByteArray} {r : Re} (h : parseP s.data.toList = .ok r) {W : World} {x : Ending} {w' : World} (hp : ParsePost s W x w') : Below W.heap.size W w' ∧
    ∃ A c, x = .returned (.tuple #[.agg (reC r.kind r.set A r.kids.length c r.lo r.hi r.n).toArray, .int .i64 0, .int .i64 0]) ∧ Rt w' (W.heap.size ≤ ·) r (reC r.kind r.set A r.kids.length c r.lo r.hi r.n) := by
  obtain ⟨hb, ⟨r', cs, hp, rfl, hR⟩ | ⟨off, e, _, hp, rfl⟩⟩ := hp
  · rw [h] at hp; injection hp with hp; subst hp
    obtain ⟨A, c, rfl, _, _⟩ := hR.shape
    exact ⟨hb, A, c, rfl, hR⟩
  · rw [h] at hp; cases hp
theorem post_er {s : ByteArray} {n e : Nat} (h : parseP s.data.toList = .error (n, e)) {W : World} {x : Ending} {w' : World} (hp : ParsePost s W x w') : Below W.heap.size W w' ∧ e ≠ 0 ∧
    x = .returned (.tuple #[.agg ([.int .i64 0, .int .u64 0, .int .u64 0, .int .u64 0, .int .u64 0, .slice none 0 0, .int .i64 0, .int .i64 0, .int .i64 0] : List Value).toArray, .int .i64 n, .int .i64 e]) := by
  obtain ⟨hb, ⟨r', cs, hp, rfl, hR⟩ | ⟨off, e', h0, hp, rfl⟩⟩ := hp
  · rw [h] at hp; cases hp
  · rw [h] at hp; injection hp with hp; injection hp with h1 h2
    subst h1; subst h2
    exact ⟨hb, h0, rfl⟩
set_option maxHeartbeats 6400000 in
set_option maxRecDepth 100000 in
theorem any_c (s : ByteArray) (w : World) :
    Calls Tryd.prog 3 #[.string s] w fun x w' => x = .returned (.bool true) ∧ Below w.heap.size w w' := by
  have cw := awake_c w
  by_cases hs : 220 < s.size
  · have d1 : decide ((220 : Int) < (s.size : Int)) = true := by simp; omega
    go_enter Tryd.func3, Tryd.ntmps3
    go_wp2_with fail
    (with_reducible refine cw.mono ?_)
    rintro e w1 ⟨rfl, b1⟩
    go_wp2
    go_ret
    exact ⟨rfl, b1⟩
  have d1 : decide ((220 : Int) < (s.size : Int)) = false := by simp; omega
  cases hp : parseP s.data.toList with
  | error ne =>
    obtain ⟨n, e⟩ := ne
    have cp := fun W => (parse_c s W).mono (fun x w' h => post_er hp h)
    have cq := fun W => (EreN.parseq_c s W).mono (fun x w' h => post_er hp h)
    have hz : ∀ W, Rt W (fun _ => True) (.mk 0 0 [] 0 0 0) ([.int .i64 0, .int .u64 0, .int .u64 0, .int .u64 0, .int .u64 0, .slice none 0 0, .int .i64 0, .int .i64 0, .int .i64 0] : List Value) := fun W => Rt.leaf 0 0 0 0 0 0 (by decide)
    have cs := fun W => sameq_c 1 (.mk 0 0 [] 0 0 0) (by simp [nodesR, nodesL]) (by simp [nodesR, nodesL]) _ W _ _ (hz W) (hz W)
    rw [same_yes] at cs
    have t1 : ((n : Int) != (n : Int)) = false := by simp
    have t2 : ((e : Int) != (e : Int)) = false := by simp
    clear hp hs hz
    go_enter Tryd.func3, Tryd.ntmps3
    go_wp2_with fail
    (with_reducible refine cw.mono ?_)
    rintro x w1 ⟨rfl, b1⟩
    go_wp2_with fail
    (with_reducible refine (cp _).mono ?_)
    rintro x w2 ⟨b2, he, rfl⟩
    have t3 : ((e : Int) != 0) = true := by rw [bne_iff_ne]; omega
    have B2 := via b2 b1
    clear cp cw b1 b2
    obtain ⟨w3, hww3⟩ : ∃ z : World, z = w2.alloc (.cells (([.int .i64 0, .int .u64 0, .int .u64 0, .int .u64 0, .int .u64 0, .slice none 0 0, .int .i64 0, .int .i64 0, .int .i64 0] : List Value)).toArray 28) := ⟨_, rfl⟩
    have Bw3 : Below w.heap.size w w3 := by rw [hww3]; exact B2.alloc B2.size _
    have Uw3 : Below w2.heap.size w2 w3 := by rw [hww3]; exact (Below.refl _ _).alloc (Nat.le_refl _) _
    have V3 : Blk w3 w2.heap.size 28 (([.int .i64 0, .int .u64 0, .int .u64 0, .int .u64 0, .int .u64 0, .slice none 0 0, .int .i64 0, .int .i64 0, .int .i64 0] : List Value)).toArray := by rw [hww3]; exact Blk.new _ _ _
    have p0 := V3.cell 0
    have p1 := V3.cell 1
    have p2 := V3.cell 2
    have p3 := V3.cell 3
    have p4 := V3.cell 4
    have p5 := V3.cell 5
    have p6 := V3.cell 6
    have p7 := V3.cell 7
    have p8 := V3.cell 8
    simp only [List.getElem?_toArray, List.getElem?_cons_zero, List.getElem?_cons_succ] at p0 p1 p2 p3 p4 p5 p6 p7 p8
    go_wp2_with fail
    rw [← hww3]
    clear hww3
    (with_reducible refine (cq _).mono ?_)
    rintro x w4 ⟨b4, _, rfl⟩
    have B4 := via b4 Bw3
    have V4 := V3.next b4
    clear cq b4 Bw3 V3 Uw3 B2
    clear p0 p1 p2 p3 p4 p5 p6 p7 p8
    obtain ⟨w5, hww5⟩ : ∃ z : World, z = w4.alloc (.cells (([.int .i64 0, .int .u64 0, .int .u64 0, .int .u64 0, .int .u64 0, .slice none 0 0, .int .i64 0, .int .i64 0, .int .i64 0] : List Value)).toArray 28) := ⟨_, rfl⟩
    have Bw5 : Below w.heap.size w w5 := by rw [hww5]; exact B4.alloc B4.size _
    have Uw5 : Below w4.heap.size w4 w5 := by rw [hww5]; exact (Below.refl _ _).alloc (Nat.le_refl _) _
    have V5 : Blk w5 w4.heap.size 28 (([.int .i64 0, .int .u64 0, .int .u64 0, .int .u64 0, .int .u64 0, .slice none 0 0, .int .i64 0, .int .i64 0, .int .i64 0] : List Value)).toArray := by rw [hww5]; exact Blk.new _ _ _
    have V5a := V4.next Uw5
    have p0 := V5a.cell 0
    have p1 := V5a.cell 1
    have p2 := V5a.cell 2
    have p3 := V5a.cell 3
    have p4 := V5a.cell 4
    have p5 := V5a.cell 5
    have p6 := V5a.cell 6
    have p7 := V5a.cell 7
    have p8 := V5a.cell 8
    simp only [List.getElem?_toArray, List.getElem?_cons_zero, List.getElem?_cons_succ] at p0 p1 p2 p3 p4 p5 p6 p7 p8
    have q0 := V5.cell 0
    have q1 := V5.cell 1
    have q2 := V5.cell 2
    have q3 := V5.cell 3
    have q4 := V5.cell 4
    have q5 := V5.cell 5
    have q6 := V5.cell 6
    have q7 := V5.cell 7
    have q8 := V5.cell 8
    simp only [List.getElem?_toArray, List.getElem?_cons_zero, List.getElem?_cons_succ] at q0 q1 q2 q3 q4 q5 q6 q7 q8
    rw [hww5] at p0 p1 p2 p3 p4 p5 p6 p7 p8 q0 q1 q2 q3 q4 q5 q6 q7 q8
    go_wp2_with fail
    rw [← hww5]
    clear hww5
    (with_reducible refine (cs _).mono ?_)
    rintro x w6 ⟨rfl, b6⟩
    have B6 := via b6 Bw5
    clear cs b6
    go_wp2
    go_ret
    exact ⟨rfl, B6⟩
  | ok r =>
    obtain ⟨⟨q, hq⟩, hn⟩ := parsed_right hp
    have cp := fun W => (parse_c s W).mono (fun x w' h => post_ok hp h)
    have cq := fun W => (EreN.parseq_c s W).mono (fun x w' h => post_ok hp h)
    have cs := fun W K K' cs cs' (h : Rt W K r cs) (h' : Rt W K' r cs') => sameq_c (nodesR r) r (Nat.le_refl _) (by omega) r W cs cs' h h'
    rw [same_yes] at cs
    have ct := fun W K cs (h : Rt W K r cs) => textq_c (nodesR r) r (Nat.le_refl _) W cs h ⟨0, 0, 0, q, hq⟩ (by omega)
    have cr := fun W K cs (h : Rt W K r cs) => print_c r W cs h (by omega)
    have hpr : printR r = if 200 < (textR r).length then ([], 2) else (textR r, 0) := by unfold printR; rw [hq]
    have hback := fun hs => parse_print r hs q hq
    obtain ⟨T, hT⟩ : ∃ T : ByteArray, T = ⟨(textR r).toArray⟩ := ⟨_, rfl⟩
    have hTl : T.data.toList = textR r := by rw [hT]
    have hTs : T.size = (textR r).length := by rw [hT]; simp [ByteArray.size]
    rw [← hT] at ct
    have CP := Lib.hid cp
    have CQ := Lib.hid cq
    have CS := Lib.hid cs
    have CT := Lib.hid ct
    have CR := Lib.hid cr
    have HPR := Lib.hid hpr
    have HBK := Lib.hid hback
    have HTL := Lib.hid hTl
    have HTS := Lib.hid hTs
    have HT := Lib.hid hT
    clear cp cq cs ct cr hpr hback hTl hTs hT hp hs hq hn
    go_enter Tryd.func3, Tryd.ntmps3
    go_wp2_with fail
    (with_reducible refine cw.mono ?_)
    rintro x w1 ⟨rfl, b1⟩
    have cp := CP.out w1
    go_wp2_with fail
    (with_reducible refine cp.mono ?_)
    rintro x w2 ⟨b2, A, c, rfl, hR2⟩
    have B2 := via b2 b1
    clear cp cw b1 b2
    obtain ⟨k0, hk0⟩ : ∃ x, r.kind = x := ⟨_, rfl⟩
    obtain ⟨k1, hk1⟩ : ∃ x, r.set = x := ⟨_, rfl⟩
    obtain ⟨k2, hk2⟩ : ∃ x, r.kids.length = x := ⟨_, rfl⟩
    obtain ⟨k3, hk3⟩ : ∃ x, r.lo = x := ⟨_, rfl⟩
    obtain ⟨k4, hk4⟩ : ∃ x, r.hi = x := ⟨_, rfl⟩
    obtain ⟨k5, hk5⟩ : ∃ x, r.n = x := ⟨_, rfl⟩
    rw [hk0, hk1, hk2, hk3, hk4, hk5] at hR2 ⊢
    have cq := CQ.out
    simp only [hk0, hk1, hk2, hk3, hk4, hk5] at cq
    have CQ2 := Lib.hid cq
    have cp2 := fun (t : ByteArray) (h : parseP t.data.toList = .ok r) (W : World) => (parse_c t W).mono (fun x w' hh => post_ok h hh)
    simp only [hk0, hk1, hk2, hk3, hk4, hk5] at cp2
    have CP2 := Lib.hid cp2
    clear cq CQ hk0 hk1 hk2 hk3 hk4 hk5 CP cp2
    obtain ⟨w3, hww3⟩ : ∃ z : World, z = w2.alloc (.cells (reC k0 k1 A k2 c k3 k4 k5).toArray 28) := ⟨_, rfl⟩
    have Bw3 : Below w.heap.size w w3 := by rw [hww3]; exact B2.alloc B2.size _
    have Uw3 : Below w2.heap.size w2 w3 := by rw [hww3]; exact (Below.refl _ _).alloc (Nat.le_refl _) _
    have V3 : Blk w3 w2.heap.size 28 (reC k0 k1 A k2 c k3 k4 k5).toArray := by rw [hww3]; exact Blk.new _ _ _
    have R3 := Lib.hid (hR2.bel Uw3)
    have cq := CQ2.out w3
    go_wp2_with fail
    rw [← hww3]
    clear hww3 hR2 Uw3 B2
    (with_reducible refine cq.mono ?_)
    rintro x w4 ⟨b4, A', c', rfl, hR4⟩
    have B4 := via b4 Bw3
    have V4 := V3.next b4
    have R4 := Lib.hid (R3.out.bel b4)
    clear cq b4 Bw3 V3 R3 CQ2
    obtain ⟨w5, hww5⟩ : ∃ z : World, z = w4.alloc (.cells (reC k0 k1 A' k2 c' k3 k4 k5).toArray 28) := ⟨_, rfl⟩
    have Bw5 : Below w.heap.size w w5 := by rw [hww5]; exact B4.alloc B4.size _
    have Uw5 : Below w4.heap.size w4 w5 := by rw [hww5]; exact (Below.refl _ _).alloc (Nat.le_refl _) _
    have V5 : Blk w5 w4.heap.size 28 (reC k0 k1 A' k2 c' k3 k4 k5).toArray := by rw [hww5]; exact Blk.new _ _ _
    have R5 := Lib.hid (R4.out.bel Uw5)
    have S5 := hR4.bel Uw5
    have V5a := V4.next Uw5
    have cs := CS.out w5 _ _ _ _ R5.out S5
    have HV5 := Lib.hid V5a
    clear R4 hR4 V4 S5 B4
    have p0 := V5a.cell 0
    have p1 := V5a.cell 1
    have p2 := V5a.cell 2
    have p3 := V5a.cell 3
    have p4 := V5a.cell 4
    have p5 := V5a.cell 5
    have p6 := V5a.cell 6
    have p7 := V5a.cell 7
    have p8 := V5a.cell 8
    simp only [List.getElem?_toArray, List.getElem?_cons_zero, List.getElem?_cons_succ] at p0 p1 p2 p3 p4 p5 p6 p7 p8
    have q0 := V5.cell 0
    have q1 := V5.cell 1
    have q2 := V5.cell 2
    have q3 := V5.cell 3
    have q4 := V5.cell 4
    have q5 := V5.cell 5
    have q6 := V5.cell 6
    have q7 := V5.cell 7
    have q8 := V5.cell 8
    simp only [List.getElem?_toArray, List.getElem?_cons_zero, List.getElem?_cons_succ] at q0 q1 q2 q3 q4 q5 q6 q7 q8
    rw [hww5] at p0 p1 p2 p3 p4 p5 p6 p7 p8 q0 q1 q2 q3 q4 q5 q6 q7 q8
    go_wp2_with fail
    rw [← hww5]
    clear hww5 Uw5
    (with_reducible refine cs.mono ?_)
    rintro x w6 ⟨rfl, b6⟩
    have B6 := via b6 Bw5
    have V6 := HV5.out.next b6
    have R6 := Lib.hid (R5.out.bel b6)
    clear cs b6 Bw5 R5 HV5 V5 V5a p0 p1 p2 p3 p4 p5 p6 p7 p8 q0 q1 q2 q3 q4 q5 q6 q7 q8
    have p0 := V6.cell 0
    have p1 := V6.cell 1
    have p2 := V6.cell 2
    have p3 := V6.cell 3
    have p4 := V6.cell 4
    have p5 := V6.cell 5
    have p6 := V6.cell 6
    have p7 := V6.cell 7
    have p8 := V6.cell 8
    simp only [List.getElem?_toArray, List.getElem?_cons_zero, List.getElem?_cons_succ] at p0 p1 p2 p3 p4 p5 p6 p7 p8
    have cr := CR.out w6 _ _ R6.out
    rw [HPR.out] at cr
    by_cases hl : 200 < (textR r).length
    · rw [if_pos hl] at cr
      have d2 : decide ((200 : Int) < (T.size : Int)) = true := by rw [HTS.out]; simp; omega
      have he : (⟨([] : Bs).toArray⟩ : ByteArray) = ⟨#[]⟩ := rfl
      simp only [he] at cr
      go_wp2_with fail
      (with_reducible refine cr.mono ?_)
      rintro x w7 ⟨rfl, b7⟩
      have B7 := via b7 B6
      have V7 := V6.next b7
      have ct := CT.out w7 _ _ (R6.out.bel b7)
      clear V6 b7 p0 p1 p2 p3 p4 p5 p6 p7 p8
      have p0 := V7.cell 0
      have p1 := V7.cell 1
      have p2 := V7.cell 2
      have p3 := V7.cell 3
      have p4 := V7.cell 4
      have p5 := V7.cell 5
      have p6 := V7.cell 6
      have p7 := V7.cell 7
      have p8 := V7.cell 8
      simp only [List.getElem?_toArray, List.getElem?_cons_zero, List.getElem?_cons_succ] at p0 p1 p2 p3 p4 p5 p6 p7 p8
      go_wp2_with fail
      (with_reducible refine ct.mono ?_)
      rintro x w8 ⟨rfl, b8⟩
      have B8 := via b8 B7
      go_wp2
      go_ret
      exact ⟨rfl, B8⟩
    · rw [if_neg hl] at cr
      have d2 : decide ((200 : Int) < (T.size : Int)) = false := by rw [HTS.out]; simp; omega
      have he : (⟨(textR r).toArray⟩ : ByteArray) = T := HT.out.symm
      simp only [he] at cr
      go_wp2_with fail
      (with_reducible refine cr.mono ?_)
      rintro x w7 ⟨rfl, b7⟩
      have B7 := via b7 B6
      have V7 := V6.next b7
      have R7 := Lib.hid (R6.out.bel b7)
      have ct := CT.out w7 _ _ R7.out
      clear V6 b7 R6 p0 p1 p2 p3 p4 p5 p6 p7 p8
      have p0 := V7.cell 0
      have p1 := V7.cell 1
      have p2 := V7.cell 2
      have p3 := V7.cell 3
      have p4 := V7.cell 4
      have p5 := V7.cell 5
      have p6 := V7.cell 6
      have p7 := V7.cell 7
      have p8 := V7.cell 8
      simp only [List.getElem?_toArray, List.getElem?_cons_zero, List.getElem?_cons_succ] at p0 p1 p2 p3 p4 p5 p6 p7 p8
      go_wp2_with fail
      (with_reducible refine ct.mono ?_)
      rintro x w8 ⟨rfl, b8⟩
      have B8 := via b8 B7
      have V8 := Lib.hid (V7.next b8)
      have R8 := Lib.hid (R7.out.bel b8)
      clear V7 b8 R7 p0 p1 p2 p3 p4 p5 p6 p7 p8
      have cp := CP2.out T (by rw [HTL.out]; exact HBK.out (rt_sets R8.out) (by omega)) w8
      go_wp2_with fail
      (with_reducible refine cp.mono ?_)
      rintro x w9 ⟨b9, A9, c9, rfl, hR9⟩
      have B9 := via b9 B8
      obtain ⟨wx, hwwx⟩ : ∃ z : World, z = w9.alloc (.cells (reC k0 k1 A9 k2 c9 k3 k4 k5).toArray 28) := ⟨_, rfl⟩
      have Bwx : Below w.heap.size w wx := by rw [hwwx]; exact B9.alloc B9.size _
      have Uwx : Below w9.heap.size w9 wx := by rw [hwwx]; exact (Below.refl _ _).alloc (Nat.le_refl _) _
      have V10 : Blk wx w9.heap.size 28 (reC k0 k1 A9 k2 c9 k3 k4 k5).toArray := by rw [hwwx]; exact Blk.new _ _ _
      have V10a := (V8.out.next b9).next Uwx
      have R10 := Lib.hid ((R8.out.bel b9).bel Uwx)
      have S10 := Lib.hid (hR9.bel Uwx)
      have cs := CS.out wx _ _ _ _ S10.out R10.out
      have p0 := V10a.cell 0
      have p1 := V10a.cell 1
      have p2 := V10a.cell 2
      have p3 := V10a.cell 3
      have p4 := V10a.cell 4
      have p5 := V10a.cell 5
      have p6 := V10a.cell 6
      have p7 := V10a.cell 7
      have p8 := V10a.cell 8
      simp only [List.getElem?_toArray, List.getElem?_cons_zero, List.getElem?_cons_succ] at p0 p1 p2 p3 p4 p5 p6 p7 p8
      have q0 := V10.cell 0
      have q1 := V10.cell 1
      have q2 := V10.cell 2
      have q3 := V10.cell 3
      have q4 := V10.cell 4
      have q5 := V10.cell 5
      have q6 := V10.cell 6
      have q7 := V10.cell 7
      have q8 := V10.cell 8
      simp only [List.getElem?_toArray, List.getElem?_cons_zero, List.getElem?_cons_succ] at q0 q1 q2 q3 q4 q5 q6 q7 q8
      rw [hwwx] at p0 p1 p2 p3 p4 p5 p6 p7 p8 q0 q1 q2 q3 q4 q5 q6 q7 q8
      go_wp2_with fail
      rw [← hwwx]
      clear hwwx
      (with_reducible refine cs.mono ?_)
      rintro x wy ⟨rfl, by_⟩
      have B10 := via by_ Bwx
      go_wp2
      go_ret
      exact ⟨rfl, B10⟩
end EreX
end Go.Proofs.YtdonokghemhfiaaDoor
