/- Which sums may be: May, and the reference's May. Conditions: trees that fit, with short names. -/
import Derived.Test.YtchceoclkdofhaaGreatDoorCalR
namespace Go.Proofs.YtchceoclkdofhaaGreatDoor
set_option linter.unusedVariables false
set_option linter.unusedSimpArgs false
open Go.RowKit
namespace CalW
open CalP QuoW QuoP
theorem right_c {K : Nat → Prop} : ∀ (N : Nat) (r : Ex), nodesE r ≤ N → ∀ (w : World) (cs : List Value) (d : Nat), Et w K r cs → shortE r → d ≤ 64 →
    Calls Tryz.prog 35 #[.agg cs.toArray, .int .i64 d] w fun x w' => x = .returned (.bool (rightE r d)) ∧ Below w.heap.size w w' := by
  intro N
  induction N with
  | zero => intro r h; have := nodes_pos r; omega
  | succ N ih =>
    intro r hN w cs d h hs hd
    obtain ⟨k, n, nm, op, kids⟩ := r
    obtain ⟨A, c, rfl⟩ := h.shape
    rw [shortE] at hs
    rw [nodesE] at hN
    refine right_step k n nm op kids A c w d h hs.1 hd (fun i hi W cs2 h2 hd2 => ?_)
    exact ih _ (by have := nodes_kid kids i hi; omega) W cs2 (d + 1) h2 (short_kid kids i hi hs.2.2) hd2
theorem may_c {K : Nat → Prop} (r : Ex) (w : World) (cs : List Value) (h : Et w K r cs) (hs : shortE r) :
    Calls Tryz.prog 18 #[.agg cs.toArray] w fun x w' => x = .returned (.bool (rightE r 0)) ∧ Below w.heap.size w w' := by
  obtain ⟨A, c, rfl⟩ := h.shape
  have cr := right_c (nodesE r) r (Nat.le_refl _) (w.alloc (.cells (exC r.kind r.n r.name r.op A r.kids.length c).toArray 24)) _ 0 (h.bel (by go_grown)) hs (by omega)
  rw [show ((0 : Nat) : Int) = 0 from rfl] at cr
  generalize rightE r 0 = GR at *
  generalize r.kind = k0 at *
  generalize r.n = k1 at *
  generalize r.name = k2 at *
  generalize r.op = k3 at *
  generalize r.kids.length = k4 at *
  clear h hs
  go_enter Tryz.func18, Tryz.ntmps18
  go_wp2_with fail
  (with_reducible refine cr.mono ?_)
  rintro x w2 ⟨rfl, hb⟩
  go_wp2
  go_ret
  exact ⟨rfl, ((Below.refl _ _).alloc (Nat.le_refl _) _).trans (hb.mono (by rw [World.size_alloc]; omega))⟩
/-- What the reference's May does at such a list's kids. -/
def RMayC (K : Nat → Prop) (l : List Ex) (d : Nat) : Prop := ∀ (i : Nat) (h : i < l.length) (w : World) (cs : List Value), Et w K (l[i]'h) cs → d + 1 ≤ 64 →
  Calls Tryz.prog 17 #[.agg cs.toArray, .int .i64 ((d : Int) + 1)] w fun x w' => x = .returned (.bool (rightE (l[i]'h) (d + 1))) ∧ Below w.heap.size w w'
set_option maxHeartbeats 6400000 in
set_option maxRecDepth 100000 in
theorem rmay_step {K : Nat → Prop} (k n : Int) (nm op : ByteArray) (kids : List Ex) (A : Option Addr) (c : Nat) (w : World) (d : Nat) (h : Et w K (.mk k n nm op kids) (exC k n nm op A kids.length c)) (hnm : nm.size ≤ 60) (hd : d ≤ 64) (hi : RMayC K kids d) :
    Calls Tryz.prog 17 #[.agg (exC k n nm op A kids.length c).toArray, .int .i64 d] w fun x w' => x = .returned (.bool (rightE (.mk k n nm op kids) d)) ∧ Below w.heap.size w w' := by
  obtain ⟨GR, hGR⟩ : ∃ GR, rightE (.mk k n nm op kids) d = GR := ⟨_, rfl⟩
  have HG := Lib.hid hGR
  rw [hGR]
  have HE := Lib.hid h
  have HI := Lib.hid hi
  clear hGR h hi
  obtain ⟨kl, hkl⟩ : ∃ kl, kids.length = kl := ⟨_, rfl⟩
  rw [hkl] at HE ⊢
  by_cases h0 : k = 0
  · have hk := h0
    have HK := Lib.hid hk
    have e0 : (k == 0) = true := by rw [hk]; decide
    have e1 : (k == 1) = false := by rw [hk]; decide
    have e2 : (k == 2) = false := by rw [hk]; decide
    have e3 : (k == 3) = false := by rw [hk]; decide
    have e4 : (k == 4) = false := by rw [hk]; decide
    by_cases hnme : nm.data.toList = []
    rotate_left
    · have b1 : (([] : List UInt8) == nm.toList) = false := by rw [Lib.toList_data, beq_eq_false_iff_ne]; exact fun e => hnme e.symm
      have b2 : (([] : List UInt8) != nm.toList) = true := by rw [bne, b1]; rfl
      have hbr : bareE k n nm op = false := by unfold bareE; rw [show (nm.data.toList == []) = false from beq_eq_false_iff_ne.2 hnme, e1]; simp
      have hz : GR = false := by rw [← HG.out, right_eq]; simp [hbr]
      have HZ := Lib.hid hz
      clear hz
      clear hk h0
      go_enter Tryz.func17, Tryz.ntmps17
      go_wp2
      go_ret
      exact ⟨(by rw [HZ.out] <;> rfl), by go_grown⟩
    have b1 : (([] : List UInt8) == nm.toList) = true := by rw [Lib.toList_data, hnme]; rfl
    have b2 : (([] : List UInt8) != nm.toList) = false := by rw [bne, b1]; rfl
    by_cases hope : op.data.toList = []
    rotate_left
    · have c1 : (([] : List UInt8) == op.toList) = false := by rw [Lib.toList_data, beq_eq_false_iff_ne]; exact fun e => hope e.symm
      have c2 : (([] : List UInt8) != op.toList) = true := by rw [bne, c1]; rfl
      have hbr : bareE k n nm op = false := by unfold bareE; rw [show (op.data.toList == []) = false from beq_eq_false_iff_ne.2 hope, e4]; simp
      have hz : GR = false := by rw [← HG.out, right_eq]; simp [hbr]
      have HZ := Lib.hid hz
      clear hz
      clear hk h0
      go_enter Tryz.func17, Tryz.ntmps17
      go_wp2
      go_ret
      exact ⟨(by rw [HZ.out] <;> rfl), by go_grown⟩
    have c1 : (([] : List UInt8) == op.toList) = true := by rw [Lib.toList_data, hope]; rfl
    have c2 : (([] : List UInt8) != op.toList) = false := by rw [bne, c1]; rfl
    have hkid : kidsE k = 0 := by rw [hk]; rfl
    by_cases hkl2 : kl = 0
    rotate_left
    · have tk : ((kl : Int) != 0) = true := by rw [bne_iff_ne]; omega
      have hkl4 : ¬ kids.length = kidsE k := by rw [hkid, hkl]; exact hkl2
      have hz : GR = false := by rw [← HG.out, right_eq]; simp [hkl4]
      have HZ := Lib.hid hz
      clear hz
      clear hk h0
      go_enter Tryz.func17, Tryz.ntmps17
      go_wp2
      go_ret
      exact ⟨(by rw [HZ.out] <;> rfl), by go_grown⟩
    have tk : ((kl : Int) != 0) = false := by rw [bne_eq_false_iff_eq]; omega
    have HKL2 := Lib.hid hkl2
    have HKL := Lib.hid (show kids.length = 0 by rw [hkl]; exact hkl2)
    have hkl4 : decide (kids.length = kidsE k) = true := by rw [hkid, hkl]; simpa using hkl2
    clear hkl2
    have hkl2 := hkl4
    have d1 : decide (k < 0) = false := by rw [hk]; decide
    have d2 : decide (4 < k) = false := by rw [hk]; decide
    by_cases hn : 0 ≤ n
    rotate_left
    · have a3 : decide (n < 0) = true := by simp; omega
      have hokk : okE k n nm op d = false := by unfold okE; rw [if_pos hk]; simpa using hn
      have hz : GR = false := by rw [← HG.out, right_eq]; simp [hokk]
      have HZ := Lib.hid hz
      clear hz
      clear hk h0
      go_enter Tryz.func17, Tryz.ntmps17
      go_wp2
      go_ret
      exact ⟨(by rw [HZ.out] <;> rfl), by go_grown⟩
    have a3 : decide (n < 0) = false := by simp; omega
    have hokk : okE k n nm op d = true := by unfold okE; rw [if_pos hk]; simpa using hn
    have hbr : bareE k n nm op = true := by unfold bareE; rw [e0, show (nm.data.toList == []) = true from beq_iff_eq.2 hnme, show (op.data.toList == []) = true from beq_iff_eq.2 hope]; simp
    have hd1 : ∀ i : Nat, i < 0 → d + 1 ≤ 64 := by
      intro i hi
      omega
    have HD := Lib.hid hd1
    clear hd1
    clear hkid hkl4 hnme hope
    clear hk h0
    go_enter Tryz.func17, Tryz.ntmps17
    have HG2 := Lib.hid (show rightL (kids.drop 0) (d + 1) = GR by rw [← HG.out, right_eq, hokk, hbr, hkl2]; simp)
    clear HG hokk hbr hkl2
    go_wp2
    go_loopw [7] (fun v wr => ∃ i : Nat, v = .int .i64 i ∧ i ≤ 0 ∧ Hid (rightL (kids.drop i) (d + 1) = GR) ∧ Below w.heap.size w wr ∧ Blk wr w.heap.size 24 (exC k n nm op A kl c).toArray) (fun v _ => 0 - (intOf v).toNat)
    case atStart => exact ⟨0, rfl, by omega, HG2, by go_grown, (Blk.new _ _ _).alloc _⟩
    case round =>
      obtain ⟨i, rfl, hi, hq, hB, hX⟩ := hrel
      have zB := hB.size
      have y0 := hX.cell 0
      have y1 := hX.cell 1
      have y2 := hX.cell 2
      have y3 := hX.cell 3
      have y4 := hX.cell 4
      simp only [List.getElem?_toArray, List.getElem?_cons_zero, List.getElem?_cons_succ] at y0 y1 y2 y3 y4
      by_cases hlt : i < 0
      · exact absurd hlt (Nat.not_lt_zero _)
      · have hi2 : i = 0 := by omega
        subst hi2
        have hz : GR = true := by
          rw [← hq.out, List.drop_of_length_le (by have := HKL.out; omega)]; rfl
        have HZ := Lib.hid hz
        clear hq HG2 hz
        go_wp2
        go_ret
        exact ⟨(by rw [HZ.out] <;> rfl), hB⟩
  by_cases h1 : k = 1
  · have hk := h1
    have HK := Lib.hid hk
    have e0 : (k == 0) = false := by rw [hk]; decide
    have e1 : (k == 1) = true := by rw [hk]; decide
    have e2 : (k == 2) = false := by rw [hk]; decide
    have e3 : (k == 3) = false := by rw [hk]; decide
    have e4 : (k == 4) = false := by rw [hk]; decide
    by_cases hn : n = 0
    rotate_left
    · have a1 : ((0 : Int) != n) = true := by rw [bne_iff_ne]; omega
      have a2 : ((0 : Int) == n) = false := by rw [beq_eq_false_iff_ne]; omega
      have hbr : bareE k n nm op = false := by unfold bareE; rw [show (n == 0) = false from beq_eq_false_iff_ne.2 hn, e0]; rfl
      have hz : GR = false := by rw [← HG.out, right_eq]; simp [hbr]
      have HZ := Lib.hid hz
      clear hz
      clear hk h1
      go_enter Tryz.func17, Tryz.ntmps17
      go_wp2
      go_ret
      exact ⟨(by rw [HZ.out] <;> rfl), by go_grown⟩
    have a1 : ((0 : Int) != n) = false := by rw [bne_eq_false_iff_eq]; omega
    have a2 : ((0 : Int) == n) = true := by rw [beq_iff_eq]; omega
    have HN := Lib.hid hn
    clear hn
    have a3 : decide (n < 0) = false := by have := HN.out; simp; omega
    by_cases hope : op.data.toList = []
    rotate_left
    · have c1 : (([] : List UInt8) == op.toList) = false := by rw [Lib.toList_data, beq_eq_false_iff_ne]; exact fun e => hope e.symm
      have c2 : (([] : List UInt8) != op.toList) = true := by rw [bne, c1]; rfl
      have hbr : bareE k n nm op = false := by unfold bareE; rw [show (op.data.toList == []) = false from beq_eq_false_iff_ne.2 hope, e4]; simp
      have hz : GR = false := by rw [← HG.out, right_eq]; simp [hbr]
      have HZ := Lib.hid hz
      clear hz
      clear hk h1
      go_enter Tryz.func17, Tryz.ntmps17
      go_wp2
      go_ret
      exact ⟨(by rw [HZ.out] <;> rfl), by go_grown⟩
    have c1 : (([] : List UInt8) == op.toList) = true := by rw [Lib.toList_data, hope]; rfl
    have c2 : (([] : List UInt8) != op.toList) = false := by rw [bne, c1]; rfl
    have hkid : kidsE k = 0 := by rw [hk]; rfl
    by_cases hkl2 : kl = 0
    rotate_left
    · have tk : ((kl : Int) != 0) = true := by rw [bne_iff_ne]; omega
      have hkl4 : ¬ kids.length = kidsE k := by rw [hkid, hkl]; exact hkl2
      have hz : GR = false := by rw [← HG.out, right_eq]; simp [hkl4]
      have HZ := Lib.hid hz
      clear hz
      clear hk h1
      go_enter Tryz.func17, Tryz.ntmps17
      go_wp2
      go_ret
      exact ⟨(by rw [HZ.out] <;> rfl), by go_grown⟩
    have tk : ((kl : Int) != 0) = false := by rw [bne_eq_false_iff_eq]; omega
    have HKL2 := Lib.hid hkl2
    have HKL := Lib.hid (show kids.length = 0 by rw [hkl]; exact hkl2)
    have hkl4 : decide (kids.length = kidsE k) = true := by rw [hkid, hkl]; simpa using hkl2
    clear hkl2
    have hkl2 := hkl4
    have d1 : decide (k < 0) = false := by rw [hk]; decide
    have d2 : decide (4 < k) = false := by rw [hk]; decide
    have cn := fun W => rname_c nm W (by omega)
    cases hn : nameB nm.data.toList
    · have hokk : okE k n nm op d = false := by unfold okE; rw [if_neg (by omega), if_pos hk]; exact hn
      simp only [hn] at cn
      have hz : GR = false := by rw [← HG.out, right_eq]; simp [hokk]
      have HZ := Lib.hid hz
      clear hz
      clear hope
      clear hk h1
      go_enter Tryz.func17, Tryz.ntmps17
      go_wp2_with fail
      (with_reducible refine (cn _).mono ?_)
      rintro x w2 ⟨rfl, rfl⟩
      go_wp2
      go_ret
      exact ⟨(by rw [HZ.out] <;> rfl), by go_grown⟩
    have hokk : okE k n nm op d = true := by unfold okE; rw [if_neg (by omega), if_pos hk]; exact hn
    simp only [hn] at cn
    have hbr : bareE k n nm op = true := by unfold bareE; rw [show (n == 0) = true from beq_iff_eq.2 HN.out, e1, show (op.data.toList == []) = true from beq_iff_eq.2 hope]; simp
    have hd1 : ∀ i : Nat, i < 0 → d + 1 ≤ 64 := by
      intro i hi
      omega
    have HD := Lib.hid hd1
    clear hd1
    clear hkid hkl4 hope
    clear hk h1
    go_enter Tryz.func17, Tryz.ntmps17
    go_wp2_with fail
    (with_reducible refine (cn _).mono ?_)
    rintro x w2 ⟨rfl, rfl⟩
    have HG2 := Lib.hid (show rightL (kids.drop 0) (d + 1) = GR by rw [← HG.out, right_eq, hokk, hbr, hkl2]; simp)
    clear HG hokk hbr hkl2
    go_wp2
    go_loopw [7] (fun v wr => ∃ i : Nat, v = .int .i64 i ∧ i ≤ 0 ∧ Hid (rightL (kids.drop i) (d + 1) = GR) ∧ Below w.heap.size w wr ∧ Blk wr w.heap.size 24 (exC k n nm op A kl c).toArray) (fun v _ => 0 - (intOf v).toNat)
    case atStart => exact ⟨0, rfl, by omega, HG2, by go_grown, (Blk.new _ _ _).alloc _⟩
    case round =>
      obtain ⟨i, rfl, hi, hq, hB, hX⟩ := hrel
      have zB := hB.size
      have y0 := hX.cell 0
      have y1 := hX.cell 1
      have y2 := hX.cell 2
      have y3 := hX.cell 3
      have y4 := hX.cell 4
      simp only [List.getElem?_toArray, List.getElem?_cons_zero, List.getElem?_cons_succ] at y0 y1 y2 y3 y4
      by_cases hlt : i < 0
      · exact absurd hlt (Nat.not_lt_zero _)
      · have hi2 : i = 0 := by omega
        subst hi2
        have hz : GR = true := by
          rw [← hq.out, List.drop_of_length_le (by have := HKL.out; omega)]; rfl
        have HZ := Lib.hid hz
        clear hq HG2 hz
        go_wp2
        go_ret
        exact ⟨(by rw [HZ.out] <;> rfl), hB⟩
  by_cases h2 : k = 2
  · have hk := h2
    have HK := Lib.hid hk
    have e0 : (k == 0) = false := by rw [hk]; decide
    have e1 : (k == 1) = false := by rw [hk]; decide
    have e2 : (k == 2) = true := by rw [hk]; decide
    have e3 : (k == 3) = false := by rw [hk]; decide
    have e4 : (k == 4) = false := by rw [hk]; decide
    by_cases hn : n = 0
    rotate_left
    · have a1 : ((0 : Int) != n) = true := by rw [bne_iff_ne]; omega
      have a2 : ((0 : Int) == n) = false := by rw [beq_eq_false_iff_ne]; omega
      have hbr : bareE k n nm op = false := by unfold bareE; rw [show (n == 0) = false from beq_eq_false_iff_ne.2 hn, e0]; rfl
      have hz : GR = false := by rw [← HG.out, right_eq]; simp [hbr]
      have HZ := Lib.hid hz
      clear hz
      clear hk h2
      go_enter Tryz.func17, Tryz.ntmps17
      go_wp2
      go_ret
      exact ⟨(by rw [HZ.out] <;> rfl), by go_grown⟩
    have a1 : ((0 : Int) != n) = false := by rw [bne_eq_false_iff_eq]; omega
    have a2 : ((0 : Int) == n) = true := by rw [beq_iff_eq]; omega
    have HN := Lib.hid hn
    clear hn
    have a3 : decide (n < 0) = false := by have := HN.out; simp; omega
    by_cases hnme : nm.data.toList = []
    rotate_left
    · have b1 : (([] : List UInt8) == nm.toList) = false := by rw [Lib.toList_data, beq_eq_false_iff_ne]; exact fun e => hnme e.symm
      have b2 : (([] : List UInt8) != nm.toList) = true := by rw [bne, b1]; rfl
      have hbr : bareE k n nm op = false := by unfold bareE; rw [show (nm.data.toList == []) = false from beq_eq_false_iff_ne.2 hnme, e1]; simp
      have hz : GR = false := by rw [← HG.out, right_eq]; simp [hbr]
      have HZ := Lib.hid hz
      clear hz
      clear hk h2
      go_enter Tryz.func17, Tryz.ntmps17
      go_wp2
      go_ret
      exact ⟨(by rw [HZ.out] <;> rfl), by go_grown⟩
    have b1 : (([] : List UInt8) == nm.toList) = true := by rw [Lib.toList_data, hnme]; rfl
    have b2 : (([] : List UInt8) != nm.toList) = false := by rw [bne, b1]; rfl
    by_cases hope : op.data.toList = []
    rotate_left
    · have c1 : (([] : List UInt8) == op.toList) = false := by rw [Lib.toList_data, beq_eq_false_iff_ne]; exact fun e => hope e.symm
      have c2 : (([] : List UInt8) != op.toList) = true := by rw [bne, c1]; rfl
      have hbr : bareE k n nm op = false := by unfold bareE; rw [show (op.data.toList == []) = false from beq_eq_false_iff_ne.2 hope, e4]; simp
      have hz : GR = false := by rw [← HG.out, right_eq]; simp [hbr]
      have HZ := Lib.hid hz
      clear hz
      clear hk h2
      go_enter Tryz.func17, Tryz.ntmps17
      go_wp2
      go_ret
      exact ⟨(by rw [HZ.out] <;> rfl), by go_grown⟩
    have c1 : (([] : List UInt8) == op.toList) = true := by rw [Lib.toList_data, hope]; rfl
    have c2 : (([] : List UInt8) != op.toList) = false := by rw [bne, c1]; rfl
    have hkid : kidsE k = 1 := by rw [hk]; rfl
    by_cases hkl2 : kl = 1
    rotate_left
    · have tk : ((kl : Int) != 1) = true := by rw [bne_iff_ne]; omega
      have hkl4 : ¬ kids.length = kidsE k := by rw [hkid, hkl]; exact hkl2
      have hz : GR = false := by rw [← HG.out, right_eq]; simp [hkl4]
      have HZ := Lib.hid hz
      clear hz
      clear hk h2
      go_enter Tryz.func17, Tryz.ntmps17
      go_wp2
      go_ret
      exact ⟨(by rw [HZ.out] <;> rfl), by go_grown⟩
    have tk : ((kl : Int) != 1) = false := by rw [bne_eq_false_iff_eq]; omega
    have HKL2 := Lib.hid hkl2
    have HKL := Lib.hid (show kids.length = 1 by rw [hkl]; exact hkl2)
    have hkl4 : decide (kids.length = kidsE k) = true := by rw [hkid, hkl]; simpa using hkl2
    clear hkl2
    have hkl2 := hkl4
    have d1 : decide (k < 0) = false := by rw [hk]; decide
    have d2 : decide (4 < k) = false := by rw [hk]; decide
    by_cases hd64 : d < 64
    rotate_left
    · have t0 : decide ((64 : Int) ≤ (d : Int)) = true := by simp; omega
      have t0n : decide (64 ≤ d) = true := by simp; omega
      have hokk : okE k n nm op d = false := by unfold okE; rw [if_neg (by omega), if_neg (by omega), if_pos (by omega)]; simp; omega
      have hz : GR = false := by rw [← HG.out, right_eq]; simp [hokk]
      have HZ := Lib.hid hz
      clear hz
      clear hnme hope
      clear hk h2
      go_enter Tryz.func17, Tryz.ntmps17
      go_wp2
      go_ret
      exact ⟨(by rw [HZ.out] <;> rfl), by go_grown⟩
    have t0 : decide ((64 : Int) ≤ (d : Int)) = false := by simp; omega
    have t0n : decide (64 ≤ d) = false := by simp; omega
    have hokk : okE k n nm op d = true := by unfold okE; rw [if_neg (by omega), if_neg (by omega), if_pos (by omega)]; simp; omega
    have hbr : bareE k n nm op = true := by unfold bareE; rw [show (n == 0) = true from beq_iff_eq.2 HN.out, show (nm.data.toList == []) = true from beq_iff_eq.2 hnme, show (op.data.toList == []) = true from beq_iff_eq.2 hope]; simp
    have hd1 : ∀ i : Nat, i < 1 → d + 1 ≤ 64 := by
      intro i hi
      omega
    have HD := Lib.hid hd1
    clear hd1
    clear hkid hkl4 hnme hope
    clear hk h2
    go_enter Tryz.func17, Tryz.ntmps17
    have HG2 := Lib.hid (show rightL (kids.drop 0) (d + 1) = GR by rw [← HG.out, right_eq, hokk, hbr, hkl2]; simp)
    clear HG hokk hbr hkl2
    go_wp2
    go_loopw [7] (fun v wr => ∃ i : Nat, v = .int .i64 i ∧ i ≤ 1 ∧ Hid (rightL (kids.drop i) (d + 1) = GR) ∧ Below w.heap.size w wr ∧ Blk wr w.heap.size 24 (exC k n nm op A kl c).toArray) (fun v _ => 1 - (intOf v).toNat)
    case atStart => exact ⟨0, rfl, by omega, HG2, by go_grown, (Blk.new _ _ _).alloc _⟩
    case round =>
      obtain ⟨i, rfl, hi, hq, hB, hX⟩ := hrel
      have zB := hB.size
      have y0 := hX.cell 0
      have y1 := hX.cell 1
      have y2 := hX.cell 2
      have y3 := hX.cell 3
      have y4 := hX.cell 4
      simp only [List.getElem?_toArray, List.getElem?_cons_zero, List.getElem?_cons_succ] at y0 y1 y2 y3 y4
      by_cases hlt : i < 1
      · have hi2 : i < kids.length := by have := HKL.out; omega
        have hil : i < kl := by have := HKL2.out; omega
        obtain ⟨g0, o, A2, c2, rfl, hk, hc⟩ := (HE.out.bel hB).kid_ hi2
        have fk0 := hc 0 _ rfl
        have fk1 := hc 1 _ rfl
        have fk2 := hc 2 _ rfl
        have fk3 := hc 3 _ rfl
        have fk4 := hc 4 _ rfl
        simp only [Nat.add_zero] at fk0
        clear hc
        have hdr := right_drop kids (d + 1) i hi2
        rw [hq.out] at hdr
        have ci := HI.out i hi2 wr _ hk (HD.out i hlt)
        obtain ⟨x, hx⟩ : ∃ x, kids[i]'hi2 = x := ⟨_, rfl⟩
        rw [hx] at fk0 fk1 fk2 fk3 fk4 hk hdr
        simp only [hx] at ci
        clear hk hx
        generalize x.kind = k0 at *
        generalize x.n = k1 at *
        generalize x.name = k2 at *
        generalize x.op = k3 at *
        generalize x.kids.length = k4 at *
        cases hs : rightE x (d + 1)
        · rw [hs] at hdr ci
          have hz : GR = false := by rw [hdr]; rfl
          have HZ := Lib.hid hz
          clear hdr hq HG2 hz
          go_wp2_with fail
          (with_reducible refine ci.mono ?_)
          rintro e w2 ⟨rfl, hb⟩
          have B3 := via hb hB
          go_wp2
          go_ret
          exact ⟨(by rw [HZ.out] <;> rfl), B3⟩
        · rw [hs, Bool.true_and] at hdr
          rw [hs] at ci
          have HD2 := Lib.hid (show rightL (kids.drop (i + 1)) (d + 1) = GR from hdr.symm)
          clear hdr hq HG2
          go_wp2_with fail
          (with_reducible refine ci.mono ?_)
          rintro e w2 ⟨rfl, hb⟩
          have B3 := via hb hB
          have X3 := hX.next hb
          go_wp2
          go_roundw
          case rel => exact ⟨i + 1, by go_num, by omega, HD2, B3, X3⟩
          case measure => simp [intOf]; omega
      · have hi2 : i = 1 := by omega
        subst hi2
        have hz : GR = true := by
          rw [← hq.out, List.drop_of_length_le (by have := HKL.out; omega)]; rfl
        have HZ := Lib.hid hz
        clear hq HG2 hz
        go_wp2
        go_ret
        exact ⟨(by rw [HZ.out] <;> rfl), hB⟩
  by_cases h3 : k = 3
  · have hk := h3
    have HK := Lib.hid hk
    have e0 : (k == 0) = false := by rw [hk]; decide
    have e1 : (k == 1) = false := by rw [hk]; decide
    have e2 : (k == 2) = false := by rw [hk]; decide
    have e3 : (k == 3) = true := by rw [hk]; decide
    have e4 : (k == 4) = false := by rw [hk]; decide
    by_cases hn : n = 0
    rotate_left
    · have a1 : ((0 : Int) != n) = true := by rw [bne_iff_ne]; omega
      have a2 : ((0 : Int) == n) = false := by rw [beq_eq_false_iff_ne]; omega
      have hbr : bareE k n nm op = false := by unfold bareE; rw [show (n == 0) = false from beq_eq_false_iff_ne.2 hn, e0]; rfl
      have hz : GR = false := by rw [← HG.out, right_eq]; simp [hbr]
      have HZ := Lib.hid hz
      clear hz
      clear hk h3
      go_enter Tryz.func17, Tryz.ntmps17
      go_wp2
      go_ret
      exact ⟨(by rw [HZ.out] <;> rfl), by go_grown⟩
    have a1 : ((0 : Int) != n) = false := by rw [bne_eq_false_iff_eq]; omega
    have a2 : ((0 : Int) == n) = true := by rw [beq_iff_eq]; omega
    have HN := Lib.hid hn
    clear hn
    have a3 : decide (n < 0) = false := by have := HN.out; simp; omega
    by_cases hnme : nm.data.toList = []
    rotate_left
    · have b1 : (([] : List UInt8) == nm.toList) = false := by rw [Lib.toList_data, beq_eq_false_iff_ne]; exact fun e => hnme e.symm
      have b2 : (([] : List UInt8) != nm.toList) = true := by rw [bne, b1]; rfl
      have hbr : bareE k n nm op = false := by unfold bareE; rw [show (nm.data.toList == []) = false from beq_eq_false_iff_ne.2 hnme, e1]; simp
      have hz : GR = false := by rw [← HG.out, right_eq]; simp [hbr]
      have HZ := Lib.hid hz
      clear hz
      clear hk h3
      go_enter Tryz.func17, Tryz.ntmps17
      go_wp2
      go_ret
      exact ⟨(by rw [HZ.out] <;> rfl), by go_grown⟩
    have b1 : (([] : List UInt8) == nm.toList) = true := by rw [Lib.toList_data, hnme]; rfl
    have b2 : (([] : List UInt8) != nm.toList) = false := by rw [bne, b1]; rfl
    by_cases hope : op.data.toList = []
    rotate_left
    · have c1 : (([] : List UInt8) == op.toList) = false := by rw [Lib.toList_data, beq_eq_false_iff_ne]; exact fun e => hope e.symm
      have c2 : (([] : List UInt8) != op.toList) = true := by rw [bne, c1]; rfl
      have hbr : bareE k n nm op = false := by unfold bareE; rw [show (op.data.toList == []) = false from beq_eq_false_iff_ne.2 hope, e4]; simp
      have hz : GR = false := by rw [← HG.out, right_eq]; simp [hbr]
      have HZ := Lib.hid hz
      clear hz
      clear hk h3
      go_enter Tryz.func17, Tryz.ntmps17
      go_wp2
      go_ret
      exact ⟨(by rw [HZ.out] <;> rfl), by go_grown⟩
    have c1 : (([] : List UInt8) == op.toList) = true := by rw [Lib.toList_data, hope]; rfl
    have c2 : (([] : List UInt8) != op.toList) = false := by rw [bne, c1]; rfl
    have hkid : kidsE k = 1 := by rw [hk]; rfl
    by_cases hkl2 : kl = 1
    rotate_left
    · have tk : ((kl : Int) != 1) = true := by rw [bne_iff_ne]; omega
      have hkl4 : ¬ kids.length = kidsE k := by rw [hkid, hkl]; exact hkl2
      have hz : GR = false := by rw [← HG.out, right_eq]; simp [hkl4]
      have HZ := Lib.hid hz
      clear hz
      clear hk h3
      go_enter Tryz.func17, Tryz.ntmps17
      go_wp2
      go_ret
      exact ⟨(by rw [HZ.out] <;> rfl), by go_grown⟩
    have tk : ((kl : Int) != 1) = false := by rw [bne_eq_false_iff_eq]; omega
    have HKL2 := Lib.hid hkl2
    have HKL := Lib.hid (show kids.length = 1 by rw [hkl]; exact hkl2)
    have hkl4 : decide (kids.length = kidsE k) = true := by rw [hkid, hkl]; simpa using hkl2
    clear hkl2
    have hkl2 := hkl4
    have d1 : decide (k < 0) = false := by rw [hk]; decide
    have d2 : decide (4 < k) = false := by rw [hk]; decide
    by_cases hd64 : d < 64
    rotate_left
    · have t0 : decide ((64 : Int) ≤ (d : Int)) = true := by simp; omega
      have t0n : decide (64 ≤ d) = true := by simp; omega
      have hokk : okE k n nm op d = false := by unfold okE; rw [if_neg (by omega), if_neg (by omega), if_pos (by omega)]; simp; omega
      have hz : GR = false := by rw [← HG.out, right_eq]; simp [hokk]
      have HZ := Lib.hid hz
      clear hz
      clear hnme hope
      clear hk h3
      go_enter Tryz.func17, Tryz.ntmps17
      go_wp2
      go_ret
      exact ⟨(by rw [HZ.out] <;> rfl), by go_grown⟩
    have t0 : decide ((64 : Int) ≤ (d : Int)) = false := by simp; omega
    have t0n : decide (64 ≤ d) = false := by simp; omega
    have hokk : okE k n nm op d = true := by unfold okE; rw [if_neg (by omega), if_neg (by omega), if_pos (by omega)]; simp; omega
    have hbr : bareE k n nm op = true := by unfold bareE; rw [show (n == 0) = true from beq_iff_eq.2 HN.out, show (nm.data.toList == []) = true from beq_iff_eq.2 hnme, show (op.data.toList == []) = true from beq_iff_eq.2 hope]; simp
    have hd1 : ∀ i : Nat, i < 1 → d + 1 ≤ 64 := by
      intro i hi
      omega
    have HD := Lib.hid hd1
    clear hd1
    clear hkid hkl4 hnme hope
    clear hk h3
    go_enter Tryz.func17, Tryz.ntmps17
    have HG2 := Lib.hid (show rightL (kids.drop 0) (d + 1) = GR by rw [← HG.out, right_eq, hokk, hbr, hkl2]; simp)
    clear HG hokk hbr hkl2
    go_wp2
    go_loopw [7] (fun v wr => ∃ i : Nat, v = .int .i64 i ∧ i ≤ 1 ∧ Hid (rightL (kids.drop i) (d + 1) = GR) ∧ Below w.heap.size w wr ∧ Blk wr w.heap.size 24 (exC k n nm op A kl c).toArray) (fun v _ => 1 - (intOf v).toNat)
    case atStart => exact ⟨0, rfl, by omega, HG2, by go_grown, (Blk.new _ _ _).alloc _⟩
    case round =>
      obtain ⟨i, rfl, hi, hq, hB, hX⟩ := hrel
      have zB := hB.size
      have y0 := hX.cell 0
      have y1 := hX.cell 1
      have y2 := hX.cell 2
      have y3 := hX.cell 3
      have y4 := hX.cell 4
      simp only [List.getElem?_toArray, List.getElem?_cons_zero, List.getElem?_cons_succ] at y0 y1 y2 y3 y4
      by_cases hlt : i < 1
      · have hi2 : i < kids.length := by have := HKL.out; omega
        have hil : i < kl := by have := HKL2.out; omega
        obtain ⟨g0, o, A2, c2, rfl, hk, hc⟩ := (HE.out.bel hB).kid_ hi2
        have fk0 := hc 0 _ rfl
        have fk1 := hc 1 _ rfl
        have fk2 := hc 2 _ rfl
        have fk3 := hc 3 _ rfl
        have fk4 := hc 4 _ rfl
        simp only [Nat.add_zero] at fk0
        clear hc
        have hdr := right_drop kids (d + 1) i hi2
        rw [hq.out] at hdr
        have ci := HI.out i hi2 wr _ hk (HD.out i hlt)
        obtain ⟨x, hx⟩ : ∃ x, kids[i]'hi2 = x := ⟨_, rfl⟩
        rw [hx] at fk0 fk1 fk2 fk3 fk4 hk hdr
        simp only [hx] at ci
        clear hk hx
        generalize x.kind = k0 at *
        generalize x.n = k1 at *
        generalize x.name = k2 at *
        generalize x.op = k3 at *
        generalize x.kids.length = k4 at *
        cases hs : rightE x (d + 1)
        · rw [hs] at hdr ci
          have hz : GR = false := by rw [hdr]; rfl
          have HZ := Lib.hid hz
          clear hdr hq HG2 hz
          go_wp2_with fail
          (with_reducible refine ci.mono ?_)
          rintro e w2 ⟨rfl, hb⟩
          have B3 := via hb hB
          go_wp2
          go_ret
          exact ⟨(by rw [HZ.out] <;> rfl), B3⟩
        · rw [hs, Bool.true_and] at hdr
          rw [hs] at ci
          have HD2 := Lib.hid (show rightL (kids.drop (i + 1)) (d + 1) = GR from hdr.symm)
          clear hdr hq HG2
          go_wp2_with fail
          (with_reducible refine ci.mono ?_)
          rintro e w2 ⟨rfl, hb⟩
          have B3 := via hb hB
          have X3 := hX.next hb
          go_wp2
          go_roundw
          case rel => exact ⟨i + 1, by go_num, by omega, HD2, B3, X3⟩
          case measure => simp [intOf]; omega
      · have hi2 : i = 1 := by omega
        subst hi2
        have hz : GR = true := by
          rw [← hq.out, List.drop_of_length_le (by have := HKL.out; omega)]; rfl
        have HZ := Lib.hid hz
        clear hq HG2 hz
        go_wp2
        go_ret
        exact ⟨(by rw [HZ.out] <;> rfl), hB⟩
  by_cases h4 : k = 4
  · have hk := h4
    have HK := Lib.hid hk
    have e0 : (k == 0) = false := by rw [hk]; decide
    have e1 : (k == 1) = false := by rw [hk]; decide
    have e2 : (k == 2) = false := by rw [hk]; decide
    have e3 : (k == 3) = false := by rw [hk]; decide
    have e4 : (k == 4) = true := by rw [hk]; decide
    by_cases hn : n = 0
    rotate_left
    · have a1 : ((0 : Int) != n) = true := by rw [bne_iff_ne]; omega
      have a2 : ((0 : Int) == n) = false := by rw [beq_eq_false_iff_ne]; omega
      have hbr : bareE k n nm op = false := by unfold bareE; rw [show (n == 0) = false from beq_eq_false_iff_ne.2 hn, e0]; rfl
      have hz : GR = false := by rw [← HG.out, right_eq]; simp [hbr]
      have HZ := Lib.hid hz
      clear hz
      clear hk h4
      go_enter Tryz.func17, Tryz.ntmps17
      go_wp2
      go_ret
      exact ⟨(by rw [HZ.out] <;> rfl), by go_grown⟩
    have a1 : ((0 : Int) != n) = false := by rw [bne_eq_false_iff_eq]; omega
    have a2 : ((0 : Int) == n) = true := by rw [beq_iff_eq]; omega
    have HN := Lib.hid hn
    clear hn
    have a3 : decide (n < 0) = false := by have := HN.out; simp; omega
    by_cases hnme : nm.data.toList = []
    rotate_left
    · have b1 : (([] : List UInt8) == nm.toList) = false := by rw [Lib.toList_data, beq_eq_false_iff_ne]; exact fun e => hnme e.symm
      have b2 : (([] : List UInt8) != nm.toList) = true := by rw [bne, b1]; rfl
      have hbr : bareE k n nm op = false := by unfold bareE; rw [show (nm.data.toList == []) = false from beq_eq_false_iff_ne.2 hnme, e1]; simp
      have hz : GR = false := by rw [← HG.out, right_eq]; simp [hbr]
      have HZ := Lib.hid hz
      clear hz
      clear hk h4
      go_enter Tryz.func17, Tryz.ntmps17
      go_wp2
      go_ret
      exact ⟨(by rw [HZ.out] <;> rfl), by go_grown⟩
    have b1 : (([] : List UInt8) == nm.toList) = true := by rw [Lib.toList_data, hnme]; rfl
    have b2 : (([] : List UInt8) != nm.toList) = false := by rw [bne, b1]; rfl
    have hkid : kidsE k = 2 := by rw [hk]; rfl
    by_cases hkl2 : kl = 2
    rotate_left
    · have tk : ((kl : Int) != 2) = true := by rw [bne_iff_ne]; omega
      have hkl4 : ¬ kids.length = kidsE k := by rw [hkid, hkl]; exact hkl2
      have hz : GR = false := by rw [← HG.out, right_eq]; simp [hkl4]
      have HZ := Lib.hid hz
      clear hz
      clear hk h4
      go_enter Tryz.func17, Tryz.ntmps17
      go_wp2
      go_ret
      exact ⟨(by rw [HZ.out] <;> rfl), by go_grown⟩
    have tk : ((kl : Int) != 2) = false := by rw [bne_eq_false_iff_eq]; omega
    have HKL2 := Lib.hid hkl2
    have HKL := Lib.hid (show kids.length = 2 by rw [hkl]; exact hkl2)
    have hkl4 : decide (kids.length = kidsE k) = true := by rw [hkid, hkl]; simpa using hkl2
    clear hkl2
    have hkl2 := hkl4
    have d1 : decide (k < 0) = false := by rw [hk]; decide
    have d2 : decide (4 < k) = false := by rw [hk]; decide
    have cn := fun W => rstrength_c op W
    by_cases hst : 0 < strength op
    rotate_left
    · have hs0 : strength op = 0 := by omega
      have hokk : okE k n nm op d = false := by unfold okE; rw [if_neg (by omega), if_neg (by omega), if_neg (by omega), if_pos hk]; simp [hst]
      simp only [hs0] at cn
      have hz : GR = false := by rw [← HG.out, right_eq]; simp [hokk]
      have HZ := Lib.hid hz
      clear hz
      clear hnme
      clear hk h4
      go_enter Tryz.func17, Tryz.ntmps17
      go_wp2_with fail
      (with_reducible refine (cn _).mono ?_)
      rintro x w2 ⟨rfl, rfl⟩
      go_wp2
      go_ret
      exact ⟨(by rw [HZ.out] <;> rfl), by go_grown⟩
    have t1 : ((strength op : Int) == 0) = false := by rw [beq_eq_false_iff_ne]; omega
    by_cases hd64 : d < 64
    rotate_left
    · have t0 : decide ((64 : Int) ≤ (d : Int)) = true := by simp; omega
      have t0n : decide (64 ≤ d) = true := by simp; omega
      have hokk : okE k n nm op d = false := by unfold okE; rw [if_neg (by omega), if_neg (by omega), if_neg (by omega), if_pos hk]; simp; omega
      have hz : GR = false := by rw [← HG.out, right_eq]; simp [hokk]
      have HZ := Lib.hid hz
      clear hz
      clear hnme
      clear hk h4
      go_enter Tryz.func17, Tryz.ntmps17
      go_wp2_with fail
      (with_reducible refine (cn _).mono ?_)
      rintro x w2 ⟨rfl, rfl⟩
      go_wp2
      go_ret
      exact ⟨(by rw [HZ.out] <;> rfl), by go_grown⟩
    have t0 : decide ((64 : Int) ≤ (d : Int)) = false := by simp; omega
    have t0n : decide (64 ≤ d) = false := by simp; omega
    have hokk : okE k n nm op d = true := by unfold okE; rw [if_neg (by omega), if_neg (by omega), if_neg (by omega), if_pos hk]; simp [hst, hd64]
    have hbr : bareE k n nm op = true := by unfold bareE; rw [show (n == 0) = true from beq_iff_eq.2 HN.out, show (nm.data.toList == []) = true from beq_iff_eq.2 hnme, e4]; simp
    have hd1 : ∀ i : Nat, i < 2 → d + 1 ≤ 64 := by
      intro i hi
      omega
    have HD := Lib.hid hd1
    clear hd1
    clear hkid hkl4 hnme
    clear hk h4
    go_enter Tryz.func17, Tryz.ntmps17
    go_wp2_with fail
    (with_reducible refine (cn _).mono ?_)
    rintro x w2 ⟨rfl, rfl⟩
    have HG2 := Lib.hid (show rightL (kids.drop 0) (d + 1) = GR by rw [← HG.out, right_eq, hokk, hbr, hkl2]; simp)
    clear HG hokk hbr hkl2
    go_wp2
    go_loopw [7] (fun v wr => ∃ i : Nat, v = .int .i64 i ∧ i ≤ 2 ∧ Hid (rightL (kids.drop i) (d + 1) = GR) ∧ Below w.heap.size w wr ∧ Blk wr w.heap.size 24 (exC k n nm op A kl c).toArray) (fun v _ => 2 - (intOf v).toNat)
    case atStart => exact ⟨0, rfl, by omega, HG2, by go_grown, (Blk.new _ _ _).alloc _⟩
    case round =>
      obtain ⟨i, rfl, hi, hq, hB, hX⟩ := hrel
      have zB := hB.size
      have y0 := hX.cell 0
      have y1 := hX.cell 1
      have y2 := hX.cell 2
      have y3 := hX.cell 3
      have y4 := hX.cell 4
      simp only [List.getElem?_toArray, List.getElem?_cons_zero, List.getElem?_cons_succ] at y0 y1 y2 y3 y4
      by_cases hlt : i < 2
      · have hi2 : i < kids.length := by have := HKL.out; omega
        have hil : i < kl := by have := HKL2.out; omega
        obtain ⟨g0, o, A2, c2, rfl, hk, hc⟩ := (HE.out.bel hB).kid_ hi2
        have fk0 := hc 0 _ rfl
        have fk1 := hc 1 _ rfl
        have fk2 := hc 2 _ rfl
        have fk3 := hc 3 _ rfl
        have fk4 := hc 4 _ rfl
        simp only [Nat.add_zero] at fk0
        clear hc
        have hdr := right_drop kids (d + 1) i hi2
        rw [hq.out] at hdr
        have ci := HI.out i hi2 wr _ hk (HD.out i hlt)
        obtain ⟨x, hx⟩ : ∃ x, kids[i]'hi2 = x := ⟨_, rfl⟩
        rw [hx] at fk0 fk1 fk2 fk3 fk4 hk hdr
        simp only [hx] at ci
        clear hk hx
        generalize x.kind = k0 at *
        generalize x.n = k1 at *
        generalize x.name = k2 at *
        generalize x.op = k3 at *
        generalize x.kids.length = k4 at *
        cases hs : rightE x (d + 1)
        · rw [hs] at hdr ci
          have hz : GR = false := by rw [hdr]; rfl
          have HZ := Lib.hid hz
          clear hdr hq HG2 hz
          go_wp2_with fail
          (with_reducible refine ci.mono ?_)
          rintro e w2 ⟨rfl, hb⟩
          have B3 := via hb hB
          go_wp2
          go_ret
          exact ⟨(by rw [HZ.out] <;> rfl), B3⟩
        · rw [hs, Bool.true_and] at hdr
          rw [hs] at ci
          have HD2 := Lib.hid (show rightL (kids.drop (i + 1)) (d + 1) = GR from hdr.symm)
          clear hdr hq HG2
          go_wp2_with fail
          (with_reducible refine ci.mono ?_)
          rintro e w2 ⟨rfl, hb⟩
          have B3 := via hb hB
          have X3 := hX.next hb
          go_wp2
          go_roundw
          case rel => exact ⟨i + 1, by go_num, by omega, HD2, B3, X3⟩
          case measure => simp [intOf]; omega
      · have hi2 : i = 2 := by omega
        subst hi2
        have hz : GR = true := by
          rw [← hq.out, List.drop_of_length_le (by have := HKL.out; omega)]; rfl
        have HZ := Lib.hid hz
        clear hq HG2 hz
        go_wp2
        go_ret
        exact ⟨(by rw [HZ.out] <;> rfl), hB⟩
  have e0 : (k == 0) = false := by simpa using h0
  have e1 : (k == 1) = false := by simpa using h1
  have e2 : (k == 2) = false := by simpa using h2
  have e3 : (k == 3) = false := by simpa using h3
  have e4 : (k == 4) = false := by simpa using h4
  by_cases hn : n = 0
  rotate_left
  · have a1 : ((0 : Int) != n) = true := by rw [bne_iff_ne]; omega
    have a2 : ((0 : Int) == n) = false := by rw [beq_eq_false_iff_ne]; omega
    have hbr : bareE k n nm op = false := by unfold bareE; rw [show (n == 0) = false from beq_eq_false_iff_ne.2 hn, e0]; rfl
    have hz : GR = false := by rw [← HG.out, right_eq]; simp [hbr]
    have HZ := Lib.hid hz
    clear hz
    go_enter Tryz.func17, Tryz.ntmps17
    go_wp2
    go_ret
    exact ⟨(by rw [HZ.out] <;> rfl), by go_grown⟩
  have a1 : ((0 : Int) != n) = false := by rw [bne_eq_false_iff_eq]; omega
  have a2 : ((0 : Int) == n) = true := by rw [beq_iff_eq]; omega
  have HN := Lib.hid hn
  clear hn
  have a3 : decide (n < 0) = false := by have := HN.out; simp; omega
  by_cases hnme : nm.data.toList = []
  rotate_left
  · have b1 : (([] : List UInt8) == nm.toList) = false := by rw [Lib.toList_data, beq_eq_false_iff_ne]; exact fun e => hnme e.symm
    have b2 : (([] : List UInt8) != nm.toList) = true := by rw [bne, b1]; rfl
    have hbr : bareE k n nm op = false := by unfold bareE; rw [show (nm.data.toList == []) = false from beq_eq_false_iff_ne.2 hnme, e1]; simp
    have hz : GR = false := by rw [← HG.out, right_eq]; simp [hbr]
    have HZ := Lib.hid hz
    clear hz
    go_enter Tryz.func17, Tryz.ntmps17
    go_wp2
    go_ret
    exact ⟨(by rw [HZ.out] <;> rfl), by go_grown⟩
  have b1 : (([] : List UInt8) == nm.toList) = true := by rw [Lib.toList_data, hnme]; rfl
  have b2 : (([] : List UInt8) != nm.toList) = false := by rw [bne, b1]; rfl
  by_cases hope : op.data.toList = []
  rotate_left
  · have c1 : (([] : List UInt8) == op.toList) = false := by rw [Lib.toList_data, beq_eq_false_iff_ne]; exact fun e => hope e.symm
    have c2 : (([] : List UInt8) != op.toList) = true := by rw [bne, c1]; rfl
    have hbr : bareE k n nm op = false := by unfold bareE; rw [show (op.data.toList == []) = false from beq_eq_false_iff_ne.2 hope, e4]; simp
    have hz : GR = false := by rw [← HG.out, right_eq]; simp [hbr]
    have HZ := Lib.hid hz
    clear hz
    go_enter Tryz.func17, Tryz.ntmps17
    go_wp2
    go_ret
    exact ⟨(by rw [HZ.out] <;> rfl), by go_grown⟩
  have c1 : (([] : List UInt8) == op.toList) = true := by rw [Lib.toList_data, hope]; rfl
  have c2 : (([] : List UInt8) != op.toList) = false := by rw [bne, c1]; rfl
  have hkid : kidsE k = 0 := by unfold kidsE; rw [if_neg (by omega), if_neg h4]
  by_cases hkl2 : kl = 0
  rotate_left
  · have tk : ((kl : Int) != 0) = true := by rw [bne_iff_ne]; omega
    have hkl4 : ¬ kids.length = kidsE k := by rw [hkid, hkl]; exact hkl2
    have hz : GR = false := by rw [← HG.out, right_eq]; simp [hkl4]
    have HZ := Lib.hid hz
    clear hz
    go_enter Tryz.func17, Tryz.ntmps17
    go_wp2
    go_ret
    exact ⟨(by rw [HZ.out] <;> rfl), by go_grown⟩
  have tk : ((kl : Int) != 0) = false := by rw [bne_eq_false_iff_eq]; omega
  have HKL2 := Lib.hid hkl2
  have HKL := Lib.hid (show kids.length = 0 by rw [hkl]; exact hkl2)
  have hkl4 : decide (kids.length = kidsE k) = true := by rw [hkid, hkl]; simpa using hkl2
  clear hkl2
  have hkl2 := hkl4
  have hokk : okE k n nm op d = false := by unfold okE; rw [if_neg h0, if_neg h1, if_neg (by omega), if_neg h4]
  by_cases hneg : k < 0
  · have d1 : decide (k < 0) = true := by simpa using hneg
    have hz : GR = false := by rw [← HG.out, right_eq]; simp [hokk]
    have HZ := Lib.hid hz
    clear hz
    go_enter Tryz.func17, Tryz.ntmps17
    go_wp2
    go_ret
    exact ⟨(by rw [HZ.out] <;> rfl), by go_grown⟩
  have d1 : decide (k < 0) = false := by simpa using hneg
  have d2 : decide (4 < k) = true := by simp; omega
  have hz : GR = false := by rw [← HG.out, right_eq]; simp [hokk]
  have HZ := Lib.hid hz
  clear hz
  go_enter Tryz.func17, Tryz.ntmps17
  go_wp2
  go_ret
  exact ⟨(by rw [HZ.out] <;> rfl), by go_grown⟩
end CalW
end Go.Proofs.YtchceoclkdofhaaGreatDoor
