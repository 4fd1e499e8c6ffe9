/- The program's Parse of an expression: the walk. Condition: token lists that fit. -/
import Derived.Test.YtchceoclkdofhaaGreatDoorExpS
import Derived.Test.YtchceoclkdofhaaGreatDoorExpSq
namespace Go.Proofs.YtchceoclkdofhaaGreatDoor
set_option linter.unusedVariables false
set_option linter.unusedSimpArgs false
open Go.RowKit
namespace ExpW
open CalP CalW ExpP
/-- What a Parse answers. -/
def PaX (l : List Tk) (i : Int) (w : World) (x : Ending) (w' : World) : Prop := Below w.heap.size w w' ∧ ∃ (y : Ex) (cs : List Value) (k : Nat) (e : Int), x = .returned (.tuple #[.agg cs.toArray, .int .i64 k, .int .i64 e]) ∧ Et w' (w.heap.size ≤ ·) y cs ∧ parseX l i = (y, k, e)
theorem results53 {fn : Func} {p a b : Tmp} (h : fn.results = #[.cell p 24, .tmp a, .tmp b]) (tmps : Array Value) (w : World) (g : Nat) (cs : Array Value) (va vb : Value) (hp : tmps.getD p undef = pt g) (ha : tmps.getD a undef = va) (hb : tmps.getD b undef = vb) (hg : Blk w g 24 cs) (hc : cs.size = 5) :
    (results fn tmps).run Tryz.prog w = .ok (.tuple #[.agg cs, va, vb]) w := by
  have hp' : tmps[p]?.getD undef = .pointer (some ⟨g, 0, none⟩) := by simpa using hp
  have ha' : tmps[a]?.getD undef = va := by simpa using ha
  have hb' : tmps[b]?.getD undef = vb := by simpa using hb
  simp [results, h, hp', ha', hb', asAddr, run_loadVar_row w g 24 24 cs (0, 0) _ hg Tryz.underlying24 rfl (by rw [ex_size, hc])]
theorem blk_drew {w : World} {g : Nat} {T : TypeId} {cs : Array Value} (h : Blk w g T cs) : Blk w.drew g T cs := h
theorem below_drew {B : Nat} {w w' : World} (h : Below B w w') : Below B w w'.drew := ⟨h.os, h.tape, h.output, h.size, h.block⟩
theorem et_drew {w : World} {K : Nat → Prop} {r : Ex} {cs : List Value} (h : Et w K r cs) : Et w.drew K r cs := h.keep (fun _ hb => hb) (fun _ _ _ => rfl)
theorem below_put5 {a w : World} {B g : Nat} (h : Below B a w) (hg : B ≤ g) (v0 v1 v2 v3 v4 : Value) : Below B a (put5 w g v0 v1 v2 v3 v4) :=
  ((((h.setCell (p := ⟨g, 0, none⟩) hg v0).setCell (p := ⟨g, 1, none⟩) hg v1).setCell (p := ⟨g, 2, none⟩) hg v2).setCell (p := ⟨g, 3, none⟩) hg v3).setCell (p := ⟨g, 4, none⟩) hg v4
set_option maxRecDepth 100000 in
set_option maxHeartbeats 3200000 in
theorem parse_c (A : Option Addr) (c : Nat) (l : List Tk) (i : Int) (w : World) (ht : Tks w w.heap.size A l) (hl : l.length ≤ 1000000) :
    Calls Tryz.prog 14 #[.slice A l.length c, .int .i64 i] w (PaX l i w) := by
  unfold PaX
  obtain ⟨w1, hw1⟩ : ∃ z : World, w.alloc (.cells zV 24) = z := ⟨_, rfl⟩
  have X1 : Blk w1 w.heap.size 24 zV := by rw [← hw1]; exact Blk.new _ _ _
  have B1 : Below w.heap.size w w1 := by rw [← hw1]; go_grown
  have t1 : Tks w1 w.heap.size A l := by rw [← hw1]; exact ht.bel (by go_grown)
  obtain ⟨PX, hPX⟩ : ∃ z, parseX l i = z := ⟨_, rfl⟩
  rw [hPX]
  have HPX := Lib.hid hPX
  clear hPX
  by_cases hi : 0 ≤ i ∧ i ≤ l.length
  rotate_left
  · have hz : PX = (zEx, 0, 1) := by rw [← HPX.out, parseX, if_neg hi]
    have hq : decide (i < 0) = true ∨ (decide (i < 0) = false ∧ decide ((l.length : Int) < i) = true) := by
      by_cases h0 : i < 0
      · exact .inl (decide_eq_true h0)
      · exact .inr ⟨decide_eq_false h0, decide_eq_true (by omega)⟩
    have HZ := Lib.hid hz
    clear hz hi HPX ht t1
    have p0 := X1.cell 0
    have r0 := X1.loose 0
    have p1 := X1.cell 1
    have r1 := X1.loose 1
    have p2 := X1.cell 2
    have r2 := X1.loose 2
    have p3 := X1.cell 3
    have r3 := X1.loose 3
    have p4 := X1.cell 4
    have r4 := X1.loose 4
    simp only [List.getElem?_toArray, List.getElem?_cons_zero, List.getElem?_cons_succ] at p0 p1 p2 p3 p4
    have RB := Lib.hid (put5_blk X1 (.int .i64 0) (.int .i64 0) (.string noB) (.string noB) (.slice none 0 0))
    have BB := Lib.hid (below_put5 B1 (g := w.heap.size) (Nat.le_refl _) (.int .i64 0) (.int .i64 0) (.string noB) (.string noB) (.slice none 0 0))
    clear X1 B1
    generalize l.length = N at *
    rcases hq with q0 | ⟨q0, q1⟩
    all_goals
      go_enter Tryz.func14, Tryz.ntmps14
      go_wp2_with fail
      refine bodyPost_ret (results53 (by rfl) _ _ w.heap.size zV _ _ (by rfl) (by rfl) (by rfl) RB.out (by rfl)) rfl ?_
      exact ⟨BB.out, zEx, _, 0, 1, rfl, zEt, HZ.out⟩
  obtain ⟨h0, h1⟩ := hi
  obtain ⟨j, rfl⟩ := Int.eq_ofNat_of_zero_le h0
  have hj : j ≤ l.length := by omega
  have hz : PX = match (lv l 64).some 1 j with | .error (k, e) => (zEx, k, e) | .ok (x, k) => (x, k, 0) := by rw [← HPX.out, parseX, if_pos ⟨h0, h1⟩, Int.toNat_natCast]; cases (lv l 64).some 1 j <;> rfl
  have HZ := Lib.hid hz
  have q0 : decide ((j : Int) < 0) = false := decide_eq_false (by omega)
  have q1 : decide ((l.length : Int) < (j : Int)) = false := decide_eq_false (by omega)
  have q1' : decide (l.length < j) = false := decide_eq_false (by omega)
  clear hz HPX h0 h1 ht
  obtain ⟨w2, hw2⟩ : ∃ z : World, w1.alloc (.cells #[.slice A l.length c, .int .i64 j, .int .i64 0] RP) = z := ⟨_, rfl⟩
  have hR : w.heap.size < w1.heap.size := X1.lt
  have h2 : Rdx RP w2 w1.heap.size A c l j 0 := by rw [← hw2]; exact Blk.new _ _ _
  have X2 : Blk w2 w.heap.size 24 zV := by rw [← hw2]; exact X1.alloc _
  have B2 : Below w.heap.size w w2 := by rw [← hw2]; exact B1.alloc B1.size _
  have t2 : Tks w2 w.heap.size A l := by rw [← hw2]; exact t1.bel (by go_grown)
  obtain ⟨R, hRe⟩ : ∃ R, w1.heap.size = R := ⟨_, rfl⟩
  rw [hRe] at h2 hR
  have c3 := (par_c 64 (Nat.le_refl _)).2 R w.heap.size A c l j 1 w2 (by omega) (by omega) h2 t2 (by omega) hj hl
  rw [show (64 : Int) - ((64 : Nat) : Int) = 0 by decide, show ((1 : Nat) : Int) = 1 from rfl] at c3
  go_enter Tryz.func14, Tryz.ntmps14
  go_wp2_with fail
  (with_reducible refine c3.mono ?_)
  clear c3 hw2 hw1 hRe
  rintro x0 w4 ⟨x, cs, k, e, rfl, hE, h4, t4, hkl, hr⟩
  obtain ⟨A2, c2, rfl⟩ := hE.shape
  have X4 := Blk.tch (S := On R) X2 t4 (by show ¬ w.heap.size = R; omega)
  have B4 : Below w.heap.size w w4 := t4.below B2 (fun b hb => by have hb : b = R := hb; omega) B2.size
  have hR4 : R < w4.heap.size := Blk.lt h4
  have hs2 := B2.size
  have hR2 : R < w2.heap.size := Blk.lt h2
  clear X1 B1 t1 X2 B2 t2 h2
  obtain ⟨w5, hw5⟩ : ∃ z : World, w4.alloc (.cells (exC x.kind x.n x.name x.op A2 x.kids.length c2).toArray 24) = z := ⟨_, rfl⟩
  have X5 : Blk w5 w.heap.size 24 zV := by rw [← hw5]; exact X4.alloc _
  have h5 : Rdx RP w5 R A c l k e := by rw [← hw5]; exact Blk.alloc h4 _
  have B5 : Below w.heap.size w w5 := by rw [← hw5]; exact B4.alloc B4.size _
  have K5 : Blk w5 w4.heap.size 24 (exC x.kind x.n x.name x.op A2 x.kids.length c2).toArray := by rw [← hw5]; exact Blk.new _ _ _
  have E5 := Et.bel hE (w' := w5) (by rw [← hw5]; go_grown)
  have hXl := X5.lt
  obtain ⟨k0, k1, k2⟩ := h5.cells
  have p0 := X5.cell 0
  have r0 := X5.loose 0
  have p1 := X5.cell 1
  have r1 := X5.loose 1
  have p2 := X5.cell 2
  have r2 := X5.loose 2
  have p3 := X5.cell 3
  have r3 := X5.loose 3
  have p4 := X5.cell 4
  have r4 := X5.loose 4
  simp only [List.getElem?_toArray, List.getElem?_cons_zero, List.getElem?_cons_succ] at p0 p1 p2 p3 p4
  have u0 := K5.cell 0
  have u1 := K5.cell 1
  have u2 := K5.cell 2
  have u3 := K5.cell 3
  have u4 := K5.cell 4
  simp only [List.getElem?_toArray, List.getElem?_cons_zero, List.getElem?_cons_succ] at u0 u1 u2 u3 u4
  have hXR : (R == w.heap.size) = false := by rw [beq_eq_false_iff_ne]; omega
  have hXR2 : (w.heap.size == R) = false := by rw [beq_eq_false_iff_ne]; omega
  have hXg : (w4.heap.size == w.heap.size) = false := by rw [beq_eq_false_iff_ne]; omega
  clear X4 B4 h4 hE
  by_cases he : e = 0
  · subst he
    have hf : PX = (x, k, 0) := by
      rw [HZ.out]
      rcases hr with ⟨-, hr⟩ | ⟨h, -⟩
      · rw [hr]
      · exact absurd rfl h
    have HF := Lib.hid hf
    have RB := Lib.hid (blk_drew (put5_blk X5 (.int .i64 x.kind) (.int .i64 x.n) (.string x.name) (.string x.op) (.slice A2 x.kids.length c2)))
    have BB := Lib.hid (below_drew (below_put5 B5 (g := w.heap.size) (Nat.le_refl _) (.int .i64 x.kind) (.int .i64 x.n) (.string x.name) (.string x.op) (.slice A2 x.kids.length c2)))
    have RE := Lib.hid (et_drew (Et.put E5 (g := w.heap.size) (a' := w.heap.size) (by omega) (by omega) (.int .i64 x.kind) (.int .i64 x.n) (.string x.name) (.string x.op) (.slice A2 x.kids.length c2)))
    clear X5 B5 E5 h5 K5 hr hf HZ
    go_upto_region 7 with fail
    go_region
    all_goals
      go_wp2_with fail
      refine bodyPost_ret (results53 (by rfl) _ _ w.heap.size _ _ _ (by rfl) (by rfl) (by rfl) RB.out (by rfl)) rfl ?_
      exact ⟨BB.out, x, _, k, 0, rfl, RE.out, HF.out⟩
  · have q5 : (e == 0) = false := by simpa using he
    have q6 : (e != 0) = true := by simpa using he
    have hf : PX = (zEx, k, e) := by
      rw [HZ.out]
      rcases hr with ⟨h, -⟩ | ⟨-, hr⟩
      · exact absurd h he
      · rw [hr]
    have HF := Lib.hid hf
    have RB := Lib.hid (blk_drew (put5_blk X5 (.int .i64 0) (.int .i64 0) (.string noB) (.string noB) (.slice none 0 0)))
    have BB := Lib.hid (below_drew (below_put5 B5 (g := w.heap.size) (Nat.le_refl _) (.int .i64 0) (.int .i64 0) (.string noB) (.string noB) (.slice none 0 0)))
    clear X5 B5 E5 h5 K5 hr hf HZ he
    go_upto_region 6 with fail
    go_region
    all_goals
      go_wp2_with fail
      refine bodyPost_ret (results53 (by rfl) _ _ w.heap.size zV _ _ (by rfl) (by rfl) (by rfl) RB.out (by rfl)) rfl ?_
      exact ⟨BB.out, zEx, _, k, e, rfl, zEt, HF.out⟩
end ExpW
end Go.Proofs.YtchceoclkdofhaaGreatDoor
namespace Go.Proofs.YtchceoclkdofhaaGreatDoor
set_option linter.unusedVariables false
set_option linter.unusedSimpArgs false
open Go.RowKit
namespace ExpW
open CalP CalW ExpP
set_option maxRecDepth 100000 in
set_option maxHeartbeats 3200000 in
theorem parseq_c (A : Option Addr) (c : Nat) (l : List Tk) (i : Int) (w : World) (ht : Tks w w.heap.size A l) (hl : l.length ≤ 1000000) :
    Calls Tryz.prog 22 #[.slice A l.length c, .int .i64 i] w (PaX l i w) := by
  unfold PaX
  obtain ⟨w1, hw1⟩ : ∃ z : World, w.alloc (.cells zV 24) = z := ⟨_, rfl⟩
  have X1 : Blk w1 w.heap.size 24 zV := by rw [← hw1]; exact Blk.new _ _ _
  have B1 : Below w.heap.size w w1 := by rw [← hw1]; go_grown
  have t1 : Tks w1 w.heap.size A l := by rw [← hw1]; exact ht.bel (by go_grown)
  obtain ⟨PX, hPX⟩ : ∃ z, parseX l i = z := ⟨_, rfl⟩
  rw [hPX]
  have HPX := Lib.hid hPX
  clear hPX
  by_cases hi : 0 ≤ i ∧ i ≤ l.length
  rotate_left
  · have hz : PX = (zEx, 0, 1) := by rw [← HPX.out, parseX, if_neg hi]
    have hq : decide (i < 0) = true ∨ (decide (i < 0) = false ∧ decide ((l.length : Int) < i) = true) := by
      by_cases h0 : i < 0
      · exact .inl (decide_eq_true h0)
      · exact .inr ⟨decide_eq_false h0, decide_eq_true (by omega)⟩
    have HZ := Lib.hid hz
    clear hz hi HPX ht t1
    have p0 := X1.cell 0
    have r0 := X1.loose 0
    have p1 := X1.cell 1
    have r1 := X1.loose 1
    have p2 := X1.cell 2
    have r2 := X1.loose 2
    have p3 := X1.cell 3
    have r3 := X1.loose 3
    have p4 := X1.cell 4
    have r4 := X1.loose 4
    simp only [List.getElem?_toArray, List.getElem?_cons_zero, List.getElem?_cons_succ] at p0 p1 p2 p3 p4
    have RB := Lib.hid (put5_blk X1 (.int .i64 0) (.int .i64 0) (.string noB) (.string noB) (.slice none 0 0))
    have BB := Lib.hid (below_put5 B1 (g := w.heap.size) (Nat.le_refl _) (.int .i64 0) (.int .i64 0) (.string noB) (.string noB) (.slice none 0 0))
    clear X1 B1
    generalize l.length = N at *
    rcases hq with q0 | ⟨q0, q1⟩
    all_goals
      go_enter Tryz.func22, Tryz.ntmps22
      go_wp2_with fail
      refine bodyPost_ret (results53 (by rfl) _ _ w.heap.size zV _ _ (by rfl) (by rfl) (by rfl) RB.out (by rfl)) rfl ?_
      exact ⟨BB.out, zEx, _, 0, 1, rfl, zEt, HZ.out⟩
  obtain ⟨h0, h1⟩ := hi
  obtain ⟨j, rfl⟩ := Int.eq_ofNat_of_zero_le h0
  have hj : j ≤ l.length := by omega
  have hz : PX = match (lv l 64).some 1 j with | .error (k, e) => (zEx, k, e) | .ok (x, k) => (x, k, 0) := by rw [← HPX.out, parseX, if_pos ⟨h0, h1⟩, Int.toNat_natCast]; cases (lv l 64).some 1 j <;> rfl
  have HZ := Lib.hid hz
  have q0 : decide ((j : Int) < 0) = false := decide_eq_false (by omega)
  have q1 : decide ((l.length : Int) < (j : Int)) = false := decide_eq_false (by omega)
  have q1' : decide (l.length < j) = false := decide_eq_false (by omega)
  clear hz HPX h0 h1 ht
  obtain ⟨w2, hw2⟩ : ∃ z : World, w1.alloc (.cells #[.slice A l.length c, .int .i64 j, .int .i64 0] RQ) = z := ⟨_, rfl⟩
  have hR : w.heap.size < w1.heap.size := X1.lt
  have h2 : Rdx RQ w2 w1.heap.size A c l j 0 := by rw [← hw2]; exact Blk.new _ _ _
  have X2 : Blk w2 w.heap.size 24 zV := by rw [← hw2]; exact X1.alloc _
  have B2 : Below w.heap.size w w2 := by rw [← hw2]; exact B1.alloc B1.size _
  have t2 : Tks w2 w.heap.size A l := by rw [← hw2]; exact t1.bel (by go_grown)
  obtain ⟨R, hRe⟩ : ∃ R, w1.heap.size = R := ⟨_, rfl⟩
  rw [hRe] at h2 hR
  have c3 := (parq_c 64 (Nat.le_refl _)).2 R w.heap.size A c l j 1 w2 (by omega) (by omega) h2 t2 (by omega) hj hl
  rw [show (64 : Int) - ((64 : Nat) : Int) = 0 by decide, show ((1 : Nat) : Int) = 1 from rfl] at c3
  go_enter Tryz.func22, Tryz.ntmps22
  go_wp2_with fail
  (with_reducible refine c3.mono ?_)
  clear c3 hw2 hw1 hRe
  rintro x0 w4 ⟨x, cs, k, e, rfl, hE, h4, t4, hkl, hr⟩
  obtain ⟨A2, c2, rfl⟩ := hE.shape
  have X4 := Blk.tch (S := On R) X2 t4 (by show ¬ w.heap.size = R; omega)
  have B4 : Below w.heap.size w w4 := t4.below B2 (fun b hb => by have hb : b = R := hb; omega) B2.size
  have hR4 : R < w4.heap.size := Blk.lt h4
  have hs2 := B2.size
  have hR2 : R < w2.heap.size := Blk.lt h2
  clear X1 B1 t1 X2 B2 t2 h2
  obtain ⟨w5, hw5⟩ : ∃ z : World, w4.alloc (.cells (exC x.kind x.n x.name x.op A2 x.kids.length c2).toArray 24) = z := ⟨_, rfl⟩
  have X5 : Blk w5 w.heap.size 24 zV := by rw [← hw5]; exact X4.alloc _
  have h5 : Rdx RQ w5 R A c l k e := by rw [← hw5]; exact Blk.alloc h4 _
  have B5 : Below w.heap.size w w5 := by rw [← hw5]; exact B4.alloc B4.size _
  have K5 : Blk w5 w4.heap.size 24 (exC x.kind x.n x.name x.op A2 x.kids.length c2).toArray := by rw [← hw5]; exact Blk.new _ _ _
  have E5 := Et.bel hE (w' := w5) (by rw [← hw5]; go_grown)
  have hXl := X5.lt
  obtain ⟨k0, k1, k2⟩ := h5.cells
  have p0 := X5.cell 0
  have r0 := X5.loose 0
  have p1 := X5.cell 1
  have r1 := X5.loose 1
  have p2 := X5.cell 2
  have r2 := X5.loose 2
  have p3 := X5.cell 3
  have r3 := X5.loose 3
  have p4 := X5.cell 4
  have r4 := X5.loose 4
  simp only [List.getElem?_toArray, List.getElem?_cons_zero, List.getElem?_cons_succ] at p0 p1 p2 p3 p4
  have u0 := K5.cell 0
  have u1 := K5.cell 1
  have u2 := K5.cell 2
  have u3 := K5.cell 3
  have u4 := K5.cell 4
  simp only [List.getElem?_toArray, List.getElem?_cons_zero, List.getElem?_cons_succ] at u0 u1 u2 u3 u4
  have hXR : (R == w.heap.size) = false := by rw [beq_eq_false_iff_ne]; omega
  have hXR2 : (w.heap.size == R) = false := by rw [beq_eq_false_iff_ne]; omega
  have hXg : (w4.heap.size == w.heap.size) = false := by rw [beq_eq_false_iff_ne]; omega
  clear X4 B4 h4 hE
  by_cases he : e = 0
  · subst he
    have hf : PX = (x, k, 0) := by
      rw [HZ.out]
      rcases hr with ⟨-, hr⟩ | ⟨h, -⟩
      · rw [hr]
      · exact absurd rfl h
    have HF := Lib.hid hf
    have RB := Lib.hid (blk_drew (put5_blk X5 (.int .i64 x.kind) (.int .i64 x.n) (.string x.name) (.string x.op) (.slice A2 x.kids.length c2)))
    have BB := Lib.hid (below_drew (below_put5 B5 (g := w.heap.size) (Nat.le_refl _) (.int .i64 x.kind) (.int .i64 x.n) (.string x.name) (.string x.op) (.slice A2 x.kids.length c2)))
    have RE := Lib.hid (et_drew (Et.put E5 (g := w.heap.size) (a' := w.heap.size) (by omega) (by omega) (.int .i64 x.kind) (.int .i64 x.n) (.string x.name) (.string x.op) (.slice A2 x.kids.length c2)))
    clear X5 B5 E5 h5 K5 hr hf HZ
    go_upto_region 7 with fail
    go_region
    all_goals
      go_wp2_with fail
      refine bodyPost_ret (results53 (by rfl) _ _ w.heap.size _ _ _ (by rfl) (by rfl) (by rfl) RB.out (by rfl)) rfl ?_
      exact ⟨BB.out, x, _, k, 0, rfl, RE.out, HF.out⟩
  · have q5 : (e == 0) = false := by simpa using he
    have q6 : (e != 0) = true := by simpa using he
    have hf : PX = (zEx, k, e) := by
      rw [HZ.out]
      rcases hr with ⟨h, -⟩ | ⟨-, hr⟩
      · exact absurd h he
      · rw [hr]
    have HF := Lib.hid hf
    have RB := Lib.hid (blk_drew (put5_blk X5 (.int .i64 0) (.int .i64 0) (.string noB) (.string noB) (.slice none 0 0)))
    have BB := Lib.hid (below_drew (below_put5 B5 (g := w.heap.size) (Nat.le_refl _) (.int .i64 0) (.int .i64 0) (.string noB) (.string noB) (.slice none 0 0)))
    clear X5 B5 E5 h5 K5 hr hf HZ he
    go_upto_region 6 with fail
    go_region
    all_goals
      go_wp2_with fail
      refine bodyPost_ret (results53 (by rfl) _ _ w.heap.size zV _ _ (by rfl) (by rfl) (by rfl) RB.out (by rfl)) rfl ?_
      exact ⟨BB.out, zEx, _, k, e, rfl, zEt, HF.out⟩
end ExpW
end Go.Proofs.YtchceoclkdofhaaGreatDoor
