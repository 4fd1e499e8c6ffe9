/- The walk of the expression reader's class, continued. Conditions: texts that fit. -/
import Derived.Test.YtdonokghemhfiaaDoorEreD
namespace Go.Proofs.YtdonokghemhfiaaDoor
set_option linter.unusedVariables false
set_option linter.unusedSimpArgs false
open Go.RowKit
namespace EreW
open EreP
theorem words4 (w : World) (Y : Nat) (a b : Nat) (h : Blk w Y 25 (wcells a)) :
    Blk ((((w.setCell ⟨Y, 0, none⟩ (.int .u64 (word b 0))).setCell ⟨Y, 1, none⟩ (.int .u64 (word b 1))).setCell ⟨Y, 2, none⟩ (.int .u64 (word b 2))).setCell ⟨Y, 3, none⟩ (.int .u64 (word b 3))) Y 25 (wcells b) :=
  (((h.set_ 0 _).set_ 1 _).set_ 2 _).set_ 3 _
theorem far4 (w : World) (Y g : Nat) (t : TypeId) (cs : Array Value) (v0 v1 v2 v3 : Value) (h : Blk w g t cs) (hg : g ≠ Y) :
    Blk ((((w.setCell ⟨Y, 0, none⟩ v0).setCell ⟨Y, 1, none⟩ v1).setCell ⟨Y, 2, none⟩ v2).setCell ⟨Y, 3, none⟩ v3) g t cs :=
  (((h.far (p := ⟨Y, 0, none⟩) hg v0).far (p := ⟨Y, 1, none⟩) hg v1).far (p := ⟨Y, 2, none⟩) hg v2).far (p := ⟨Y, 3, none⟩) hg v3
theorem tch4 {S : Nat → Prop} {w0 w : World} (Y : Nat) (v0 v1 v2 v3 : Value) (h : Tch S w0 w) (hS : S Y) :
    Tch S w0 ((((w.setCell ⟨Y, 0, none⟩ v0).setCell ⟨Y, 1, none⟩ v1).setCell ⟨Y, 2, none⟩ v2).setCell ⟨Y, 3, none⟩ v3) :=
  (((h.setCell (p := ⟨Y, 0, none⟩) hS v0).setCell (p := ⟨Y, 1, none⟩) hS v1).setCell (p := ⟨Y, 2, none⟩) hS v2).setCell (p := ⟨Y, 3, none⟩) hS v3
theorem far9 {w : World} {X g : Nat} {t : TypeId} {cs : Array Value} {v0 v1 v2 v3 v4 v5 v6 v7 v8 : Value} (h : Blk w g t cs) (hg : g ≠ X) : Blk (((((((((w.setCell ⟨X, 0, none⟩ v0).setCell ⟨X, 1, none⟩ v1).setCell ⟨X, 2, none⟩ v2).setCell ⟨X, 3, none⟩ v3).setCell ⟨X, 4, none⟩ v4).setCell ⟨X, 5, none⟩ v5).setCell ⟨X, 6, none⟩ v6).setCell ⟨X, 7, none⟩ v7).setCell ⟨X, 8, none⟩ v8) g t cs := (((((((((h.far (p := ⟨X, 0, none⟩) hg v0).far (p := ⟨X, 1, none⟩) hg v1).far (p := ⟨X, 2, none⟩) hg v2).far (p := ⟨X, 3, none⟩) hg v3).far (p := ⟨X, 4, none⟩) hg v4).far (p := ⟨X, 5, none⟩) hg v5).far (p := ⟨X, 6, none⟩) hg v6).far (p := ⟨X, 7, none⟩) hg v7).far (p := ⟨X, 8, none⟩) hg v8)
theorem tch9 {S : Nat → Prop} {w0 w : World} {X : Nat} {v0 v1 v2 v3 v4 v5 v6 v7 v8 : Value} (h : Tch S w0 w) (hS : S X) : Tch S w0 (((((((((w.setCell ⟨X, 0, none⟩ v0).setCell ⟨X, 1, none⟩ v1).setCell ⟨X, 2, none⟩ v2).setCell ⟨X, 3, none⟩ v3).setCell ⟨X, 4, none⟩ v4).setCell ⟨X, 5, none⟩ v5).setCell ⟨X, 6, none⟩ v6).setCell ⟨X, 7, none⟩ v7).setCell ⟨X, 8, none⟩ v8) := (((((((((h.setCell (p := ⟨X, 0, none⟩) hS v0).setCell (p := ⟨X, 1, none⟩) hS v1).setCell (p := ⟨X, 2, none⟩) hS v2).setCell (p := ⟨X, 3, none⟩) hS v3).setCell (p := ⟨X, 4, none⟩) hS v4).setCell (p := ⟨X, 5, none⟩) hS v5).setCell (p := ⟨X, 6, none⟩) hS v6).setCell (p := ⟨X, 7, none⟩) hS v7).setCell (p := ⟨X, 8, none⟩) hS v8)
theorem tch_new {R : Nat} {S : Nat → Prop} {w w1 w3 : World} (t0 : Tch (On R) w w1) (t1 : Tch S w1 w3) (hS : ∀ b, S b → w.heap.size ≤ b) : Tch (On R) w w3 :=
  ⟨t1.os.trans t0.os, t1.tape.trans t0.tape, t1.output.trans t0.output, Nat.le_trans t0.size t1.size, fun k hk hs => (t1.block k (by have := t0.size; omega) (fun e => by have := hS k e; omega)).trans (t0.block k hk hs)⟩
theorem item_err {l r : Bs} {e : Nat} (h : itemP l = .error (r, e)) : r.length ≤ l.length := by
  cases l with
  | nil => cases h; exact Nat.le_refl _
  | cons d l =>
    rw [itemP.eq_def] at h
    simp only at h
    split at h
    · injection h with h; injection h with h _; subst h; exact Nat.le_refl _
    · split at h
      · cases l with
        | nil => simp only at h; injection h with h; injection h with h _; subst h; simp
        | cons e l => cases h
      · cases h
theorem span_err_len {l r : Bs} {e : Nat} (h : spanP l = .error (r, e)) : r.length ≤ l.length := by
  unfold spanP at h
  split at h
  · next e1 => injection h with h; subst h; exact item_err e1
  · next low r1 e1 =>
    have h1 := item_len e1
    cases r1 with
    | nil => cases h
    | cons c r1 =>
      simp only at h
      split at h
      · split at h
        · next e2 => injection h with h; subst h; have := item_err e2; simp at h1; omega
        · next high r2 e2 =>
          have := item_len e2
          split at h
          · injection h with h; injection h with h _; subst h; simp at h1 ⊢; omega
          · cases h
      · cases h
/-- How a set was read. -/
def ClassPost (s : ByteArray) (R i g : Nat) (w : World) (x : Ending) (w' : World) : Prop :=
  ∃ (S k e : Nat), x = .returned (.agg (reC 1 S none 0 0 0 0 0).toArray) ∧ S < 2 ^ 256 ∧ Rdr w' R s k g e ∧ k ≤ s.size ∧ Tch (On R) w w' ∧
    ((e = 0 ∧ classP (rest s i) = .ok (S, rest s k)) ∨ (e = 1 ∧ classP (rest s i) = .error (rest s k, 1)))
theorem tch_in {R B : Nat} {w w0 w1 : World} (t0 : Tch (On R) w w0) (t1 : Tch (fun b => b = R ∨ b = B) w0 w1) (hB : w.heap.size ≤ B) : Tch (On R) w w1 :=
  ⟨t1.os.trans t0.os, t1.tape.trans t0.tape, t1.output.trans t0.output, Nat.le_trans t0.size t1.size, fun k hk hs => (t1.block k (by have := t0.size; omega) (fun e => by rcases e with e | e; exact hs e; omega)).trans (t0.block k hk hs)⟩
theorem lt_toNat {a b : UInt8} : decide (a.toNat < b.toNat) = decide (a < b) := by
  rw [Bool.eq_iff_iff, decide_eq_true_eq, decide_eq_true_eq, UInt8.lt_iff_toNat_lt]
theorem lt_256 (c : UInt8) : c.toNat < 256 := by have := c.toNat_lt; omega
set_option maxHeartbeats 3200000 in
set_option maxRecDepth 100000 in
theorem class_plain (R : Nat) (s : ByteArray) (i g : Nat) (w : World) (h : Rdr w R s i g 0) (hi : i ≤ s.size) (hs : s.size ≤ 4611686018427387904) (hh : (rest s i).head? ≠ some 94) :
    Calls Tryd.prog 66 #[pt R] w (ClassPost s R i g w) := by
  obtain ⟨wa, hwa⟩ : ∃ z : World, z = w.alloc (.cells zC 28) := ⟨_, rfl⟩
  have ha : Rdr wa R s i g 0 := by rw [hwa]; exact h.alloc _
  have xa : Blk wa w.heap.size 28 zC := by rw [hwa]; exact Blk.new _ _ _
  have za : wa.heap.size = w.heap.size + 1 := by rw [hwa, World.size_alloc]
  have ta : Tch (On R) w wa := by rw [hwa]; exact (Tch.refl _ _).alloc _
  have hlR := h.lt
  have cp := peek_c R s ⟨#[94]⟩ i g 0 wa ha
  have hp : peekB (⟨#[94]⟩ : ByteArray).data.toList (rest s i) 0 = false := by
    unfold peekB
    cases hr : rest s i with
    | nil => rfl
    | cons c r => rw [hr] at hh; simp at hh; simp; exact fun h => hh h
  rw [hp] at cp
  have hcl : classP (rest s i) = itemsP ((rest s i).length + 1) true 0 (rest s i) := by unfold classP; rw [if_neg (by simpa using hh)]
  obtain ⟨P, hP⟩ : ∃ P, itemsP ((rest s i).length + 1) true 0 (rest s i) = P := ⟨_, rfl⟩
  rw [hP] at hcl
  have CL := Lib.hid hcl
  have hPd := Lib.hid hP
  clear hh hp hP hcl h
  go_enter Tryd.func66, Tryd.ntmps66
  go_wp2_with fail
  rw [← hwa]
  (with_reducible refine cp.mono ?_)
  rintro x wm ⟨rfl, m, rfl⟩
  clear cp hwa
  have zdr : (wa.drewN m).heap.size = wa.heap.size := rfl
  obtain ⟨w0, hw0⟩ : ∃ z : World, z = (wa.drewN m).alloc (.cells #[.int .u64 0, .int .u64 0, .int .u64 0, .int .u64 0] 25) := ⟨_, rfl⟩
  have h0 : Rdr w0 R s i g 0 := by rw [hw0]; exact (ha.dn m).alloc _
  have x0 : Blk w0 w.heap.size 28 zC := by rw [hw0]; exact (xa.drewN m).alloc _
  have Y0 : Blk w0 wa.heap.size 25 (wcells 0) := by rw [hw0]; exact Blk.new (wa.drewN m) _ _
  have T0 : Tch (On R) w w0 := by rw [hw0]; exact (ta.drewN m).alloc _
  obtain ⟨Y, hYe⟩ : ∃ Y, Y = w.heap.size + 1 := ⟨_, rfl⟩
  obtain ⟨X, hXe⟩ : ∃ X, X = w.heap.size := ⟨_, rfl⟩
  rw [za, ← hYe] at Y0
  rw [← hXe] at x0
  have hYw : w.heap.size ≤ Y := by omega
  have hXw : w.heap.size ≤ X := by omega
  have ne1 : R ≠ Y := by omega
  have ne2 : R ≠ X := by omega
  have ne3 : Y ≠ X := by omega
  have hstart : Items s R g X Y w0 P true i 0 0 w0 := ⟨h0, hi, Y0, x0, by decide, Tch.refl _ _, Or.inl ⟨rfl, _, Nat.lt_succ_self _, hPd.out.symm⟩⟩
  have HST := Lib.hid hstart
  clear hstart h0 x0 Y0
  go_wp2_with fail
  rw [← hw0, ← hYe, ← hXe]
  clear hw0 hYe hXe
  go_loopg [5, 6, 7] (2 * (s.size - (i)) + 1) (fun gg fv _ _ wr => ∃ (fb : Bool) (k acc e : Nat), fv = .bool fb ∧ Items s R g X Y w0 P fb k acc e wr ∧ 2 * (s.size - k) + (if e = 0 then 1 else 0) ≤ gg)
  case atStart => exact ⟨true, i, 0, 0, rfl, HST.out, by simp⟩
  case round =>
    obtain ⟨z0, rfl⟩ : ∃ z : World, z = wr := ⟨_, rfl⟩
    obtain ⟨fb, k, acc, e, rfl, hI, hgg⟩ := hrel
    have hR := hI.rdr
    obtain ⟨k0, k1, k2, k3⟩ := hR.cells
    have hRY := ne1
    have hRX := ne2
    have hYX := ne3
    by_cases he : e = 0
    rotate_left
    · have d1 : ((e : Int) == 0) = false := by rw [beq_eq_false_iff_ne]; omega
      have cn := need_no R s ⟨#[93]⟩ k g e z0 hR (by unfold peekB; rw [show (e == 0) = false by rw [beq_eq_false_iff_ne]; omega]; rfl)
      have hsp : e = 1 ∧ P = .error (rest s k, 1) := by
        rcases hI.spec with ⟨h1, _⟩ | h1
        · omega
        · exact h1
      obtain ⟨rfl, hP⟩ := hsp
      have HP := Lib.hid hP
      clear hP he
      go_wp2_with fail
      (with_reducible refine cn.mono ?_)
      rintro x w1 ⟨rfl, h1, t1⟩
      have hY1 := hI.set.tch t1 (Ne.symm hRY)
      have hX1 := hI.res.tch t1 (Ne.symm hRX)
      have tt := tch_in T0 (hI.tch.trans (t1.more (fun b hb => Or.inl hb))) hYw
      have hfin : ∀ w2 S, S < 2 ^ 256 → Rdr w2 R s k g 1 → Tch (fun b => b = X ∨ b = Y) w1 w2 → ClassPost s R i g w (.returned (.agg (reC 1 S none 0 0 0 0 0).toArray)) w2 := fun w2 S hS hr ht =>
        ⟨S, k, 1, rfl, hS, hr, hI.le, tch_new tt ht (fun b hb => by rcases hb with hb | hb <;> omega), Or.inr ⟨rfl, by rw [CL.out]; exact HP.out⟩⟩
      clear cn
      have HFIN := Lib.hid hfin
      have y0 := hY1.cell 0
      have y1 := hY1.cell 1
      have y2 := hY1.cell 2
      have y3 := hY1.cell 3
      rw [wcells_at _ _ (by omega)] at y0 y1 y2 y3
      have LT := Lib.hid hI.lt
      clear hfin hI HP
      have p0 := hX1.cell 0
      have p1 := hX1.cell 1
      have p2 := hX1.cell 2
      have p3 := hX1.cell 3
      have p4 := hX1.cell 4
      have p5 := hX1.cell 5
      have p6 := hX1.cell 6
      have p7 := hX1.cell 7
      have p8 := hX1.cell 8
      simp only [List.getElem?_toArray, List.getElem?_cons_zero, List.getElem?_cons_succ] at p0 p1 p2 p3 p4 p5 p6 p7 p8
      have r0 := hX1.loose 0
      have r1 := hX1.loose 1
      have r2 := hX1.loose 2
      have r3 := hX1.loose 3
      have r4 := hX1.loose 4
      have r5 := hX1.loose 5
      have r6 := hX1.loose 6
      have r7 := hX1.loose 7
      have r8 := hX1.loose 8
      go_wp2
      refine bodyPost_ret (v := .agg (reC 1 (acc) none 0 0 0 0 0).toArray) (by simp [results, Tryd.results66, go_sem, p0, p1, p2, p3, p4, p5, p6, p7, p8]) rfl ?_
      exact HFIN.out _ _ LT.out (far9 h1 hRX) (tch9 (Tch.refl _ _) (Or.inl rfl))
    subst he
    by_cases hno : (!fb && (rest s k).head? == some 93) = true
    · -- the end
      have hfb : fb = false ∧ (rest s k).head? = some 93 := by simpa using hno
      obtain ⟨rfl, hd⟩ := hfb
      have hP := items_end hI hd
      have hlt : k < s.size := by
        rcases Nat.lt_or_ge k s.size with h | h
        · exact h
        · rw [rest_nil s k h] at hd; cases hd
      have hc : (s[k]'hlt) = 93 := by rw [rest_cons s k hlt] at hd; simpa using hd
      have cp := peek_c R s ⟨#[93]⟩ k g 0 z0 hR
      rw [rest_cons s k hlt, hc, show peekB (⟨#[93]⟩ : ByteArray).data.toList (93 :: rest s (k + 1)) 0 = true from rfl] at cp
      have HP := Lib.hid hP
      have cn := fun W hW => need_ok R s ⟨#[93]⟩ k g W hW hlt (by rw [hc]; rfl) hs
      clear hd hc hP hno
      go_wp2_with fail
      (with_reducible refine cp.mono ?_)
      rintro x w1 ⟨rfl, m, rfl⟩
      have cn' := cn (z0.drewN m) (hR.dn m)
      clear cp cn
      go_wp2_with fail
      (with_reducible refine cn'.mono ?_)
      rintro x w2 ⟨rfl, h2, t2⟩
      have hY1 := (hI.set.drewN m).tch t2 (Ne.symm hRY)
      have hX1 := (hI.res.drewN m).tch t2 (Ne.symm hRX)
      have tt := tch_in T0 ((hI.tch.drewN m).trans (t2.more (fun b hb => Or.inl hb))) hYw
      have hfin : ∀ w3, Rdr w3 R s (k + 1) g 0 → Tch (fun b => b = X ∨ b = Y) w2 w3 → ClassPost s R i g w (.returned (.agg (reC 1 (acc) none 0 0 0 0 0).toArray)) w3 := fun w3 hr ht =>
        ⟨acc, k + 1, 0, rfl, hI.lt, hr, by omega, tch_new tt ht (fun b hb => by rcases hb with hb | hb <;> omega), Or.inl ⟨rfl, by rw [CL.out]; exact HP.out⟩⟩
      clear cn'
      obtain ⟨w1, hw1⟩ : ∃ z : World, z = w2 := ⟨_, rfl⟩
      rw [← hw1] at hY1 hX1 hfin h2 ⊢
      have h1 := h2
      clear hw1 t2 h2
      have HFIN := Lib.hid hfin
      have y0 := hY1.cell 0
      have y1 := hY1.cell 1
      have y2 := hY1.cell 2
      have y3 := hY1.cell 3
      rw [wcells_at _ _ (by omega)] at y0 y1 y2 y3
      have LT := Lib.hid hI.lt
      clear hfin hI HP
      have p0 := hX1.cell 0
      have p1 := hX1.cell 1
      have p2 := hX1.cell 2
      have p3 := hX1.cell 3
      have p4 := hX1.cell 4
      have p5 := hX1.cell 5
      have p6 := hX1.cell 6
      have p7 := hX1.cell 7
      have p8 := hX1.cell 8
      simp only [List.getElem?_toArray, List.getElem?_cons_zero, List.getElem?_cons_succ] at p0 p1 p2 p3 p4 p5 p6 p7 p8
      have r0 := hX1.loose 0
      have r1 := hX1.loose 1
      have r2 := hX1.loose 2
      have r3 := hX1.loose 3
      have r4 := hX1.loose 4
      have r5 := hX1.loose 5
      have r6 := hX1.loose 6
      have r7 := hX1.loose 7
      have r8 := hX1.loose 8
      go_wp2
      refine bodyPost_ret (v := .agg (reC 1 (acc) none 0 0 0 0 0).toArray) (by simp [results, Tryd.results66, go_sem, p0, p1, p2, p3, p4, p5, p6, p7, p8]) rfl ?_
      exact HFIN.out _ (far9 h1 hRX) (tch9 (Tch.refl _ _) (Or.inl rfl))
    · -- one more
      rw [Bool.not_eq_true] at hno
      have hgo : ∃ m : Nat, True := ⟨0, trivial⟩
      have ce := fun W hW => end_c R s k g W hW hI.le hs
      have cp := peek_c R s ⟨#[93]⟩ k g 0 z0 hR
      have hfbc : fb = true ∨ (fb = false ∧ peekB (⟨#[93]⟩ : ByteArray).data.toList (rest s k) 0 = false) := by
        cases fb
        · right
          refine ⟨rfl, ?_⟩
          unfold peekB
          cases hr : rest s k with
          | nil => rfl
          | cons c r => rw [hr] at hno; simp at hno; simp; exact fun h => hno h
        · exact Or.inl rfl
      have hgg1 := hgg
      rw [if_pos rfl] at hgg1
      have hle := hI.le
      have HI := Lib.hid hI
      have HN := Lib.hid hno
      have hY := hI.set
      have hX := hI.res
      have hT := hI.tch
      clear hI hgo hno hgg
      rcases hfbc with rfl | ⟨rfl, hp⟩
      · clear cp
        go_wp2_with fail
        (with_reducible refine (ce z0 hR).mono ?_)
        rintro x w1 ⟨a, k', e', rfl, h1, hk1, t1, hs1⟩
        have t01 : Tch (fun b => b = R ∨ b = Y) w0 w1 := hT.trans (t1.more (fun b hb => Or.inl hb))
        have hY1 := hY.tch t1 (Ne.symm hRY)
        have hX1 := hX.tch t1 (Ne.symm hRX)
        clear ce k0 k1 k2 k3
        rcases hs1 with ⟨rfl, hs1⟩ | ⟨rfl, hs1⟩
        rotate_left
        · -- no byte
          have cp1 := peek_c R s ⟨#[45]⟩ k' g 1 w1 h1
          rw [show peekB (⟨#[45]⟩ : ByteArray).data.toList (rest s k') 1 = false from rfl] at cp1
          have HS := Lib.hid (span_err hs1)
          clear hs1
          go_wp2_with fail
          (with_reducible refine cp1.mono ?_)
          rintro x wm2 ⟨rfl, m2, rfl⟩
          clear cp1
          have hh9 : Rdr (w1.drewN m2) R s (k') g 1 := h1.dn m2
          have tt9 : Tch (fun b => b = R ∨ b = Y) w0 (w1.drewN m2) := t01.drewN m2
          have yy9 : Blk (w1.drewN m2) Y 25 (wcells acc) := hY1.drewN m2
          have xx9 : Blk (w1.drewN m2) X 28 zC := hX1.drewN m2
          have y0 := yy9.cell 0
          have y1 := yy9.cell 1
          have y2 := yy9.cell 2
          have y3 := yy9.cell 3
          rw [wcells_at _ _ (by omega)] at y0 y1 y2 y3
          have cw := fun W => with_c acc a a W
          have hlw := lt_256 a
          generalize hW9 : w1.drewN m2 = W9 at *
          go_wp2_with fail
          (with_reducible refine (cw _).mono ?_)
          rintro x w9 ⟨rfl, hb9⟩
          have hY9 := yy9.next hb9
          have z0' := hY9.cell 0
          have z1' := hY9.cell 1
          have z2' := hY9.cell 2
          have z3' := hY9.cell 3
          rw [wcells_at _ _ (by omega)] at z0' z1' z2' z3'
          have f0' := hY9.loose 0
          have f1' := hY9.loose 1
          have f2' := hY9.loose 2
          have f3' := hY9.loose 3
          have hfin := items_go HI.out HN.out (k' := k') (acc' := acc ||| rangeS a.toNat a.toNat) (e' := 1)
            (far4 w9 Y R _ _ (.int .u64 (word (acc ||| rangeS a.toNat a.toNat) 0)) (.int .u64 (word (acc ||| rangeS a.toNat a.toNat) 1)) (.int .u64 (word (acc ||| rangeS a.toNat a.toNat) 2)) (.int .u64 (word (acc ||| rangeS a.toNat a.toNat) 3)) (hh9.next hb9) hRY)
            (by omega) (words4 w9 Y acc _ hY9) (or_lt HI.out.lt (range_lt hlw)) (far4 w9 Y X _ _ _ _ _ _ (xx9.next hb9) (Ne.symm hYX)) (tch4 Y _ _ _ _ (tt9.trans (Tch.of_below hb9)) (Or.inr rfl)) (Or.inr ⟨rfl, HS.out⟩)
          have HFIN := Lib.hid hfin
          clear hfin cw y0 y1 y2 y3
          generalize acc ||| rangeS a.toNat a.toNat = A2 at *
          go_wp2
          go_roundg (2 * (s.size - (k')) + (if (1 : Nat) = 0 then 1 else 0))
          case measure => (have hl := span_err_len HS.out; rw [rest_len, rest_len] at hl; simp; omega)
          case rel => exact ⟨false, k', A2, 1, rfl, HFIN.out, Nat.le_refl _⟩
        by_cases hdash : (rest s k').head? = some 45
        rotate_left
        · have cp1 := peek_c R s ⟨#[45]⟩ k' g 0 w1 h1
          have hp1 : peekB (⟨#[45]⟩ : ByteArray).data.toList (rest s k') 0 = false := by
            unfold peekB
            cases hr : rest s k' with
            | nil => rfl
            | cons c r => rw [hr] at hdash; simp at hdash; simp; exact fun h => hdash h
          rw [hp1] at cp1
          have hkk := item_len hs1
          rw [rest_len, rest_len] at hkk
          have HS := Lib.hid (span_one hs1 hdash)
          clear hs1 hdash hp1
          go_wp2_with fail
          (with_reducible refine cp1.mono ?_)
          rintro x wm2 ⟨rfl, m2, rfl⟩
          clear cp1
          have hh9 : Rdr (w1.drewN m2) R s (k') g 0 := h1.dn m2
          have tt9 : Tch (fun b => b = R ∨ b = Y) w0 (w1.drewN m2) := t01.drewN m2
          have yy9 : Blk (w1.drewN m2) Y 25 (wcells acc) := hY1.drewN m2
          have xx9 : Blk (w1.drewN m2) X 28 zC := hX1.drewN m2
          have y0 := yy9.cell 0
          have y1 := yy9.cell 1
          have y2 := yy9.cell 2
          have y3 := yy9.cell 3
          rw [wcells_at _ _ (by omega)] at y0 y1 y2 y3
          have cw := fun W => with_c acc a a W
          have hlw := lt_256 a
          generalize hW9 : w1.drewN m2 = W9 at *
          go_wp2_with fail
          (with_reducible refine (cw _).mono ?_)
          rintro x w9 ⟨rfl, hb9⟩
          have hY9 := yy9.next hb9
          have z0' := hY9.cell 0
          have z1' := hY9.cell 1
          have z2' := hY9.cell 2
          have z3' := hY9.cell 3
          rw [wcells_at _ _ (by omega)] at z0' z1' z2' z3'
          have f0' := hY9.loose 0
          have f1' := hY9.loose 1
          have f2' := hY9.loose 2
          have f3' := hY9.loose 3
          have hfin := items_go HI.out HN.out (k' := k') (acc' := acc ||| rangeS a.toNat a.toNat) (e' := 0)
            (far4 w9 Y R _ _ (.int .u64 (word (acc ||| rangeS a.toNat a.toNat) 0)) (.int .u64 (word (acc ||| rangeS a.toNat a.toNat) 1)) (.int .u64 (word (acc ||| rangeS a.toNat a.toNat) 2)) (.int .u64 (word (acc ||| rangeS a.toNat a.toNat) 3)) (hh9.next hb9) hRY)
            (by omega) (words4 w9 Y acc _ hY9) (or_lt HI.out.lt (range_lt hlw)) (far4 w9 Y X _ _ _ _ _ _ (xx9.next hb9) (Ne.symm hYX)) (tch4 Y _ _ _ _ (tt9.trans (Tch.of_below hb9)) (Or.inr rfl)) (Or.inl ⟨rfl, a, a, HS.out, rfl⟩)
          have HFIN := Lib.hid hfin
          clear hfin cw y0 y1 y2 y3
          generalize acc ||| rangeS a.toNat a.toNat = A2 at *
          go_wp2
          go_roundg (2 * (s.size - (k')) + (if (0 : Nat) = 0 then 1 else 0))
          case measure => rw [if_pos rfl]; omega
          case rel => exact ⟨false, k', A2, 0, rfl, HFIN.out, Nat.le_refl _⟩
        have hlt1 : k' < s.size := by
          rcases Nat.lt_or_ge k' s.size with h | h
          · exact h
          · rw [rest_nil s k' h] at hdash; cases hdash
        have hc1 : (s[k']'hlt1) = 45 := by rw [rest_cons s k' hlt1] at hdash; simpa using hdash
        have hr1 : rest s k' = 45 :: rest s (k' + 1) := by rw [rest_cons s k' hlt1, hc1]
        rw [hr1] at hs1
        have cp1 := peek_c R s ⟨#[45]⟩ k' g 0 w1 h1
        rw [hr1, show peekB (⟨#[45]⟩ : ByteArray).data.toList (45 :: rest s (k' + 1)) 0 = true from rfl] at cp1
        have cn1 := fun m => next_ok R s k' g (w1.drewN m) (h1.dn m) hlt1 hs
        have ce2 := fun W hW => end_c R s (k' + 1) g W hW (by omega) hs
        have hkk := item_len hs1
        rw [List.length_cons, rest_len, rest_len] at hkk
        clear hc1 hdash hr1
        go_wp2_with fail
        (with_reducible refine cp1.mono ?_)
        rintro x wm2 ⟨rfl, m2, rfl⟩
        have cn2 := cn1 m2
        clear cp1 cn1
        go_wp2_with fail
        (with_reducible refine cn2.mono ?_)
        rintro x w2 ⟨rfl, h2, t2⟩
        have ce3 := ce2 w2 h2
        clear cn2 ce2
        have t02 : Tch (fun b => b = R ∨ b = Y) w0 w2 := (t01.drewN m2).trans (t2.more (fun b hb => Or.inl hb))
        have hY2 := (hY1.drewN m2).tch t2 (Ne.symm hRY)
        have hX2 := (hX1.drewN m2).tch t2 (Ne.symm hRX)
        go_wp2_with fail
        (with_reducible refine ce3.mono ?_)
        rintro x w3 ⟨b, k2, e2, rfl, h3, hk2, t3, hs2⟩
        clear ce3
        have t03 : Tch (fun b => b = R ∨ b = Y) w0 w3 := t02.trans (t3.more (fun b hb => Or.inl hb))
        have hY3 := hY2.tch t3 (Ne.symm hRY)
        have hX3 := hX2.tch t3 (Ne.symm hRX)
        obtain ⟨q0, q1, q2, q3⟩ := h3.cells
        rcases hs2 with ⟨rfl, hs2⟩ | ⟨rfl, hs2⟩
        rotate_left
        · have HS := Lib.hid (span_err2 hs1 hs2)
          clear hs1 hs2
          have hh9 : Rdr (w3) R s (k2) g 1 := h3
          have tt9 : Tch (fun b => b = R ∨ b = Y) w0 (w3) := t03
          have yy9 : Blk (w3) Y 25 (wcells acc) := hY3
          have xx9 : Blk (w3) X 28 zC := hX3
          have y0 := yy9.cell 0
          have y1 := yy9.cell 1
          have y2 := yy9.cell 2
          have y3 := yy9.cell 3
          rw [wcells_at _ _ (by omega)] at y0 y1 y2 y3
          have cw := fun W => with_c acc a b W
          have hlw := lt_256 b
          generalize hW9 : w3 = W9 at *
          go_wp2_with fail
          (with_reducible refine (cw _).mono ?_)
          rintro x w9 ⟨rfl, hb9⟩
          have hY9 := yy9.next hb9
          have z0' := hY9.cell 0
          have z1' := hY9.cell 1
          have z2' := hY9.cell 2
          have z3' := hY9.cell 3
          rw [wcells_at _ _ (by omega)] at z0' z1' z2' z3'
          have f0' := hY9.loose 0
          have f1' := hY9.loose 1
          have f2' := hY9.loose 2
          have f3' := hY9.loose 3
          have hfin := items_go HI.out HN.out (k' := k2) (acc' := acc ||| rangeS a.toNat b.toNat) (e' := 1)
            (far4 w9 Y R _ _ (.int .u64 (word (acc ||| rangeS a.toNat b.toNat) 0)) (.int .u64 (word (acc ||| rangeS a.toNat b.toNat) 1)) (.int .u64 (word (acc ||| rangeS a.toNat b.toNat) 2)) (.int .u64 (word (acc ||| rangeS a.toNat b.toNat) 3)) (hh9.next hb9) hRY)
            (by omega) (words4 w9 Y acc _ hY9) (or_lt HI.out.lt (range_lt hlw)) (far4 w9 Y X _ _ _ _ _ _ (xx9.next hb9) (Ne.symm hYX)) (tch4 Y _ _ _ _ (tt9.trans (Tch.of_below hb9)) (Or.inr rfl)) (Or.inr ⟨rfl, HS.out⟩)
          have HFIN := Lib.hid hfin
          clear hfin cw y0 y1 y2 y3
          generalize acc ||| rangeS a.toNat b.toNat = A2 at *
          go_wp2
          go_roundg (2 * (s.size - (k2)) + (if (1 : Nat) = 0 then 1 else 0))
          case measure => (have hl := span_err_len HS.out; rw [rest_len, rest_len] at hl; simp; omega)
          case rel => exact ⟨false, k2, A2, 1, rfl, HFIN.out, Nat.le_refl _⟩
        have hkk2 := item_len hs2
        rw [rest_len, rest_len] at hkk2
        have dlt := lt_toNat (a := b) (b := a)
        by_cases hba : b < a
        · rw [decide_eq_true hba] at dlt
          obtain ⟨pre, hpre⟩ := item_last hs2
          obtain ⟨b1, b2, b3⟩ := rest_back hpre (by omega) hk2
          have hsb := span_bad hs1 hs2 hba
          rw [← b3] at hsb
          have HS := Lib.hid hsb
          have h4 := h3.setAt (k2 - 1)
          have t4 := t03.setCell (p := ⟨R, 1, none⟩) (Or.inl rfl) (.int .i64 ((k2 - 1 : Nat) : Int))
          have hY4 := hY3.far (p := ⟨R, 1, none⟩) (Ne.symm hRY) (.int .i64 ((k2 - 1 : Nat) : Int))
          have hX4 := hX3.far (p := ⟨R, 1, none⟩) (Ne.symm hRX) (.int .i64 ((k2 - 1 : Nat) : Int))
          have ek : (((k2 - 1 : Nat)) : Int) = (k2 : Int) - 1 := by omega
          rw [ek] at h4 t4 hY4 hX4
          have f1 := h3.free 1
          have h4' : Rdr (w3.setCell ⟨R, 1, none⟩ (.int .i64 ((k2 : Int) - 1))) R s (k2 - 1) g 0 := h4
          have cf := fail1_c R s (k2 - 1) g 0 _ h4'
          clear hs1 hs2 hba hpre b3 hsb h4 ek
          go_wp2_with fail
          (with_reducible refine cf.mono ?_)
          rintro x w5 ⟨rfl, h5, t5⟩
          clear cf
          have t05 : Tch (fun b => b = R ∨ b = Y) w0 w5 := t4.trans (t5.more (fun b hb => Or.inl hb))
          have hY5 := hY4.tch t5 (Ne.symm hRY)
          have hX5 := hX4.tch t5 (Ne.symm hRX)
          clear q0 q1 q2 q3 f1 h4' t4 hY4 hX4
          have hh9 : Rdr (w5) R s (k2 - 1) g 1 := h5
          have tt9 : Tch (fun b => b = R ∨ b = Y) w0 (w5) := t05
          have yy9 : Blk (w5) Y 25 (wcells acc) := hY5
          have xx9 : Blk (w5) X 28 zC := hX5
          have y0 := yy9.cell 0
          have y1 := yy9.cell 1
          have y2 := yy9.cell 2
          have y3 := yy9.cell 3
          rw [wcells_at _ _ (by omega)] at y0 y1 y2 y3
          have cw := fun W => with_c acc a b W
          have hlw := lt_256 b
          generalize hW9 : w5 = W9 at *
          go_wp2_with fail
          (with_reducible refine (cw _).mono ?_)
          rintro x w9 ⟨rfl, hb9⟩
          have hY9 := yy9.next hb9
          have z0' := hY9.cell 0
          have z1' := hY9.cell 1
          have z2' := hY9.cell 2
          have z3' := hY9.cell 3
          rw [wcells_at _ _ (by omega)] at z0' z1' z2' z3'
          have f0' := hY9.loose 0
          have f1' := hY9.loose 1
          have f2' := hY9.loose 2
          have f3' := hY9.loose 3
          have hfin := items_go HI.out HN.out (k' := k2 - 1) (acc' := acc ||| rangeS a.toNat b.toNat) (e' := 1)
            (far4 w9 Y R _ _ (.int .u64 (word (acc ||| rangeS a.toNat b.toNat) 0)) (.int .u64 (word (acc ||| rangeS a.toNat b.toNat) 1)) (.int .u64 (word (acc ||| rangeS a.toNat b.toNat) 2)) (.int .u64 (word (acc ||| rangeS a.toNat b.toNat) 3)) (hh9.next hb9) hRY)
            (by omega) (words4 w9 Y acc _ hY9) (or_lt HI.out.lt (range_lt hlw)) (far4 w9 Y X _ _ _ _ _ _ (xx9.next hb9) (Ne.symm hYX)) (tch4 Y _ _ _ _ (tt9.trans (Tch.of_below hb9)) (Or.inr rfl)) (Or.inr ⟨rfl, HS.out⟩)
          have HFIN := Lib.hid hfin
          clear hfin cw y0 y1 y2 y3
          generalize acc ||| rangeS a.toNat b.toNat = A2 at *
          go_wp2
          go_roundg (2 * (s.size - (k2 - 1)) + (if (1 : Nat) = 0 then 1 else 0))
          case measure => (have hl := span_err_len HS.out; rw [rest_len, rest_len] at hl; simp; omega)
          case rel => exact ⟨false, k2 - 1, A2, 1, rfl, HFIN.out, Nat.le_refl _⟩
        · rw [decide_eq_false hba] at dlt
          have HS := Lib.hid (span_two hs1 hs2 hba)
          clear hs1 hs2 hba
          have hh9 : Rdr (w3) R s (k2) g 0 := h3
          have tt9 : Tch (fun b => b = R ∨ b = Y) w0 (w3) := t03
          have yy9 : Blk (w3) Y 25 (wcells acc) := hY3
          have xx9 : Blk (w3) X 28 zC := hX3
          have y0 := yy9.cell 0
          have y1 := yy9.cell 1
          have y2 := yy9.cell 2
          have y3 := yy9.cell 3
          rw [wcells_at _ _ (by omega)] at y0 y1 y2 y3
          have cw := fun W => with_c acc a b W
          have hlw := lt_256 b
          generalize hW9 : w3 = W9 at *
          go_wp2_with fail
          (with_reducible refine (cw _).mono ?_)
          rintro x w9 ⟨rfl, hb9⟩
          have hY9 := yy9.next hb9
          have z0' := hY9.cell 0
          have z1' := hY9.cell 1
          have z2' := hY9.cell 2
          have z3' := hY9.cell 3
          rw [wcells_at _ _ (by omega)] at z0' z1' z2' z3'
          have f0' := hY9.loose 0
          have f1' := hY9.loose 1
          have f2' := hY9.loose 2
          have f3' := hY9.loose 3
          have hfin := items_go HI.out HN.out (k' := k2) (acc' := acc ||| rangeS a.toNat b.toNat) (e' := 0)
            (far4 w9 Y R _ _ (.int .u64 (word (acc ||| rangeS a.toNat b.toNat) 0)) (.int .u64 (word (acc ||| rangeS a.toNat b.toNat) 1)) (.int .u64 (word (acc ||| rangeS a.toNat b.toNat) 2)) (.int .u64 (word (acc ||| rangeS a.toNat b.toNat) 3)) (hh9.next hb9) hRY)
            (by omega) (words4 w9 Y acc _ hY9) (or_lt HI.out.lt (range_lt hlw)) (far4 w9 Y X _ _ _ _ _ _ (xx9.next hb9) (Ne.symm hYX)) (tch4 Y _ _ _ _ (tt9.trans (Tch.of_below hb9)) (Or.inr rfl)) (Or.inl ⟨rfl, a, b, HS.out, rfl⟩)
          have HFIN := Lib.hid hfin
          clear hfin cw y0 y1 y2 y3
          generalize acc ||| rangeS a.toNat b.toNat = A2 at *
          go_wp2
          go_roundg (2 * (s.size - (k2)) + (if (0 : Nat) = 0 then 1 else 0))
          case measure => rw [if_pos rfl]; omega
          case rel => exact ⟨false, k2, A2, 0, rfl, HFIN.out, Nat.le_refl _⟩
    
      · rw [hp] at cp
        clear hp
        go_wp2_with fail
        (with_reducible refine cp.mono ?_)
        rintro x wm ⟨rfl, m, rfl⟩
        clear cp
        go_wp2_with fail
        (with_reducible refine (ce (z0.drewN m) (hR.dn m)).mono ?_)
        rintro x w1 ⟨a, k', e', rfl, h1, hk1, t1, hs1⟩
        have t01 : Tch (fun b => b = R ∨ b = Y) w0 w1 := (hT.drewN m).trans (t1.more (fun b hb => Or.inl hb))
        have hY1 := (hY.drewN m).tch t1 (Ne.symm hRY)
        have hX1 := (hX.drewN m).tch t1 (Ne.symm hRX)
        clear ce k0 k1 k2 k3
        rcases hs1 with ⟨rfl, hs1⟩ | ⟨rfl, hs1⟩
        rotate_left
        · -- no byte
          have cp1 := peek_c R s ⟨#[45]⟩ k' g 1 w1 h1
          rw [show peekB (⟨#[45]⟩ : ByteArray).data.toList (rest s k') 1 = false from rfl] at cp1
          have HS := Lib.hid (span_err hs1)
          clear hs1
          go_wp2_with fail
          (with_reducible refine cp1.mono ?_)
          rintro x wm2 ⟨rfl, m2, rfl⟩
          clear cp1
          have hh9 : Rdr (w1.drewN m2) R s (k') g 1 := h1.dn m2
          have tt9 : Tch (fun b => b = R ∨ b = Y) w0 (w1.drewN m2) := t01.drewN m2
          have yy9 : Blk (w1.drewN m2) Y 25 (wcells acc) := hY1.drewN m2
          have xx9 : Blk (w1.drewN m2) X 28 zC := hX1.drewN m2
          have y0 := yy9.cell 0
          have y1 := yy9.cell 1
          have y2 := yy9.cell 2
          have y3 := yy9.cell 3
          rw [wcells_at _ _ (by omega)] at y0 y1 y2 y3
          have cw := fun W => with_c acc a a W
          have hlw := lt_256 a
          generalize hW9 : w1.drewN m2 = W9 at *
          go_wp2_with fail
          (with_reducible refine (cw _).mono ?_)
          rintro x w9 ⟨rfl, hb9⟩
          have hY9 := yy9.next hb9
          have z0' := hY9.cell 0
          have z1' := hY9.cell 1
          have z2' := hY9.cell 2
          have z3' := hY9.cell 3
          rw [wcells_at _ _ (by omega)] at z0' z1' z2' z3'
          have f0' := hY9.loose 0
          have f1' := hY9.loose 1
          have f2' := hY9.loose 2
          have f3' := hY9.loose 3
          have hfin := items_go HI.out HN.out (k' := k') (acc' := acc ||| rangeS a.toNat a.toNat) (e' := 1)
            (far4 w9 Y R _ _ (.int .u64 (word (acc ||| rangeS a.toNat a.toNat) 0)) (.int .u64 (word (acc ||| rangeS a.toNat a.toNat) 1)) (.int .u64 (word (acc ||| rangeS a.toNat a.toNat) 2)) (.int .u64 (word (acc ||| rangeS a.toNat a.toNat) 3)) (hh9.next hb9) hRY)
            (by omega) (words4 w9 Y acc _ hY9) (or_lt HI.out.lt (range_lt hlw)) (far4 w9 Y X _ _ _ _ _ _ (xx9.next hb9) (Ne.symm hYX)) (tch4 Y _ _ _ _ (tt9.trans (Tch.of_below hb9)) (Or.inr rfl)) (Or.inr ⟨rfl, HS.out⟩)
          have HFIN := Lib.hid hfin
          clear hfin cw y0 y1 y2 y3
          generalize acc ||| rangeS a.toNat a.toNat = A2 at *
          go_wp2
          go_roundg (2 * (s.size - (k')) + (if (1 : Nat) = 0 then 1 else 0))
          case measure => (have hl := span_err_len HS.out; rw [rest_len, rest_len] at hl; simp; omega)
          case rel => exact ⟨false, k', A2, 1, rfl, HFIN.out, Nat.le_refl _⟩
        by_cases hdash : (rest s k').head? = some 45
        rotate_left
        · have cp1 := peek_c R s ⟨#[45]⟩ k' g 0 w1 h1
          have hp1 : peekB (⟨#[45]⟩ : ByteArray).data.toList (rest s k') 0 = false := by
            unfold peekB
            cases hr : rest s k' with
            | nil => rfl
            | cons c r => rw [hr] at hdash; simp at hdash; simp; exact fun h => hdash h
          rw [hp1] at cp1
          have hkk := item_len hs1
          rw [rest_len, rest_len] at hkk
          have HS := Lib.hid (span_one hs1 hdash)
          clear hs1 hdash hp1
          go_wp2_with fail
          (with_reducible refine cp1.mono ?_)
          rintro x wm2 ⟨rfl, m2, rfl⟩
          clear cp1
          have hh9 : Rdr (w1.drewN m2) R s (k') g 0 := h1.dn m2
          have tt9 : Tch (fun b => b = R ∨ b = Y) w0 (w1.drewN m2) := t01.drewN m2
          have yy9 : Blk (w1.drewN m2) Y 25 (wcells acc) := hY1.drewN m2
          have xx9 : Blk (w1.drewN m2) X 28 zC := hX1.drewN m2
          have y0 := yy9.cell 0
          have y1 := yy9.cell 1
          have y2 := yy9.cell 2
          have y3 := yy9.cell 3
          rw [wcells_at _ _ (by omega)] at y0 y1 y2 y3
          have cw := fun W => with_c acc a a W
          have hlw := lt_256 a
          generalize hW9 : w1.drewN m2 = W9 at *
          go_wp2_with fail
          (with_reducible refine (cw _).mono ?_)
          rintro x w9 ⟨rfl, hb9⟩
          have hY9 := yy9.next hb9
          have z0' := hY9.cell 0
          have z1' := hY9.cell 1
          have z2' := hY9.cell 2
          have z3' := hY9.cell 3
          rw [wcells_at _ _ (by omega)] at z0' z1' z2' z3'
          have f0' := hY9.loose 0
          have f1' := hY9.loose 1
          have f2' := hY9.loose 2
          have f3' := hY9.loose 3
          have hfin := items_go HI.out HN.out (k' := k') (acc' := acc ||| rangeS a.toNat a.toNat) (e' := 0)
            (far4 w9 Y R _ _ (.int .u64 (word (acc ||| rangeS a.toNat a.toNat) 0)) (.int .u64 (word (acc ||| rangeS a.toNat a.toNat) 1)) (.int .u64 (word (acc ||| rangeS a.toNat a.toNat) 2)) (.int .u64 (word (acc ||| rangeS a.toNat a.toNat) 3)) (hh9.next hb9) hRY)
            (by omega) (words4 w9 Y acc _ hY9) (or_lt HI.out.lt (range_lt hlw)) (far4 w9 Y X _ _ _ _ _ _ (xx9.next hb9) (Ne.symm hYX)) (tch4 Y _ _ _ _ (tt9.trans (Tch.of_below hb9)) (Or.inr rfl)) (Or.inl ⟨rfl, a, a, HS.out, rfl⟩)
          have HFIN := Lib.hid hfin
          clear hfin cw y0 y1 y2 y3
          generalize acc ||| rangeS a.toNat a.toNat = A2 at *
          go_wp2
          go_roundg (2 * (s.size - (k')) + (if (0 : Nat) = 0 then 1 else 0))
          case measure => rw [if_pos rfl]; omega
          case rel => exact ⟨false, k', A2, 0, rfl, HFIN.out, Nat.le_refl _⟩
        have hlt1 : k' < s.size := by
          rcases Nat.lt_or_ge k' s.size with h | h
          · exact h
          · rw [rest_nil s k' h] at hdash; cases hdash
        have hc1 : (s[k']'hlt1) = 45 := by rw [rest_cons s k' hlt1] at hdash; simpa using hdash
        have hr1 : rest s k' = 45 :: rest s (k' + 1) := by rw [rest_cons s k' hlt1, hc1]
        rw [hr1] at hs1
        have cp1 := peek_c R s ⟨#[45]⟩ k' g 0 w1 h1
        rw [hr1, show peekB (⟨#[45]⟩ : ByteArray).data.toList (45 :: rest s (k' + 1)) 0 = true from rfl] at cp1
        have cn1 := fun m => next_ok R s k' g (w1.drewN m) (h1.dn m) hlt1 hs
        have ce2 := fun W hW => end_c R s (k' + 1) g W hW (by omega) hs
        have hkk := item_len hs1
        rw [List.length_cons, rest_len, rest_len] at hkk
        clear hc1 hdash hr1
        go_wp2_with fail
        (with_reducible refine cp1.mono ?_)
        rintro x wm2 ⟨rfl, m2, rfl⟩
        have cn2 := cn1 m2
        clear cp1 cn1
        go_wp2_with fail
        (with_reducible refine cn2.mono ?_)
        rintro x w2 ⟨rfl, h2, t2⟩
        have ce3 := ce2 w2 h2
        clear cn2 ce2
        have t02 : Tch (fun b => b = R ∨ b = Y) w0 w2 := (t01.drewN m2).trans (t2.more (fun b hb => Or.inl hb))
        have hY2 := (hY1.drewN m2).tch t2 (Ne.symm hRY)
        have hX2 := (hX1.drewN m2).tch t2 (Ne.symm hRX)
        go_wp2_with fail
        (with_reducible refine ce3.mono ?_)
        rintro x w3 ⟨b, k2, e2, rfl, h3, hk2, t3, hs2⟩
        clear ce3
        have t03 : Tch (fun b => b = R ∨ b = Y) w0 w3 := t02.trans (t3.more (fun b hb => Or.inl hb))
        have hY3 := hY2.tch t3 (Ne.symm hRY)
        have hX3 := hX2.tch t3 (Ne.symm hRX)
        obtain ⟨q0, q1, q2, q3⟩ := h3.cells
        rcases hs2 with ⟨rfl, hs2⟩ | ⟨rfl, hs2⟩
        rotate_left
        · have HS := Lib.hid (span_err2 hs1 hs2)
          clear hs1 hs2
          have hh9 : Rdr (w3) R s (k2) g 1 := h3
          have tt9 : Tch (fun b => b = R ∨ b = Y) w0 (w3) := t03
          have yy9 : Blk (w3) Y 25 (wcells acc) := hY3
          have xx9 : Blk (w3) X 28 zC := hX3
          have y0 := yy9.cell 0
          have y1 := yy9.cell 1
          have y2 := yy9.cell 2
          have y3 := yy9.cell 3
          rw [wcells_at _ _ (by omega)] at y0 y1 y2 y3
          have cw := fun W => with_c acc a b W
          have hlw := lt_256 b
          generalize hW9 : w3 = W9 at *
          go_wp2_with fail
          (with_reducible refine (cw _).mono ?_)
          rintro x w9 ⟨rfl, hb9⟩
          have hY9 := yy9.next hb9
          have z0' := hY9.cell 0
          have z1' := hY9.cell 1
          have z2' := hY9.cell 2
          have z3' := hY9.cell 3
          rw [wcells_at _ _ (by omega)] at z0' z1' z2' z3'
          have f0' := hY9.loose 0
          have f1' := hY9.loose 1
          have f2' := hY9.loose 2
          have f3' := hY9.loose 3
          have hfin := items_go HI.out HN.out (k' := k2) (acc' := acc ||| rangeS a.toNat b.toNat) (e' := 1)
            (far4 w9 Y R _ _ (.int .u64 (word (acc ||| rangeS a.toNat b.toNat) 0)) (.int .u64 (word (acc ||| rangeS a.toNat b.toNat) 1)) (.int .u64 (word (acc ||| rangeS a.toNat b.toNat) 2)) (.int .u64 (word (acc ||| rangeS a.toNat b.toNat) 3)) (hh9.next hb9) hRY)
            (by omega) (words4 w9 Y acc _ hY9) (or_lt HI.out.lt (range_lt hlw)) (far4 w9 Y X _ _ _ _ _ _ (xx9.next hb9) (Ne.symm hYX)) (tch4 Y _ _ _ _ (tt9.trans (Tch.of_below hb9)) (Or.inr rfl)) (Or.inr ⟨rfl, HS.out⟩)
          have HFIN := Lib.hid hfin
          clear hfin cw y0 y1 y2 y3
          generalize acc ||| rangeS a.toNat b.toNat = A2 at *
          go_wp2
          go_roundg (2 * (s.size - (k2)) + (if (1 : Nat) = 0 then 1 else 0))
          case measure => (have hl := span_err_len HS.out; rw [rest_len, rest_len] at hl; simp; omega)
          case rel => exact ⟨false, k2, A2, 1, rfl, HFIN.out, Nat.le_refl _⟩
        have hkk2 := item_len hs2
        rw [rest_len, rest_len] at hkk2
        have dlt := lt_toNat (a := b) (b := a)
        by_cases hba : b < a
        · rw [decide_eq_true hba] at dlt
          obtain ⟨pre, hpre⟩ := item_last hs2
          obtain ⟨b1, b2, b3⟩ := rest_back hpre (by omega) hk2
          have hsb := span_bad hs1 hs2 hba
          rw [← b3] at hsb
          have HS := Lib.hid hsb
          have h4 := h3.setAt (k2 - 1)
          have t4 := t03.setCell (p := ⟨R, 1, none⟩) (Or.inl rfl) (.int .i64 ((k2 - 1 : Nat) : Int))
          have hY4 := hY3.far (p := ⟨R, 1, none⟩) (Ne.symm hRY) (.int .i64 ((k2 - 1 : Nat) : Int))
          have hX4 := hX3.far (p := ⟨R, 1, none⟩) (Ne.symm hRX) (.int .i64 ((k2 - 1 : Nat) : Int))
          have ek : (((k2 - 1 : Nat)) : Int) = (k2 : Int) - 1 := by omega
          rw [ek] at h4 t4 hY4 hX4
          have f1 := h3.free 1
          have h4' : Rdr (w3.setCell ⟨R, 1, none⟩ (.int .i64 ((k2 : Int) - 1))) R s (k2 - 1) g 0 := h4
          have cf := fail1_c R s (k2 - 1) g 0 _ h4'
          clear hs1 hs2 hba hpre b3 hsb h4 ek
          go_wp2_with fail
          (with_reducible refine cf.mono ?_)
          rintro x w5 ⟨rfl, h5, t5⟩
          clear cf
          have t05 : Tch (fun b => b = R ∨ b = Y) w0 w5 := t4.trans (t5.more (fun b hb => Or.inl hb))
          have hY5 := hY4.tch t5 (Ne.symm hRY)
          have hX5 := hX4.tch t5 (Ne.symm hRX)
          clear q0 q1 q2 q3 f1 h4' t4 hY4 hX4
          have hh9 : Rdr (w5) R s (k2 - 1) g 1 := h5
          have tt9 : Tch (fun b => b = R ∨ b = Y) w0 (w5) := t05
          have yy9 : Blk (w5) Y 25 (wcells acc) := hY5
          have xx9 : Blk (w5) X 28 zC := hX5
          have y0 := yy9.cell 0
          have y1 := yy9.cell 1
          have y2 := yy9.cell 2
          have y3 := yy9.cell 3
          rw [wcells_at _ _ (by omega)] at y0 y1 y2 y3
          have cw := fun W => with_c acc a b W
          have hlw := lt_256 b
          generalize hW9 : w5 = W9 at *
          go_wp2_with fail
          (with_reducible refine (cw _).mono ?_)
          rintro x w9 ⟨rfl, hb9⟩
          have hY9 := yy9.next hb9
          have z0' := hY9.cell 0
          have z1' := hY9.cell 1
          have z2' := hY9.cell 2
          have z3' := hY9.cell 3
          rw [wcells_at _ _ (by omega)] at z0' z1' z2' z3'
          have f0' := hY9.loose 0
          have f1' := hY9.loose 1
          have f2' := hY9.loose 2
          have f3' := hY9.loose 3
          have hfin := items_go HI.out HN.out (k' := k2 - 1) (acc' := acc ||| rangeS a.toNat b.toNat) (e' := 1)
            (far4 w9 Y R _ _ (.int .u64 (word (acc ||| rangeS a.toNat b.toNat) 0)) (.int .u64 (word (acc ||| rangeS a.toNat b.toNat) 1)) (.int .u64 (word (acc ||| rangeS a.toNat b.toNat) 2)) (.int .u64 (word (acc ||| rangeS a.toNat b.toNat) 3)) (hh9.next hb9) hRY)
            (by omega) (words4 w9 Y acc _ hY9) (or_lt HI.out.lt (range_lt hlw)) (far4 w9 Y X _ _ _ _ _ _ (xx9.next hb9) (Ne.symm hYX)) (tch4 Y _ _ _ _ (tt9.trans (Tch.of_below hb9)) (Or.inr rfl)) (Or.inr ⟨rfl, HS.out⟩)
          have HFIN := Lib.hid hfin
          clear hfin cw y0 y1 y2 y3
          generalize acc ||| rangeS a.toNat b.toNat = A2 at *
          go_wp2
          go_roundg (2 * (s.size - (k2 - 1)) + (if (1 : Nat) = 0 then 1 else 0))
          case measure => (have hl := span_err_len HS.out; rw [rest_len, rest_len] at hl; simp; omega)
          case rel => exact ⟨false, k2 - 1, A2, 1, rfl, HFIN.out, Nat.le_refl _⟩
        · rw [decide_eq_false hba] at dlt
          have HS := Lib.hid (span_two hs1 hs2 hba)
          clear hs1 hs2 hba
          have hh9 : Rdr (w3) R s (k2) g 0 := h3
          have tt9 : Tch (fun b => b = R ∨ b = Y) w0 (w3) := t03
          have yy9 : Blk (w3) Y 25 (wcells acc) := hY3
          have xx9 : Blk (w3) X 28 zC := hX3
          have y0 := yy9.cell 0
          have y1 := yy9.cell 1
          have y2 := yy9.cell 2
          have y3 := yy9.cell 3
          rw [wcells_at _ _ (by omega)] at y0 y1 y2 y3
          have cw := fun W => with_c acc a b W
          have hlw := lt_256 b
          generalize hW9 : w3 = W9 at *
          go_wp2_with fail
          (with_reducible refine (cw _).mono ?_)
          rintro x w9 ⟨rfl, hb9⟩
          have hY9 := yy9.next hb9
          have z0' := hY9.cell 0
          have z1' := hY9.cell 1
          have z2' := hY9.cell 2
          have z3' := hY9.cell 3
          rw [wcells_at _ _ (by omega)] at z0' z1' z2' z3'
          have f0' := hY9.loose 0
          have f1' := hY9.loose 1
          have f2' := hY9.loose 2
          have f3' := hY9.loose 3
          have hfin := items_go HI.out HN.out (k' := k2) (acc' := acc ||| rangeS a.toNat b.toNat) (e' := 0)
            (far4 w9 Y R _ _ (.int .u64 (word (acc ||| rangeS a.toNat b.toNat) 0)) (.int .u64 (word (acc ||| rangeS a.toNat b.toNat) 1)) (.int .u64 (word (acc ||| rangeS a.toNat b.toNat) 2)) (.int .u64 (word (acc ||| rangeS a.toNat b.toNat) 3)) (hh9.next hb9) hRY)
            (by omega) (words4 w9 Y acc _ hY9) (or_lt HI.out.lt (range_lt hlw)) (far4 w9 Y X _ _ _ _ _ _ (xx9.next hb9) (Ne.symm hYX)) (tch4 Y _ _ _ _ (tt9.trans (Tch.of_below hb9)) (Or.inr rfl)) (Or.inl ⟨rfl, a, b, HS.out, rfl⟩)
          have HFIN := Lib.hid hfin
          clear hfin cw y0 y1 y2 y3
          generalize acc ||| rangeS a.toNat b.toNat = A2 at *
          go_wp2
          go_roundg (2 * (s.size - (k2)) + (if (0 : Nat) = 0 then 1 else 0))
          case measure => rw [if_pos rfl]; omega
          case rel => exact ⟨false, k2, A2, 0, rfl, HFIN.out, Nat.le_refl _⟩
    
set_option maxHeartbeats 3200000 in
set_option maxRecDepth 100000 in
theorem class_not (R : Nat) (s : ByteArray) (i g : Nat) (w : World) (h : Rdr w R s i g 0) (hi : i ≤ s.size) (hs : s.size ≤ 4611686018427387904) (hh : (rest s i).head? = some 94) :
    Calls Tryd.prog 66 #[pt R] w (ClassPost s R i g w) := by
  obtain ⟨wa, hwa⟩ : ∃ z : World, z = w.alloc (.cells zC 28) := ⟨_, rfl⟩
  have ha : Rdr wa R s i g 0 := by rw [hwa]; exact h.alloc _
  have xa : Blk wa w.heap.size 28 zC := by rw [hwa]; exact Blk.new _ _ _
  have za : wa.heap.size = w.heap.size + 1 := by rw [hwa, World.size_alloc]
  have ta : Tch (On R) w wa := by rw [hwa]; exact (Tch.refl _ _).alloc _
  have hlR := h.lt
  have cp := peek_c R s ⟨#[94]⟩ i g 0 wa ha
  have hlt : i < s.size := by
    rcases Nat.lt_or_ge i s.size with h | h
    · exact h
    · rw [rest_nil s i h] at hh; cases hh
  have hc : (s[i]'hlt) = 94 := by rw [rest_cons s i hlt] at hh; simpa using hh
  have hr : rest s i = 94 :: rest s (i + 1) := by rw [rest_cons s i hlt, hc]
  rw [hr, show peekB (⟨#[94]⟩ : ByteArray).data.toList (94 :: rest s (i + 1)) 0 = true from rfl] at cp
  have CL : Hid (classP (rest s i) = match itemsP ((rest s (i + 1)).length + 1) true 0 (rest s (i + 1)) with | .error e => .error e | .ok (s, r) => .ok (notS s, r)) := Lib.hid (by rw [hr]; rfl)
  obtain ⟨P, hP⟩ : ∃ P, itemsP ((rest s (i + 1)).length + 1) true 0 (rest s (i + 1)) = P := ⟨_, rfl⟩
  have hPd := Lib.hid hP
  rw [hP] at CL
  have cn := fun m => next_ok R s i g (wa.drewN m) (ha.dn m) hlt hs
  clear hh hc hr hP h
  go_enter Tryd.func66, Tryd.ntmps66
  go_wp2_with fail
  rw [← hwa]
  (with_reducible refine cp.mono ?_)
  rintro x wm ⟨rfl, m, rfl⟩
  have cn' := cn m
  clear cp cn hwa
  go_wp2_with fail
  (with_reducible refine cn'.mono ?_)
  rintro x wb ⟨rfl, hb, tb⟩
  clear cn'
  have xb := (xa.drewN m).tch tb (show ¬ (w.heap.size = R) by omega)
  have tab : Tch (On R) w wb := (ta.drewN m).trans tb
  have zb := tab.size
  have zab := tb.size
  have zdr : (wa.drewN m).heap.size = wa.heap.size := rfl
  obtain ⟨w0, hw0⟩ : ∃ z : World, z = wb.alloc (.cells #[.int .u64 0, .int .u64 0, .int .u64 0, .int .u64 0] 25) := ⟨_, rfl⟩
  have h0 : Rdr w0 R s (i + 1) g 0 := by rw [hw0]; exact hb.alloc _
  have x0 : Blk w0 w.heap.size 28 zC := by rw [hw0]; exact xb.alloc _
  have Y0 : Blk w0 wb.heap.size 25 (wcells 0) := by rw [hw0]; exact Blk.new _ _ _
  have T0 : Tch (On R) w w0 := by rw [hw0]; exact tab.alloc _
  obtain ⟨Y, hYe⟩ : ∃ Y, Y = wb.heap.size := ⟨_, rfl⟩
  obtain ⟨X, hXe⟩ : ∃ X, X = w.heap.size := ⟨_, rfl⟩
  rw [← hYe] at Y0
  rw [← hXe] at x0
  have hYw : w.heap.size ≤ Y := by omega
  have hXw : w.heap.size ≤ X := by omega
  have ne1 : R ≠ Y := by omega
  have ne2 : R ≠ X := by omega
  have ne3 : Y ≠ X := by omega
  have hstart : Items s R g X Y w0 P true (i + 1) 0 0 w0 := ⟨h0, by omega, Y0, x0, by decide, Tch.refl _ _, Or.inl ⟨rfl, _, Nat.lt_succ_self _, hPd.out.symm⟩⟩
  have HST := Lib.hid hstart
  clear hstart h0 x0 Y0
  go_wp2_with fail
  rw [← hw0, ← hYe, ← hXe]
  clear hw0 hYe hXe
  go_loopg [5, 6, 7] (2 * (s.size - (i + 1)) + 1) (fun gg fv _ _ wr => ∃ (fb : Bool) (k acc e : Nat), fv = .bool fb ∧ Items s R g X Y w0 P fb k acc e wr ∧ 2 * (s.size - k) + (if e = 0 then 1 else 0) ≤ gg)
  case atStart => exact ⟨true, i + 1, 0, 0, rfl, HST.out, by simp⟩
  case round =>
    obtain ⟨z0, rfl⟩ : ∃ z : World, z = wr := ⟨_, rfl⟩
    obtain ⟨fb, k, acc, e, rfl, hI, hgg⟩ := hrel
    have hR := hI.rdr
    obtain ⟨k0, k1, k2, k3⟩ := hR.cells
    have hRY := ne1
    have hRX := ne2
    have hYX := ne3
    by_cases he : e = 0
    rotate_left
    · have d1 : ((e : Int) == 0) = false := by rw [beq_eq_false_iff_ne]; omega
      have cn := need_no R s ⟨#[93]⟩ k g e z0 hR (by unfold peekB; rw [show (e == 0) = false by rw [beq_eq_false_iff_ne]; omega]; rfl)
      have hsp : e = 1 ∧ P = .error (rest s k, 1) := by
        rcases hI.spec with ⟨h1, _⟩ | h1
        · omega
        · exact h1
      obtain ⟨rfl, hP⟩ := hsp
      have HP := Lib.hid hP
      clear hP he
      go_wp2_with fail
      (with_reducible refine cn.mono ?_)
      rintro x w1 ⟨rfl, h1, t1⟩
      have hY1 := hI.set.tch t1 (Ne.symm hRY)
      have hX1 := hI.res.tch t1 (Ne.symm hRX)
      have tt := tch_in T0 (hI.tch.trans (t1.more (fun b hb => Or.inl hb))) hYw
      have hfin : ∀ w2 S, S < 2 ^ 256 → Rdr w2 R s k g 1 → Tch (fun b => b = X ∨ b = Y) w1 w2 → ClassPost s R i g w (.returned (.agg (reC 1 S none 0 0 0 0 0).toArray)) w2 := fun w2 S hS hr ht =>
        ⟨S, k, 1, rfl, hS, hr, hI.le, tch_new tt ht (fun b hb => by rcases hb with hb | hb <;> omega), Or.inr ⟨rfl, by rw [CL.out, HP.out]⟩⟩
      clear cn
      have HFIN := Lib.hid hfin
      have y0 := hY1.cell 0
      have y1 := hY1.cell 1
      have y2 := hY1.cell 2
      have y3 := hY1.cell 3
      rw [wcells_at _ _ (by omega)] at y0 y1 y2 y3
      have LT := Lib.hid hI.lt
      have cq := fun W => not_c acc W
      have f0' := hY1.loose 0
      have f1' := hY1.loose 1
      have f2' := hY1.loose 2
      have f3' := hY1.loose 3
      clear hfin hI HP
      go_wp2_with fail
      (with_reducible refine (cq _).mono ?_)
      rintro x w9 ⟨rfl, hb9⟩
      have hY9 := hY1.next hb9
      have hX9 := hX1.next hb9
      have z0' := hY9.cell 0
      have z1' := hY9.cell 1
      have z2' := hY9.cell 2
      have z3' := hY9.cell 3
      rw [wcells_at _ _ (by omega)] at z0' z1' z2' z3'
      have g0' := hY9.loose 0
      have g1' := hY9.loose 1
      have g2' := hY9.loose 2
      have g3' := hY9.loose 3
      clear cq y0 y1 y2 y3
      have p0 := hX9.cell 0
      have p1 := hX9.cell 1
      have p2 := hX9.cell 2
      have p3 := hX9.cell 3
      have p4 := hX9.cell 4
      have p5 := hX9.cell 5
      have p6 := hX9.cell 6
      have p7 := hX9.cell 7
      have p8 := hX9.cell 8
      simp only [List.getElem?_toArray, List.getElem?_cons_zero, List.getElem?_cons_succ] at p0 p1 p2 p3 p4 p5 p6 p7 p8
      have r0 := hX9.loose 0
      have r1 := hX9.loose 1
      have r2 := hX9.loose 2
      have r3 := hX9.loose 3
      have r4 := hX9.loose 4
      have r5 := hX9.loose 5
      have r6 := hX9.loose 6
      have r7 := hX9.loose 7
      have r8 := hX9.loose 8
      go_wp2
      refine bodyPost_ret (v := .agg (reC 1 (notS acc) none 0 0 0 0 0).toArray) (by simp [results, Tryd.results66, go_sem, p0, p1, p2, p3, p4, p5, p6, p7, p8]) rfl ?_
      exact HFIN.out _ _ (not_lt LT.out) (far9 (far4 w9 Y R _ _ _ _ _ _ (h1.next hb9) hRY) hRX) (tch9 (tch4 Y _ _ _ _ (Tch.of_below hb9) (Or.inr rfl)) (Or.inl rfl))
    subst he
    by_cases hno : (!fb && (rest s k).head? == some 93) = true
    · -- the end
      have hfb : fb = false ∧ (rest s k).head? = some 93 := by simpa using hno
      obtain ⟨rfl, hd⟩ := hfb
      have hP := items_end hI hd
      have hlt : k < s.size := by
        rcases Nat.lt_or_ge k s.size with h | h
        · exact h
        · rw [rest_nil s k h] at hd; cases hd
      have hc : (s[k]'hlt) = 93 := by rw [rest_cons s k hlt] at hd; simpa using hd
      have cp := peek_c R s ⟨#[93]⟩ k g 0 z0 hR
      rw [rest_cons s k hlt, hc, show peekB (⟨#[93]⟩ : ByteArray).data.toList (93 :: rest s (k + 1)) 0 = true from rfl] at cp
      have HP := Lib.hid hP
      have cn := fun W hW => need_ok R s ⟨#[93]⟩ k g W hW hlt (by rw [hc]; rfl) hs
      clear hd hc hP hno
      go_wp2_with fail
      (with_reducible refine cp.mono ?_)
      rintro x w1 ⟨rfl, m, rfl⟩
      have cn' := cn (z0.drewN m) (hR.dn m)
      clear cp cn
      go_wp2_with fail
      (with_reducible refine cn'.mono ?_)
      rintro x w2 ⟨rfl, h2, t2⟩
      have hY1 := (hI.set.drewN m).tch t2 (Ne.symm hRY)
      have hX1 := (hI.res.drewN m).tch t2 (Ne.symm hRX)
      have tt := tch_in T0 ((hI.tch.drewN m).trans (t2.more (fun b hb => Or.inl hb))) hYw
      have hfin : ∀ w3, Rdr w3 R s (k + 1) g 0 → Tch (fun b => b = X ∨ b = Y) w2 w3 → ClassPost s R i g w (.returned (.agg (reC 1 (notS acc) none 0 0 0 0 0).toArray)) w3 := fun w3 hr ht =>
        ⟨notS acc, k + 1, 0, rfl, not_lt hI.lt, hr, by omega, tch_new tt ht (fun b hb => by rcases hb with hb | hb <;> omega), Or.inl ⟨rfl, by rw [CL.out, HP.out]⟩⟩
      clear cn'
      obtain ⟨w1, hw1⟩ : ∃ z : World, z = w2 := ⟨_, rfl⟩
      rw [← hw1] at hY1 hX1 hfin h2 ⊢
      have h1 := h2
      clear hw1 t2 h2
      have HFIN := Lib.hid hfin
      have y0 := hY1.cell 0
      have y1 := hY1.cell 1
      have y2 := hY1.cell 2
      have y3 := hY1.cell 3
      rw [wcells_at _ _ (by omega)] at y0 y1 y2 y3
      have LT := Lib.hid hI.lt
      have cq := fun W => not_c acc W
      have f0' := hY1.loose 0
      have f1' := hY1.loose 1
      have f2' := hY1.loose 2
      have f3' := hY1.loose 3
      clear hfin hI HP
      go_wp2_with fail
      (with_reducible refine (cq _).mono ?_)
      rintro x w9 ⟨rfl, hb9⟩
      have hY9 := hY1.next hb9
      have hX9 := hX1.next hb9
      have z0' := hY9.cell 0
      have z1' := hY9.cell 1
      have z2' := hY9.cell 2
      have z3' := hY9.cell 3
      rw [wcells_at _ _ (by omega)] at z0' z1' z2' z3'
      have g0' := hY9.loose 0
      have g1' := hY9.loose 1
      have g2' := hY9.loose 2
      have g3' := hY9.loose 3
      clear cq y0 y1 y2 y3
      have p0 := hX9.cell 0
      have p1 := hX9.cell 1
      have p2 := hX9.cell 2
      have p3 := hX9.cell 3
      have p4 := hX9.cell 4
      have p5 := hX9.cell 5
      have p6 := hX9.cell 6
      have p7 := hX9.cell 7
      have p8 := hX9.cell 8
      simp only [List.getElem?_toArray, List.getElem?_cons_zero, List.getElem?_cons_succ] at p0 p1 p2 p3 p4 p5 p6 p7 p8
      have r0 := hX9.loose 0
      have r1 := hX9.loose 1
      have r2 := hX9.loose 2
      have r3 := hX9.loose 3
      have r4 := hX9.loose 4
      have r5 := hX9.loose 5
      have r6 := hX9.loose 6
      have r7 := hX9.loose 7
      have r8 := hX9.loose 8
      go_wp2
      refine bodyPost_ret (v := .agg (reC 1 (notS acc) none 0 0 0 0 0).toArray) (by simp [results, Tryd.results66, go_sem, p0, p1, p2, p3, p4, p5, p6, p7, p8]) rfl ?_
      exact HFIN.out _ (far9 (far4 w9 Y R _ _ _ _ _ _ (h1.next hb9) hRY) hRX) (tch9 (tch4 Y _ _ _ _ (Tch.of_below hb9) (Or.inr rfl)) (Or.inl rfl))
    · -- one more
      rw [Bool.not_eq_true] at hno
      have hgo : ∃ m : Nat, True := ⟨0, trivial⟩
      have ce := fun W hW => end_c R s k g W hW hI.le hs
      have cp := peek_c R s ⟨#[93]⟩ k g 0 z0 hR
      have hfbc : fb = true ∨ (fb = false ∧ peekB (⟨#[93]⟩ : ByteArray).data.toList (rest s k) 0 = false) := by
        cases fb
        · right
          refine ⟨rfl, ?_⟩
          unfold peekB
          cases hr : rest s k with
          | nil => rfl
          | cons c r => rw [hr] at hno; simp at hno; simp; exact fun h => hno h
        · exact Or.inl rfl
      have hgg1 := hgg
      rw [if_pos rfl] at hgg1
      have hle := hI.le
      have HI := Lib.hid hI
      have HN := Lib.hid hno
      have hY := hI.set
      have hX := hI.res
      have hT := hI.tch
      clear hI hgo hno hgg
      rcases hfbc with rfl | ⟨rfl, hp⟩
      · clear cp
        go_wp2_with fail
        (with_reducible refine (ce z0 hR).mono ?_)
        rintro x w1 ⟨a, k', e', rfl, h1, hk1, t1, hs1⟩
        have t01 : Tch (fun b => b = R ∨ b = Y) w0 w1 := hT.trans (t1.more (fun b hb => Or.inl hb))
        have hY1 := hY.tch t1 (Ne.symm hRY)
        have hX1 := hX.tch t1 (Ne.symm hRX)
        clear ce k0 k1 k2 k3
        rcases hs1 with ⟨rfl, hs1⟩ | ⟨rfl, hs1⟩
        rotate_left
        · -- no byte
          have cp1 := peek_c R s ⟨#[45]⟩ k' g 1 w1 h1
          rw [show peekB (⟨#[45]⟩ : ByteArray).data.toList (rest s k') 1 = false from rfl] at cp1
          have HS := Lib.hid (span_err hs1)
          clear hs1
          go_wp2_with fail
          (with_reducible refine cp1.mono ?_)
          rintro x wm2 ⟨rfl, m2, rfl⟩
          clear cp1
          have hh9 : Rdr (w1.drewN m2) R s (k') g 1 := h1.dn m2
          have tt9 : Tch (fun b => b = R ∨ b = Y) w0 (w1.drewN m2) := t01.drewN m2
          have yy9 : Blk (w1.drewN m2) Y 25 (wcells acc) := hY1.drewN m2
          have xx9 : Blk (w1.drewN m2) X 28 zC := hX1.drewN m2
          have y0 := yy9.cell 0
          have y1 := yy9.cell 1
          have y2 := yy9.cell 2
          have y3 := yy9.cell 3
          rw [wcells_at _ _ (by omega)] at y0 y1 y2 y3
          have cw := fun W => with_c acc a a W
          have hlw := lt_256 a
          generalize hW9 : w1.drewN m2 = W9 at *
          go_wp2_with fail
          (with_reducible refine (cw _).mono ?_)
          rintro x w9 ⟨rfl, hb9⟩
          have hY9 := yy9.next hb9
          have z0' := hY9.cell 0
          have z1' := hY9.cell 1
          have z2' := hY9.cell 2
          have z3' := hY9.cell 3
          rw [wcells_at _ _ (by omega)] at z0' z1' z2' z3'
          have f0' := hY9.loose 0
          have f1' := hY9.loose 1
          have f2' := hY9.loose 2
          have f3' := hY9.loose 3
          have hfin := items_go HI.out HN.out (k' := k') (acc' := acc ||| rangeS a.toNat a.toNat) (e' := 1)
            (far4 w9 Y R _ _ (.int .u64 (word (acc ||| rangeS a.toNat a.toNat) 0)) (.int .u64 (word (acc ||| rangeS a.toNat a.toNat) 1)) (.int .u64 (word (acc ||| rangeS a.toNat a.toNat) 2)) (.int .u64 (word (acc ||| rangeS a.toNat a.toNat) 3)) (hh9.next hb9) hRY)
            (by omega) (words4 w9 Y acc _ hY9) (or_lt HI.out.lt (range_lt hlw)) (far4 w9 Y X _ _ _ _ _ _ (xx9.next hb9) (Ne.symm hYX)) (tch4 Y _ _ _ _ (tt9.trans (Tch.of_below hb9)) (Or.inr rfl)) (Or.inr ⟨rfl, HS.out⟩)
          have HFIN := Lib.hid hfin
          clear hfin cw y0 y1 y2 y3
          generalize acc ||| rangeS a.toNat a.toNat = A2 at *
          go_wp2
          go_roundg (2 * (s.size - (k')) + (if (1 : Nat) = 0 then 1 else 0))
          case measure => (have hl := span_err_len HS.out; rw [rest_len, rest_len] at hl; simp; omega)
          case rel => exact ⟨false, k', A2, 1, rfl, HFIN.out, Nat.le_refl _⟩
        by_cases hdash : (rest s k').head? = some 45
        rotate_left
        · have cp1 := peek_c R s ⟨#[45]⟩ k' g 0 w1 h1
          have hp1 : peekB (⟨#[45]⟩ : ByteArray).data.toList (rest s k') 0 = false := by
            unfold peekB
            cases hr : rest s k' with
            | nil => rfl
            | cons c r => rw [hr] at hdash; simp at hdash; simp; exact fun h => hdash h
          rw [hp1] at cp1
          have hkk := item_len hs1
          rw [rest_len, rest_len] at hkk
          have HS := Lib.hid (span_one hs1 hdash)
          clear hs1 hdash hp1
          go_wp2_with fail
          (with_reducible refine cp1.mono ?_)
          rintro x wm2 ⟨rfl, m2, rfl⟩
          clear cp1
          have hh9 : Rdr (w1.drewN m2) R s (k') g 0 := h1.dn m2
          have tt9 : Tch (fun b => b = R ∨ b = Y) w0 (w1.drewN m2) := t01.drewN m2
          have yy9 : Blk (w1.drewN m2) Y 25 (wcells acc) := hY1.drewN m2
          have xx9 : Blk (w1.drewN m2) X 28 zC := hX1.drewN m2
          have y0 := yy9.cell 0
          have y1 := yy9.cell 1
          have y2 := yy9.cell 2
          have y3 := yy9.cell 3
          rw [wcells_at _ _ (by omega)] at y0 y1 y2 y3
          have cw := fun W => with_c acc a a W
          have hlw := lt_256 a
          generalize hW9 : w1.drewN m2 = W9 at *
          go_wp2_with fail
          (with_reducible refine (cw _).mono ?_)
          rintro x w9 ⟨rfl, hb9⟩
          have hY9 := yy9.next hb9
          have z0' := hY9.cell 0
          have z1' := hY9.cell 1
          have z2' := hY9.cell 2
          have z3' := hY9.cell 3
          rw [wcells_at _ _ (by omega)] at z0' z1' z2' z3'
          have f0' := hY9.loose 0
          have f1' := hY9.loose 1
          have f2' := hY9.loose 2
          have f3' := hY9.loose 3
          have hfin := items_go HI.out HN.out (k' := k') (acc' := acc ||| rangeS a.toNat a.toNat) (e' := 0)
            (far4 w9 Y R _ _ (.int .u64 (word (acc ||| rangeS a.toNat a.toNat) 0)) (.int .u64 (word (acc ||| rangeS a.toNat a.toNat) 1)) (.int .u64 (word (acc ||| rangeS a.toNat a.toNat) 2)) (.int .u64 (word (acc ||| rangeS a.toNat a.toNat) 3)) (hh9.next hb9) hRY)
            (by omega) (words4 w9 Y acc _ hY9) (or_lt HI.out.lt (range_lt hlw)) (far4 w9 Y X _ _ _ _ _ _ (xx9.next hb9) (Ne.symm hYX)) (tch4 Y _ _ _ _ (tt9.trans (Tch.of_below hb9)) (Or.inr rfl)) (Or.inl ⟨rfl, a, a, HS.out, rfl⟩)
          have HFIN := Lib.hid hfin
          clear hfin cw y0 y1 y2 y3
          generalize acc ||| rangeS a.toNat a.toNat = A2 at *
          go_wp2
          go_roundg (2 * (s.size - (k')) + (if (0 : Nat) = 0 then 1 else 0))
          case measure => rw [if_pos rfl]; omega
          case rel => exact ⟨false, k', A2, 0, rfl, HFIN.out, Nat.le_refl _⟩
        have hlt1 : k' < s.size := by
          rcases Nat.lt_or_ge k' s.size with h | h
          · exact h
          · rw [rest_nil s k' h] at hdash; cases hdash
        have hc1 : (s[k']'hlt1) = 45 := by rw [rest_cons s k' hlt1] at hdash; simpa using hdash
        have hr1 : rest s k' = 45 :: rest s (k' + 1) := by rw [rest_cons s k' hlt1, hc1]
        rw [hr1] at hs1
        have cp1 := peek_c R s ⟨#[45]⟩ k' g 0 w1 h1
        rw [hr1, show peekB (⟨#[45]⟩ : ByteArray).data.toList (45 :: rest s (k' + 1)) 0 = true from rfl] at cp1
        have cn1 := fun m => next_ok R s k' g (w1.drewN m) (h1.dn m) hlt1 hs
        have ce2 := fun W hW => end_c R s (k' + 1) g W hW (by omega) hs
        have hkk := item_len hs1
        rw [List.length_cons, rest_len, rest_len] at hkk
        clear hc1 hdash hr1
        go_wp2_with fail
        (with_reducible refine cp1.mono ?_)
        rintro x wm2 ⟨rfl, m2, rfl⟩
        have cn2 := cn1 m2
        clear cp1 cn1
        go_wp2_with fail
        (with_reducible refine cn2.mono ?_)
        rintro x w2 ⟨rfl, h2, t2⟩
        have ce3 := ce2 w2 h2
        clear cn2 ce2
        have t02 : Tch (fun b => b = R ∨ b = Y) w0 w2 := (t01.drewN m2).trans (t2.more (fun b hb => Or.inl hb))
        have hY2 := (hY1.drewN m2).tch t2 (Ne.symm hRY)
        have hX2 := (hX1.drewN m2).tch t2 (Ne.symm hRX)
        go_wp2_with fail
        (with_reducible refine ce3.mono ?_)
        rintro x w3 ⟨b, k2, e2, rfl, h3, hk2, t3, hs2⟩
        clear ce3
        have t03 : Tch (fun b => b = R ∨ b = Y) w0 w3 := t02.trans (t3.more (fun b hb => Or.inl hb))
        have hY3 := hY2.tch t3 (Ne.symm hRY)
        have hX3 := hX2.tch t3 (Ne.symm hRX)
        obtain ⟨q0, q1, q2, q3⟩ := h3.cells
        rcases hs2 with ⟨rfl, hs2⟩ | ⟨rfl, hs2⟩
        rotate_left
        · have HS := Lib.hid (span_err2 hs1 hs2)
          clear hs1 hs2
          have hh9 : Rdr (w3) R s (k2) g 1 := h3
          have tt9 : Tch (fun b => b = R ∨ b = Y) w0 (w3) := t03
          have yy9 : Blk (w3) Y 25 (wcells acc) := hY3
          have xx9 : Blk (w3) X 28 zC := hX3
          have y0 := yy9.cell 0
          have y1 := yy9.cell 1
          have y2 := yy9.cell 2
          have y3 := yy9.cell 3
          rw [wcells_at _ _ (by omega)] at y0 y1 y2 y3
          have cw := fun W => with_c acc a b W
          have hlw := lt_256 b
          generalize hW9 : w3 = W9 at *
          go_wp2_with fail
          (with_reducible refine (cw _).mono ?_)
          rintro x w9 ⟨rfl, hb9⟩
          have hY9 := yy9.next hb9
          have z0' := hY9.cell 0
          have z1' := hY9.cell 1
          have z2' := hY9.cell 2
          have z3' := hY9.cell 3
          rw [wcells_at _ _ (by omega)] at z0' z1' z2' z3'
          have f0' := hY9.loose 0
          have f1' := hY9.loose 1
          have f2' := hY9.loose 2
          have f3' := hY9.loose 3
          have hfin := items_go HI.out HN.out (k' := k2) (acc' := acc ||| rangeS a.toNat b.toNat) (e' := 1)
            (far4 w9 Y R _ _ (.int .u64 (word (acc ||| rangeS a.toNat b.toNat) 0)) (.int .u64 (word (acc ||| rangeS a.toNat b.toNat) 1)) (.int .u64 (word (acc ||| rangeS a.toNat b.toNat) 2)) (.int .u64 (word (acc ||| rangeS a.toNat b.toNat) 3)) (hh9.next hb9) hRY)
            (by omega) (words4 w9 Y acc _ hY9) (or_lt HI.out.lt (range_lt hlw)) (far4 w9 Y X _ _ _ _ _ _ (xx9.next hb9) (Ne.symm hYX)) (tch4 Y _ _ _ _ (tt9.trans (Tch.of_below hb9)) (Or.inr rfl)) (Or.inr ⟨rfl, HS.out⟩)
          have HFIN := Lib.hid hfin
          clear hfin cw y0 y1 y2 y3
          generalize acc ||| rangeS a.toNat b.toNat = A2 at *
          go_wp2
          go_roundg (2 * (s.size - (k2)) + (if (1 : Nat) = 0 then 1 else 0))
          case measure => (have hl := span_err_len HS.out; rw [rest_len, rest_len] at hl; simp; omega)
          case rel => exact ⟨false, k2, A2, 1, rfl, HFIN.out, Nat.le_refl _⟩
        have hkk2 := item_len hs2
        rw [rest_len, rest_len] at hkk2
        have dlt := lt_toNat (a := b) (b := a)
        by_cases hba : b < a
        · rw [decide_eq_true hba] at dlt
          obtain ⟨pre, hpre⟩ := item_last hs2
          obtain ⟨b1, b2, b3⟩ := rest_back hpre (by omega) hk2
          have hsb := span_bad hs1 hs2 hba
          rw [← b3] at hsb
          have HS := Lib.hid hsb
          have h4 := h3.setAt (k2 - 1)
          have t4 := t03.setCell (p := ⟨R, 1, none⟩) (Or.inl rfl) (.int .i64 ((k2 - 1 : Nat) : Int))
          have hY4 := hY3.far (p := ⟨R, 1, none⟩) (Ne.symm hRY) (.int .i64 ((k2 - 1 : Nat) : Int))
          have hX4 := hX3.far (p := ⟨R, 1, none⟩) (Ne.symm hRX) (.int .i64 ((k2 - 1 : Nat) : Int))
          have ek : (((k2 - 1 : Nat)) : Int) = (k2 : Int) - 1 := by omega
          rw [ek] at h4 t4 hY4 hX4
          have f1 := h3.free 1
          have h4' : Rdr (w3.setCell ⟨R, 1, none⟩ (.int .i64 ((k2 : Int) - 1))) R s (k2 - 1) g 0 := h4
          have cf := fail1_c R s (k2 - 1) g 0 _ h4'
          clear hs1 hs2 hba hpre b3 hsb h4 ek
          go_wp2_with fail
          (with_reducible refine cf.mono ?_)
          rintro x w5 ⟨rfl, h5, t5⟩
          clear cf
          have t05 : Tch (fun b => b = R ∨ b = Y) w0 w5 := t4.trans (t5.more (fun b hb => Or.inl hb))
          have hY5 := hY4.tch t5 (Ne.symm hRY)
          have hX5 := hX4.tch t5 (Ne.symm hRX)
          clear q0 q1 q2 q3 f1 h4' t4 hY4 hX4
          have hh9 : Rdr (w5) R s (k2 - 1) g 1 := h5
          have tt9 : Tch (fun b => b = R ∨ b = Y) w0 (w5) := t05
          have yy9 : Blk (w5) Y 25 (wcells acc) := hY5
          have xx9 : Blk (w5) X 28 zC := hX5
          have y0 := yy9.cell 0
          have y1 := yy9.cell 1
          have y2 := yy9.cell 2
          have y3 := yy9.cell 3
          rw [wcells_at _ _ (by omega)] at y0 y1 y2 y3
          have cw := fun W => with_c acc a b W
          have hlw := lt_256 b
          generalize hW9 : w5 = W9 at *
          go_wp2_with fail
          (with_reducible refine (cw _).mono ?_)
          rintro x w9 ⟨rfl, hb9⟩
          have hY9 := yy9.next hb9
          have z0' := hY9.cell 0
          have z1' := hY9.cell 1
          have z2' := hY9.cell 2
          have z3' := hY9.cell 3
          rw [wcells_at _ _ (by omega)] at z0' z1' z2' z3'
          have f0' := hY9.loose 0
          have f1' := hY9.loose 1
          have f2' := hY9.loose 2
          have f3' := hY9.loose 3
          have hfin := items_go HI.out HN.out (k' := k2 - 1) (acc' := acc ||| rangeS a.toNat b.toNat) (e' := 1)
            (far4 w9 Y R _ _ (.int .u64 (word (acc ||| rangeS a.toNat b.toNat) 0)) (.int .u64 (word (acc ||| rangeS a.toNat b.toNat) 1)) (.int .u64 (word (acc ||| rangeS a.toNat b.toNat) 2)) (.int .u64 (word (acc ||| rangeS a.toNat b.toNat) 3)) (hh9.next hb9) hRY)
            (by omega) (words4 w9 Y acc _ hY9) (or_lt HI.out.lt (range_lt hlw)) (far4 w9 Y X _ _ _ _ _ _ (xx9.next hb9) (Ne.symm hYX)) (tch4 Y _ _ _ _ (tt9.trans (Tch.of_below hb9)) (Or.inr rfl)) (Or.inr ⟨rfl, HS.out⟩)
          have HFIN := Lib.hid hfin
          clear hfin cw y0 y1 y2 y3
          generalize acc ||| rangeS a.toNat b.toNat = A2 at *
          go_wp2
          go_roundg (2 * (s.size - (k2 - 1)) + (if (1 : Nat) = 0 then 1 else 0))
          case measure => (have hl := span_err_len HS.out; rw [rest_len, rest_len] at hl; simp; omega)
          case rel => exact ⟨false, k2 - 1, A2, 1, rfl, HFIN.out, Nat.le_refl _⟩
        · rw [decide_eq_false hba] at dlt
          have HS := Lib.hid (span_two hs1 hs2 hba)
          clear hs1 hs2 hba
          have hh9 : Rdr (w3) R s (k2) g 0 := h3
          have tt9 : Tch (fun b => b = R ∨ b = Y) w0 (w3) := t03
          have yy9 : Blk (w3) Y 25 (wcells acc) := hY3
          have xx9 : Blk (w3) X 28 zC := hX3
          have y0 := yy9.cell 0
          have y1 := yy9.cell 1
          have y2 := yy9.cell 2
          have y3 := yy9.cell 3
          rw [wcells_at _ _ (by omega)] at y0 y1 y2 y3
          have cw := fun W => with_c acc a b W
          have hlw := lt_256 b
          generalize hW9 : w3 = W9 at *
          go_wp2_with fail
          (with_reducible refine (cw _).mono ?_)
          rintro x w9 ⟨rfl, hb9⟩
          have hY9 := yy9.next hb9
          have z0' := hY9.cell 0
          have z1' := hY9.cell 1
          have z2' := hY9.cell 2
          have z3' := hY9.cell 3
          rw [wcells_at _ _ (by omega)] at z0' z1' z2' z3'
          have f0' := hY9.loose 0
          have f1' := hY9.loose 1
          have f2' := hY9.loose 2
          have f3' := hY9.loose 3
          have hfin := items_go HI.out HN.out (k' := k2) (acc' := acc ||| rangeS a.toNat b.toNat) (e' := 0)
            (far4 w9 Y R _ _ (.int .u64 (word (acc ||| rangeS a.toNat b.toNat) 0)) (.int .u64 (word (acc ||| rangeS a.toNat b.toNat) 1)) (.int .u64 (word (acc ||| rangeS a.toNat b.toNat) 2)) (.int .u64 (word (acc ||| rangeS a.toNat b.toNat) 3)) (hh9.next hb9) hRY)
            (by omega) (words4 w9 Y acc _ hY9) (or_lt HI.out.lt (range_lt hlw)) (far4 w9 Y X _ _ _ _ _ _ (xx9.next hb9) (Ne.symm hYX)) (tch4 Y _ _ _ _ (tt9.trans (Tch.of_below hb9)) (Or.inr rfl)) (Or.inl ⟨rfl, a, b, HS.out, rfl⟩)
          have HFIN := Lib.hid hfin
          clear hfin cw y0 y1 y2 y3
          generalize acc ||| rangeS a.toNat b.toNat = A2 at *
          go_wp2
          go_roundg (2 * (s.size - (k2)) + (if (0 : Nat) = 0 then 1 else 0))
          case measure => rw [if_pos rfl]; omega
          case rel => exact ⟨false, k2, A2, 0, rfl, HFIN.out, Nat.le_refl _⟩
    
      · rw [hp] at cp
        clear hp
        go_wp2_with fail
        (with_reducible refine cp.mono ?_)
        rintro x wm ⟨rfl, m, rfl⟩
        clear cp
        go_wp2_with fail
        (with_reducible refine (ce (z0.drewN m) (hR.dn m)).mono ?_)
        rintro x w1 ⟨a, k', e', rfl, h1, hk1, t1, hs1⟩
        have t01 : Tch (fun b => b = R ∨ b = Y) w0 w1 := (hT.drewN m).trans (t1.more (fun b hb => Or.inl hb))
        have hY1 := (hY.drewN m).tch t1 (Ne.symm hRY)
        have hX1 := (hX.drewN m).tch t1 (Ne.symm hRX)
        clear ce k0 k1 k2 k3
        rcases hs1 with ⟨rfl, hs1⟩ | ⟨rfl, hs1⟩
        rotate_left
        · -- no byte
          have cp1 := peek_c R s ⟨#[45]⟩ k' g 1 w1 h1
          rw [show peekB (⟨#[45]⟩ : ByteArray).data.toList (rest s k') 1 = false from rfl] at cp1
          have HS := Lib.hid (span_err hs1)
          clear hs1
          go_wp2_with fail
          (with_reducible refine cp1.mono ?_)
          rintro x wm2 ⟨rfl, m2, rfl⟩
          clear cp1
          have hh9 : Rdr (w1.drewN m2) R s (k') g 1 := h1.dn m2
          have tt9 : Tch (fun b => b = R ∨ b = Y) w0 (w1.drewN m2) := t01.drewN m2
          have yy9 : Blk (w1.drewN m2) Y 25 (wcells acc) := hY1.drewN m2
          have xx9 : Blk (w1.drewN m2) X 28 zC := hX1.drewN m2
          have y0 := yy9.cell 0
          have y1 := yy9.cell 1
          have y2 := yy9.cell 2
          have y3 := yy9.cell 3
          rw [wcells_at _ _ (by omega)] at y0 y1 y2 y3
          have cw := fun W => with_c acc a a W
          have hlw := lt_256 a
          generalize hW9 : w1.drewN m2 = W9 at *
          go_wp2_with fail
          (with_reducible refine (cw _).mono ?_)
          rintro x w9 ⟨rfl, hb9⟩
          have hY9 := yy9.next hb9
          have z0' := hY9.cell 0
          have z1' := hY9.cell 1
          have z2' := hY9.cell 2
          have z3' := hY9.cell 3
          rw [wcells_at _ _ (by omega)] at z0' z1' z2' z3'
          have f0' := hY9.loose 0
          have f1' := hY9.loose 1
          have f2' := hY9.loose 2
          have f3' := hY9.loose 3
          have hfin := items_go HI.out HN.out (k' := k') (acc' := acc ||| rangeS a.toNat a.toNat) (e' := 1)
            (far4 w9 Y R _ _ (.int .u64 (word (acc ||| rangeS a.toNat a.toNat) 0)) (.int .u64 (word (acc ||| rangeS a.toNat a.toNat) 1)) (.int .u64 (word (acc ||| rangeS a.toNat a.toNat) 2)) (.int .u64 (word (acc ||| rangeS a.toNat a.toNat) 3)) (hh9.next hb9) hRY)
            (by omega) (words4 w9 Y acc _ hY9) (or_lt HI.out.lt (range_lt hlw)) (far4 w9 Y X _ _ _ _ _ _ (xx9.next hb9) (Ne.symm hYX)) (tch4 Y _ _ _ _ (tt9.trans (Tch.of_below hb9)) (Or.inr rfl)) (Or.inr ⟨rfl, HS.out⟩)
          have HFIN := Lib.hid hfin
          clear hfin cw y0 y1 y2 y3
          generalize acc ||| rangeS a.toNat a.toNat = A2 at *
          go_wp2
          go_roundg (2 * (s.size - (k')) + (if (1 : Nat) = 0 then 1 else 0))
          case measure => (have hl := span_err_len HS.out; rw [rest_len, rest_len] at hl; simp; omega)
          case rel => exact ⟨false, k', A2, 1, rfl, HFIN.out, Nat.le_refl _⟩
        by_cases hdash : (rest s k').head? = some 45
        rotate_left
        · have cp1 := peek_c R s ⟨#[45]⟩ k' g 0 w1 h1
          have hp1 : peekB (⟨#[45]⟩ : ByteArray).data.toList (rest s k') 0 = false := by
            unfold peekB
            cases hr : rest s k' with
            | nil => rfl
            | cons c r => rw [hr] at hdash; simp at hdash; simp; exact fun h => hdash h
          rw [hp1] at cp1
          have hkk := item_len hs1
          rw [rest_len, rest_len] at hkk
          have HS := Lib.hid (span_one hs1 hdash)
          clear hs1 hdash hp1
          go_wp2_with fail
          (with_reducible refine cp1.mono ?_)
          rintro x wm2 ⟨rfl, m2, rfl⟩
          clear cp1
          have hh9 : Rdr (w1.drewN m2) R s (k') g 0 := h1.dn m2
          have tt9 : Tch (fun b => b = R ∨ b = Y) w0 (w1.drewN m2) := t01.drewN m2
          have yy9 : Blk (w1.drewN m2) Y 25 (wcells acc) := hY1.drewN m2
          have xx9 : Blk (w1.drewN m2) X 28 zC := hX1.drewN m2
          have y0 := yy9.cell 0
          have y1 := yy9.cell 1
          have y2 := yy9.cell 2
          have y3 := yy9.cell 3
          rw [wcells_at _ _ (by omega)] at y0 y1 y2 y3
          have cw := fun W => with_c acc a a W
          have hlw := lt_256 a
          generalize hW9 : w1.drewN m2 = W9 at *
          go_wp2_with fail
          (with_reducible refine (cw _).mono ?_)
          rintro x w9 ⟨rfl, hb9⟩
          have hY9 := yy9.next hb9
          have z0' := hY9.cell 0
          have z1' := hY9.cell 1
          have z2' := hY9.cell 2
          have z3' := hY9.cell 3
          rw [wcells_at _ _ (by omega)] at z0' z1' z2' z3'
          have f0' := hY9.loose 0
          have f1' := hY9.loose 1
          have f2' := hY9.loose 2
          have f3' := hY9.loose 3
          have hfin := items_go HI.out HN.out (k' := k') (acc' := acc ||| rangeS a.toNat a.toNat) (e' := 0)
            (far4 w9 Y R _ _ (.int .u64 (word (acc ||| rangeS a.toNat a.toNat) 0)) (.int .u64 (word (acc ||| rangeS a.toNat a.toNat) 1)) (.int .u64 (word (acc ||| rangeS a.toNat a.toNat) 2)) (.int .u64 (word (acc ||| rangeS a.toNat a.toNat) 3)) (hh9.next hb9) hRY)
            (by omega) (words4 w9 Y acc _ hY9) (or_lt HI.out.lt (range_lt hlw)) (far4 w9 Y X _ _ _ _ _ _ (xx9.next hb9) (Ne.symm hYX)) (tch4 Y _ _ _ _ (tt9.trans (Tch.of_below hb9)) (Or.inr rfl)) (Or.inl ⟨rfl, a, a, HS.out, rfl⟩)
          have HFIN := Lib.hid hfin
          clear hfin cw y0 y1 y2 y3
          generalize acc ||| rangeS a.toNat a.toNat = A2 at *
          go_wp2
          go_roundg (2 * (s.size - (k')) + (if (0 : Nat) = 0 then 1 else 0))
          case measure => rw [if_pos rfl]; omega
          case rel => exact ⟨false, k', A2, 0, rfl, HFIN.out, Nat.le_refl _⟩
        have hlt1 : k' < s.size := by
          rcases Nat.lt_or_ge k' s.size with h | h
          · exact h
          · rw [rest_nil s k' h] at hdash; cases hdash
        have hc1 : (s[k']'hlt1) = 45 := by rw [rest_cons s k' hlt1] at hdash; simpa using hdash
        have hr1 : rest s k' = 45 :: rest s (k' + 1) := by rw [rest_cons s k' hlt1, hc1]
        rw [hr1] at hs1
        have cp1 := peek_c R s ⟨#[45]⟩ k' g 0 w1 h1
        rw [hr1, show peekB (⟨#[45]⟩ : ByteArray).data.toList (45 :: rest s (k' + 1)) 0 = true from rfl] at cp1
        have cn1 := fun m => next_ok R s k' g (w1.drewN m) (h1.dn m) hlt1 hs
        have ce2 := fun W hW => end_c R s (k' + 1) g W hW (by omega) hs
        have hkk := item_len hs1
        rw [List.length_cons, rest_len, rest_len] at hkk
        clear hc1 hdash hr1
        go_wp2_with fail
        (with_reducible refine cp1.mono ?_)
        rintro x wm2 ⟨rfl, m2, rfl⟩
        have cn2 := cn1 m2
        clear cp1 cn1
        go_wp2_with fail
        (with_reducible refine cn2.mono ?_)
        rintro x w2 ⟨rfl, h2, t2⟩
        have ce3 := ce2 w2 h2
        clear cn2 ce2
        have t02 : Tch (fun b => b = R ∨ b = Y) w0 w2 := (t01.drewN m2).trans (t2.more (fun b hb => Or.inl hb))
        have hY2 := (hY1.drewN m2).tch t2 (Ne.symm hRY)
        have hX2 := (hX1.drewN m2).tch t2 (Ne.symm hRX)
        go_wp2_with fail
        (with_reducible refine ce3.mono ?_)
        rintro x w3 ⟨b, k2, e2, rfl, h3, hk2, t3, hs2⟩
        clear ce3
        have t03 : Tch (fun b => b = R ∨ b = Y) w0 w3 := t02.trans (t3.more (fun b hb => Or.inl hb))
        have hY3 := hY2.tch t3 (Ne.symm hRY)
        have hX3 := hX2.tch t3 (Ne.symm hRX)
        obtain ⟨q0, q1, q2, q3⟩ := h3.cells
        rcases hs2 with ⟨rfl, hs2⟩ | ⟨rfl, hs2⟩
        rotate_left
        · have HS := Lib.hid (span_err2 hs1 hs2)
          clear hs1 hs2
          have hh9 : Rdr (w3) R s (k2) g 1 := h3
          have tt9 : Tch (fun b => b = R ∨ b = Y) w0 (w3) := t03
          have yy9 : Blk (w3) Y 25 (wcells acc) := hY3
          have xx9 : Blk (w3) X 28 zC := hX3
          have y0 := yy9.cell 0
          have y1 := yy9.cell 1
          have y2 := yy9.cell 2
          have y3 := yy9.cell 3
          rw [wcells_at _ _ (by omega)] at y0 y1 y2 y3
          have cw := fun W => with_c acc a b W
          have hlw := lt_256 b
          generalize hW9 : w3 = W9 at *
          go_wp2_with fail
          (with_reducible refine (cw _).mono ?_)
          rintro x w9 ⟨rfl, hb9⟩
          have hY9 := yy9.next hb9
          have z0' := hY9.cell 0
          have z1' := hY9.cell 1
          have z2' := hY9.cell 2
          have z3' := hY9.cell 3
          rw [wcells_at _ _ (by omega)] at z0' z1' z2' z3'
          have f0' := hY9.loose 0
          have f1' := hY9.loose 1
          have f2' := hY9.loose 2
          have f3' := hY9.loose 3
          have hfin := items_go HI.out HN.out (k' := k2) (acc' := acc ||| rangeS a.toNat b.toNat) (e' := 1)
            (far4 w9 Y R _ _ (.int .u64 (word (acc ||| rangeS a.toNat b.toNat) 0)) (.int .u64 (word (acc ||| rangeS a.toNat b.toNat) 1)) (.int .u64 (word (acc ||| rangeS a.toNat b.toNat) 2)) (.int .u64 (word (acc ||| rangeS a.toNat b.toNat) 3)) (hh9.next hb9) hRY)
            (by omega) (words4 w9 Y acc _ hY9) (or_lt HI.out.lt (range_lt hlw)) (far4 w9 Y X _ _ _ _ _ _ (xx9.next hb9) (Ne.symm hYX)) (tch4 Y _ _ _ _ (tt9.trans (Tch.of_below hb9)) (Or.inr rfl)) (Or.inr ⟨rfl, HS.out⟩)
          have HFIN := Lib.hid hfin
          clear hfin cw y0 y1 y2 y3
          generalize acc ||| rangeS a.toNat b.toNat = A2 at *
          go_wp2
          go_roundg (2 * (s.size - (k2)) + (if (1 : Nat) = 0 then 1 else 0))
          case measure => (have hl := span_err_len HS.out; rw [rest_len, rest_len] at hl; simp; omega)
          case rel => exact ⟨false, k2, A2, 1, rfl, HFIN.out, Nat.le_refl _⟩
        have hkk2 := item_len hs2
        rw [rest_len, rest_len] at hkk2
        have dlt := lt_toNat (a := b) (b := a)
        by_cases hba : b < a
        · rw [decide_eq_true hba] at dlt
          obtain ⟨pre, hpre⟩ := item_last hs2
          obtain ⟨b1, b2, b3⟩ := rest_back hpre (by omega) hk2
          have hsb := span_bad hs1 hs2 hba
          rw [← b3] at hsb
          have HS := Lib.hid hsb
          have h4 := h3.setAt (k2 - 1)
          have t4 := t03.setCell (p := ⟨R, 1, none⟩) (Or.inl rfl) (.int .i64 ((k2 - 1 : Nat) : Int))
          have hY4 := hY3.far (p := ⟨R, 1, none⟩) (Ne.symm hRY) (.int .i64 ((k2 - 1 : Nat) : Int))
          have hX4 := hX3.far (p := ⟨R, 1, none⟩) (Ne.symm hRX) (.int .i64 ((k2 - 1 : Nat) : Int))
          have ek : (((k2 - 1 : Nat)) : Int) = (k2 : Int) - 1 := by omega
          rw [ek] at h4 t4 hY4 hX4
          have f1 := h3.free 1
          have h4' : Rdr (w3.setCell ⟨R, 1, none⟩ (.int .i64 ((k2 : Int) - 1))) R s (k2 - 1) g 0 := h4
          have cf := fail1_c R s (k2 - 1) g 0 _ h4'
          clear hs1 hs2 hba hpre b3 hsb h4 ek
          go_wp2_with fail
          (with_reducible refine cf.mono ?_)
          rintro x w5 ⟨rfl, h5, t5⟩
          clear cf
          have t05 : Tch (fun b => b = R ∨ b = Y) w0 w5 := t4.trans (t5.more (fun b hb => Or.inl hb))
          have hY5 := hY4.tch t5 (Ne.symm hRY)
          have hX5 := hX4.tch t5 (Ne.symm hRX)
          clear q0 q1 q2 q3 f1 h4' t4 hY4 hX4
          have hh9 : Rdr (w5) R s (k2 - 1) g 1 := h5
          have tt9 : Tch (fun b => b = R ∨ b = Y) w0 (w5) := t05
          have yy9 : Blk (w5) Y 25 (wcells acc) := hY5
          have xx9 : Blk (w5) X 28 zC := hX5
          have y0 := yy9.cell 0
          have y1 := yy9.cell 1
          have y2 := yy9.cell 2
          have y3 := yy9.cell 3
          rw [wcells_at _ _ (by omega)] at y0 y1 y2 y3
          have cw := fun W => with_c acc a b W
          have hlw := lt_256 b
          generalize hW9 : w5 = W9 at *
          go_wp2_with fail
          (with_reducible refine (cw _).mono ?_)
          rintro x w9 ⟨rfl, hb9⟩
          have hY9 := yy9.next hb9
          have z0' := hY9.cell 0
          have z1' := hY9.cell 1
          have z2' := hY9.cell 2
          have z3' := hY9.cell 3
          rw [wcells_at _ _ (by omega)] at z0' z1' z2' z3'
          have f0' := hY9.loose 0
          have f1' := hY9.loose 1
          have f2' := hY9.loose 2
          have f3' := hY9.loose 3
          have hfin := items_go HI.out HN.out (k' := k2 - 1) (acc' := acc ||| rangeS a.toNat b.toNat) (e' := 1)
            (far4 w9 Y R _ _ (.int .u64 (word (acc ||| rangeS a.toNat b.toNat) 0)) (.int .u64 (word (acc ||| rangeS a.toNat b.toNat) 1)) (.int .u64 (word (acc ||| rangeS a.toNat b.toNat) 2)) (.int .u64 (word (acc ||| rangeS a.toNat b.toNat) 3)) (hh9.next hb9) hRY)
            (by omega) (words4 w9 Y acc _ hY9) (or_lt HI.out.lt (range_lt hlw)) (far4 w9 Y X _ _ _ _ _ _ (xx9.next hb9) (Ne.symm hYX)) (tch4 Y _ _ _ _ (tt9.trans (Tch.of_below hb9)) (Or.inr rfl)) (Or.inr ⟨rfl, HS.out⟩)
          have HFIN := Lib.hid hfin
          clear hfin cw y0 y1 y2 y3
          generalize acc ||| rangeS a.toNat b.toNat = A2 at *
          go_wp2
          go_roundg (2 * (s.size - (k2 - 1)) + (if (1 : Nat) = 0 then 1 else 0))
          case measure => (have hl := span_err_len HS.out; rw [rest_len, rest_len] at hl; simp; omega)
          case rel => exact ⟨false, k2 - 1, A2, 1, rfl, HFIN.out, Nat.le_refl _⟩
        · rw [decide_eq_false hba] at dlt
          have HS := Lib.hid (span_two hs1 hs2 hba)
          clear hs1 hs2 hba
          have hh9 : Rdr (w3) R s (k2) g 0 := h3
          have tt9 : Tch (fun b => b = R ∨ b = Y) w0 (w3) := t03
          have yy9 : Blk (w3) Y 25 (wcells acc) := hY3
          have xx9 : Blk (w3) X 28 zC := hX3
          have y0 := yy9.cell 0
          have y1 := yy9.cell 1
          have y2 := yy9.cell 2
          have y3 := yy9.cell 3
          rw [wcells_at _ _ (by omega)] at y0 y1 y2 y3
          have cw := fun W => with_c acc a b W
          have hlw := lt_256 b
          generalize hW9 : w3 = W9 at *
          go_wp2_with fail
          (with_reducible refine (cw _).mono ?_)
          rintro x w9 ⟨rfl, hb9⟩
          have hY9 := yy9.next hb9
          have z0' := hY9.cell 0
          have z1' := hY9.cell 1
          have z2' := hY9.cell 2
          have z3' := hY9.cell 3
          rw [wcells_at _ _ (by omega)] at z0' z1' z2' z3'
          have f0' := hY9.loose 0
          have f1' := hY9.loose 1
          have f2' := hY9.loose 2
          have f3' := hY9.loose 3
          have hfin := items_go HI.out HN.out (k' := k2) (acc' := acc ||| rangeS a.toNat b.toNat) (e' := 0)
            (far4 w9 Y R _ _ (.int .u64 (word (acc ||| rangeS a.toNat b.toNat) 0)) (.int .u64 (word (acc ||| rangeS a.toNat b.toNat) 1)) (.int .u64 (word (acc ||| rangeS a.toNat b.toNat) 2)) (.int .u64 (word (acc ||| rangeS a.toNat b.toNat) 3)) (hh9.next hb9) hRY)
            (by omega) (words4 w9 Y acc _ hY9) (or_lt HI.out.lt (range_lt hlw)) (far4 w9 Y X _ _ _ _ _ _ (xx9.next hb9) (Ne.symm hYX)) (tch4 Y _ _ _ _ (tt9.trans (Tch.of_below hb9)) (Or.inr rfl)) (Or.inl ⟨rfl, a, b, HS.out, rfl⟩)
          have HFIN := Lib.hid hfin
          clear hfin cw y0 y1 y2 y3
          generalize acc ||| rangeS a.toNat b.toNat = A2 at *
          go_wp2
          go_roundg (2 * (s.size - (k2)) + (if (0 : Nat) = 0 then 1 else 0))
          case measure => rw [if_pos rfl]; omega
          case rel => exact ⟨false, k2, A2, 0, rfl, HFIN.out, Nat.le_refl _⟩
    
end EreW
end Go.Proofs.YtdonokghemhfiaaDoor
