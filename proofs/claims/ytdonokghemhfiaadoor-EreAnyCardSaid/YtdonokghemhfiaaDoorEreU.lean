/- The walks of one, several and times. Conditions: texts that fit. -/
import Derived.Test.YtdonokghemhfiaaDoorEreT
namespace Go.Proofs.YtdonokghemhfiaaDoor
set_option linter.unusedVariables false
set_option linter.unusedSimpArgs false
open Go.RowKit
namespace EreW
open EreP
theorem far9 {w : World} {X g : Nat} {t : TypeId} {cs : Array Value} {v0 v1 v2 v3 v4 v5 v6 v7 v8 : Value} (h : Blk w g t cs) (hg : g ≠ X) : Blk (((((((((w.setCell ⟨X, 0, none⟩ v0).setCell ⟨X, 1, none⟩ v1).setCell ⟨X, 2, none⟩ v2).setCell ⟨X, 3, none⟩ v3).setCell ⟨X, 4, none⟩ v4).setCell ⟨X, 5, none⟩ v5).setCell ⟨X, 6, none⟩ v6).setCell ⟨X, 7, none⟩ v7).setCell ⟨X, 8, none⟩ v8) g t cs := (((((((((h.far (p := ⟨X, 0, none⟩) hg v0).far (p := ⟨X, 1, none⟩) hg v1).far (p := ⟨X, 2, none⟩) hg v2).far (p := ⟨X, 3, none⟩) hg v3).far (p := ⟨X, 4, none⟩) hg v4).far (p := ⟨X, 5, none⟩) hg v5).far (p := ⟨X, 6, none⟩) hg v6).far (p := ⟨X, 7, none⟩) hg v7).far (p := ⟨X, 8, none⟩) hg v8)
theorem tch9 {S : Nat → Prop} {w0 w : World} {X : Nat} {v0 v1 v2 v3 v4 v5 v6 v7 v8 : Value} (h : Tch S w0 w) (hS : S X) : Tch S w0 (((((((((w.setCell ⟨X, 0, none⟩ v0).setCell ⟨X, 1, none⟩ v1).setCell ⟨X, 2, none⟩ v2).setCell ⟨X, 3, none⟩ v3).setCell ⟨X, 4, none⟩ v4).setCell ⟨X, 5, none⟩ v5).setCell ⟨X, 6, none⟩ v6).setCell ⟨X, 7, none⟩ v7).setCell ⟨X, 8, none⟩ v8) := (((((((((h.setCell (p := ⟨X, 0, none⟩) hS v0).setCell (p := ⟨X, 1, none⟩) hS v1).setCell (p := ⟨X, 2, none⟩) hS v2).setCell (p := ⟨X, 3, none⟩) hS v3).setCell (p := ⟨X, 4, none⟩) hS v4).setCell (p := ⟨X, 5, none⟩) hS v5).setCell (p := ⟨X, 6, none⟩) hS v6).setCell (p := ⟨X, 7, none⟩) hS v7).setCell (p := ⟨X, 8, none⟩) hS v8)
theorem below9 {B : Nat} {w0 w : World} {X : Nat} {v0 v1 v2 v3 v4 v5 v6 v7 v8 : Value} (h : Below B w0 w) (hS : B ≤ X) : Below B w0 (((((((((w.setCell ⟨X, 0, none⟩ v0).setCell ⟨X, 1, none⟩ v1).setCell ⟨X, 2, none⟩ v2).setCell ⟨X, 3, none⟩ v3).setCell ⟨X, 4, none⟩ v4).setCell ⟨X, 5, none⟩ v5).setCell ⟨X, 6, none⟩ v6).setCell ⟨X, 7, none⟩ v7).setCell ⟨X, 8, none⟩ v8) := (((((((((h.setCell (p := ⟨X, 0, none⟩) hS v0).setCell (p := ⟨X, 1, none⟩) hS v1).setCell (p := ⟨X, 2, none⟩) hS v2).setCell (p := ⟨X, 3, none⟩) hS v3).setCell (p := ⟨X, 4, none⟩) hS v4).setCell (p := ⟨X, 5, none⟩) hS v5).setCell (p := ⟨X, 6, none⟩) hS v6).setCell (p := ⟨X, 7, none⟩) hS v7).setCell (p := ⟨X, 8, none⟩) hS v8)
theorem tch_new {R : Nat} {S : Nat → Prop} {w w1 w3 : World} (t0 : Tch (On R) w w1) (t1 : Tch S w1 w3) (hS : ∀ b, S b → w.heap.size ≤ b) : Tch (On R) w w3 :=
  ⟨t1.os.trans t0.os, t1.tape.trans t0.tape, t1.output.trans t0.output, Nat.le_trans t0.size t1.size, fun k hk hs => (t1.block k (by have := t0.size; omega) (fun e => by have := hS k e; omega)).trans (t0.block k hk hs)⟩
theorem one_range (c : Nat) : 0 ||| rangeS c c = oneS c := by
  apply Nat.eq_of_testBit_eq; intro i
  rw [Nat.zero_or, range_bit, one_bit, Bool.eq_iff_iff]; simp; omega
theorem not_zero : notS 0 = allS := by unfold notS; rw [Nat.xor_zero]
theorem with0_c (c : UInt8) (w : World) :
    Calls Tryd.prog 76 #[.agg #[.int .u64 0, .int .u64 0, .int .u64 0, .int .u64 0], .int .u8 c.toNat, .int .u8 c.toNat] w fun x w' => x = .returned (setV (oneS c.toNat)) ∧ Below w.heap.size w w' := by
  rw [← one_range]; exact with_c 0 c c w
theorem not0_c (w : World) :
    Calls Tryd.prog 53 #[.agg #[.int .u64 0, .int .u64 0, .int .u64 0, .int .u64 0]] w fun x w' => x = .returned (setV allS) ∧ Below w.heap.size w w' := by
  rw [← not_zero]; exact not_c 0 w
theorem lt_256 (c : UInt8) : c.toNat < 256 := by have := c.toNat_lt; omega
set_option maxHeartbeats 1600000 in
set_option maxRecDepth 100000 in
theorem one_c (c : UInt8) (w : World) :
    Calls Tryd.prog 67 #[.int .u8 c.toNat] w fun x w' => x = .returned (.agg (reC 1 (oneS c.toNat) none 0 0 0 0 0).toArray) ∧ Below w.heap.size w w' := by
  obtain ⟨wa, hwa⟩ : ∃ z : World, z = w.alloc (.cells zC 28) := ⟨_, rfl⟩
  have xa : Blk wa w.heap.size 28 zC := by rw [hwa]; exact Blk.new _ _ _
  have ba : Below w.heap.size w wa := by rw [hwa]; exact (Below.refl _ _).alloc (Nat.le_refl _) _
  have cw := with0_c c wa
  generalize oneS c.toNat = S at *
  go_enter Tryd.func67, Tryd.ntmps67
  go_wp2_with fail
  rw [← hwa]
  (with_reducible refine cw.mono ?_)
  rintro x w1 ⟨rfl, hb1⟩
  have hB := ba.trans (hb1.mono ba.size)
  have x1 := xa.next hb1
  clear cw hwa
  have p0 := x1.cell 0
  have p1 := x1.cell 1
  have p2 := x1.cell 2
  have p3 := x1.cell 3
  have p4 := x1.cell 4
  have p5 := x1.cell 5
  have p6 := x1.cell 6
  have p7 := x1.cell 7
  have p8 := x1.cell 8
  simp only [List.getElem?_toArray, List.getElem?_cons_zero, List.getElem?_cons_succ] at p0 p1 p2 p3 p4 p5 p6 p7 p8
  have r0 := x1.loose 0
  have r1 := x1.loose 1
  have r2 := x1.loose 2
  have r3 := x1.loose 3
  have r4 := x1.loose 4
  have r5 := x1.loose 5
  have r6 := x1.loose 6
  have r7 := x1.loose 7
  have r8 := x1.loose 8
  go_wp2
  refine bodyPost_ret (v := .agg (reC 1 S none 0 0 0 0 0).toArray) (by simp [results, Tryd.results67, go_sem, p0, p1, p2, p3, p4, p5, p6, p7, p8]) rfl ?_
  exact ⟨rfl, below9 hB (Nat.le_refl _)⟩
theorem several_many (kind : Int) (l : List Re) (h : 2 ≤ l.length) : several kind l = .mk kind 0 l 0 0 0 := by
  match l, h with
  | _ :: _ :: _, _ => rfl
theorem Rts.bel {w w' : World} {K : Nat → Prop} {l : List Re} {xs : List Value} (h : Rts w K l xs) (hb : Below w.heap.size w w') : Rts w' K l xs := h.tch (S := fun _ => False) (Tch.of_below hb |>.more (fun _ h => h)) (fun _ _ h => h)
/-- One, or a kind that has them all. -/
def SevPost (kind : Int) (l : List Re) (K : Nat → Prop) (w : World) (x : Ending) (w' : World) : Prop :=
  ∃ cs, x = .returned (.agg cs.toArray) ∧ Rt w' K (several kind l) cs ∧ Below w.heap.size w w'
set_option maxHeartbeats 3200000 in
set_option maxRecDepth 100000 in
theorem several_c (kind : Int) (base : Nat) (l : List Re) (v : Value) (xs : List Value) (w : World) (h : w.ownsRow base 28 9 v l.length xs) (hr : Rts w (base ≤ ·) l xs) (hn : l.length ≤ 1048576) :
    Calls Tryd.prog 36 #[.int .i64 kind, v] w (SevPost kind l (base ≤ ·) w) := by
  have hx9 := hr.len
  by_cases h0 : l.length = 0
  · -- none
    obtain ⟨A, c, rfl⟩ : ∃ A c, v = .slice A 0 c := by
      rcases h.2 with ⟨rfl, _⟩ | ⟨g, cap, cur, rfl, _⟩
      · exact ⟨none, 0, rfl⟩
      · exact ⟨_, _, by rw [h0]⟩
    have hl : l = [] := List.eq_nil_of_length_eq_zero h0
    subst hl
    have HR : ∀ W, Rt W (base ≤ ·) (several kind []) (reC 0 0 none 0 0 0 0 0) := fun W => Rt.leaf 0 0 0 0 0 0 (by decide)
    have HRR := Lib.hid HR
    clear HR hx9 h0 h hr
    go_enter Tryd.func36, Tryd.ntmps36
    go_wp2
    refine bodyPost_ret (v := .agg (reC 0 0 none 0 0 0 0 0).toArray) ?_ rfl ⟨_, rfl, HRR.out _, ?_⟩
    · simp [results, Tryd.results36, go_sem, word]
    · go_grown
  rcases h.2 with ⟨_, hl0⟩ | ⟨g, cap, cur, rfl, hg, hblk, hc1, hc2, hc3, htk⟩
  · exact absurd hl0 h0
  have hgl : g < w.heap.size := (Array.getElem?_eq_some_iff.1 hblk).1
  have hcell : ∀ j u, xs[j]? = some u → w.cell? ⟨g, j, none⟩ = some u := by
    intro j u hu
    have hB : Blk w g 28 cur := hblk
    rw [← htk, List.getElem?_take] at hu
    split at hu
    · rw [hB.cell]; simpa using hu
    · cases hu
  by_cases h1 : l.length = 1
  · obtain ⟨r, rfl⟩ : ∃ r, l = [r] := by
      match l, h1 with
      | [r], _ => exact ⟨r, rfl⟩
    obtain ⟨cs, hrt0, hat⟩ := hr.at_ (i := 0) (by simp)
    have hrt : Rt w (base ≤ ·) r cs := hrt0
    clear hrt0
    obtain ⟨A, c, hcs, hS, hnil⟩ := hrt.shape
    have HRT : Hid (Rt w (base ≤ ·) r cs) := Lib.hid hrt
    have q : ∀ j u, cs[j]? = some u → w.cell? ⟨g, j, none⟩ = some u := fun j u hu => hcell j u (by have := hat j u hu; rwa [Nat.zero_mul, Nat.zero_add] at this)
    have HCS := Lib.hid hcs
    rw [hcs] at q
    have q0 := q 0 _ rfl
    have q1 := q 1 _ rfl
    have q2 := q 2 _ rfl
    have q3 := q 3 _ rfl
    have q4 := q 4 _ rfl
    have q5 := q 5 _ rfl
    have q6 := q 6 _ rfl
    have q7 := q 7 _ rfl
    have q8 := q 8 _ rfl
    clear q hcs hrt hat hcell htk hc3 hblk hx9 h hr hnil h1 hS h0
    generalize hk0 : r.kind = k0 at *
    generalize hk1 : r.set = k1 at *
    generalize hk2 : r.kids.length = k2 at *
    generalize hk3 : r.lo = k3 at *
    generalize hk4 : r.hi = k4 at *
    generalize hk5 : r.n = k5 at *
    clear hk0 hk1 hk2 hk3 hk4 hk5
    have hrl : ([r] : List Re).length = 1 := rfl
    rw [hrl]
    go_enter Tryd.func36, Tryd.ntmps36
    go_wp2
    refine bodyPost_ret (v := .agg (reC k0 k1 A k2 c k3 k4 k5).toArray) (by simp [results, Tryd.results36, go_sem]) rfl ⟨cs, by rw [HCS.out], ?_, ?_⟩
    · exact HRT.out.bel (by go_grown)
    · go_grown
  · have h2 : 2 ≤ l.length := by omega
    rw [show SevPost kind l (base ≤ ·) w = fun x w' => ∃ cs, x = .returned (.agg cs.toArray) ∧ Rt w' (base ≤ ·) (.mk kind 0 l 0 0 0) cs ∧ Below w.heap.size w w' by unfold SevPost; rw [several_many kind l h2]]
    have HR : ∀ W, Below w.heap.size w W → Rt W (base ≤ ·) (.mk kind 0 l 0 0 0) (reC kind 0 (some ⟨g, 0, none⟩) l.length cap 0 0 0) := fun W hb =>
      (hr.bel hb).kind kind 0 0 0 (g := g) (o := 0) (fun _ => rfl) (fun _ => hg) (fun j u hu => by rw [Nat.zero_add]; exact (hb.cell (p := ⟨g, j, none⟩) hgl).trans (hcell j u hu))
    have HRR := Lib.hid HR
    obtain ⟨n, hn2⟩ : ∃ n, l.length = n := ⟨_, rfl⟩
    rw [hn2] at HRR h0 h1 hn ⊢
    have d0 : ((n : Int) == 0) = false := by rw [beq_eq_false_iff_ne]; omega
    have d1 : ((n : Int) == 1) = false := by rw [beq_eq_false_iff_ne]; omega
    clear HR hcell htk hc3 hblk hx9 h hr h0 h1 h2 hn2 hc1
    go_enter Tryd.func36, Tryd.ntmps36
    go_wp2
    refine bodyPost_ret (v := .agg (reC kind 0 (some ⟨g, 0, none⟩) n cap 0 0 0).toArray) (by simp [results, Tryd.results36, go_sem, word]) rfl ⟨_, rfl, HRR.out _ ?_, ?_⟩
    · go_grown
    · go_grown
end EreW
end Go.Proofs.YtdonokghemhfiaaDoor
