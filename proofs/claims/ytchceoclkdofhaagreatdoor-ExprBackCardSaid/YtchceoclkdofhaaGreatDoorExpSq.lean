/- The reference's parser of expressions: ops of a strength, or greater. Printed by gen_expsq.py. -/
import Derived.Test.YtchceoclkdofhaaGreatDoorExpS
import Derived.Test.YtchceoclkdofhaaGreatDoorExpOq
namespace Go.Proofs.YtchceoclkdofhaaGreatDoor
set_option linter.unusedVariables false
set_option linter.unusedSimpArgs false
open Go.RowKit
namespace ExpW
open CalP CalW ExpP
set_option maxRecDepth 100000 in
set_option maxHeartbeats 3200000 in
theorem someq_c (n : Nat) (hn : n ≤ 64) (HO : OneC RQ 64 n) (IH : ∀ m, n = m + 1 → SomeC RQ 39 m) : SomeC RQ 39 n := by
  intro R B A c l i s w hs1 hs8 h ht hB hi hl
  rw [some_mk]
  have HIH := Lib.hid IH
  clear IH
  have hRw := Blk.lt h
  obtain ⟨SP, hSP⟩ : ∃ SP, mkSome l (up l n) s i = SP := ⟨_, rfl⟩
  rw [hSP]
  have hsp : (match mkOne l (up l n) i with | .error e => .error e | .ok (x, k) => loopS l (up l n) s (l.length + 1) x k) = SP := by rw [← hSP]; unfold mkSome; cases mkOne l (up l n) i <;> rfl
  rw [← one_mk] at hsp
  have HSP := Lib.hid hsp
  clear hSP hsp
  obtain ⟨w1, hw1⟩ : ∃ z : World, w.alloc (.cells zV 24) = z := ⟨_, rfl⟩
  have X1 : Blk w1 w.heap.size 24 zV := by rw [← hw1]; exact Blk.new _ _ _
  have h1 : Rdx RQ w1 R A c l i 0 := by rw [← hw1]; exact h.next (by go_grown)
  have T1 : Tch (On R) w w1 := by rw [← hw1]; exact (Tch.refl _ _).alloc _
  have t1 : Tks w1 B A l := by rw [← hw1]; exact ht.bel (by go_grown)
  have hGR : w.heap.size ≠ R := by omega
  have hG1 : w.heap.size < w1.heap.size := X1.lt
  have c1 := HO R B A c l i w1 h1 t1 hB hi hl
  have hd0 : (0 : Int) ≤ 64 - (n : Int) ∧ (64 : Int) - n ≤ 64 := by omega
  obtain ⟨D, hD⟩ : ∃ D : Int, (64 : Int) - (n : Int) = D := ⟨_, rfl⟩
  rw [hD] at c1 hd0 ⊢
  clear h ht HO
  go_enter Tryz.func39, Tryz.ntmps39
  go_wp2_with fail
  (with_reducible refine c1.mono ?_)
  clear c1 hw1
  rintro x0 w4 ⟨x, cs, k, e, rfl, hE, h4, t4, hkl, hr⟩
  obtain ⟨A2, c2, rfl⟩ := hE.shape
  have X4 := Blk.tch (S := On R) X1 t4 hGR
  have T4 := Tch.trans T1 t4
  have tk4 := t1.tch t4 (fun b hb e => by have e : b = R := e; omega)
  have hR4 : R < w4.heap.size := Blk.lt h4
  have hs4 := t4.size
  clear X1 T1 t4 t1 h1
  obtain ⟨w5, hw5⟩ : ∃ z : World, w4.alloc (.cells (exC x.kind x.n x.name x.op A2 x.kids.length c2).toArray 24) = z := ⟨_, rfl⟩
  have X5 : Blk w5 w.heap.size 24 zV := by rw [← hw5]; exact X4.alloc _
  have h5 : Rdx RQ w5 R A c l k e := by rw [← hw5]; exact Blk.alloc h4 _
  have T5 : Tch (On R) w w5 := by rw [← hw5]; exact T4.alloc _
  have K5 : Blk w5 w4.heap.size 24 (exC x.kind x.n x.name x.op A2 x.kids.length c2).toArray := by rw [← hw5]; exact Blk.new _ _ _
  have E5 : Et w5 (fun b => w1.heap.size ≤ b ∧ b ≠ w4.heap.size) x (exC x.kind x.n x.name x.op A2 x.kids.length c2) := (Et.bel (Et.lt_ hE) (by rw [← hw5]; go_grown)).keep (fun b hb => ⟨hb.1, by have := hb.2; omega⟩) (fun _ _ _ => rfl)
  have tk5 : Tks w5 B A l := by rw [← hw5]; exact tk4.bel (by go_grown)
  have hg7 : w4.heap.size < w5.heap.size := K5.lt
  clear X4 h4 T4 hE tk4
  obtain ⟨g7, hg7e⟩ : ∃ g, w4.heap.size = g := ⟨_, rfl⟩
  rw [hg7e] at K5 E5 hs4 hR4 hg7
  have hst : (e = 0 ∧ Hid (loopS l (up l n) s (l.length + 1) x k = SP) ∧ l.length < k + (l.length + 1)) ∨ (e ≠ 0 ∧ Hid (SP = .error (k, e))) := by
    rcases hr with ⟨h0, hr⟩ | ⟨h0, hr⟩
    · left
      have hz := HSP.out
      rw [hr] at hz
      exact ⟨h0, Lib.hid hz, by omega⟩
    · right
      have hz := HSP.out
      rw [hr] at hz
      exact ⟨h0, Lib.hid hz.symm⟩
  clear hr HSP
  go_wp2_with fail
  try rw [hw5]
  try rw [hg7e]
  clear hw5 hg7e
  go_loopg [] (l.length + 1) (fun F wr => ∃ (x : Ex) (A2 : Option Addr) (c2 k : Nat) (e : Int), Blk wr g7 24 (exC x.kind x.n x.name x.op A2 x.kids.length c2).toArray ∧
    Et wr (fun b => w1.heap.size ≤ b ∧ b ≠ g7) x (exC x.kind x.n x.name x.op A2 x.kids.length c2) ∧ Rdx RQ wr R A c l k e ∧ Tch (On R) w wr ∧ Blk wr w.heap.size 24 zV ∧ Tks wr B A l ∧ k ≤ l.length ∧
    ((e = 0 ∧ Hid (loopS l (up l n) s F x k = SP) ∧ l.length < k + F) ∨ (e ≠ 0 ∧ Hid (SP = .error (k, e)))))
  case atStart => exact ⟨x, A2, c2, k, e, K5, E5, h5, T5, X5, tk5, hkl, hst⟩
  case round =>
    clear K5 E5 h5 T5 X5 tk5 hkl hst hg7
    obtain ⟨x, A2, c2, k, e, K6, E6, h6, T6, X6, tk6, hkl, hst⟩ := hrel
    have hg7 := K6.lt
    have hgG : w.heap.size < g7 := by omega
    obtain ⟨k0, k1, k2⟩ := h6.cells
    rcases hst with ⟨rfl, hz, hf⟩ | ⟨h0, hz⟩
    rotate_left
    · have e0 : (e == 0) = false := by simpa using h0
      have HF := Lib.hid (show e ≠ 0 ∧ SP = .error (k, e) from ⟨h0, hz.out⟩)
      clear hz h0
      have p0 := X6.cell 0
      have r0 := X6.loose 0
      have p1 := X6.cell 1
      have r1 := X6.loose 1
      have p2 := X6.cell 2
      have r2 := X6.loose 2
      have p3 := X6.cell 3
      have r3 := X6.loose 3
      have p4 := X6.cell 4
      have r4 := X6.loose 4
      simp only [List.getElem?_toArray, List.getElem?_cons_zero, List.getElem?_cons_succ] at p0 p1 p2 p3 p4
      have u0 := K6.cell 0
      have u1 := K6.cell 1
      have u2 := K6.cell 2
      have u3 := K6.cell 3
      have u4 := K6.cell 4
      simp only [List.getElem?_toArray, List.getElem?_cons_zero, List.getElem?_cons_succ] at u0 u1 u2 u3 u4
      have RB := Lib.hid (put5_blk X6 (.int .i64 x.kind) (.int .i64 x.n) (.string x.name) (.string x.op) (.slice A2 x.kids.length c2))
      have RH := Lib.hid (show Rdx RQ (put5 wr w.heap.size (.int .i64 x.kind) (.int .i64 x.n) (.string x.name) (.string x.op) (.slice A2 x.kids.length c2)) R _ c l k e from put5_far h6 (by omega) _ _ _ _ _)
      have RT := Lib.hid (put5_tch T6 (g := w.heap.size) (Nat.le_refl _) (.int .i64 x.kind) (.int .i64 x.n) (.string x.name) (.string x.op) (.slice A2 x.kids.length c2))
      have RE := Lib.hid (Et.put2 E6 hG1 (.int .i64 x.kind) (.int .i64 x.n) (.string x.name) (.string x.op) (.slice A2 x.kids.length c2))
      clear X6 h6 T6 K6 E6
      go_wp2_with fail
      refine bodyPost_ret (results5 (by rfl) _ _ w.heap.size _ (by rfl) RB.out (by rfl)) rfl ?_
      exact ⟨_, _, k, e, rfl, RE.out, RH.out, RT.out, hkl, .inr HF.out⟩
    obtain ⟨F, rfl⟩ : ∃ F, gk = F + 1 := ⟨gk - 1, by omega⟩
    replace hz := hz.out
    rw [loop_s] at hz
    have cs := signq_c R B A c l k 0 wr h6 tk6
    rw [signE, if_pos rfl] at cs
    obtain ⟨op, hop⟩ : ∃ op, signS l k = op := ⟨_, rfl⟩
    rw [hop] at hz cs
    have cst := fun W => rstrength_c op W
    have hop60 : strength op ≠ 0 → op.size ≤ maxLen := fun h => sign_size tk6 (sign_lt (fun e => h (by rw [← hop]; exact strength_no e))) hop
    have hkl3 : strength op ≠ 0 → k < l.length := fun h => sign_lt (fun e => h (by rw [← hop]; exact strength_no e))
    have hsb := strength_le op
    obtain ⟨St, hSt⟩ : ∃ z : Nat, strength op = z := ⟨_, rfl⟩
    rw [hSt] at cst hz hsb hop60 hkl3
    have HOP := Lib.hid hop
    clear hSt hop
    go_wp2_with fail
    (with_reducible refine cs.mono ?_)
    clear cs
    rintro x9 w9 ⟨rfl, m7, rfl⟩
    have X7 := X6.drewN m7
    have h7 := h6.drewN m7
    have T7 := T6.drewN m7
    have K7 := K6.drewN m7
    have E7 := E6.dn m7
    have tk7 : Tks (wr.drewN m7) B A l := tk6.keep (Nat.le_refl _) (fun _ _ _ => rfl)
    have hg77 : g7 < (wr.drewN m7).heap.size := hg7
    obtain ⟨v7, hv7⟩ : ∃ z, wr.drewN m7 = z := ⟨_, rfl⟩
    rw [hv7] at X7 h7 T7 K7 E7 tk7 hg77 ⊢
    clear hv7 X6 h6 T6 K6 E6 tk6 hg7 k0 k1 k2
    by_cases hs : s ≤ St
    rotate_left
    · have d : decide ((s : Int) ≤ (St : Int)) = false := decide_eq_false (by omega)
      have d' : decide (s ≤ St) = false := decide_eq_false hs
      rw [if_neg hs] at hz
      have HF := Lib.hid hz.symm
      clear hz hs
      go_wp2_with fail
      (with_reducible refine (cst _).mono ?_)
      rintro x9 w9 ⟨rfl, rfl⟩
      clear cst
      have p0 := X7.cell 0
      have r0 := X7.loose 0
      have p1 := X7.cell 1
      have r1 := X7.loose 1
      have p2 := X7.cell 2
      have r2 := X7.loose 2
      have p3 := X7.cell 3
      have r3 := X7.loose 3
      have p4 := X7.cell 4
      have r4 := X7.loose 4
      simp only [List.getElem?_toArray, List.getElem?_cons_zero, List.getElem?_cons_succ] at p0 p1 p2 p3 p4
      have u0 := K7.cell 0
      have u1 := K7.cell 1
      have u2 := K7.cell 2
      have u3 := K7.cell 3
      have u4 := K7.cell 4
      simp only [List.getElem?_toArray, List.getElem?_cons_zero, List.getElem?_cons_succ] at u0 u1 u2 u3 u4
      have RB := Lib.hid (put5_blk X7 (.int .i64 x.kind) (.int .i64 x.n) (.string x.name) (.string x.op) (.slice A2 x.kids.length c2))
      have RH := Lib.hid (show Rdx RQ (put5 v7 w.heap.size (.int .i64 x.kind) (.int .i64 x.n) (.string x.name) (.string x.op) (.slice A2 x.kids.length c2)) R _ c l k 0 from put5_far h7 (by omega) _ _ _ _ _)
      have RT := Lib.hid (put5_tch T7 (g := w.heap.size) (Nat.le_refl _) (.int .i64 x.kind) (.int .i64 x.n) (.string x.name) (.string x.op) (.slice A2 x.kids.length c2))
      have RE := Lib.hid (Et.put2 E7 hG1 (.int .i64 x.kind) (.int .i64 x.n) (.string x.name) (.string x.op) (.slice A2 x.kids.length c2))
      clear X7 h7 T7 K7 E7
      go_wp2_with fail
      refine bodyPost_ret (results5 (by rfl) _ _ w.heap.size _ (by rfl) RB.out (by rfl)) rfl ?_
      exact ⟨_, _, k, 0, rfl, RE.out, RH.out, RT.out, hkl, .inl ⟨rfl, HF.out⟩⟩
    have d : decide ((s : Int) ≤ (St : Int)) = true := decide_eq_true (by omega)
    have d' : decide (s ≤ St) = true := decide_eq_true hs
    have hkl2 : k < l.length := hkl3 (by omega)
    have hop61 : op.size ≤ maxLen := hop60 (by omega)
    rw [if_pos hs] at hz
    have cs := signq_c R B A c l k 0 v7 h7 tk7
    rw [signE, if_pos rfl, HOP.out] at cs
    have HZ0 := Lib.hid hz
    clear hz hop60 hkl3
    go_wp2_with fail
    (with_reducible refine (cst _).mono ?_)
    rintro x9 w9 ⟨rfl, rfl⟩
    go_wp2_with fail
    (with_reducible refine cs.mono ?_)
    clear cs
    rintro x9 w9 ⟨rfl, m8, rfl⟩
    have X8 := X7.drewN m8
    have h8 := h7.drewN m8
    have T8 := T7.drewN m8
    have K8 := K7.drewN m8
    have E8 := E7.dn m8
    have tk8 : Tks (v7.drewN m8) B A l := tk7.keep (Nat.le_refl _) (fun _ _ _ => rfl)
    have hg8 : g7 < (v7.drewN m8).heap.size := hg77
    obtain ⟨v8, hv8⟩ : ∃ z, v7.drewN m8 = z := ⟨_, rfl⟩
    rw [hv8] at X8 h8 T8 K8 E8 tk8 hg8 ⊢
    clear hv8 X7 h7 T7 K7 E7 tk7 hg77
    cases n with
    | zero =>
      have HZ := Lib.hid (show SP = .error (k, 8) from HZ0.out.symm)
      have hd6 : decide ((64 : Int) ≤ D) = true := decide_eq_true (by omega)
      have cf := failq_c R A c l k 0 8 v8 h8
      rw [show failS 8 0 = 8 from rfl] at cf
      clear HZ0
      go_wp2_with fail
      (with_reducible refine cf.mono ?_)
      clear cf
      rintro x9 w9 ⟨rfl, h9, t9⟩
      have X9 := Blk.tch (S := On R) X8 t9 hGR
      have T9 := Tch.trans T8 t9
      have p0 := X9.cell 0
      have r0 := X9.loose 0
      have p1 := X9.cell 1
      have r1 := X9.loose 1
      have p2 := X9.cell 2
      have r2 := X9.loose 2
      have p3 := X9.cell 3
      have r3 := X9.loose 3
      have p4 := X9.cell 4
      have r4 := X9.loose 4
      simp only [List.getElem?_toArray, List.getElem?_cons_zero, List.getElem?_cons_succ] at p0 p1 p2 p3 p4
      have RB := Lib.hid (put5_blk X9 (.int .i64 0) (.int .i64 0) (.string noB) (.string noB) (.slice none 0 0))
      have RH := Lib.hid (show Rdx RQ (put5 w9 w.heap.size (.int .i64 0) (.int .i64 0) (.string noB) (.string noB) (.slice none 0 0)) R _ c l k 8 from put5_far h9 (by omega) _ _ _ _ _)
      have RT := Lib.hid (put5_tch T9 (g := w.heap.size) (Nat.le_refl _) (.int .i64 0) (.int .i64 0) (.string noB) (.string noB) (.slice none 0 0))
      clear X9 T9 t9 h9 X8 h8 T8 K8 E8 tk8
      go_wp2_with fail
      refine bodyPost_ret (results5 (by rfl) _ _ w.heap.size zV (by rfl) RB.out (by rfl)) rfl ?_
      exact ⟨zEx, _, k, 8, rfl, zEt, RH.out, RT.out, hkl, .inr ⟨by decide, HZ.out⟩⟩
    | succ m =>
      have hz : (match (lv l m).some (St + 1) (k + 1) with | .error e => .error e | .ok (y, j) => loopS l (up l (m + 1)) s F (.mk 4 0 noB op [x, y]) j) = SP := HZ0.out
      have HZ := Lib.hid hz
      clear hz HZ0
      have hd6 : decide ((64 : Int) ≤ D) = false := decide_eq_false (by omega)
      have HS := Lib.hid (HIH.out m rfl)
      obtain ⟨k0, k1, k2⟩ := h8.cells
      have f1 := Blk.loose h8 1
      obtain ⟨w2, hw2⟩ : ∃ z, v8.setCell ⟨R, 1, none⟩ (.int .i64 ((k : Int) + 1)) = z := ⟨_, rfl⟩
      have h2 : Rdx RQ w2 R A c l (k + 1) 0 := by rw [← hw2]; exact h8.setI (k + 1)
      have X2 : Blk w2 w.heap.size 24 zV := by rw [← hw2]; exact X8.far (p := ⟨R, 1, none⟩) hGR _
      have K2 : Blk w2 g7 24 (exC x.kind x.n x.name x.op A2 x.kids.length c2).toArray := by rw [← hw2]; exact K8.far (p := ⟨R, 1, none⟩) (by show g7 ≠ R; omega) _
      have E2 := Et.tch (w' := w2) E8 (by rw [← hw2]; exact (Tch.refl (On R) v8).setCell (p := ⟨R, 1, none⟩) rfl _) (fun b hb e => by have e : b = R := e; omega)
      have T2 : Tch (On R) w w2 := by rw [← hw2]; exact T8.setCell (p := ⟨R, 1, none⟩) rfl _
      have tk2 : Tks w2 B A l := by rw [← hw2]; exact tk8.keep (Nat.le_refl _) (fun b hb _ => Below.heap_setCell _ _ _ b (by show b ≠ R; omega))
      have hsz2 : v8.heap.size ≤ w2.heap.size := by rw [← hw2]; simp [World.setCell]
      have co := HS.out R B A c l (k + 1) (St + 1) w2 (by omega) (by omega) h2 tk2 hB (by omega) hl
      rw [show (64 : Int) - (m : Int) = D + 1 by omega, Int.natCast_add St 1, Int.natCast_one] at co
      clear h2 X8 h8 T8 K8 E8 tk8
      go_wp2_with fail
      (with_reducible refine (cst _).mono ?_)
      rintro x9 w99 ⟨rfl, hw99⟩
      clear cst k0 k1 k2 f1
      try rw [← hw99]
      try rw [hw2]
      clear hw99
      go_wp2_with fail
      (with_reducible refine co.mono ?_)
      clear co hw2
      rintro x9 w3 ⟨y, cs, k', e', rfl, hE, h3, t3, hkl', hr⟩
      obtain ⟨A3, c3, rfl⟩ := hE.shape
      have X3 := Blk.tch (S := On R) X2 t3 hGR
      have K3 := Blk.tch (S := On R) K2 t3 (by show ¬ g7 = R; omega)
      have E3 := Et.tch E2 t3 (fun b hb e => by have e : b = R := e; omega)
      have T3 := Tch.trans T2 t3
      have tk3 := tk2.tch t3 (fun b hb e => by have e : b = R := e; omega)
      have hg72 : g7 < w2.heap.size := K2.lt
      have hsz3 := t3.size
      clear X2 K2 E2 T2 t3 tk2
      obtain ⟨w4, hw4⟩ : ∃ z : World, w3.alloc (.cells (exC y.kind y.n y.name y.op A3 y.kids.length c3).toArray 24) = z := ⟨_, rfl⟩
      have K4 : Blk w4 g7 24 (exC x.kind x.n x.name x.op A2 x.kids.length c2).toArray := by rw [← hw4]; exact K3.alloc _
      have Y4 : Blk w4 w3.heap.size 24 (exC y.kind y.n y.name y.op A3 y.kids.length c3).toArray := by rw [← hw4]; exact Blk.new _ _ _
      have b34 : Below w3.heap.size w3 w4 := by rw [← hw4]; go_grown
      obtain ⟨w5, hw5⟩ : ∃ z : World, w4.alloc (.cells #[.int .i64 x.kind, .int .i64 x.n, .string x.name, .string x.op, .slice A2 x.kids.length c2, .int .i64 y.kind, .int .i64 y.n, .string y.name, .string y.op, .slice A3 y.kids.length c3] 24) = z := ⟨_, rfl⟩
      have b45 : Below w4.heap.size w4 w5 := by rw [← hw5]; go_grown
      have b35 : Below w3.heap.size w3 w5 := via b45 b34
      have N5 : Blk w5 w4.heap.size 24 (exC x.kind x.n x.name x.op A2 x.kids.length c2 ++ exC y.kind y.n y.name y.op A3 y.kids.length c3).toArray := by rw [← hw5]; exact Blk.new _ _ _
      have K5 := K3.next b35
      have X5 := X3.next b35
      have h5 := h3.next b35
      have E5 := Et.bel E3 b35
      have EY5 : Et w5 (fun b => w1.heap.size ≤ b ∧ b ≠ g7) y _ := (Et.bel hE b35).keep (fun b hb => by omega) (fun _ _ _ => rfl)
      have T5 := T3.trans (Tch.of_below (S := On R) b35)
      have tk5 := tk3.bel b35
      have hsz4 : w3.heap.size < w4.heap.size := Y4.lt
      have u0 := K4.cell 0
      have u1 := K4.cell 1
      have u2 := K4.cell 2
      have u3 := K4.cell 3
      have u4 := K4.cell 4
      simp only [List.getElem?_toArray, List.getElem?_cons_zero, List.getElem?_cons_succ] at u0 u1 u2 u3 u4
      have v0 := Y4.cell 0
      have v1 := Y4.cell 1
      have v2 := Y4.cell 2
      have v3 := Y4.cell 3
      have v4 := Y4.cell 4
      simp only [List.getElem?_toArray, List.getElem?_cons_zero, List.getElem?_cons_succ] at v0 v1 v2 v3 v4
      have p0 := K5.cell 0
      have r0 := K5.loose 0
      have p1 := K5.cell 1
      have r1 := K5.loose 1
      have p2 := K5.cell 2
      have r2 := K5.loose 2
      have p3 := K5.cell 3
      have r3 := K5.loose 3
      have p4 := K5.cell 4
      have r4 := K5.loose 4
      simp only [List.getElem?_toArray, List.getElem?_cons_zero, List.getElem?_cons_succ] at p0 p1 p2 p3 p4
      have EN := Et.two (k := 4) E5 EY5 N5 (show w1.heap.size ≤ w4.heap.size ∧ w4.heap.size ≠ g7 by omega) (by unfold I64; omega) op hop61 2
      obtain ⟨gN, hgN⟩ : ∃ g, w4.heap.size = g := ⟨_, rfl⟩
      rw [hgN] at EN
      obtain ⟨w6, hw6⟩ : ∃ z, put5 w5 g7 (.int .i64 4) (.int .i64 0) (.string noB) (.string op) (.slice (some ⟨gN, 0, none⟩) 2 2) = z := ⟨_, rfl⟩
      have K6 : Blk w6 g7 24 (exC 4 0 noB op (some ⟨gN, 0, none⟩) 2 2).toArray := by rw [← hw6]; exact put5_blk K5 _ _ _ _ _
      have X6 : Blk w6 w.heap.size 24 zV := by rw [← hw6]; exact put5_far X5 (by omega) _ _ _ _ _
      have h6 : Rdx RQ w6 R A c l k' e' := by rw [← hw6]; exact put5_far h5 (by omega) _ _ _ _ _
      have T6 : Tch (On R) w w6 := by rw [← hw6]; exact put5_tch T5 (by omega) _ _ _ _ _
      have E6 : Et w6 (fun b => w1.heap.size ≤ b ∧ b ≠ g7) (.mk 4 0 noB op [x, y]) (exC 4 0 noB op (some ⟨gN, 0, none⟩) 2 2) := by rw [← hw6]; exact Et.put7 EN _ _ _ _ _
      have tk6 : Tks w6 B A l := by rw [← hw6]; exact tk5.keep (Nat.le_refl _) (fun b hb _ => put5_heap (by omega) _ _ _ _ _)
      have hfw := (some_fwd (up_fwd l m) (s := St + 1) (by omega) (k + 1))
      rw [← some_mk] at hfw
      have hst : (e' = 0 ∧ Hid (loopS l (up l (m + 1)) s F (.mk 4 0 noB op [x, y]) k' = SP) ∧ l.length < k' + F) ∨ (e' ≠ 0 ∧ Hid (SP = .error (k', e'))) := by
        have hz := HZ.out
        rcases hr with ⟨h0, hr⟩ | ⟨h0, hr⟩
        · left
          have hk := hfw y k' hr
          rw [hr] at hz
          exact ⟨h0, Lib.hid hz, by omega⟩
        · right
          rw [hr] at hz
          exact ⟨h0, Lib.hid hz.symm⟩
      clear K3 X3 h3 E3 T3 tk3 hE K4 Y4 b34 b45 b35 N5 K5 X5 h5 E5 EY5 T5 tk5 EN hr hfw HZ HS
      go_wp2_with fail
      go_roundg F
      case rel => exact ⟨.mk 4 0 noB op [x, y], some ⟨gN, 0, none⟩, 2, k', e', K6, E6, h6, T6, X6, tk6, hkl', hst⟩
      case measure => omega
/-- All levels of the reference's parser. -/
theorem parq_c : ∀ (n : Nat), n ≤ 64 → OneC RQ 64 n ∧ SomeC RQ 39 n
  | 0, hn => by
    have h1 := oneq_c 0 hn (fun m h => by cases h)
    exact ⟨h1, someq_c 0 hn h1 (fun m h => by cases h)⟩
  | n + 1, hn => by
    have ih := parq_c n (by omega)
    have h1 := oneq_c (n + 1) hn (fun m h => by injection h with h; subst h; exact ih)
    exact ⟨h1, someq_c (n + 1) hn h1 (fun m h => by injection h with h; subst h; exact ih.2)⟩
end ExpW
end Go.Proofs.YtchceoclkdofhaaGreatDoor
