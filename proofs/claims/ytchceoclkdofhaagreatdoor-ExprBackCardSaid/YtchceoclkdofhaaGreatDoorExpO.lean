/- The program's parser of expressions: what binds more tightly than all ops. Printed by gen_expo.py. -/
import Derived.Test.YtchceoclkdofhaaGreatDoorExpW
import Derived.Deep.DeepCutAuto
import Derived.Deep.CutBlock
import Derived.Great.BuildSlice
namespace Go.Proofs.YtchceoclkdofhaaGreatDoor
set_option linter.unusedVariables false
set_option linter.unusedSimpArgs false
open Go.RowKit
namespace ExpW
open CalP CalW ExpP
/-- What a method of the reader leaves. -/
def PPost (T : TypeId) (R : Nat) (A : Option Addr) (c : Nat) (l : List Tk) (w : World) (spec : Res) (x : Ending) (w' : World) : Prop :=
  ∃ (y : Ex) (cs : List Value) (k : Nat) (e : Int), x = .returned (.agg cs.toArray) ∧ Et w' (w.heap.size ≤ ·) y cs ∧ Rdx T w' R A c l k e ∧ Tch (On R) w w' ∧ k ≤ l.length ∧ ((e = 0 ∧ spec = .ok (y, k)) ∨ (e ≠ 0 ∧ spec = .error (k, e)))
def OneC (T : TypeId) (f : FuncId) (n : Nat) : Prop := ∀ (R B : Nat) (A : Option Addr) (c : Nat) (l : List Tk) (i : Nat) (w : World), Rdx T w R A c l i 0 → Tks w B A l → B ≤ R → i ≤ l.length → l.length ≤ 1000000 →
  Calls Tryz.prog f #[pt R, .int .i64 ((64 : Int) - n)] w (PPost T R A c l w ((lv l n).one i))
def SomeC (T : TypeId) (f : FuncId) (n : Nat) : Prop := ∀ (R B : Nat) (A : Option Addr) (c : Nat) (l : List Tk) (i s : Nat) (w : World), 1 ≤ s → s ≤ 8 → Rdx T w R A c l i 0 → Tks w B A l → B ≤ R → i ≤ l.length → l.length ≤ 1000000 →
  Calls Tryz.prog f #[pt R, .int .i64 s, .int .i64 ((64 : Int) - n)] w (PPost T R A c l w ((lv l n).some s i))
theorem Et.tch {S K : Nat → Prop} {w w' : World} {r : Ex} {cs : List Value} (h : Et w K r cs) (t : Tch S w w') (hS : ∀ b, K b → ¬ S b) : Et w' K r cs := h.keep (fun _ hb => hb) (fun b hb hl => t.block b hl (hS b hb))
/-- One kid in a row of its own. -/
theorem Et.one1 {w : World} {K : Nat → Prop} {y : Ex} {ck : List Value} {g : Nat} {T : TypeId} (h : Et w K y ck) (hb : Blk w g T ck.toArray) (hg : K g) (k : Int) (hk : I64 k) (op : ByteArray) (ho : op.size ≤ maxLen) (c : Nat) :
    Et w K (.mk k 0 noB op [y]) (exC k 0 noB op (some ⟨g, 0, none⟩) 1 c) := by
  refine .mk k 0 noB op [y] (some ⟨g, 0, none⟩) c (fun _ => ck) hk (by unfold I64; omega) (by decide) ho (by simp [maxLen]) (fun i hi => ?_) (fun _ => ⟨g, 0, rfl, hg, fun i hi j u hu => ?_⟩)
  · have : i = 0 := by simp at hi; omega
    subst this; exact h
  · have : i = 0 := by simp at hi; omega
    subst this
    rw [show 0 + 0 * 5 + j = j by omega, hb.cell, List.getElem?_toArray]; exact hu
/-- Two kids in a row of their own. -/
theorem Et.two {w : World} {K : Nat → Prop} {y z : Ex} {ck cz : List Value} {g : Nat} {T : TypeId} (h : Et w K y ck) (h' : Et w K z cz) (hb : Blk w g T (ck ++ cz).toArray) (hg : K g) (k : Int) (hk : I64 k) (op : ByteArray) (ho : op.size ≤ maxLen) (c : Nat) :
    Et w K (.mk k 0 noB op [y, z]) (exC k 0 noB op (some ⟨g, 0, none⟩) 2 c) := by
  have hl := h.len
  refine .mk k 0 noB op [y, z] (some ⟨g, 0, none⟩) c (fun i => if i = 0 then ck else cz) hk (by unfold I64; omega) (by decide) ho (by simp [maxLen]) (fun i hi => ?_) (fun _ => ⟨g, 0, rfl, hg, fun i hi j u hu => ?_⟩)
  · have : i = 0 ∨ i = 1 := by simp at hi; omega
    rcases this with rfl | rfl
    · exact h
    · exact h'
  · have : i = 0 ∨ i = 1 := by simp at hi; omega
    rcases this with rfl | rfl
    · rw [show 0 + 0 * 5 + j = j by omega, hb.cell, List.getElem?_toArray, List.getElem?_append_left (show j < ck.length from (List.getElem?_eq_some_iff.1 (show ck[j]? = some u from hu)).1)]; exact hu
    · rw [hb.cell, List.getElem?_toArray, List.getElem?_append_right (by omega), hl, show 0 + 1 * 5 + j - 5 = j by omega]; exact hu
theorem put5_heap {w : World} {g b : Nat} (hb : b ≠ g) (v0 v1 v2 v3 v4 : Value) : (put5 w g v0 v1 v2 v3 v4).heap[b]? = w.heap[b]? := by
  unfold put5
  rw [Below.heap_setCell _ _ _ b (by exact hb), Below.heap_setCell _ _ _ b (by exact hb), Below.heap_setCell _ _ _ b (by exact hb), Below.heap_setCell _ _ _ b (by exact hb), Below.heap_setCell _ _ _ b (by exact hb)]
theorem Et.put {w : World} {a a' g : Nat} {y : Ex} {cs : List Value} (h : Et w (a ≤ ·) y cs) (hg : g < a) (ha : a' ≤ a) (v0 v1 v2 v3 v4 : Value) : Et (put5 w g v0 v1 v2 v3 v4) (a' ≤ ·) y cs :=
  h.keep (fun b hb => Nat.le_trans ha hb) (fun b hb _ => put5_heap (by omega) v0 v1 v2 v3 v4)
theorem zEt {w : World} {K : Nat → Prop} : Et w K zEx [.int .i64 0, .int .i64 0, .string noB, .string noB, .slice none 0 0] := Et.leaf 0 0 noB noB 0 (by unfold I64; omega) (by unfold I64; omega) (by decide) (by decide)
theorem built_var (wd : ByteArray) : Tryz.prog.built 24 [(0, .int .i64 1), (2, .string wd)] = some #[.int .i64 1, .int .i64 0, .string wd, .string noB, .slice none 0 0] := by kernel_rfl
theorem built_kid (k : Int) (A : Option Addr) (n c : Nat) : Tryz.prog.built 24 [(0, .int .i64 k), (4, .slice A n c)] = some #[.int .i64 k, .int .i64 0, .string noB, .string noB, .slice A n c] := by kernel_rfl
theorem built_bin (op : ByteArray) (A : Option Addr) (n c : Nat) : Tryz.prog.built 24 [(0, .int .i64 4), (3, .string op), (4, .slice A n c)] = some #[.int .i64 4, .int .i64 0, .string noB, .string op, .slice A n c] := by kernel_rfl
theorem deep_no (R : Nat) (A : Option Addr) (c : Nat) (l : List Tk) (i : Nat) (d : Int) (hd : 0 ≤ d ∧ d ≤ 64) (h6 : ¬ d < 64) (hi : i ≤ 1048576) (w : World) (h : Rdx RP w R A c l i 0) :
    Calls Tryz.prog 52 #[pt R, .int .i64 d] w fun x w' => x = .returned (.bool false) ∧ Rdx RP w' R A c l i 8 ∧ Tch (On R) w w' := by
  refine (deep_c R A c l i d hd hi w h).mono ?_
  rintro x w' ⟨rfl, h2, t⟩
  rw [if_neg h6] at h2
  exact ⟨by rw [decide_eq_false h6], h2, t⟩
theorem deep_yes (R : Nat) (A : Option Addr) (c : Nat) (l : List Tk) (i : Nat) (d : Int) (hd : 0 ≤ d ∧ d ≤ 64) (h6 : d < 64) (hi : i ≤ 1048576) (w : World) (h : Rdx RP w R A c l i 0) :
    Calls Tryz.prog 52 #[pt R, .int .i64 d] w fun x w' => x = .returned (.bool true) ∧ Rdx RP w' R A c l (i + 1) 0 ∧ Tch (On R) w w' := by
  refine (deep_c R A c l i d hd hi w h).mono ?_
  rintro x w' ⟨rfl, h2, t⟩
  rw [if_pos h6] at h2
  exact ⟨by rw [decide_eq_true h6], h2, t⟩
theorem ws_facts (ws : ByteArray) : ws.toList = ws.data.toList := Lib.toList_data _
set_option maxRecDepth 100000 in
set_option maxHeartbeats 1600000 in
theorem one_c (n : Nat) (hn : n ≤ 64) (IH : ∀ m, n = m + 1 → OneC RP 49 m ∧ SomeC RP 30 m) : OneC RP 49 n := by
  intro R B A c l i w h ht hB hi hl
  rw [one_mk]
  have HIH := Lib.hid IH
  clear IH
  have hRw := Blk.lt h
  obtain ⟨SP, hSP⟩ : ∃ SP, mkOne l (up l n) i = SP := ⟨_, rfl⟩
  rw [hSP]
  have HSP := Lib.hid hSP
  clear hSP
  obtain ⟨w1, hw1⟩ : ∃ z : World, w.alloc (.cells zV 24) = z := ⟨_, rfl⟩
  have X1 : Blk w1 w.heap.size 24 zV := by rw [← hw1]; exact Blk.new _ _ _
  have h1 : Rdx RP w1 R A c l i 0 := by rw [← hw1]; exact h.next (by go_grown)
  have T1 : Tch (On R) w w1 := by rw [← hw1]; exact (Tch.refl _ _).alloc _
  have t1 : Tks w1 B A l := by rw [← hw1]; exact ht.bel (by go_grown)
  have c1 := sign_c R B A c l i 0 w1 h1 t1
  rw [signE, if_pos rfl] at c1
  obtain ⟨ws, hws⟩ : ∃ ws, signS l i = ws := ⟨_, rfl⟩
  rw [hws] at c1
  have HWS := Lib.hid hws
  clear hws h ht
  obtain ⟨N, hN⟩ : ∃ N, l.length = N := ⟨_, rfl⟩
  go_enter Tryz.func49, Tryz.ntmps49
  go_wp2_with fail
  (with_reducible refine c1.mono ?_)
  clear c1 hw1
  rintro x w2 ⟨rfl, m2, rfl⟩
  have X2 := X1.drewN m2
  have h2 := h1.drewN m2
  have T2 := T1.drewN m2
  have t2 : Tks (w1.drewN m2) B A l := t1.keep (Nat.le_refl _) (fun _ _ _ => rfl)
  generalize w1.drewN m2 = w2 at *
  clear X1 h1 T1 t1
  have hd0 : (0 : Int) ≤ 64 - (n : Int) ∧ (64 : Int) - n ≤ 64 := by omega
  have hGR : w.heap.size ≠ R := by omega
  by_cases hsg : ws.data.toList = [45] ∨ ws.data.toList = [33]
  · obtain ⟨kk, hkk⟩ : ∃ kk : Int, (if ws.data.toList = [33] then (3 : Int) else 2) = kk := ⟨_, rfl⟩
    have hsp : mkOne l (up l n) i = match up l n with
      | none => .error (i, 8)
      | some p => match p.one (i + 1) with
        | .error e => .error e
        | .ok (x, k) => .ok (.mk kk 0 noB noB [x], k) := by
      unfold mkOne
      rw [HWS.out, if_pos hsg, hkk]
      cases up l n <;> rfl
    rw [HSP.out] at hsp
    have hlt : i < l.length := sign_lt (by rw [HWS.out]; rcases hsg with e | e <;> rw [e] <;> simp)
    have hq : ((ws.toList == [45]) = true ∧ (ws.toList == [33]) = false ∧ kk = 2) ∨ ((ws.toList == [45]) = false ∧ (ws.toList == [33]) = true ∧ kk = 3) := by
      rw [ws_facts, ← hkk]
      rcases hsg with e | e <;> rw [e]
      · left; decide
      · right; decide
    have hkI : I64 kk := by rcases hq with ⟨_, _, e⟩ | ⟨_, _, e⟩ <;> rw [e] <;> unfold I64 <;> omega
    clear HSP HWS hkk hsg
    cases n with
    | zero =>
      have cd := deep_no R A c l i ((64 : Int) - (0 : Nat)) hd0 (by decide) (by omega) w2 h2
      have HZ2 := Lib.hid (show SP = .error (i, 8) from hsp)
      clear hsp HIH hd0
      obtain ⟨D, hD⟩ : ∃ D : Int, (64 : Int) - ((0 : Nat) : Int) = D := ⟨_, rfl⟩
      rw [hD] at cd ⊢
      clear hD
      rcases hq with ⟨q0, q1, -⟩ | ⟨q0, q1, -⟩
      all_goals
        go_wp2_with fail
        (with_reducible refine cd.mono ?_)
        rintro x w3 ⟨rfl, h3, t3⟩
        have X3 := Blk.tch (S := On R) X2 t3 hGR
        have T3 := Tch.trans T2 t3
        have p0 := X3.cell 0
        have r0 := X3.loose 0
        have p1 := X3.cell 1
        have r1 := X3.loose 1
        have p2 := X3.cell 2
        have r2 := X3.loose 2
        have p3 := X3.cell 3
        have r3 := X3.loose 3
        have p4 := X3.cell 4
        have r4 := X3.loose 4
        simp only [List.getElem?_toArray, List.getElem?_cons_zero, List.getElem?_cons_succ] at p0 p1 p2 p3 p4
        have RB := Lib.hid (put5_blk X3 (.int .i64 0) (.int .i64 0) (.string noB) (.string noB) (.slice none 0 0))
        have RH := Lib.hid (show Rdx RP (put5 w3 w.heap.size (.int .i64 0) (.int .i64 0) (.string noB) (.string noB) (.slice none 0 0)) R _ c l i 8 from put5_far h3 (by omega) _ _ _ _ _)
        have RT := Lib.hid (put5_tch T3 (g := w.heap.size) (Nat.le_refl _) (.int .i64 0) (.int .i64 0) (.string noB) (.string noB) (.slice none 0 0))
        go_wp2_with fail
        refine bodyPost_ret (results5 (by rfl) _ _ w.heap.size zV (by rfl) RB.out (by rfl)) rfl ⟨zEx, _, i, 8, rfl, zEt, RH.out, RT.out, hi, .inr ⟨by decide, HZ2.out⟩⟩
    | succ m =>
      have cd := deep_yes R A c l i ((64 : Int) - (m + 1 : Nat)) hd0 (by omega) (by omega) w2 h2
      rw [show up l (m + 1) = some (lv l m) from rfl] at hsp
      dsimp only at hsp
      obtain ⟨D, hD⟩ : ∃ D : Int, (64 : Int) - ((m + 1 : Nat) : Int) = D := ⟨_, rfl⟩
      have hD2 : (64 : Int) - (m : Int) = D + 1 := by omega
      have hDb : -1 ≤ D ∧ D ≤ 64 := by omega
      have HO := Lib.hid (HIH.out m rfl).1
      rw [hD] at cd ⊢
      clear hD HIH hd0
      have HZ := Lib.hid hsp
      clear hsp
      rcases hq with ⟨q0, q1, hk0⟩ | ⟨q0, q1, hk0⟩
      all_goals
        go_wp2_with fail
        (with_reducible refine cd.mono ?_)
        rintro x w3 ⟨rfl, h3, t3⟩
        have X3 := Blk.tch (S := On R) X2 t3 hGR
        have T3 := Tch.trans T2 t3
        have tk3 := t2.tch t3 (fun b hb e => by have e : b = R := e; omega)
        have co := HO.out R B A c l (i + 1) w3 h3 tk3 hB (by omega) hl
        rw [hD2] at co
        clear cd X2 T2 h2 t2 t3 h3 tk3
        go_wp2_with fail
        (with_reducible refine co.mono ?_)
        clear co
        rintro x w4 ⟨y, cs, k, e, rfl, hE, h4, t4, hkl, hr⟩
        obtain ⟨A2, c2, rfl⟩ := hE.shape
        have X4 := Blk.tch (S := On R) X3 t4 hGR
        have T4 := Tch.trans T3 t4
        have hR4 : R < w4.heap.size := Blk.lt h4
        have hs4 := t4.size
        have hs3 := X3.lt
        clear X3 T3 t4
        obtain ⟨w5, hw5⟩ : ∃ z : World, w4.alloc (.cells (exC y.kind y.n y.name y.op A2 y.kids.length c2).toArray 24) = z := ⟨_, rfl⟩
        have X5 : Blk w5 w.heap.size 24 zV := by rw [← hw5]; exact X4.alloc _
        have h5 : Rdx RP w5 R A c l k e := by rw [← hw5]; exact Blk.alloc h4 _
        have T5 : Tch (On R) w w5 := by rw [← hw5]; exact T4.alloc _
        have K5 : Blk w5 w4.heap.size 24 (exC y.kind y.n y.name y.op A2 y.kids.length c2).toArray := by rw [← hw5]; exact Blk.new _ _ _
        have E5 : Et w5 (w3.heap.size ≤ ·) y _ := Et.bel hE (by rw [← hw5]; go_grown)
        have hXlt := X5.lt
        clear X4 h4 T4 hE
        have p0 := X5.cell 0
        have r0 := X5.loose 0
        have p1 := X5.cell 1
        have r1 := X5.loose 1
        have p2 := X5.cell 2
        have r2 := X5.loose 2
        have p3 := X5.cell 3
        have r3 := X5.loose 3
        have p4 := X5.cell 4
        have r4 := X5.loose 4
        simp only [List.getElem?_toArray, List.getElem?_cons_zero, List.getElem?_cons_succ] at p0 p1 p2 p3 p4
        have RB := Lib.hid (put5_blk X5 (.int .i64 kk) (.int .i64 0) (.string noB) (.string noB) (.slice (some ⟨w4.heap.size, 0, none⟩) 1 1))
        have RH := Lib.hid (show Rdx RP (put5 w5 w.heap.size (.int .i64 kk) (.int .i64 0) (.string noB) (.string noB) (.slice (some ⟨w4.heap.size, 0, none⟩) 1 1)) R _ c l k e from put5_far h5 (by omega) _ _ _ _ _)
        have RT := Lib.hid (put5_tch T5 (g := w.heap.size) (Nat.le_refl _) (.int .i64 kk) (.int .i64 0) (.string noB) (.string noB) (.slice (some ⟨w4.heap.size, 0, none⟩) 1 1))
        have hs43 : w3.heap.size ≤ w4.heap.size := hs4
        have hXn : w4.heap.size ≠ w.heap.size := by omega
        have RK := put5_far K5 hXn (.int .i64 kk) (.int .i64 0) (.string noB) (.string noB) (.slice (some ⟨w4.heap.size, 0, none⟩) 1 1)
        have RE := Lib.hid (Et.one1 (Et.put E5 hs3 (Nat.le_of_lt hs3) (.int .i64 kk) (.int .i64 0) (.string noB) (.string noB) (.slice (some ⟨w4.heap.size, 0, none⟩) 1 1)) RK (show w.heap.size ≤ w4.heap.size by omega) kk hkI noB (by decide) 1)
        have HR := Lib.hid hr
        have HKL := Lib.hid hkl
        clear X5 h5 T5 K5 E5 RK hr hkl
        subst hk0
        go_wp2_with fail
        refine bodyPost_ret (results5 (by rfl) _ _ w.heap.size _ (by rfl) RB.out (by rfl)) rfl ?_
        refine ⟨_, _, k, e, rfl, RE.out, RH.out, RT.out, HKL.out, ?_⟩
        rw [HZ.out]
        rcases HR.out with ⟨h1, h2⟩ | ⟨h1, h2⟩
        · left; rw [h2]; exact ⟨h1, rfl⟩
        · right; rw [h2]; exact ⟨h1, rfl⟩
  by_cases hbr : ws.data.toList = [40]
  · have hsp : mkOne l (up l n) i = match up l n with
      | none => .error (i, 8)
      | some p => match p.some 1 (i + 1) with
        | .error e => .error e
        | .ok (x, k) => if (signS l k).data.toList = [41] then .ok (x, k + 1) else .error (k, 1) := by
      unfold mkOne
      rw [HWS.out, if_neg hsg, if_pos hbr]
      cases up l n <;> rfl
    rw [HSP.out] at hsp
    have hlt : i < l.length := sign_lt (by rw [HWS.out, hbr]; simp)
    have q0 : (ws.toList == [45]) = false := by rw [ws_facts, hbr]; decide
    have q1 : (ws.toList == [33]) = false := by rw [ws_facts, hbr]; decide
    have q2 : (ws.toList == [40]) = true := by rw [ws_facts, hbr]; decide
    clear HSP HWS hsg hbr
    cases n with
    | zero =>
      have cd := deep_no R A c l i ((64 : Int) - (0 : Nat)) hd0 (by decide) (by omega) w2 h2
      have HZ2 := Lib.hid (show SP = .error (i, 8) from hsp)
      clear hsp HIH hd0
      obtain ⟨D, hD⟩ : ∃ D : Int, (64 : Int) - ((0 : Nat) : Int) = D := ⟨_, rfl⟩
      rw [hD] at cd ⊢
      clear hD
      go_wp2_with fail
      (with_reducible refine cd.mono ?_)
      rintro x w3 ⟨rfl, h3, t3⟩
      have X3 := Blk.tch (S := On R) X2 t3 hGR
      have T3 := Tch.trans T2 t3
      have p0 := X3.cell 0
      have r0 := X3.loose 0
      have p1 := X3.cell 1
      have r1 := X3.loose 1
      have p2 := X3.cell 2
      have r2 := X3.loose 2
      have p3 := X3.cell 3
      have r3 := X3.loose 3
      have p4 := X3.cell 4
      have r4 := X3.loose 4
      simp only [List.getElem?_toArray, List.getElem?_cons_zero, List.getElem?_cons_succ] at p0 p1 p2 p3 p4
      have RB := Lib.hid (put5_blk X3 (.int .i64 0) (.int .i64 0) (.string noB) (.string noB) (.slice none 0 0))
      have RH := Lib.hid (show Rdx RP (put5 w3 w.heap.size (.int .i64 0) (.int .i64 0) (.string noB) (.string noB) (.slice none 0 0)) R _ c l i 8 from put5_far h3 (by omega) _ _ _ _ _)
      have RT := Lib.hid (put5_tch T3 (g := w.heap.size) (Nat.le_refl _) (.int .i64 0) (.int .i64 0) (.string noB) (.string noB) (.slice none 0 0))
      go_wp2_with fail
      refine bodyPost_ret (results5 (by rfl) _ _ w.heap.size zV (by rfl) RB.out (by rfl)) rfl ⟨zEx, _, i, 8, rfl, zEt, RH.out, RT.out, hi, .inr ⟨by decide, HZ2.out⟩⟩
    | succ m =>
      have cd := deep_yes R A c l i ((64 : Int) - (m + 1 : Nat)) hd0 (by omega) (by omega) w2 h2
      rw [show up l (m + 1) = some (lv l m) from rfl] at hsp
      dsimp only at hsp
      obtain ⟨D, hD⟩ : ∃ D : Int, (64 : Int) - ((m + 1 : Nat) : Int) = D := ⟨_, rfl⟩
      have hD2 : (64 : Int) - (m : Int) = D + 1 := by omega
      have hDb : -1 ≤ D ∧ D ≤ 64 := by omega
      have HO := Lib.hid (HIH.out m rfl).2
      rw [hD] at cd ⊢
      clear hD HIH hd0
      have HZ := Lib.hid hsp
      clear hsp
      go_wp2_with fail
      (with_reducible refine cd.mono ?_)
      rintro x w3 ⟨rfl, h3, t3⟩
      have X3 := Blk.tch (S := On R) X2 t3 hGR
      have T3 := Tch.trans T2 t3
      have tk3 := t2.tch t3 (fun b hb e => by have e : b = R := e; omega)
      have co := HO.out R B A c l (i + 1) 1 w3 (by omega) (by omega) h3 tk3 hB (by omega) hl
      rw [hD2, show ((1 : Nat) : Int) = 1 from rfl] at co
      clear cd X2 T2 h2 t2 t3 h3
      go_wp2_with fail
      (with_reducible refine co.mono ?_)
      clear co
      rintro x w4 ⟨y, cs, k, e, rfl, hE, h4, t4, hkl, hr⟩
      obtain ⟨A2, c2, rfl⟩ := hE.shape
      have X4 := Blk.tch (S := On R) X3 t4 hGR
      have T4 := Tch.trans T3 t4
      have tk4 := tk3.tch t4 (fun b hb e => by have e : b = R := e; omega)
      have hR4 : R < w4.heap.size := Blk.lt h4
      have hs4 := t4.size
      have hs3 := X3.lt
      clear X3 T3 t4 tk3
      obtain ⟨w5, hw5⟩ : ∃ z : World, w4.alloc (.cells (exC y.kind y.n y.name y.op A2 y.kids.length c2).toArray 24) = z := ⟨_, rfl⟩
      have X5 : Blk w5 w.heap.size 24 zV := by rw [← hw5]; exact X4.alloc _
      have h5 : Rdx RP w5 R A c l k e := by rw [← hw5]; exact Blk.alloc h4 _
      have T5 : Tch (On R) w w5 := by rw [← hw5]; exact T4.alloc _
      have K5 : Blk w5 w4.heap.size 24 (exC y.kind y.n y.name y.op A2 y.kids.length c2).toArray := by rw [← hw5]; exact Blk.new _ _ _
      have E5 : Et w5 (w3.heap.size ≤ ·) y _ := Et.bel hE (by rw [← hw5]; go_grown)
      have tk5 : Tks w5 B A l := by rw [← hw5]; exact tk4.bel (by go_grown)
      clear X4 h4 T4 hE tk4
      have cs := sign_c R B A c l k e w5 h5 tk5
      obtain ⟨we, hwe⟩ : ∃ we, signE l k e = we := ⟨_, rfl⟩
      rw [hwe] at cs
      go_wp2_with fail
      (with_reducible refine cs.mono ?_)
      clear cs hw5
      rintro x w6 ⟨rfl, m6, rfl⟩
      have X6 := X5.drewN m6
      have h6 := h5.drewN m6
      have T6 := T5.drewN m6
      have K6 := K5.drewN m6
      have E6 := E5.dn m6
      obtain ⟨w7, hw7⟩ : ∃ z, w5.drewN m6 = z := ⟨_, rfl⟩
      rw [hw7] at X6 h6 T6 K6 E6 ⊢
      clear hw7 X5 h5 T5 K5 E5 tk5
      obtain ⟨g7, hg7⟩ : ∃ g, w4.heap.size = g := ⟨_, rfl⟩
      rw [hg7] at K6 hs4 hR4 ⊢
      clear hg7
      by_cases hcl : e = 0 ∧ (signS l k).data.toList = [41]
      · obtain ⟨rfl, hcl⟩ := hcl
        have qe : (we.toList == [41]) = true := by rw [ws_facts, ← hwe, signE, if_pos rfl, hcl]; decide
        have hk1 : k < l.length := sign_lt (by rw [hcl]; simp)
        have hz := HZ.out
        rcases hr with ⟨-, hr⟩ | ⟨hr, -⟩
        rotate_left
        · exact absurd rfl hr
        rw [hr] at hz
        dsimp only at hz
        rw [if_pos hcl] at hz
        have HZ2 := Lib.hid hz
        clear hz HZ hr hcl hwe
        obtain ⟨k0, k1, k2⟩ := h6.cells
        have f1 := Blk.loose h6 1
        have p0 := X6.cell 0
        have r0 := X6.loose 0
        have p1 := X6.cell 1
        have r1 := X6.loose 1
        have p2 := X6.cell 2
        have r2 := X6.loose 2
        have p3 := X6.cell 3
        have r3 := X6.loose 3
        have p4 := X6.cell 4
        have r4 := X6.loose 4
        simp only [List.getElem?_toArray, List.getElem?_cons_zero, List.getElem?_cons_succ] at p0 p1 p2 p3 p4
        have u0 := K6.cell 0
        have u1 := K6.cell 1
        have u2 := K6.cell 2
        have u3 := K6.cell 3
        have u4 := K6.cell 4
        simp only [List.getElem?_toArray, List.getElem?_cons_zero, List.getElem?_cons_succ] at u0 u1 u2 u3 u4
        have h7 : Rdx RP (w7.setCell ⟨R, 1, none⟩ (.int .i64 ((k : Int) + 1))) R A c l (k + 1) 0 := h6.setI (k + 1)
        have X7 : Blk (w7.setCell ⟨R, 1, none⟩ (.int .i64 ((k : Int) + 1))) w.heap.size 24 zV := X6.far (p := ⟨R, 1, none⟩) hGR _
        have T7 : Tch (On R) w (w7.setCell ⟨R, 1, none⟩ (.int .i64 ((k : Int) + 1))) := T6.setCell (p := ⟨R, 1, none⟩) rfl _
        have E7 : Et (w7.setCell ⟨R, 1, none⟩ (.int .i64 ((k : Int) + 1))) (w3.heap.size ≤ ·) y _ := E6.keep (fun b hb => hb) (fun b hb _ => Below.heap_setCell _ _ _ b (by show b ≠ R; omega))
        have RB := Lib.hid (put5_blk X7 (.int .i64 y.kind) (.int .i64 y.n) (.string y.name) (.string y.op) (.slice A2 y.kids.length c2))
        have RH := Lib.hid (show Rdx RP (put5 (w7.setCell ⟨R, 1, none⟩ (.int .i64 ((k : Int) + 1))) w.heap.size (.int .i64 y.kind) (.int .i64 y.n) (.string y.name) (.string y.op) (.slice A2 y.kids.length c2)) R _ c l (k + 1) 0 from put5_far h7 (by omega) _ _ _ _ _)
        have RT := Lib.hid (put5_tch T7 (g := w.heap.size) (Nat.le_refl _) (.int .i64 y.kind) (.int .i64 y.n) (.string y.name) (.string y.op) (.slice A2 y.kids.length c2))
        have RE := Lib.hid (Et.put E7 hs3 (Nat.le_of_lt hs3) (.int .i64 y.kind) (.int .i64 y.n) (.string y.name) (.string y.op) (.slice A2 y.kids.length c2))
        have hTR : g7 ≠ R := by omega
        have hTR2 : (g7 == R) = false := by rw [beq_eq_false_iff_ne]; omega
        have hTG : w.heap.size ≠ R := hGR
        clear X6 h6 T6 K6 E6 h7 X7 T7 E7
        go_wp2_with fail
        refine bodyPost_ret (results5 (by rfl) _ _ w.heap.size _ (by rfl) RB.out (by rfl)) rfl ?_
        exact ⟨_, _, k + 1, 0, rfl, RE.out, RH.out, RT.out, hk1, .inl ⟨rfl, HZ2.out⟩⟩
      · have qe : (we.toList == [41]) = false := by
          rw [ws_facts, ← hwe, signE]
          split
          · next h0 => simpa using fun x => hcl ⟨h0, x⟩
          · decide
        have cf := fail_c R A c l k e 1 w7 h6
        have hz : SP = .error (k, failS 1 e) := by
          rw [HZ.out]
          rcases hr with ⟨h0, hr⟩ | ⟨h0, hr⟩
          · rw [hr]; dsimp only; rw [if_neg (fun x => hcl ⟨h0, x⟩), failS, if_pos h0]
          · rw [hr, failS, if_neg h0]
        have hne : failS 1 e ≠ 0 := by unfold failS; split <;> omega
        have HZ2 := Lib.hid hz
        clear hz HZ hr hcl hwe
        obtain ⟨fe, hfe⟩ : ∃ fe, failS 1 e = fe := ⟨_, rfl⟩
        rw [hfe] at cf hne HZ2
        clear hfe
        go_wp2_with fail
        (with_reducible refine cf.mono ?_)
        clear cf
        rintro x w9 ⟨rfl, h9, t9⟩
        have X9 := Blk.tch (S := On R) X6 t9 hGR
        have T9 := Tch.trans T6 t9
        have p0 := X9.cell 0
        have r0 := X9.loose 0
        have p1 := X9.cell 1
        have r1 := X9.loose 1
        have p2 := X9.cell 2
        have r2 := X9.loose 2
        have p3 := X9.cell 3
        have r3 := X9.loose 3
        have p4 := X9.cell 4
        have r4 := X9.loose 4
        simp only [List.getElem?_toArray, List.getElem?_cons_zero, List.getElem?_cons_succ] at p0 p1 p2 p3 p4
        have RB := Lib.hid (put5_blk X9 (.int .i64 0) (.int .i64 0) (.string noB) (.string noB) (.slice none 0 0))
        have RH := Lib.hid (show Rdx RP (put5 w9 w.heap.size (.int .i64 0) (.int .i64 0) (.string noB) (.string noB) (.slice none 0 0)) R _ c l k fe from put5_far h9 (by omega) _ _ _ _ _)
        have RT := Lib.hid (put5_tch T9 (g := w.heap.size) (Nat.le_refl _) (.int .i64 0) (.int .i64 0) (.string noB) (.string noB) (.slice none 0 0))
        clear X6 h6 T6 K6 E6 X9 T9 h9 t9
        go_wp2_with fail
        refine bodyPost_ret (results5 (by rfl) _ _ w.heap.size zV (by rfl) RB.out (by rfl)) rfl ?_
        exact ⟨zEx, _, k, fe, rfl, zEt, RH.out, RT.out, hkl, .inr ⟨hne, HZ2.out⟩⟩
  have q0 : (ws.toList == [45]) = false := by rw [ws_facts]; simpa using fun e => hsg (.inl e)
  have q1 : (ws.toList == [33]) = false := by rw [ws_facts]; simpa using fun e => hsg (.inr e)
  have q2 : (ws.toList == [40]) = false := by rw [ws_facts]; simpa using hbr
  have hsp : mkOne l (up l n) i = match l[i]? with
    | none => .error (i, 1)
    | some t => if t.kind = 2 then .ok (.mk 0 t.n noB noB [], i + 1) else if t.kind = 6 then .ok (.mk 1 0 t.word noB [], i + 1) else .error (i, 1) := by
    unfold mkOne
    rw [HWS.out, if_neg hsg, if_neg hbr]
    cases l[i]? <;> rfl
  rw [HSP.out] at hsp
  have HZ := Lib.hid hsp
  clear HSP hsp hsg hbr HIH HWS
  obtain ⟨k0, k1, k2⟩ := h2.cells
  by_cases hlt : i < l.length
  rotate_left
  · have d : decide ((N : Int) ≤ (i : Int)) = true := decide_eq_true (by omega)
    have d' : decide (N ≤ i) = true := decide_eq_true (by omega)
    have hz := HZ.out
    rw [List.getElem?_eq_none (by omega)] at hz
    have HZ2 := Lib.hid hz
    have cf := fun m => fail_c R A c l i 0 1 (w2.drewN m) (h2.drewN m)
    rw [hN] at k0
    clear hz HZ hlt
    go_upto_region 19 with fail
    go_quiet (fail)
    go_wp2_with fail
    (with_reducible refine (cf _).mono ?_)
    rintro x w9 ⟨rfl, h9, t9⟩
    rw [show failS 1 0 = 1 from rfl] at h9
    have X9 := Blk.tch (S := On R) (X2.drewN _) t9 hGR
    have T9 := Tch.trans (T2.drewN _) t9
    have p0 := X9.cell 0
    have r0 := X9.loose 0
    have p1 := X9.cell 1
    have r1 := X9.loose 1
    have p2 := X9.cell 2
    have r2 := X9.loose 2
    have p3 := X9.cell 3
    have r3 := X9.loose 3
    have p4 := X9.cell 4
    have r4 := X9.loose 4
    simp only [List.getElem?_toArray, List.getElem?_cons_zero, List.getElem?_cons_succ] at p0 p1 p2 p3 p4
    have RB := Lib.hid (put5_blk X9 (.int .i64 0) (.int .i64 0) (.string noB) (.string noB) (.slice none 0 0))
    have RH := Lib.hid (show Rdx RP (put5 w9 w.heap.size (.int .i64 0) (.int .i64 0) (.string noB) (.string noB) (.slice none 0 0)) R _ c l i 1 from put5_far h9 (by omega) _ _ _ _ _)
    have RT := Lib.hid (put5_tch T9 (g := w.heap.size) (Nat.le_refl _) (.int .i64 0) (.int .i64 0) (.string noB) (.string noB) (.slice none 0 0))
    clear X9 T9 t9 h9
    go_wp2_with fail
    refine bodyPost_ret (results5 (by rfl) _ _ w.heap.size zV (by rfl) RB.out (by rfl)) rfl ⟨zEx, _, i, 1, rfl, zEt, RH.out, RT.out, hi, .inr ⟨by decide, HZ2.out⟩⟩
  · obtain ⟨g, o, rfl, hg, htc⟩ := t2 (by omega)
    obtain ⟨a0, a1, a2, hn64, hwm, P, mm, cc, q, a3, a4⟩ := htc i hlt
    have d : decide ((N : Int) ≤ (i : Int)) = false := decide_eq_false (by omega)
    have d' : decide (N ≤ i) = false := decide_eq_false (by omega)
    have hz := HZ.out
    rw [List.getElem?_eq_getElem hlt] at hz
    dsimp only at hz
    generalize (l[i]'hlt).kind = kd at *
    generalize (l[i]'hlt).word = wd at *
    generalize (l[i]'hlt).n = nm at *
    have HZ2 := Lib.hid hz
    have hiN : (0 : Int) ≤ (i : Int) ∧ (i : Int) < N := by omega
    rw [hN] at k0
    clear hz HZ htc t2
    go_upto_region 19 with fail
    go_quiet (fail)
    go_upto_region 21 with fail
    obtain ⟨w3, hw3⟩ : ∃ z, w2.drewN nq = z := ⟨_, rfl⟩
    have h3 : Rdx RP w3 R (some ⟨g, o, none⟩) c l i 0 := by rw [← hw3]; exact h2.drewN nq
    have X3 : Blk w3 w.heap.size 24 zV := by rw [← hw3]; exact X2.drewN nq
    have T3 : Tch (On R) w w3 := by rw [← hw3]; exact T2.drewN nq
    replace a0 : w3.cell? ⟨g, o + i * 5, none⟩ = some (.int .i64 kd) := by rw [← hw3]; exact a0
    replace a1 : w3.cell? ⟨g, o + i * 5 + 1, none⟩ = some (.string wd) := by rw [← hw3]; exact a1
    replace a2 : w3.cell? ⟨g, o + i * 5 + 2, none⟩ = some (.int .i64 nm) := by rw [← hw3]; exact a2
    replace a3 : w3.cell? ⟨g, o + i * 5 + 3, none⟩ = some (.slice P mm cc) := by rw [← hw3]; exact a3
    replace a4 : w3.cell? ⟨g, o + i * 5 + 4, none⟩ = some (.int .i64 q) := by rw [← hw3]; exact a4
    rw [hw3]
    clear hw3 h2 X2 T2 k0 k1 k2
    obtain ⟨k0, k1, k2⟩ := h3.cells
    rw [hN] at k0
    have hR2 : R < w3.heap.size := Blk.lt h3
    have hG2 := X3.lt
    have hg2 : g < w3.heap.size := World.block_lt_of_cell? w3 _ a0
    have hXR : (R == w3.heap.size) = false := by rw [beq_eq_false_iff_ne]; omega
    have hXg : (g == w3.heap.size) = false := by rw [beq_eq_false_iff_ne]; omega
    go_region
    obtain ⟨w4, hw4⟩ : ∃ z : World, (w3.alloc (.cells #[.int .i64 kd, .string wd, .int .i64 nm, .slice P mm cc, .int .i64 q] 47)).drew = z := ⟨_, rfl⟩
    have h4 : Rdx RP w4 R (some ⟨g, o, none⟩) c l i 0 := by rw [← hw4]; exact Blk.alloc h3 _
    have X4 : Blk w4 w.heap.size 24 zV := by rw [← hw4]; exact X3.alloc _
    have T4 : Tch (On R) w w4 := by rw [← hw4]; have := T3.alloc (.cells #[.int .i64 kd, .string wd, .int .i64 nm, .slice P mm cc, .int .i64 q] 47); exact ⟨this.os, this.tape, this.output, this.size, this.block⟩
    have K4 : Blk w4 w3.heap.size 47 #[.int .i64 kd, .string wd, .int .i64 nm, .slice P mm cc, .int .i64 q] := by rw [← hw4]; exact Blk.new w3 _ _
    rw [hw4]
    have e0 := K4.cell 0
    have e1 := K4.cell 1
    have e2 := K4.cell 2
    simp only [List.getElem?_toArray, List.getElem?_cons_zero, List.getElem?_cons_succ] at e0 e1 e2
    clear hw4 h3 X3 T3 k0 k1 k2 a0 a1 a2 a3 a4 K4
    obtain ⟨k0, k1, k2⟩ := h4.cells
    have f1 := Blk.loose h4 1
    rw [hN] at k0
    have hi1 : i + 1 ≤ l.length := by omega
    have hge4 := T4.size
    clear hG2 hg2 hXg
    obtain ⟨gT, hgT⟩ : ∃ g, w3.heap.size = g := ⟨_, rfl⟩
    rw [hgT] at e0 e1 e2 hXR hR2 ⊢
    clear hgT
    have hTR : gT ≠ R := by omega
    have hTR2 : (gT == R) = false := by rw [beq_eq_false_iff_ne]; omega
    by_cases hk2 : kd = 2
    · have d2 : (kd == 2) = true := by simpa using hk2
      have hz := HZ2.out
      rw [if_pos hk2] at hz
      have HZ3 := Lib.hid hz
      clear hz HZ2 hk2
      have h5 : Rdx RP (w4.setCell ⟨R, 1, none⟩ (.int .i64 ((i : Int) + 1))) R (some ⟨g, o, none⟩) c l (i + 1) 0 := h4.setI (i + 1)
      have X5 : Blk (w4.setCell ⟨R, 1, none⟩ (.int .i64 ((i : Int) + 1))) w.heap.size 24 zV := X4.far (p := ⟨R, 1, none⟩) hGR _
      have T5 : Tch (On R) w (w4.setCell ⟨R, 1, none⟩ (.int .i64 ((i : Int) + 1))) := T4.setCell (p := ⟨R, 1, none⟩) rfl _
      have p0 := X4.cell 0
      have r0 := X4.loose 0
      have p1 := X4.cell 1
      have r1 := X4.loose 1
      have p2 := X4.cell 2
      have r2 := X4.loose 2
      have p3 := X4.cell 3
      have r3 := X4.loose 3
      have p4 := X4.cell 4
      have r4 := X4.loose 4
      simp only [List.getElem?_toArray, List.getElem?_cons_zero, List.getElem?_cons_succ] at p0 p1 p2 p3 p4
      have RB := Lib.hid (put5_blk X5 (.int .i64 0) (.int .i64 nm) (.string noB) (.string noB) (.slice none 0 0))
      have RH := Lib.hid (show Rdx RP (put5 (w4.setCell ⟨R, 1, none⟩ (.int .i64 ((i : Int) + 1))) w.heap.size (.int .i64 0) (.int .i64 nm) (.string noB) (.string noB) (.slice none 0 0)) R _ c l (i + 1) 0 from put5_far h5 (by omega) _ _ _ _ _)
      have RT := Lib.hid (put5_tch T5 (g := w.heap.size) (Nat.le_refl _) (.int .i64 0) (.int .i64 nm) (.string noB) (.string noB) (.slice none 0 0))
      clear h5 X5 T5 X4 h4 T4
      go_wp2_with fail
      refine bodyPost_ret (results5 (by rfl) _ _ w.heap.size _ (by rfl) RB.out (by rfl)) rfl ?_
      exact ⟨.mk 0 nm noB noB [], [.int .i64 0, .int .i64 nm, .string noB, .string noB, .slice none 0 0], i + 1, 0, rfl, Et.leaf 0 nm noB noB 0 (by unfold I64; omega) hn64 (by decide) (by decide), RH.out, RT.out, hi1, .inl ⟨rfl, HZ3.out⟩⟩
    by_cases hk6 : kd = 6
    · have d2 : (kd == 2) = false := by simpa using hk2
      have d6 : (kd == 6) = true := by simpa using hk6
      have hz := HZ2.out
      rw [if_neg hk2, if_pos hk6] at hz
      have HZ3 := Lib.hid hz
      clear hz HZ2 hk2 hk6
      have h5 : Rdx RP (w4.setCell ⟨R, 1, none⟩ (.int .i64 ((i : Int) + 1))) R (some ⟨g, o, none⟩) c l (i + 1) 0 := h4.setI (i + 1)
      have X5 : Blk (w4.setCell ⟨R, 1, none⟩ (.int .i64 ((i : Int) + 1))) w.heap.size 24 zV := X4.far (p := ⟨R, 1, none⟩) hGR _
      have T5 : Tch (On R) w (w4.setCell ⟨R, 1, none⟩ (.int .i64 ((i : Int) + 1))) := T4.setCell (p := ⟨R, 1, none⟩) rfl _
      have p0 := X4.cell 0
      have r0 := X4.loose 0
      have p1 := X4.cell 1
      have r1 := X4.loose 1
      have p2 := X4.cell 2
      have r2 := X4.loose 2
      have p3 := X4.cell 3
      have r3 := X4.loose 3
      have p4 := X4.cell 4
      have r4 := X4.loose 4
      simp only [List.getElem?_toArray, List.getElem?_cons_zero, List.getElem?_cons_succ] at p0 p1 p2 p3 p4
      have RB := Lib.hid (put5_blk X5 (.int .i64 1) (.int .i64 0) (.string wd) (.string noB) (.slice none 0 0))
      have RH := Lib.hid (show Rdx RP (put5 (w4.setCell ⟨R, 1, none⟩ (.int .i64 ((i : Int) + 1))) w.heap.size (.int .i64 1) (.int .i64 0) (.string wd) (.string noB) (.slice none 0 0)) R _ c l (i + 1) 0 from put5_far h5 (by omega) _ _ _ _ _)
      have RT := Lib.hid (put5_tch T5 (g := w.heap.size) (Nat.le_refl _) (.int .i64 1) (.int .i64 0) (.string wd) (.string noB) (.slice none 0 0))
      clear h5 X5 T5 X4 h4 T4
      go_wp2_with fail
      refine bodyPost_ret (results5 (by rfl) _ _ w.heap.size _ (by rfl) RB.out (by rfl)) rfl ?_
      exact ⟨.mk 1 0 wd noB [], [.int .i64 1, .int .i64 0, .string wd, .string noB, .slice none 0 0], i + 1, 0, rfl, Et.leaf 1 0 wd noB 0 (by unfold I64; omega) (by unfold I64; omega) hwm (by decide), RH.out, RT.out, hi1, .inl ⟨rfl, HZ3.out⟩⟩
    · have d2 : (kd == 2) = false := by simpa using hk2
      have d6 : (kd == 6) = false := by simpa using hk6
      have hz := HZ2.out
      rw [if_neg hk2, if_neg hk6] at hz
      have HZ3 := Lib.hid hz
      clear hz HZ2 hk2 hk6
      have cf := fail_c R _ c l i 0 1 w4 h4
      go_wp2_with fail
      (with_reducible refine cf.mono ?_)
      rintro x w9 ⟨rfl, h9, t9⟩
      rw [show failS 1 0 = 1 from rfl] at h9
      have X9 := Blk.tch (S := On R) X4 t9 hGR
      have T9 := Tch.trans T4 t9
      have p0 := X9.cell 0
      have r0 := X9.loose 0
      have p1 := X9.cell 1
      have r1 := X9.loose 1
      have p2 := X9.cell 2
      have r2 := X9.loose 2
      have p3 := X9.cell 3
      have r3 := X9.loose 3
      have p4 := X9.cell 4
      have r4 := X9.loose 4
      simp only [List.getElem?_toArray, List.getElem?_cons_zero, List.getElem?_cons_succ] at p0 p1 p2 p3 p4
      have RB := Lib.hid (put5_blk X9 (.int .i64 0) (.int .i64 0) (.string noB) (.string noB) (.slice none 0 0))
      have RH := Lib.hid (show Rdx RP (put5 w9 w.heap.size (.int .i64 0) (.int .i64 0) (.string noB) (.string noB) (.slice none 0 0)) R _ c l i 1 from put5_far h9 (by omega) _ _ _ _ _)
      have RT := Lib.hid (put5_tch T9 (g := w.heap.size) (Nat.le_refl _) (.int .i64 0) (.int .i64 0) (.string noB) (.string noB) (.slice none 0 0))
      clear X9 T9 t9 h9
      go_wp2_with fail
      refine bodyPost_ret (results5 (by rfl) _ _ w.heap.size zV (by rfl) RB.out (by rfl)) rfl ⟨zEx, _, i, 1, rfl, zEt, RH.out, RT.out, hi, .inr ⟨by decide, HZ3.out⟩⟩

end ExpW
end Go.Proofs.YtchceoclkdofhaaGreatDoor
