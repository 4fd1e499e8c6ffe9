/- What a sum comes to: eval, Eval. Conditions: trees that fit; texts that fit. -/
import Derived.Test.YtledgkplddeghaaDoorCalE
namespace Go.Proofs.YtledgkplddeghaaDoor
set_option linter.unusedVariables false
set_option linter.unusedSimpArgs false
open Go.RowKit
namespace CalW
open CalP QuoP MemP MemW
theorem right_parts {k n : Int} {nm op : ByteArray} {kids : List Ex} {d : Nat} (h : rightE (.mk k n nm op kids) d = true) : okE k n nm op d = true ∧ kids.length = kidsE k ∧ rightL kids (d + 1) = true := by
  rw [right_eq, Bool.and_eq_true, Bool.and_eq_true, Bool.and_eq_true] at h
  exact ⟨h.1.1.1, by simpa using h.1.2, h.2⟩
theorem kind_of {k n : Int} {nm op : ByteArray} {d : Nat} (h : okE k n nm op d = true) : k = 0 ∨ k = 1 ∨ k = 2 ∨ k = 3 ∨ k = 4 := by
  unfold okE at h
  repeat' split at h
  all_goals first | omega | cases h
set_option maxHeartbeats 6400000 in
set_option maxRecDepth 100000 in
theorem eval_0 {K : Nat → Prop} (A : Option Addr) (n c : Nat) (l : List Vr) (q : Cu) (k n0 : Int) (nm op : ByteArray) (E : Option Addr) (m : Nat) (w : World) (he : Env A n l q w) (h : Et w K (.mk k n0 nm op []) (exC k n0 nm op E 0 m)) (hk : k = 0) :
    Calls Tryd.prog 21 #[.agg #[.slice A n c, .string q.s0, .string q.s1, .string q.s2, .string q.s3, .string q.s4, .string q.s5, .string q.s6, .string q.s7, .string q.s8, .string q.s9], .agg (exC k n0 nm op E 0 m).toArray] w fun ed w' => ed = .returned (tup (evalE (numV l q.list) (.mk k n0 nm op []))) ∧ Below w.heap.size w w' := by
  obtain ⟨wa, hwa⟩ : ∃ z : World, z = (w.alloc (.cells ([.slice A n c, .string q.s0, .string q.s1, .string q.s2, .string q.s3, .string q.s4, .string q.s5, .string q.s6, .string q.s7, .string q.s8, .string q.s9] : List Value).toArray 57)).alloc (.cells (exC k n0 nm op E 0 m).toArray 24) := ⟨_, rfl⟩
  have BA : Below w.heap.size w wa := by rw [hwa]; go_grown
  have XS := Lib.hid (show Blk wa w.heap.size 57 ([.slice A n c, .string q.s0, .string q.s1, .string q.s2, .string q.s3, .string q.s4, .string q.s5, .string q.s6, .string q.s7, .string q.s8, .string q.s9] : List Value).toArray by rw [hwa]; exact (Blk.new _ _ _).alloc _)
  have XE := Lib.hid (show Blk wa (w.heap.size + 1) 24 (exC k n0 nm op E 0 m).toArray by rw [hwa]; exact Blk.new1 _ _ _ _)
  have EA := Lib.hid (he.bel BA)
  have HA := Lib.hid (h.bel BA)
  clear he h
  have e0 : (k == 0) = true := by rw [hk]; decide
  have e1 : (k == 1) = false := by rw [hk]; decide
  have e2 : (k == 2) = false := by rw [hk]; decide
  have e3 : (k == 3) = false := by rw [hk]; decide
  have e4 : (k == 4) = false := by rw [hk]; decide
  obtain ⟨PR, hPR⟩ : ∃ P, evalE (numV l q.list) (.mk k n0 nm op []) = P := ⟨_, rfl⟩
  rw [hPR]
  have HP := Lib.hid (show PR = (n0, 0) by rw [← hPR, evalE]; unfold combP; rw [if_pos hk])
  clear hk hPR
  go_enter Tryd.func21, Tryd.ntmps21
  go_wp2
  rw [← hwa]
  first | go_ret2 | go_returns
  exact ⟨by rw [HP.out] <;> rfl, BA⟩
set_option maxHeartbeats 6400000 in
set_option maxRecDepth 100000 in
theorem eval_1 {K : Nat → Prop} (A : Option Addr) (n c : Nat) (l : List Vr) (q : Cu) (k n0 : Int) (nm op : ByteArray) (E : Option Addr) (m : Nat) (w : World) (he : Env A n l q w) (h : Et w K (.mk k n0 nm op []) (exC k n0 nm op E 0 m)) (hk : k = 1) :
    Calls Tryd.prog 21 #[.agg #[.slice A n c, .string q.s0, .string q.s1, .string q.s2, .string q.s3, .string q.s4, .string q.s5, .string q.s6, .string q.s7, .string q.s8, .string q.s9], .agg (exC k n0 nm op E 0 m).toArray] w fun ed w' => ed = .returned (tup (evalE (numV l q.list) (.mk k n0 nm op []))) ∧ Below w.heap.size w w' := by
  obtain ⟨wa, hwa⟩ : ∃ z : World, z = (w.alloc (.cells ([.slice A n c, .string q.s0, .string q.s1, .string q.s2, .string q.s3, .string q.s4, .string q.s5, .string q.s6, .string q.s7, .string q.s8, .string q.s9] : List Value).toArray 57)).alloc (.cells (exC k n0 nm op E 0 m).toArray 24) := ⟨_, rfl⟩
  have BA : Below w.heap.size w wa := by rw [hwa]; go_grown
  have XS := Lib.hid (show Blk wa w.heap.size 57 ([.slice A n c, .string q.s0, .string q.s1, .string q.s2, .string q.s3, .string q.s4, .string q.s5, .string q.s6, .string q.s7, .string q.s8, .string q.s9] : List Value).toArray by rw [hwa]; exact (Blk.new _ _ _).alloc _)
  have XE := Lib.hid (show Blk wa (w.heap.size + 1) 24 (exC k n0 nm op E 0 m).toArray by rw [hwa]; exact Blk.new1 _ _ _ _)
  have EA := Lib.hid (he.bel BA)
  have HA := Lib.hid (h.bel BA)
  clear he h
  have e0 : (k == 0) = false := by rw [hk]; decide
  have e1 : (k == 1) = true := by rw [hk]; decide
  have e2 : (k == 2) = false := by rw [hk]; decide
  have e3 : (k == 3) = false := by rw [hk]; decide
  have e4 : (k == 4) = false := by rw [hk]; decide
  obtain ⟨PR, hPR⟩ : ∃ P, evalE (numV l q.list) (.mk k n0 nm op []) = P := ⟨_, rfl⟩
  rw [hPR]
  have HP := Lib.hid (show PR = numV l q.list nm by rw [← hPR, evalE]; unfold combP; rw [if_neg (by omega), if_pos hk])
  have cn := number_c A n c l q nm wa EA.out
  generalize numV l q.list nm = NV at *
  clear hk hPR
  go_enter Tryd.func21, Tryd.ntmps21
  go_wp2_with fail
  rw [← hwa]
  clear hwa
  (with_reducible refine cn.mono ?_)
  rintro x w2 ⟨rfl, b2⟩
  have B2 := via b2 BA
  go_wp2
  first | go_ret2 | go_returns
  exact ⟨by rw [HP.out] <;> rfl, B2⟩
set_option maxHeartbeats 6400000 in
set_option maxRecDepth 100000 in
theorem eval_2 {K : Nat → Prop} (A : Option Addr) (n c : Nat) (l : List Vr) (q : Cu) (k n0 : Int) (nm op : ByteArray) (x : Ex) (E : Option Addr) (m : Nat) (w : World) (he : Env A n l q w) (h : Et w K (.mk k n0 nm op [x]) (exC k n0 nm op E 1 m)) (hk : k = 2) (hx : EvalC K A n c l q x) (hfx : CalP.I64 (evalE (numV l q.list) x).1) :
    Calls Tryd.prog 21 #[.agg #[.slice A n c, .string q.s0, .string q.s1, .string q.s2, .string q.s3, .string q.s4, .string q.s5, .string q.s6, .string q.s7, .string q.s8, .string q.s9], .agg (exC k n0 nm op E 1 m).toArray] w fun ed w' => ed = .returned (tup (evalE (numV l q.list) (.mk k n0 nm op [x]))) ∧ Below w.heap.size w w' := by
  obtain ⟨wa, hwa⟩ : ∃ z : World, z = (w.alloc (.cells ([.slice A n c, .string q.s0, .string q.s1, .string q.s2, .string q.s3, .string q.s4, .string q.s5, .string q.s6, .string q.s7, .string q.s8, .string q.s9] : List Value).toArray 57)).alloc (.cells (exC k n0 nm op E 1 m).toArray 24) := ⟨_, rfl⟩
  have BA : Below w.heap.size w wa := by rw [hwa]; go_grown
  have XS := Lib.hid (show Blk wa w.heap.size 57 ([.slice A n c, .string q.s0, .string q.s1, .string q.s2, .string q.s3, .string q.s4, .string q.s5, .string q.s6, .string q.s7, .string q.s8, .string q.s9] : List Value).toArray by rw [hwa]; exact (Blk.new _ _ _).alloc _)
  have XE := Lib.hid (show Blk wa (w.heap.size + 1) 24 (exC k n0 nm op E 1 m).toArray by rw [hwa]; exact Blk.new1 _ _ _ _)
  have EA := Lib.hid (he.bel BA)
  have HA := Lib.hid (h.bel BA)
  clear he h
  have e0 : (k == 0) = false := by rw [hk]; decide
  have e1 : (k == 1) = false := by rw [hk]; decide
  have e2 : (k == 2) = true := by rw [hk]; decide
  have e3 : (k == 3) = false := by rw [hk]; decide
  have e4 : (k == 4) = false := by rw [hk]; decide
  obtain ⟨PR, hPR⟩ : ∃ P, evalE (numV l q.list) (.mk k n0 nm op [x]) = P := ⟨_, rfl⟩
  rw [hPR]
  obtain ⟨EX, hEX⟩ : ∃ X, evalE (numV l q.list) x = X := ⟨_, rfl⟩
  rw [hEX] at hfx
  have HEX := Lib.hid hEX
  obtain ⟨g0, o0, A2, c2, rfl, hk0, hc0⟩ := HA.out.kid_ (i := 0) (by simp)
  have hk : Et wa K (x) (exC (x).kind (x).n (x).name (x).op A2 (x).kids.length c2) := hk0
  have hc : ∀ j u, (exC (x).kind (x).n (x).name (x).op A2 (x).kids.length c2)[j]? = some u → wa.cell? ⟨g0, o0 + 0 * 5 + j, none⟩ = some u := hc0
  clear hk0 hc0
  have fk0 := hc 0 _ rfl
  have fk1 := hc 1 _ rfl
  have fk2 := hc 2 _ rfl
  have fk3 := hc 3 _ rfl
  have fk4 := hc 4 _ rfl
  simp only [Nat.add_zero, Nat.zero_mul, Nat.one_mul] at fk0 fk1 fk2 fk3 fk4
  clear hc
  have ce0 := hx wa.drew _ EA.out.drew hk.drew
  have ce : Calls Tryd.prog 21 #[.agg #[.slice A n c, .string q.s0, .string q.s1, .string q.s2, .string q.s3, .string q.s4, .string q.s5, .string q.s6, .string q.s7, .string q.s8, .string q.s9], .agg (exC (x).kind (x).n (x).name (x).op A2 (x).kids.length c2).toArray] wa.drew fun ed w' => ed = .returned (tup (evalE (numV l q.list) (x))) ∧ Below wa.heap.size wa w' :=
    ce0.mono (fun ed w' ⟨h1, hb⟩ => ⟨h1, ⟨hb.os, hb.tape, hb.output, hb.size, hb.block⟩⟩)
  clear ce0 hk
  have xs := XS.out
  have xe := XE.out
  have p0 := xs.cell 0
  have p1 := xs.cell 1
  have p2 := xs.cell 2
  have p3 := xs.cell 3
  have p4 := xs.cell 4
  have p5 := xs.cell 5
  have p6 := xs.cell 6
  have p7 := xs.cell 7
  have p8 := xs.cell 8
  have p9 := xs.cell 9
  have p10 := xs.cell 10
  simp only [List.getElem?_toArray, List.getElem?_cons_zero, List.getElem?_cons_succ] at p0 p1 p2 p3 p4 p5 p6 p7 p8 p9 p10
  have r0 := xe.cell 0
  have r1 := xe.cell 1
  have r2 := xe.cell 2
  have r3 := xe.cell 3
  have r4 := xe.cell 4
  simp only [List.getElem?_toArray, List.getElem?_cons_zero, List.getElem?_cons_succ] at r0 r1 r2 r3 r4
  clear xs xe
  rw [hEX] at ce
  clear hEX hx
  generalize x.kind = x0 at *
  generalize x.n = x1 at *
  generalize x.name = x2 at *
  generalize x.op = x3 at *
  generalize x.kids.length = x4 at *
  have HP := Lib.hid (show PR = if EX.2 ≠ 0 then (0, EX.2) else resP (-EX.1) by rw [← hPR, evalE, evalL, evalL, HEX.out]; unfold combP; rw [if_neg (by omega), if_neg (by omega)]; simp only; rw [if_pos hk])
  clear hk hPR
  rw [hwa] at p0 p1 p2 p3 p4 p5 p6 p7 p8 p9 p10 r0 r1 r2 r3 r4 fk0 fk1 fk2 fk3 fk4
  go_enter Tryd.func21, Tryd.ntmps21
  go_wp2_with fail
  rw [← hwa] at *
  go_region_law (first
    | (go_simp
       go_at_call 21
       (with_reducible refine ce.mono ?_)
       rintro ed w2 ⟨rfl, b2⟩))
  all_goals
    have B2 := via b2 BA
    have xe2 := XE.out.next b2
    have xs2 := XS.out.next b2
    have HA2 := Lib.hid (HA.out.bel b2)
    have EA2 := Lib.hid (EA.out.bel b2)
    clear ce p0 p1 p2 p3 p4 p5 p6 p7 p8 p9 p10 r0 r1 r2 r3 r4 fk0 fk1 fk2 fk3 fk4 b2
    have r0 := xe2.cell 0
    have r1 := xe2.cell 1
    have r2 := xe2.cell 2
    have r3 := xe2.cell 3
    have r4 := xe2.cell 4
    simp only [List.getElem?_toArray, List.getElem?_cons_zero, List.getElem?_cons_succ] at r0 r1 r2 r3 r4
    have p0 := xs2.cell 0
    have p1 := xs2.cell 1
    have p2 := xs2.cell 2
    have p3 := xs2.cell 3
    have p4 := xs2.cell 4
    have p5 := xs2.cell 5
    have p6 := xs2.cell 6
    have p7 := xs2.cell 7
    have p8 := xs2.cell 8
    have p9 := xs2.cell 9
    have p10 := xs2.cell 10
    simp only [List.getElem?_toArray, List.getElem?_cons_zero, List.getElem?_cons_succ] at p0 p1 p2 p3 p4 p5 p6 p7 p8 p9 p10
    by_cases hg : EX.2 = 0
    rotate_left
    · have g1 : (EX.2 == 0) = false := by simpa using hg
      have g2 : (EX.2 != 0) = true := by simpa using hg
      have HP2 := Lib.hid (show PR = (0, EX.2) by rw [HP.out, if_pos hg])
      clear hg
      go_wp2
      first | go_ret2 | go_returns
      exact ⟨by rw [HP2.out] <;> rfl, B2⟩
    · have g1 : (EX.2 == 0) = true := by simpa using hg
      have g2 : (EX.2 != 0) = false := by simpa using hg
      have HP2 := Lib.hid (show PR = resP (-EX.1) by rw [HP.out, if_neg (by simpa using hg)])
      have cn := fun W => NumW.neg_c EX.1 W hfx.1 hfx.2
      simp only [res_tup] at cn
      generalize resP (-EX.1) = RP at *
      clear hg
      go_wp2_with fail
      (with_reducible refine (cn _).mono ?_)
      rintro e w3 ⟨rfl, rfl⟩
      go_wp2_with fail
      first | go_ret2 | go_returns
      exact ⟨by rw [HP2.out] <;> rfl, B2⟩
set_option maxHeartbeats 6400000 in
set_option maxRecDepth 100000 in
theorem eval_3 {K : Nat → Prop} (A : Option Addr) (n c : Nat) (l : List Vr) (q : Cu) (k n0 : Int) (nm op : ByteArray) (x : Ex) (E : Option Addr) (m : Nat) (w : World) (he : Env A n l q w) (h : Et w K (.mk k n0 nm op [x]) (exC k n0 nm op E 1 m)) (hk : k = 3) (hx : EvalC K A n c l q x) (hfx : CalP.I64 (evalE (numV l q.list) x).1) :
    Calls Tryd.prog 21 #[.agg #[.slice A n c, .string q.s0, .string q.s1, .string q.s2, .string q.s3, .string q.s4, .string q.s5, .string q.s6, .string q.s7, .string q.s8, .string q.s9], .agg (exC k n0 nm op E 1 m).toArray] w fun ed w' => ed = .returned (tup (evalE (numV l q.list) (.mk k n0 nm op [x]))) ∧ Below w.heap.size w w' := by
  obtain ⟨wa, hwa⟩ : ∃ z : World, z = (w.alloc (.cells ([.slice A n c, .string q.s0, .string q.s1, .string q.s2, .string q.s3, .string q.s4, .string q.s5, .string q.s6, .string q.s7, .string q.s8, .string q.s9] : List Value).toArray 57)).alloc (.cells (exC k n0 nm op E 1 m).toArray 24) := ⟨_, rfl⟩
  have BA : Below w.heap.size w wa := by rw [hwa]; go_grown
  have XS := Lib.hid (show Blk wa w.heap.size 57 ([.slice A n c, .string q.s0, .string q.s1, .string q.s2, .string q.s3, .string q.s4, .string q.s5, .string q.s6, .string q.s7, .string q.s8, .string q.s9] : List Value).toArray by rw [hwa]; exact (Blk.new _ _ _).alloc _)
  have XE := Lib.hid (show Blk wa (w.heap.size + 1) 24 (exC k n0 nm op E 1 m).toArray by rw [hwa]; exact Blk.new1 _ _ _ _)
  have EA := Lib.hid (he.bel BA)
  have HA := Lib.hid (h.bel BA)
  clear he h
  have e0 : (k == 0) = false := by rw [hk]; decide
  have e1 : (k == 1) = false := by rw [hk]; decide
  have e2 : (k == 2) = false := by rw [hk]; decide
  have e3 : (k == 3) = true := by rw [hk]; decide
  have e4 : (k == 4) = false := by rw [hk]; decide
  obtain ⟨PR, hPR⟩ : ∃ P, evalE (numV l q.list) (.mk k n0 nm op [x]) = P := ⟨_, rfl⟩
  rw [hPR]
  obtain ⟨EX, hEX⟩ : ∃ X, evalE (numV l q.list) x = X := ⟨_, rfl⟩
  rw [hEX] at hfx
  have HEX := Lib.hid hEX
  obtain ⟨g0, o0, A2, c2, rfl, hk0, hc0⟩ := HA.out.kid_ (i := 0) (by simp)
  have hk : Et wa K (x) (exC (x).kind (x).n (x).name (x).op A2 (x).kids.length c2) := hk0
  have hc : ∀ j u, (exC (x).kind (x).n (x).name (x).op A2 (x).kids.length c2)[j]? = some u → wa.cell? ⟨g0, o0 + 0 * 5 + j, none⟩ = some u := hc0
  clear hk0 hc0
  have fk0 := hc 0 _ rfl
  have fk1 := hc 1 _ rfl
  have fk2 := hc 2 _ rfl
  have fk3 := hc 3 _ rfl
  have fk4 := hc 4 _ rfl
  simp only [Nat.add_zero, Nat.zero_mul, Nat.one_mul] at fk0 fk1 fk2 fk3 fk4
  clear hc
  have ce0 := hx wa.drew _ EA.out.drew hk.drew
  have ce : Calls Tryd.prog 21 #[.agg #[.slice A n c, .string q.s0, .string q.s1, .string q.s2, .string q.s3, .string q.s4, .string q.s5, .string q.s6, .string q.s7, .string q.s8, .string q.s9], .agg (exC (x).kind (x).n (x).name (x).op A2 (x).kids.length c2).toArray] wa.drew fun ed w' => ed = .returned (tup (evalE (numV l q.list) (x))) ∧ Below wa.heap.size wa w' :=
    ce0.mono (fun ed w' ⟨h1, hb⟩ => ⟨h1, ⟨hb.os, hb.tape, hb.output, hb.size, hb.block⟩⟩)
  clear ce0 hk
  have xs := XS.out
  have xe := XE.out
  have p0 := xs.cell 0
  have p1 := xs.cell 1
  have p2 := xs.cell 2
  have p3 := xs.cell 3
  have p4 := xs.cell 4
  have p5 := xs.cell 5
  have p6 := xs.cell 6
  have p7 := xs.cell 7
  have p8 := xs.cell 8
  have p9 := xs.cell 9
  have p10 := xs.cell 10
  simp only [List.getElem?_toArray, List.getElem?_cons_zero, List.getElem?_cons_succ] at p0 p1 p2 p3 p4 p5 p6 p7 p8 p9 p10
  have r0 := xe.cell 0
  have r1 := xe.cell 1
  have r2 := xe.cell 2
  have r3 := xe.cell 3
  have r4 := xe.cell 4
  simp only [List.getElem?_toArray, List.getElem?_cons_zero, List.getElem?_cons_succ] at r0 r1 r2 r3 r4
  clear xs xe
  rw [hEX] at ce
  clear hEX hx
  generalize x.kind = x0 at *
  generalize x.n = x1 at *
  generalize x.name = x2 at *
  generalize x.op = x3 at *
  generalize x.kids.length = x4 at *
  have HP := Lib.hid (show PR = if EX.2 ≠ 0 then (0, EX.2) else (bitP (EX.1 == 0), 0) by rw [← hPR, evalE, evalL, evalL, HEX.out]; unfold combP; rw [if_neg (by omega), if_neg (by omega)]; simp only; rw [if_neg (by omega : ¬ k = 2), if_pos hk])
  clear hk hPR
  rw [hwa] at p0 p1 p2 p3 p4 p5 p6 p7 p8 p9 p10 r0 r1 r2 r3 r4 fk0 fk1 fk2 fk3 fk4
  go_enter Tryd.func21, Tryd.ntmps21
  go_wp2_with fail
  rw [← hwa] at *
  go_region_law (first
    | (go_simp
       go_at_call 21
       (with_reducible refine ce.mono ?_)
       rintro ed w2 ⟨rfl, b2⟩))
  all_goals
    have B2 := via b2 BA
    have xe2 := XE.out.next b2
    have xs2 := XS.out.next b2
    have HA2 := Lib.hid (HA.out.bel b2)
    have EA2 := Lib.hid (EA.out.bel b2)
    clear ce p0 p1 p2 p3 p4 p5 p6 p7 p8 p9 p10 r0 r1 r2 r3 r4 fk0 fk1 fk2 fk3 fk4 b2
    have r0 := xe2.cell 0
    have r1 := xe2.cell 1
    have r2 := xe2.cell 2
    have r3 := xe2.cell 3
    have r4 := xe2.cell 4
    simp only [List.getElem?_toArray, List.getElem?_cons_zero, List.getElem?_cons_succ] at r0 r1 r2 r3 r4
    have p0 := xs2.cell 0
    have p1 := xs2.cell 1
    have p2 := xs2.cell 2
    have p3 := xs2.cell 3
    have p4 := xs2.cell 4
    have p5 := xs2.cell 5
    have p6 := xs2.cell 6
    have p7 := xs2.cell 7
    have p8 := xs2.cell 8
    have p9 := xs2.cell 9
    have p10 := xs2.cell 10
    simp only [List.getElem?_toArray, List.getElem?_cons_zero, List.getElem?_cons_succ] at p0 p1 p2 p3 p4 p5 p6 p7 p8 p9 p10
    by_cases hg : EX.2 = 0
    rotate_left
    · have g1 : (EX.2 == 0) = false := by simpa using hg
      have g2 : (EX.2 != 0) = true := by simpa using hg
      have HP2 := Lib.hid (show PR = (0, EX.2) by rw [HP.out, if_pos hg])
      clear hg
      go_wp2
      first | go_ret2 | go_returns
      exact ⟨by rw [HP2.out] <;> rfl, B2⟩
    · have g1 : (EX.2 == 0) = true := by simpa using hg
      have g2 : (EX.2 != 0) = false := by simpa using hg
      have HP2 := Lib.hid (show PR = (bitP (!(EX.1 != 0)), 0) by rw [HP.out, if_neg (by simpa using hg)]; simp [bne])
      have ct := fun W => true_c EX.1 W
      have cb := fun W => bit_c (!(EX.1 != 0)) W
      obtain ⟨BT, hBT⟩ : ∃ B, (EX.1 != 0) = B := ⟨_, rfl⟩
      simp only [hBT] at ct cb HP2
      clear hg hBT
      go_wp2_with fail
      (with_reducible refine (ct _).mono ?_)
      rintro e w3 ⟨rfl, rfl⟩
      go_wp2_with fail
      (with_reducible refine (cb _).mono ?_)
      rintro e w3 ⟨rfl, rfl⟩
      go_wp2_with fail
      first | go_ret2 | go_returns
      exact ⟨by rw [HP2.out] <;> rfl, B2⟩
set_option maxHeartbeats 6400000 in
set_option maxRecDepth 100000 in
theorem eval_4 {K : Nat → Prop} (A : Option Addr) (n c : Nat) (l : List Vr) (q : Cu) (k n0 : Int) (nm op : ByteArray) (x y : Ex) (E : Option Addr) (m : Nat) (w : World) (he : Env A n l q w) (h : Et w K (.mk k n0 nm op [x, y]) (exC k n0 nm op E 2 m)) (hk : k = 4) (hx : EvalC K A n c l q x) (hfx : CalP.I64 (evalE (numV l q.list) x).1) (hy : EvalC K A n c l q y) (hfy : CalP.I64 (evalE (numV l q.list) y).1) :
    Calls Tryd.prog 21 #[.agg #[.slice A n c, .string q.s0, .string q.s1, .string q.s2, .string q.s3, .string q.s4, .string q.s5, .string q.s6, .string q.s7, .string q.s8, .string q.s9], .agg (exC k n0 nm op E 2 m).toArray] w fun ed w' => ed = .returned (tup (evalE (numV l q.list) (.mk k n0 nm op [x, y]))) ∧ Below w.heap.size w w' := by
  obtain ⟨wa, hwa⟩ : ∃ z : World, z = (w.alloc (.cells ([.slice A n c, .string q.s0, .string q.s1, .string q.s2, .string q.s3, .string q.s4, .string q.s5, .string q.s6, .string q.s7, .string q.s8, .string q.s9] : List Value).toArray 57)).alloc (.cells (exC k n0 nm op E 2 m).toArray 24) := ⟨_, rfl⟩
  have BA : Below w.heap.size w wa := by rw [hwa]; go_grown
  have XS := Lib.hid (show Blk wa w.heap.size 57 ([.slice A n c, .string q.s0, .string q.s1, .string q.s2, .string q.s3, .string q.s4, .string q.s5, .string q.s6, .string q.s7, .string q.s8, .string q.s9] : List Value).toArray by rw [hwa]; exact (Blk.new _ _ _).alloc _)
  have XE := Lib.hid (show Blk wa (w.heap.size + 1) 24 (exC k n0 nm op E 2 m).toArray by rw [hwa]; exact Blk.new1 _ _ _ _)
  have EA := Lib.hid (he.bel BA)
  have HA := Lib.hid (h.bel BA)
  clear he h
  have e0 : (k == 0) = false := by rw [hk]; decide
  have e1 : (k == 1) = false := by rw [hk]; decide
  have e2 : (k == 2) = false := by rw [hk]; decide
  have e3 : (k == 3) = false := by rw [hk]; decide
  have e4 : (k == 4) = true := by rw [hk]; decide
  obtain ⟨PR, hPR⟩ : ∃ P, evalE (numV l q.list) (.mk k n0 nm op [x, y]) = P := ⟨_, rfl⟩
  rw [hPR]
  obtain ⟨EX, hEX⟩ : ∃ X, evalE (numV l q.list) x = X := ⟨_, rfl⟩
  rw [hEX] at hfx
  have HEX := Lib.hid hEX
  obtain ⟨g0, o0, A2, c2, rfl, hk0, hc0⟩ := HA.out.kid_ (i := 0) (by simp)
  have hk : Et wa K (x) (exC (x).kind (x).n (x).name (x).op A2 (x).kids.length c2) := hk0
  have hc : ∀ j u, (exC (x).kind (x).n (x).name (x).op A2 (x).kids.length c2)[j]? = some u → wa.cell? ⟨g0, o0 + 0 * 5 + j, none⟩ = some u := hc0
  clear hk0 hc0
  have fk0 := hc 0 _ rfl
  have fk1 := hc 1 _ rfl
  have fk2 := hc 2 _ rfl
  have fk3 := hc 3 _ rfl
  have fk4 := hc 4 _ rfl
  simp only [Nat.add_zero, Nat.zero_mul, Nat.one_mul] at fk0 fk1 fk2 fk3 fk4
  clear hc
  have ce0 := hx wa.drew _ EA.out.drew hk.drew
  have ce : Calls Tryd.prog 21 #[.agg #[.slice A n c, .string q.s0, .string q.s1, .string q.s2, .string q.s3, .string q.s4, .string q.s5, .string q.s6, .string q.s7, .string q.s8, .string q.s9], .agg (exC (x).kind (x).n (x).name (x).op A2 (x).kids.length c2).toArray] wa.drew fun ed w' => ed = .returned (tup (evalE (numV l q.list) (x))) ∧ Below wa.heap.size wa w' :=
    ce0.mono (fun ed w' ⟨h1, hb⟩ => ⟨h1, ⟨hb.os, hb.tape, hb.output, hb.size, hb.block⟩⟩)
  clear ce0 hk
  have xs := XS.out
  have xe := XE.out
  have p0 := xs.cell 0
  have p1 := xs.cell 1
  have p2 := xs.cell 2
  have p3 := xs.cell 3
  have p4 := xs.cell 4
  have p5 := xs.cell 5
  have p6 := xs.cell 6
  have p7 := xs.cell 7
  have p8 := xs.cell 8
  have p9 := xs.cell 9
  have p10 := xs.cell 10
  simp only [List.getElem?_toArray, List.getElem?_cons_zero, List.getElem?_cons_succ] at p0 p1 p2 p3 p4 p5 p6 p7 p8 p9 p10
  have r0 := xe.cell 0
  have r1 := xe.cell 1
  have r2 := xe.cell 2
  have r3 := xe.cell 3
  have r4 := xe.cell 4
  simp only [List.getElem?_toArray, List.getElem?_cons_zero, List.getElem?_cons_succ] at r0 r1 r2 r3 r4
  clear xs xe
  rw [hEX] at ce
  clear hEX hx
  generalize x.kind = x0 at *
  generalize x.n = x1 at *
  generalize x.name = x2 at *
  generalize x.op = x3 at *
  generalize x.kids.length = x4 at *
  have HP := Lib.hid (show PR = if EX.2 ≠ 0 then (0, EX.2) else bothP op.data.toList EX.1 (evalE (numV l q.list) y) by rw [← hPR, evalE, evalL, evalL, evalL, HEX.out]; unfold combP bothP; rw [if_neg (by omega), if_neg (by omega)]; simp only; rw [if_neg (by omega : ¬ k = 2), if_neg (by omega : ¬ k = 3)])
  clear hk hPR
  rw [hwa] at p0 p1 p2 p3 p4 p5 p6 p7 p8 p9 p10 r0 r1 r2 r3 r4 fk0 fk1 fk2 fk3 fk4
  go_enter Tryd.func21, Tryd.ntmps21
  go_wp2_with fail
  rw [← hwa] at *
  go_region_law (first
    | (go_simp
       go_at_call 21
       (with_reducible refine ce.mono ?_)
       rintro ed w2 ⟨rfl, b2⟩))
  all_goals
    have B2 := via b2 BA
    have xe2 := XE.out.next b2
    have xs2 := XS.out.next b2
    have HA2 := Lib.hid (HA.out.bel b2)
    have EA2 := Lib.hid (EA.out.bel b2)
    clear ce p0 p1 p2 p3 p4 p5 p6 p7 p8 p9 p10 r0 r1 r2 r3 r4 fk0 fk1 fk2 fk3 fk4 b2
    have r0 := xe2.cell 0
    have r1 := xe2.cell 1
    have r2 := xe2.cell 2
    have r3 := xe2.cell 3
    have r4 := xe2.cell 4
    simp only [List.getElem?_toArray, List.getElem?_cons_zero, List.getElem?_cons_succ] at r0 r1 r2 r3 r4
    have p0 := xs2.cell 0
    have p1 := xs2.cell 1
    have p2 := xs2.cell 2
    have p3 := xs2.cell 3
    have p4 := xs2.cell 4
    have p5 := xs2.cell 5
    have p6 := xs2.cell 6
    have p7 := xs2.cell 7
    have p8 := xs2.cell 8
    have p9 := xs2.cell 9
    have p10 := xs2.cell 10
    simp only [List.getElem?_toArray, List.getElem?_cons_zero, List.getElem?_cons_succ] at p0 p1 p2 p3 p4 p5 p6 p7 p8 p9 p10
    by_cases hg : EX.2 = 0
    rotate_left
    · have g1 : (EX.2 == 0) = false := by simpa using hg
      have g2 : (EX.2 != 0) = true := by simpa using hg
      have HP2 := Lib.hid (show PR = (0, EX.2) by rw [HP.out, if_pos hg])
      clear hg
      go_wp2
      first | go_ret2 | go_returns
      exact ⟨by rw [HP2.out] <;> rfl, B2⟩
    · have g1 : (EX.2 == 0) = true := by simpa using hg
      have g2 : (EX.2 != 0) = false := by simpa using hg
      have HP2 := Lib.hid (show PR = bothP op.data.toList EX.1 (evalE (numV l q.list) y) by rw [HP.out, if_neg (by simpa using hg)])
      have cb := both_c A n c l q k n0 nm op x y _ m EX.1 w2 EA2.out HA2.out hfx hy hfy
      generalize bothP op.data.toList EX.1 (evalE (numV l q.list) y) = RP at *
      clear hg
      go_wp2_with fail
      (with_reducible refine cb.mono ?_)
      rintro e w3 ⟨rfl, b3⟩
      have B3 := via b3 B2
      go_wp2_with fail
      first | go_ret2 | go_returns
      exact ⟨by rw [HP2.out] <;> rfl, B3⟩
theorem eval_c {K : Nat → Prop} (A : Option Addr) (n c : Nat) (l : List Vr) (q : Cu) : ∀ (N : Nat) (r : Ex), nodesE r ≤ N → ∀ d, rightE r d = true → EvalC K A n c l q r := by
  intro N
  induction N with
  | zero => intro r h; have := nodes_pos r; omega
  | succ N ih =>
    intro r hN d hr w cs he h
    obtain ⟨k, n0, nm, op, kids⟩ := r
    obtain ⟨E, m, rfl⟩ := h.shape
    obtain ⟨hok, hlen, hrl⟩ := right_parts hr
    rw [nodesE] at hN
    have hfit : fitE (.mk k n0 nm op kids) := et_fit h
    rw [fitE] at hfit
    have hi64 : ∀ x, fitE x → CalP.I64 (evalE (numV l q.list) x).1 := fun x hx => eval_i64 (fun s => numV_i64 l q.list s) x hx
    rcases kind_of hok with hk | hk | hk | hk | hk
    · have h0 : kids.length = 0 := by rw [hlen, hk]; rfl
      have h1 : kids = [] := List.eq_nil_of_length_eq_zero h0
      subst h1
      exact eval_0 A n c l q k n0 nm op E m w he h hk
    · have h0 : kids.length = 0 := by rw [hlen, hk]; rfl
      have h1 : kids = [] := List.eq_nil_of_length_eq_zero h0
      subst h1
      exact eval_1 A n c l q k n0 nm op E m w he h hk
    · have h0 : kids.length = 1 := by rw [hlen, hk]; rfl
      match kids, h0 with
      | [x], _ =>
        simp only [nodesL] at hN
        rw [rightL, rightL, Bool.and_eq_true] at hrl
        rw [fitL] at hfit
        exact eval_2 A n c l q k n0 nm op x E m w he h hk (ih x (by omega) (d + 1) hrl.1) (hi64 x hfit.2.1)
    · have h0 : kids.length = 1 := by rw [hlen, hk]; rfl
      match kids, h0 with
      | [x], _ =>
        simp only [nodesL] at hN
        rw [rightL, rightL, Bool.and_eq_true] at hrl
        rw [fitL] at hfit
        exact eval_3 A n c l q k n0 nm op x E m w he h hk (ih x (by omega) (d + 1) hrl.1) (hi64 x hfit.2.1)
    · have h0 : kids.length = 2 := by rw [hlen, hk]; rfl
      match kids, h0 with
      | [x, y], _ =>
        simp only [nodesL] at hN
        rw [rightL, rightL, rightL, Bool.and_eq_true, Bool.and_eq_true] at hrl
        rw [fitL, fitL] at hfit
        exact eval_4 A n c l q k n0 nm op x y E m w he h hk (ih x (by omega) (d + 1) hrl.1) (hi64 x hfit.2.1) (ih y (by omega) (d + 1) hrl.2.1) (hi64 y hfit.2.2.1)
/-- What an expression comes to. -/
def valE (l : List Vr) (q : Cu) (r : Ex) : Int × Int := if rightE r 0 then evalE (numV l q.list) r else (0, 5)
set_option maxHeartbeats 3200000 in
set_option maxRecDepth 100000 in
theorem Eval_c {K : Nat → Prop} (A : Option Addr) (n c : Nat) (l : List Vr) (q : Cu) (r : Ex) (cs : List Value) (w : World) (he : Env A n l q w) (h : Et w K r cs) (hs : shortE r) :
    Calls Tryd.prog 10 #[.agg cs.toArray, .slice A n c, .agg #[.string q.s0, .string q.s1, .string q.s2, .string q.s3, .string q.s4, .string q.s5, .string q.s6, .string q.s7, .string q.s8, .string q.s9]] w fun x w' => x = .returned (tup (valE l q r)) ∧ Below w.heap.size w w' := by
  obtain ⟨E, m, rfl⟩ := h.shape
  obtain ⟨PR, hPR⟩ : ∃ P, valE l q r = P := ⟨_, rfl⟩
  rw [hPR]
  obtain ⟨wa, hwa⟩ : ∃ z : World, z = (w.alloc (.cells (exC r.kind r.n r.name r.op E r.kids.length m).toArray 24)).alloc (.cells ([.string q.s0, .string q.s1, .string q.s2, .string q.s3, .string q.s4, .string q.s5, .string q.s6, .string q.s7, .string q.s8, .string q.s9] : List Value).toArray 34) := ⟨_, rfl⟩
  have BA : Below w.heap.size w wa := by rw [hwa]; go_grown
  have XE := Lib.hid (show Blk wa w.heap.size 24 (exC r.kind r.n r.name r.op E r.kids.length m).toArray by rw [hwa]; exact (Blk.new _ _ _).alloc _)
  have XQ := Lib.hid (show Blk wa (w.heap.size + 1) 34 ([.string q.s0, .string q.s1, .string q.s2, .string q.s3, .string q.s4, .string q.s5, .string q.s6, .string q.s7, .string q.s8, .string q.s9] : List Value).toArray by rw [hwa]; exact Blk.new1 _ _ _ _)
  have cm := may_c r wa _ (h.bel BA) hs
  have hev := fun (hr : rightE r 0 = true) W (hb : Below wa.heap.size wa W) => eval_c A n c l q (nodesE r) r (Nat.le_refl _) 0 hr W _ ((he.bel BA).bel hb) ((h.bel BA).bel hb)
  clear he h
  generalize hEV : evalE (numV l q.list) r = EV at *
  have hPR2 : PR = if rightE r 0 then EV else (0, 5) := by rw [← hPR, ← hEV]; rfl
  clear hPR hEV
  have HEV := Lib.hid hev
  clear hev
  generalize r.kind = x0 at *
  generalize r.n = x1 at *
  generalize r.name = x2 at *
  generalize r.op = x3 at *
  generalize r.kids.length = x4 at *
  cases hr : rightE r 0
  · have HP := Lib.hid (show PR = (0, 5) by rw [hPR2, hr]; rfl)
    rw [hr] at cm
    clear hPR2 HEV hr
    go_enter Tryd.func10, Tryd.ntmps10
    go_wp2_with fail
    rw [← hwa]
    clear hwa
    (with_reducible refine cm.mono ?_)
    rintro x w2 ⟨rfl, b2⟩
    have B2 := via b2 BA
    go_wp2
    first | go_ret2 | go_returns
    exact ⟨by rw [HP.out] <;> rfl, B2⟩
  · have HP := Lib.hid (show PR = EV by rw [hPR2, hr]; rfl)
    rw [hr] at cm
    have HEV2 := Lib.hid (HEV.out hr)
    clear hPR2 HEV hr
    go_enter Tryd.func10, Tryd.ntmps10
    go_wp2_with fail
    rw [← hwa]
    clear hwa
    (with_reducible refine cm.mono ?_)
    rintro x w2 ⟨rfl, b2⟩
    have B2 := via b2 BA
    have xe2 := XE.out.next b2
    have xq2 := XQ.out.next b2
    have ce := HEV2.out w2 b2
    have r0 := xe2.cell 0
    have r1 := xe2.cell 1
    have r2 := xe2.cell 2
    have r3 := xe2.cell 3
    have r4 := xe2.cell 4
    simp only [List.getElem?_toArray, List.getElem?_cons_zero, List.getElem?_cons_succ] at r0 r1 r2 r3 r4
    have p0 := xq2.cell 0
    have p1 := xq2.cell 1
    have p2 := xq2.cell 2
    have p3 := xq2.cell 3
    have p4 := xq2.cell 4
    have p5 := xq2.cell 5
    have p6 := xq2.cell 6
    have p7 := xq2.cell 7
    have p8 := xq2.cell 8
    have p9 := xq2.cell 9
    simp only [List.getElem?_toArray, List.getElem?_cons_zero, List.getElem?_cons_succ] at p0 p1 p2 p3 p4 p5 p6 p7 p8 p9
    go_wp2_with fail
    (with_reducible refine ce.mono ?_)
    rintro x w3 ⟨rfl, b3⟩
    have B3 := via b3 B2
    go_wp2
    first | go_ret2 | go_returns
    exact ⟨by rw [HP.out] <;> rfl, B3⟩
end CalW
end Go.Proofs.YtledgkplddeghaaDoor
