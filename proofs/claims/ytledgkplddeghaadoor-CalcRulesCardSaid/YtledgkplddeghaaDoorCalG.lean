/- What a sum comes to: the reference. Conditions: trees that fit; texts that fit. -/
import Derived.Test.YtledgkplddeghaaDoorCalF
namespace Go.Proofs.YtledgkplddeghaaDoor
set_option linter.unusedVariables false
set_option linter.unusedSimpArgs false
open Go.RowKit
namespace CalW
open CalP QuoP MemP MemW
/-- What the reference's eval does at such an expression. -/
def REvalC (K : Nat → Prop) (A : Option Addr) (n c : Nat) (l : List Vr) (q : Cu) (r : Ex) : Prop := ∀ (w : World) (cs : List Value), Env A n l q w → Et w K r cs →
  Calls Tryd.prog 23 #[.agg cs.toArray, .slice A n c, .agg #[.string q.s0, .string q.s1, .string q.s2, .string q.s3, .string q.s4, .string q.s5, .string q.s6, .string q.s7, .string q.s8, .string q.s9]] w fun x w' => x = .returned (tup (evalE (numV l q.list) r)) ∧ Below w.heap.size w w'
set_option maxHeartbeats 6400000 in
set_option maxRecDepth 100000 in
theorem reval_0 {K : Nat → Prop} (A : Option Addr) (n c : Nat) (l : List Vr) (q : Cu) (k n0 : Int) (nm op : ByteArray) (E : Option Addr) (m : Nat) (w : World) (he : Env A n l q w) (h : Et w K (.mk k n0 nm op []) (exC k n0 nm op E 0 m)) (hk : k = 0) :
    Calls Tryd.prog 23 #[.agg (exC k n0 nm op E 0 m).toArray, .slice A n c, .agg #[.string q.s0, .string q.s1, .string q.s2, .string q.s3, .string q.s4, .string q.s5, .string q.s6, .string q.s7, .string q.s8, .string q.s9]] w fun ed w' => ed = .returned (tup (evalE (numV l q.list) (.mk k n0 nm op []))) ∧ Below w.heap.size w w' := by
  obtain ⟨wa, hwa⟩ : ∃ z : World, z = (w.alloc (.cells (exC k n0 nm op E 0 m).toArray 24)).alloc (.cells ([.string q.s0, .string q.s1, .string q.s2, .string q.s3, .string q.s4, .string q.s5, .string q.s6, .string q.s7, .string q.s8, .string q.s9] : List Value).toArray 34) := ⟨_, rfl⟩
  have BA : Below w.heap.size w wa := by rw [hwa]; go_grown
  have XE := Lib.hid (show Blk wa w.heap.size 24 (exC k n0 nm op E 0 m).toArray by rw [hwa]; exact (Blk.new _ _ _).alloc _)
  have XQ := Lib.hid (show Blk wa (w.heap.size + 1) 34 ([.string q.s0, .string q.s1, .string q.s2, .string q.s3, .string q.s4, .string q.s5, .string q.s6, .string q.s7, .string q.s8, .string q.s9] : List Value).toArray by rw [hwa]; exact Blk.new1 _ _ _ _)
  have EA := Lib.hid (he.bel BA)
  have HA := Lib.hid (h.bel BA)
  clear he h
  have e0 : (k == 0) = true := by rw [hk]; decide
  have e1 : (k == 1) = false := by rw [hk]; decide
  have e2 : (k == 2) = false := by rw [hk]; decide
  have e3 : (k == 3) = false := by rw [hk]; decide
  have e4 : (k == 4) = false := by rw [hk]; decide
  obtain ⟨PR, hPR⟩ : ∃ P, evalE (numV l q.list) (.mk k n0 nm op []) = P := ⟨_, rfl⟩
  rw [hPR]
  have HP := Lib.hid (show PR = (n0, 0) by rw [← hPR, evalE]; unfold combP; rw [if_pos hk])
  clear hk hPR
  go_enter Tryd.func23, Tryd.ntmps23
  go_wp2
  rw [← hwa]
  first | go_ret2 | go_returns
  exact ⟨by rw [HP.out] <;> rfl, BA⟩
set_option maxHeartbeats 6400000 in
set_option maxRecDepth 100000 in
theorem reval_1 {K : Nat → Prop} (A : Option Addr) (n c : Nat) (l : List Vr) (q : Cu) (k n0 : Int) (nm op : ByteArray) (E : Option Addr) (m : Nat) (w : World) (he : Env A n l q w) (h : Et w K (.mk k n0 nm op []) (exC k n0 nm op E 0 m)) (hk : k = 1) :
    Calls Tryd.prog 23 #[.agg (exC k n0 nm op E 0 m).toArray, .slice A n c, .agg #[.string q.s0, .string q.s1, .string q.s2, .string q.s3, .string q.s4, .string q.s5, .string q.s6, .string q.s7, .string q.s8, .string q.s9]] w fun ed w' => ed = .returned (tup (evalE (numV l q.list) (.mk k n0 nm op []))) ∧ Below w.heap.size w w' := by
  obtain ⟨wa, hwa⟩ : ∃ z : World, z = (w.alloc (.cells (exC k n0 nm op E 0 m).toArray 24)).alloc (.cells ([.string q.s0, .string q.s1, .string q.s2, .string q.s3, .string q.s4, .string q.s5, .string q.s6, .string q.s7, .string q.s8, .string q.s9] : List Value).toArray 34) := ⟨_, rfl⟩
  have BA : Below w.heap.size w wa := by rw [hwa]; go_grown
  have XE := Lib.hid (show Blk wa w.heap.size 24 (exC k n0 nm op E 0 m).toArray by rw [hwa]; exact (Blk.new _ _ _).alloc _)
  have XQ := Lib.hid (show Blk wa (w.heap.size + 1) 34 ([.string q.s0, .string q.s1, .string q.s2, .string q.s3, .string q.s4, .string q.s5, .string q.s6, .string q.s7, .string q.s8, .string q.s9] : List Value).toArray by rw [hwa]; exact Blk.new1 _ _ _ _)
  have EA := Lib.hid (he.bel BA)
  have HA := Lib.hid (h.bel BA)
  clear he h
  have e0 : (k == 0) = false := by rw [hk]; decide
  have e1 : (k == 1) = true := by rw [hk]; decide
  have e2 : (k == 2) = false := by rw [hk]; decide
  have e3 : (k == 3) = false := by rw [hk]; decide
  have e4 : (k == 4) = false := by rw [hk]; decide
  obtain ⟨PR, hPR⟩ : ∃ P, evalE (numV l q.list) (.mk k n0 nm op []) = P := ⟨_, rfl⟩
  rw [hPR]
  have hP0 : PR = numV l q.list nm := by rw [← hPR, evalE]; unfold combP; rw [if_neg (by omega), if_pos hk]
  have HP0 := Lib.hid hP0
  have cn := rname_c A n c l q nm wa EA.out.vr EA.out.hn
  unfold NamePost at cn
  clear hk hPR hP0
  go_enter Tryd.func23, Tryd.ntmps23
  go_wp2_with fail
  rw [← hwa]
  clear hwa
  (with_reducible refine cn.mono ?_)
  rintro ed w2 ⟨b2, ⟨v, hv, rfl⟩ | ⟨hv, rfl⟩⟩
  rotate_left
  · have HP := Lib.hid (show PR = (0, 6) by rw [HP0.out]; unfold numV; rw [hv])
    have B2 := via b2 BA
    clear cn hv
    go_wp2
    first | go_ret2 | go_returns
    exact ⟨by rw [HP.out] <;> rfl, B2⟩
  have B2 := via b2 BA
  have hvs := name_fit EA.out.fit EA.out.cut hv
  have cp := fun W => NumW.rparse_c v W (by omega)
  simp only [pr_tup] at cp
  have HP := Lib.hid (show PR = if (numP v.data.toList).2 = 1 then (0, 7) else numP v.data.toList by rw [HP0.out]; unfold numV; rw [hv])
  clear HP0 hv b2 cn
  obtain ⟨RP, hRP⟩ : ∃ R, numP v.data.toList = R := ⟨_, rfl⟩
  rw [hRP] at HP
  simp only [hRP] at cp
  clear hRP hvs
  obtain ⟨r1, r2⟩ := RP
  simp only at HP
  by_cases h1 : r2 = 1
  · have t1 : (r2 == 1) = true := by simpa using h1
    have HP2 := Lib.hid (show PR = (0, 7) by rw [HP.out, if_pos h1])
    clear h1 HP
    go_wp2_with fail
    (with_reducible refine (cp _).mono ?_)
    rintro ed w3 ⟨rfl, rfl⟩
    go_wp2_with fail
    first | go_ret2 | go_returns
    exact ⟨by rw [HP2.out] <;> rfl, B2⟩
  · have t1 : (r2 == 1) = false := by simpa using h1
    have HP2 := Lib.hid (show PR = (r1, r2) by rw [HP.out, if_neg h1])
    clear h1 HP
    go_wp2_with fail
    (with_reducible refine (cp _).mono ?_)
    rintro ed w3 ⟨rfl, rfl⟩
    go_wp2_with fail
    first | go_ret2 | go_returns
    exact ⟨by rw [HP2.out] <;> rfl, B2⟩
set_option maxHeartbeats 6400000 in
set_option maxRecDepth 100000 in
theorem reval_2 {K : Nat → Prop} (A : Option Addr) (n c : Nat) (l : List Vr) (q : Cu) (k n0 : Int) (nm op : ByteArray) (x : Ex) (E : Option Addr) (m : Nat) (w : World) (he : Env A n l q w) (h : Et w K (.mk k n0 nm op [x]) (exC k n0 nm op E 1 m)) (hk : k = 2) (hx : REvalC K A n c l q x) (hfx : CalP.I64 (evalE (numV l q.list) x).1) :
    Calls Tryd.prog 23 #[.agg (exC k n0 nm op E 1 m).toArray, .slice A n c, .agg #[.string q.s0, .string q.s1, .string q.s2, .string q.s3, .string q.s4, .string q.s5, .string q.s6, .string q.s7, .string q.s8, .string q.s9]] w fun ed w' => ed = .returned (tup (evalE (numV l q.list) (.mk k n0 nm op [x]))) ∧ Below w.heap.size w w' := by
  obtain ⟨wa, hwa⟩ : ∃ z : World, z = (w.alloc (.cells (exC k n0 nm op E 1 m).toArray 24)).alloc (.cells ([.string q.s0, .string q.s1, .string q.s2, .string q.s3, .string q.s4, .string q.s5, .string q.s6, .string q.s7, .string q.s8, .string q.s9] : List Value).toArray 34) := ⟨_, rfl⟩
  have BA : Below w.heap.size w wa := by rw [hwa]; go_grown
  have XE := Lib.hid (show Blk wa w.heap.size 24 (exC k n0 nm op E 1 m).toArray by rw [hwa]; exact (Blk.new _ _ _).alloc _)
  have XQ := Lib.hid (show Blk wa (w.heap.size + 1) 34 ([.string q.s0, .string q.s1, .string q.s2, .string q.s3, .string q.s4, .string q.s5, .string q.s6, .string q.s7, .string q.s8, .string q.s9] : List Value).toArray by rw [hwa]; exact Blk.new1 _ _ _ _)
  have EA := Lib.hid (he.bel BA)
  have HA := Lib.hid (h.bel BA)
  clear he h
  have e0 : (k == 0) = false := by rw [hk]; decide
  have e1 : (k == 1) = false := by rw [hk]; decide
  have e2 : (k == 2) = true := by rw [hk]; decide
  have e3 : (k == 3) = false := by rw [hk]; decide
  have e4 : (k == 4) = false := by rw [hk]; decide
  obtain ⟨PR, hPR⟩ : ∃ P, evalE (numV l q.list) (.mk k n0 nm op [x]) = P := ⟨_, rfl⟩
  rw [hPR]
  obtain ⟨EX, hEX⟩ : ∃ X, evalE (numV l q.list) x = X := ⟨_, rfl⟩
  rw [hEX] at hfx
  have HEX := Lib.hid hEX
  obtain ⟨g0, o0, A2, c2, rfl, hk0, hc0⟩ := HA.out.kid_ (i := 0) (by simp)
  have hk : Et wa K (x) (exC (x).kind (x).n (x).name (x).op A2 (x).kids.length c2) := hk0
  have hc : ∀ j u, (exC (x).kind (x).n (x).name (x).op A2 (x).kids.length c2)[j]? = some u → wa.cell? ⟨g0, o0 + 0 * 5 + j, none⟩ = some u := hc0
  clear hk0 hc0
  have fk0 := hc 0 _ rfl
  have fk1 := hc 1 _ rfl
  have fk2 := hc 2 _ rfl
  have fk3 := hc 3 _ rfl
  have fk4 := hc 4 _ rfl
  simp only [Nat.add_zero, Nat.zero_mul, Nat.one_mul] at fk0 fk1 fk2 fk3 fk4
  clear hc
  have ce0 := hx wa.drew _ EA.out.drew hk.drew
  have ce : Calls Tryd.prog 23 #[.agg (exC (x).kind (x).n (x).name (x).op A2 (x).kids.length c2).toArray, .slice A n c, .agg #[.string q.s0, .string q.s1, .string q.s2, .string q.s3, .string q.s4, .string q.s5, .string q.s6, .string q.s7, .string q.s8, .string q.s9]] wa.drew fun ed w' => ed = .returned (tup (evalE (numV l q.list) (x))) ∧ Below wa.heap.size wa w' :=
    ce0.mono (fun ed w' ⟨h1, hb⟩ => ⟨h1, ⟨hb.os, hb.tape, hb.output, hb.size, hb.block⟩⟩)
  clear ce0 hk
  have xq := XQ.out
  have xe := XE.out
  have p0 := xq.cell 0
  have p1 := xq.cell 1
  have p2 := xq.cell 2
  have p3 := xq.cell 3
  have p4 := xq.cell 4
  have p5 := xq.cell 5
  have p6 := xq.cell 6
  have p7 := xq.cell 7
  have p8 := xq.cell 8
  have p9 := xq.cell 9
  simp only [List.getElem?_toArray, List.getElem?_cons_zero, List.getElem?_cons_succ] at p0 p1 p2 p3 p4 p5 p6 p7 p8 p9
  have r0 := xe.cell 0
  have r1 := xe.cell 1
  have r2 := xe.cell 2
  have r3 := xe.cell 3
  have r4 := xe.cell 4
  simp only [List.getElem?_toArray, List.getElem?_cons_zero, List.getElem?_cons_succ] at r0 r1 r2 r3 r4
  clear xq xe
  rw [hEX] at ce
  clear hEX hx
  generalize x.kind = x0 at *
  generalize x.n = x1 at *
  generalize x.name = x2 at *
  generalize x.op = x3 at *
  generalize x.kids.length = x4 at *
  have HP := Lib.hid (show PR = if EX.2 ≠ 0 then (0, EX.2) else resP (-EX.1) by rw [← hPR, evalE, evalL, evalL, HEX.out]; unfold combP; rw [if_neg (by omega), if_neg (by omega)]; simp only; rw [if_pos hk])
  clear hk hPR
  rw [hwa] at p0 p1 p2 p3 p4 p5 p6 p7 p8 p9 r0 r1 r2 r3 r4 fk0 fk1 fk2 fk3 fk4
  go_enter Tryd.func23, Tryd.ntmps23
  go_wp2_with fail
  rw [← hwa] at *
  go_region_law (first
    | (go_simp
       go_at_call 23
       (with_reducible refine ce.mono ?_)
       rintro ed w2 ⟨rfl, b2⟩))
  all_goals
    have B2 := via b2 BA
    have XE2 := Lib.hid (XE.out.next b2)
    have XQ2 := Lib.hid (XQ.out.next b2)
    have xe2 := XE2.out
    have HA2 := Lib.hid (HA.out.bel b2)
    have EA2 := Lib.hid (EA.out.bel b2)
    clear ce p0 p1 p2 p3 p4 p5 p6 p7 p8 p9 r0 r1 r2 r3 r4 fk0 fk1 fk2 fk3 fk4 b2
    have r0 := xe2.cell 0
    have r1 := xe2.cell 1
    have r2 := xe2.cell 2
    have r3 := xe2.cell 3
    have r4 := xe2.cell 4
    simp only [List.getElem?_toArray, List.getElem?_cons_zero, List.getElem?_cons_succ] at r0 r1 r2 r3 r4
    clear xe2
    by_cases hg : EX.2 = 0
    rotate_left
    · have g1 : (EX.2 == 0) = false := by simpa using hg
      have g2 : (EX.2 != 0) = true := by simpa using hg
      have HP2 := Lib.hid (show PR = (0, EX.2) by rw [HP.out, if_pos hg])
      clear hg
      go_wp2
      first | go_ret2 | go_returns
      exact ⟨by rw [HP2.out] <;> rfl, B2⟩
    · have g1 : (EX.2 == 0) = true := by simpa using hg
      have g2 : (EX.2 != 0) = false := by simpa using hg
      have HP2 := Lib.hid (show PR = resP (-EX.1) by rw [HP.out, if_neg (by simpa using hg)])
      have cn := fun W => NumW.rneg_c EX.1 W hfx.1 hfx.2
      simp only [res_tup] at cn
      generalize resP (-EX.1) = RP at *
      clear hg
      go_wp2_with fail
      (with_reducible refine (cn _).mono ?_)
      rintro ed w3 ⟨rfl, rfl⟩
      go_wp2_with fail
      first | go_ret2 | go_returns
      exact ⟨by rw [HP2.out] <;> rfl, B2⟩
set_option maxHeartbeats 6400000 in
set_option maxRecDepth 100000 in
theorem reval_3 {K : Nat → Prop} (A : Option Addr) (n c : Nat) (l : List Vr) (q : Cu) (k n0 : Int) (nm op : ByteArray) (x : Ex) (E : Option Addr) (m : Nat) (w : World) (he : Env A n l q w) (h : Et w K (.mk k n0 nm op [x]) (exC k n0 nm op E 1 m)) (hk : k = 3) (hx : REvalC K A n c l q x) (hfx : CalP.I64 (evalE (numV l q.list) x).1) :
    Calls Tryd.prog 23 #[.agg (exC k n0 nm op E 1 m).toArray, .slice A n c, .agg #[.string q.s0, .string q.s1, .string q.s2, .string q.s3, .string q.s4, .string q.s5, .string q.s6, .string q.s7, .string q.s8, .string q.s9]] w fun ed w' => ed = .returned (tup (evalE (numV l q.list) (.mk k n0 nm op [x]))) ∧ Below w.heap.size w w' := by
  obtain ⟨wa, hwa⟩ : ∃ z : World, z = (w.alloc (.cells (exC k n0 nm op E 1 m).toArray 24)).alloc (.cells ([.string q.s0, .string q.s1, .string q.s2, .string q.s3, .string q.s4, .string q.s5, .string q.s6, .string q.s7, .string q.s8, .string q.s9] : List Value).toArray 34) := ⟨_, rfl⟩
  have BA : Below w.heap.size w wa := by rw [hwa]; go_grown
  have XE := Lib.hid (show Blk wa w.heap.size 24 (exC k n0 nm op E 1 m).toArray by rw [hwa]; exact (Blk.new _ _ _).alloc _)
  have XQ := Lib.hid (show Blk wa (w.heap.size + 1) 34 ([.string q.s0, .string q.s1, .string q.s2, .string q.s3, .string q.s4, .string q.s5, .string q.s6, .string q.s7, .string q.s8, .string q.s9] : List Value).toArray by rw [hwa]; exact Blk.new1 _ _ _ _)
  have EA := Lib.hid (he.bel BA)
  have HA := Lib.hid (h.bel BA)
  clear he h
  have e0 : (k == 0) = false := by rw [hk]; decide
  have e1 : (k == 1) = false := by rw [hk]; decide
  have e2 : (k == 2) = false := by rw [hk]; decide
  have e3 : (k == 3) = true := by rw [hk]; decide
  have e4 : (k == 4) = false := by rw [hk]; decide
  obtain ⟨PR, hPR⟩ : ∃ P, evalE (numV l q.list) (.mk k n0 nm op [x]) = P := ⟨_, rfl⟩
  rw [hPR]
  obtain ⟨EX, hEX⟩ : ∃ X, evalE (numV l q.list) x = X := ⟨_, rfl⟩
  rw [hEX] at hfx
  have HEX := Lib.hid hEX
  obtain ⟨g0, o0, A2, c2, rfl, hk0, hc0⟩ := HA.out.kid_ (i := 0) (by simp)
  have hk : Et wa K (x) (exC (x).kind (x).n (x).name (x).op A2 (x).kids.length c2) := hk0
  have hc : ∀ j u, (exC (x).kind (x).n (x).name (x).op A2 (x).kids.length c2)[j]? = some u → wa.cell? ⟨g0, o0 + 0 * 5 + j, none⟩ = some u := hc0
  clear hk0 hc0
  have fk0 := hc 0 _ rfl
  have fk1 := hc 1 _ rfl
  have fk2 := hc 2 _ rfl
  have fk3 := hc 3 _ rfl
  have fk4 := hc 4 _ rfl
  simp only [Nat.add_zero, Nat.zero_mul, Nat.one_mul] at fk0 fk1 fk2 fk3 fk4
  clear hc
  have ce0 := hx wa.drew _ EA.out.drew hk.drew
  have ce : Calls Tryd.prog 23 #[.agg (exC (x).kind (x).n (x).name (x).op A2 (x).kids.length c2).toArray, .slice A n c, .agg #[.string q.s0, .string q.s1, .string q.s2, .string q.s3, .string q.s4, .string q.s5, .string q.s6, .string q.s7, .string q.s8, .string q.s9]] wa.drew fun ed w' => ed = .returned (tup (evalE (numV l q.list) (x))) ∧ Below wa.heap.size wa w' :=
    ce0.mono (fun ed w' ⟨h1, hb⟩ => ⟨h1, ⟨hb.os, hb.tape, hb.output, hb.size, hb.block⟩⟩)
  clear ce0 hk
  have xq := XQ.out
  have xe := XE.out
  have p0 := xq.cell 0
  have p1 := xq.cell 1
  have p2 := xq.cell 2
  have p3 := xq.cell 3
  have p4 := xq.cell 4
  have p5 := xq.cell 5
  have p6 := xq.cell 6
  have p7 := xq.cell 7
  have p8 := xq.cell 8
  have p9 := xq.cell 9
  simp only [List.getElem?_toArray, List.getElem?_cons_zero, List.getElem?_cons_succ] at p0 p1 p2 p3 p4 p5 p6 p7 p8 p9
  have r0 := xe.cell 0
  have r1 := xe.cell 1
  have r2 := xe.cell 2
  have r3 := xe.cell 3
  have r4 := xe.cell 4
  simp only [List.getElem?_toArray, List.getElem?_cons_zero, List.getElem?_cons_succ] at r0 r1 r2 r3 r4
  clear xq xe
  rw [hEX] at ce
  clear hEX hx
  generalize x.kind = x0 at *
  generalize x.n = x1 at *
  generalize x.name = x2 at *
  generalize x.op = x3 at *
  generalize x.kids.length = x4 at *
  have HP := Lib.hid (show PR = if EX.2 ≠ 0 then (0, EX.2) else (bitP (EX.1 == 0), 0) by rw [← hPR, evalE, evalL, evalL, HEX.out]; unfold combP; rw [if_neg (by omega), if_neg (by omega)]; simp only; rw [if_neg (by omega : ¬ k = 2), if_pos hk])
  clear hk hPR
  rw [hwa] at p0 p1 p2 p3 p4 p5 p6 p7 p8 p9 r0 r1 r2 r3 r4 fk0 fk1 fk2 fk3 fk4
  go_enter Tryd.func23, Tryd.ntmps23
  go_wp2_with fail
  rw [← hwa] at *
  go_region_law (first
    | (go_simp
       go_at_call 23
       (with_reducible refine ce.mono ?_)
       rintro ed w2 ⟨rfl, b2⟩))
  all_goals
    have B2 := via b2 BA
    have XE2 := Lib.hid (XE.out.next b2)
    have XQ2 := Lib.hid (XQ.out.next b2)
    have xe2 := XE2.out
    have HA2 := Lib.hid (HA.out.bel b2)
    have EA2 := Lib.hid (EA.out.bel b2)
    clear ce p0 p1 p2 p3 p4 p5 p6 p7 p8 p9 r0 r1 r2 r3 r4 fk0 fk1 fk2 fk3 fk4 b2
    have r0 := xe2.cell 0
    have r1 := xe2.cell 1
    have r2 := xe2.cell 2
    have r3 := xe2.cell 3
    have r4 := xe2.cell 4
    simp only [List.getElem?_toArray, List.getElem?_cons_zero, List.getElem?_cons_succ] at r0 r1 r2 r3 r4
    clear xe2
    by_cases hg : EX.2 = 0
    rotate_left
    · have g1 : (EX.2 == 0) = false := by simpa using hg
      have g2 : (EX.2 != 0) = true := by simpa using hg
      have HP2 := Lib.hid (show PR = (0, EX.2) by rw [HP.out, if_pos hg])
      clear hg
      go_wp2
      first | go_ret2 | go_returns
      exact ⟨by rw [HP2.out] <;> rfl, B2⟩
    · have g1 : (EX.2 == 0) = true := by simpa using hg
      have g2 : (EX.2 != 0) = false := by simpa using hg
      have HP2 := Lib.hid (show PR = (bitP (EX.1 == 0), 0) by rw [HP.out, if_neg (by simpa using hg)])
      have cb := fun W => rbit_c (EX.1 == 0) W
      generalize bitP (EX.1 == 0) = BT at *
      clear hg
      go_wp2_with fail
      (with_reducible refine (cb _).mono ?_)
      rintro ed w3 ⟨rfl, rfl⟩
      go_wp2_with fail
      first | go_ret2 | go_returns
      exact ⟨by rw [HP2.out] <;> rfl, B2⟩
set_option maxHeartbeats 6400000 in
set_option maxRecDepth 100000 in
theorem reval_and {K : Nat → Prop} (A : Option Addr) (n c : Nat) (l : List Vr) (q : Cu) (k n0 : Int) (nm op : ByteArray) (x y : Ex) (E : Option Addr) (m : Nat) (w : World) (he : Env A n l q w) (h : Et w K (.mk k n0 nm op [x, y]) (exC k n0 nm op E 2 m)) (hk : k = 4) (hx : REvalC K A n c l q x) (hfx : CalP.I64 (evalE (numV l q.list) x).1) (hy : REvalC K A n c l q y) (hfy : CalP.I64 (evalE (numV l q.list) y).1) (ho : op.data.toList = [38, 38]) :
    Calls Tryd.prog 23 #[.agg (exC k n0 nm op E 2 m).toArray, .slice A n c, .agg #[.string q.s0, .string q.s1, .string q.s2, .string q.s3, .string q.s4, .string q.s5, .string q.s6, .string q.s7, .string q.s8, .string q.s9]] w fun ed w' => ed = .returned (tup (evalE (numV l q.list) (.mk k n0 nm op [x, y]))) ∧ Below w.heap.size w w' := by
  obtain ⟨wa, hwa⟩ : ∃ z : World, z = (w.alloc (.cells (exC k n0 nm op E 2 m).toArray 24)).alloc (.cells ([.string q.s0, .string q.s1, .string q.s2, .string q.s3, .string q.s4, .string q.s5, .string q.s6, .string q.s7, .string q.s8, .string q.s9] : List Value).toArray 34) := ⟨_, rfl⟩
  have BA : Below w.heap.size w wa := by rw [hwa]; go_grown
  have XE := Lib.hid (show Blk wa w.heap.size 24 (exC k n0 nm op E 2 m).toArray by rw [hwa]; exact (Blk.new _ _ _).alloc _)
  have XQ := Lib.hid (show Blk wa (w.heap.size + 1) 34 ([.string q.s0, .string q.s1, .string q.s2, .string q.s3, .string q.s4, .string q.s5, .string q.s6, .string q.s7, .string q.s8, .string q.s9] : List Value).toArray by rw [hwa]; exact Blk.new1 _ _ _ _)
  have EA := Lib.hid (he.bel BA)
  have HA := Lib.hid (h.bel BA)
  clear he h
  have e0 : (k == 0) = false := by rw [hk]; decide
  have e1 : (k == 1) = false := by rw [hk]; decide
  have e2 : (k == 2) = false := by rw [hk]; decide
  have e3 : (k == 3) = false := by rw [hk]; decide
  have e4 : (k == 4) = true := by rw [hk]; decide
  obtain ⟨PR, hPR⟩ : ∃ P, evalE (numV l q.list) (.mk k n0 nm op [x, y]) = P := ⟨_, rfl⟩
  rw [hPR]
  have HY := Lib.hid hy
  obtain ⟨EY, hEY⟩ : ∃ Y, evalE (numV l q.list) y = Y := ⟨_, rfl⟩
  rw [hEY] at hfy
  have HEY := Lib.hid hEY
  have tl : op.toList = op.data.toList := Lib.toList_data _
  have t1 : (op.toList == [38, 38]) = true := by rw [tl, ho]; decide
  have t2 : (op.toList == [124, 124]) = false := by rw [tl, ho]; decide
  have HO := Lib.hid ho
  clear ho
  clear hEY hy tl
  obtain ⟨EX, hEX⟩ : ∃ X, evalE (numV l q.list) x = X := ⟨_, rfl⟩
  rw [hEX] at hfx
  have HEX := Lib.hid hEX
  obtain ⟨g0, o0, A2, c2, rfl, hk0, hc0⟩ := HA.out.kid_ (i := 0) (by simp)
  have hk : Et wa K (x) (exC (x).kind (x).n (x).name (x).op A2 (x).kids.length c2) := hk0
  have hc : ∀ j u, (exC (x).kind (x).n (x).name (x).op A2 (x).kids.length c2)[j]? = some u → wa.cell? ⟨g0, o0 + 0 * 5 + j, none⟩ = some u := hc0
  clear hk0 hc0
  have fk0 := hc 0 _ rfl
  have fk1 := hc 1 _ rfl
  have fk2 := hc 2 _ rfl
  have fk3 := hc 3 _ rfl
  have fk4 := hc 4 _ rfl
  simp only [Nat.add_zero, Nat.zero_mul, Nat.one_mul] at fk0 fk1 fk2 fk3 fk4
  clear hc
  have ce0 := hx wa.drew _ EA.out.drew hk.drew
  have ce : Calls Tryd.prog 23 #[.agg (exC (x).kind (x).n (x).name (x).op A2 (x).kids.length c2).toArray, .slice A n c, .agg #[.string q.s0, .string q.s1, .string q.s2, .string q.s3, .string q.s4, .string q.s5, .string q.s6, .string q.s7, .string q.s8, .string q.s9]] wa.drew fun ed w' => ed = .returned (tup (evalE (numV l q.list) (x))) ∧ Below wa.heap.size wa w' :=
    ce0.mono (fun ed w' ⟨h1, hb⟩ => ⟨h1, ⟨hb.os, hb.tape, hb.output, hb.size, hb.block⟩⟩)
  clear ce0 hk
  have xq := XQ.out
  have xe := XE.out
  have p0 := xq.cell 0
  have p1 := xq.cell 1
  have p2 := xq.cell 2
  have p3 := xq.cell 3
  have p4 := xq.cell 4
  have p5 := xq.cell 5
  have p6 := xq.cell 6
  have p7 := xq.cell 7
  have p8 := xq.cell 8
  have p9 := xq.cell 9
  simp only [List.getElem?_toArray, List.getElem?_cons_zero, List.getElem?_cons_succ] at p0 p1 p2 p3 p4 p5 p6 p7 p8 p9
  have r0 := xe.cell 0
  have r1 := xe.cell 1
  have r2 := xe.cell 2
  have r3 := xe.cell 3
  have r4 := xe.cell 4
  simp only [List.getElem?_toArray, List.getElem?_cons_zero, List.getElem?_cons_succ] at r0 r1 r2 r3 r4
  clear xq xe
  rw [hEX] at ce
  clear hEX hx
  generalize x.kind = x0 at *
  generalize x.n = x1 at *
  generalize x.name = x2 at *
  generalize x.op = x3 at *
  generalize x.kids.length = x4 at *
  have HP := Lib.hid (show PR = if EX.2 ≠ 0 then (0, EX.2) else bothP op.data.toList EX.1 EY by rw [← hPR, evalE, evalL, evalL, evalL, HEX.out, HEY.out]; unfold combP bothP; rw [if_neg (by omega), if_neg (by omega)]; simp only; rw [if_neg (by omega : ¬ k = 2), if_neg (by omega : ¬ k = 3)])
  clear hk hPR
  rw [hwa] at p0 p1 p2 p3 p4 p5 p6 p7 p8 p9 r0 r1 r2 r3 r4 fk0 fk1 fk2 fk3 fk4
  go_enter Tryd.func23, Tryd.ntmps23
  go_wp2_with fail
  rw [← hwa] at *
  go_region_law (first
    | (go_simp
       go_at_call 23
       (with_reducible refine ce.mono ?_)
       rintro ed w2 ⟨rfl, b2⟩))
  all_goals
    have B2 := via b2 BA
    have XE2 := Lib.hid (XE.out.next b2)
    have XQ2 := Lib.hid (XQ.out.next b2)
    have xe2 := XE2.out
    have HA2 := Lib.hid (HA.out.bel b2)
    have EA2 := Lib.hid (EA.out.bel b2)
    clear ce p0 p1 p2 p3 p4 p5 p6 p7 p8 p9 r0 r1 r2 r3 r4 fk0 fk1 fk2 fk3 fk4 b2
    have r0 := xe2.cell 0
    have r1 := xe2.cell 1
    have r2 := xe2.cell 2
    have r3 := xe2.cell 3
    have r4 := xe2.cell 4
    simp only [List.getElem?_toArray, List.getElem?_cons_zero, List.getElem?_cons_succ] at r0 r1 r2 r3 r4
    clear xe2
    by_cases hg : EX.2 = 0
    rotate_left
    · have g1 : (EX.2 == 0) = false := by simpa using hg
      have g2 : (EX.2 != 0) = true := by simpa using hg
      have HP2 := Lib.hid (show PR = (0, EX.2) by rw [HP.out, if_pos hg])
      clear hg
      go_wp2
      first | go_ret2 | go_returns
      exact ⟨by rw [HP2.out] <;> rfl, B2⟩
    · have g1 : (EX.2 == 0) = true := by simpa using hg
      have g2 : (EX.2 != 0) = false := by simpa using hg
      have HP2 := Lib.hid (show PR = bothP op.data.toList EX.1 EY by rw [HP.out, if_neg (by simpa using hg)])
      by_cases a0 : EX.1 = 0
      · have a1 : (EX.1 == 0) = true := by simpa using a0
        have a2 : (EX.1 != 0) = false := by simpa using a0
        have HP3 := Lib.hid (show PR = (0, 0) by rw [HP2.out]; unfold bothP; rw [if_pos ⟨HO.out, a0⟩])
        clear a0 hg
        go_wp2
        first | go_ret2 | go_returns
        exact ⟨by rw [HP3.out] <;> rfl, B2⟩
      · have a1 : (EX.1 == 0) = false := by simpa using a0
        have a2 : (EX.1 != 0) = true := by simpa using a0
        have HP3 := Lib.hid (show PR = if EY.2 ≠ 0 then (0, EY.2) else (bitP (EY.1 != 0), 0) by rw [HP2.out]; unfold bothP; simp [HO.out, a0])
        clear a0 hg
        have xk := XE2.out
        obtain ⟨gk9, ok9, A3, c3, hge, hk0, hc0⟩ := HA2.out.kid_ (i := 1) (by simp)
        injection hge with hge
        injection hge with hge1 hge2
        subst hge1 hge2
        have hk : Et w2 K (y) (exC (y).kind (y).n (y).name (y).op A3 (y).kids.length c3) := hk0
        have hc : ∀ j u, (exC (y).kind (y).n (y).name (y).op A3 (y).kids.length c3)[j]? = some u → w2.cell? ⟨g0, o0 + 1 * 5 + j, none⟩ = some u := hc0
        clear hk0 hc0
        have fk0 := hc 0 _ rfl
        have fk1 := hc 1 _ rfl
        have fk2 := hc 2 _ rfl
        have fk3 := hc 3 _ rfl
        have fk4 := hc 4 _ rfl
        simp only [Nat.add_zero, Nat.zero_mul, Nat.one_mul] at fk0 fk1 fk2 fk3 fk4
        clear hc
        have ce0 := HY.out w2.drew _ EA2.out.drew hk.drew
        have ce : Calls Tryd.prog 23 #[.agg (exC (y).kind (y).n (y).name (y).op A3 (y).kids.length c3).toArray, .slice A n c, .agg #[.string q.s0, .string q.s1, .string q.s2, .string q.s3, .string q.s4, .string q.s5, .string q.s6, .string q.s7, .string q.s8, .string q.s9]] w2.drew fun ed w' => ed = .returned (tup (evalE (numV l q.list) (y))) ∧ Below w2.heap.size w2 w' :=
          ce0.mono (fun ed w' ⟨h1, hb⟩ => ⟨h1, ⟨hb.os, hb.tape, hb.output, hb.size, hb.block⟩⟩)
        clear ce0 hk
        have xq := XQ2.out
        have xe := XE2.out
        have p0 := xq.cell 0
        have p1 := xq.cell 1
        have p2 := xq.cell 2
        have p3 := xq.cell 3
        have p4 := xq.cell 4
        have p5 := xq.cell 5
        have p6 := xq.cell 6
        have p7 := xq.cell 7
        have p8 := xq.cell 8
        have p9 := xq.cell 9
        simp only [List.getElem?_toArray, List.getElem?_cons_zero, List.getElem?_cons_succ] at p0 p1 p2 p3 p4 p5 p6 p7 p8 p9
        have r0 := xe.cell 0
        have r1 := xe.cell 1
        have r2 := xe.cell 2
        have r3 := xe.cell 3
        have r4 := xe.cell 4
        simp only [List.getElem?_toArray, List.getElem?_cons_zero, List.getElem?_cons_succ] at r0 r1 r2 r3 r4
        clear xq xe
        rw [HEY.out] at ce
        generalize y.kind = y0 at *
        generalize y.n = y1 at *
        generalize y.name = y2 at *
        generalize y.op = y3 at *
        generalize y.kids.length = y4 at *
        go_wp2_with fail
        go_region_law (first
          | (go_simp
             go_at_call 23
             (with_reducible refine ce.mono ?_)
             rintro ed w4 ⟨rfl, b4⟩))
        all_goals
          have B4 := via b4 B2
          have xe4 := XE2.out.next b4
          clear ce p0 p1 p2 p3 p4 p5 p6 p7 p8 p9 r0 r1 r2 r3 r4 fk0 fk1 fk2 fk3 fk4 b4
          have r0 := xe4.cell 0
          have r1 := xe4.cell 1
          have r2 := xe4.cell 2
          have r3 := xe4.cell 3
          have r4 := xe4.cell 4
          simp only [List.getElem?_toArray, List.getElem?_cons_zero, List.getElem?_cons_succ] at r0 r1 r2 r3 r4
          by_cases hg2 : EY.2 = 0
          rotate_left
          · have g3 : (EY.2 == 0) = false := by simpa using hg2
            have g4 : (EY.2 != 0) = true := by simpa using hg2
            have HP4 := Lib.hid (show PR = (0, EY.2) by rw [HP3.out, if_pos hg2])
            clear hg2
            go_wp2
            first | go_ret2 | go_returns
            exact ⟨by rw [HP4.out] <;> rfl, B4⟩
          · have g3 : (EY.2 == 0) = true := by simpa using hg2
            have g4 : (EY.2 != 0) = false := by simpa using hg2
            have HP4 := Lib.hid (show PR = (bitP (EY.1 != 0), 0) by rw [HP3.out, if_neg (by simpa using hg2)])
            have cb := fun W => rbit_c (EY.1 != 0) W
            generalize bitP (EY.1 != 0) = BT at *
            clear hg2
            go_wp2_with fail
            (with_reducible refine (cb _).mono ?_)
            rintro ed w5 ⟨rfl, rfl⟩
            go_wp2_with fail
            first | go_ret2 | go_returns
            exact ⟨by rw [HP4.out] <;> rfl, B4⟩
set_option maxHeartbeats 6400000 in
set_option maxRecDepth 100000 in
theorem reval_or {K : Nat → Prop} (A : Option Addr) (n c : Nat) (l : List Vr) (q : Cu) (k n0 : Int) (nm op : ByteArray) (x y : Ex) (E : Option Addr) (m : Nat) (w : World) (he : Env A n l q w) (h : Et w K (.mk k n0 nm op [x, y]) (exC k n0 nm op E 2 m)) (hk : k = 4) (hx : REvalC K A n c l q x) (hfx : CalP.I64 (evalE (numV l q.list) x).1) (hy : REvalC K A n c l q y) (hfy : CalP.I64 (evalE (numV l q.list) y).1) (ho : op.data.toList = [124, 124]) :
    Calls Tryd.prog 23 #[.agg (exC k n0 nm op E 2 m).toArray, .slice A n c, .agg #[.string q.s0, .string q.s1, .string q.s2, .string q.s3, .string q.s4, .string q.s5, .string q.s6, .string q.s7, .string q.s8, .string q.s9]] w fun ed w' => ed = .returned (tup (evalE (numV l q.list) (.mk k n0 nm op [x, y]))) ∧ Below w.heap.size w w' := by
  obtain ⟨wa, hwa⟩ : ∃ z : World, z = (w.alloc (.cells (exC k n0 nm op E 2 m).toArray 24)).alloc (.cells ([.string q.s0, .string q.s1, .string q.s2, .string q.s3, .string q.s4, .string q.s5, .string q.s6, .string q.s7, .string q.s8, .string q.s9] : List Value).toArray 34) := ⟨_, rfl⟩
  have BA : Below w.heap.size w wa := by rw [hwa]; go_grown
  have XE := Lib.hid (show Blk wa w.heap.size 24 (exC k n0 nm op E 2 m).toArray by rw [hwa]; exact (Blk.new _ _ _).alloc _)
  have XQ := Lib.hid (show Blk wa (w.heap.size + 1) 34 ([.string q.s0, .string q.s1, .string q.s2, .string q.s3, .string q.s4, .string q.s5, .string q.s6, .string q.s7, .string q.s8, .string q.s9] : List Value).toArray by rw [hwa]; exact Blk.new1 _ _ _ _)
  have EA := Lib.hid (he.bel BA)
  have HA := Lib.hid (h.bel BA)
  clear he h
  have e0 : (k == 0) = false := by rw [hk]; decide
  have e1 : (k == 1) = false := by rw [hk]; decide
  have e2 : (k == 2) = false := by rw [hk]; decide
  have e3 : (k == 3) = false := by rw [hk]; decide
  have e4 : (k == 4) = true := by rw [hk]; decide
  obtain ⟨PR, hPR⟩ : ∃ P, evalE (numV l q.list) (.mk k n0 nm op [x, y]) = P := ⟨_, rfl⟩
  rw [hPR]
  have HY := Lib.hid hy
  obtain ⟨EY, hEY⟩ : ∃ Y, evalE (numV l q.list) y = Y := ⟨_, rfl⟩
  rw [hEY] at hfy
  have HEY := Lib.hid hEY
  have tl : op.toList = op.data.toList := Lib.toList_data _
  have t1 : (op.toList == [38, 38]) = false := by rw [tl, ho]; decide
  have t2 : (op.toList == [124, 124]) = true := by rw [tl, ho]; decide
  have HO := Lib.hid ho
  clear ho
  clear hEY hy tl
  obtain ⟨EX, hEX⟩ : ∃ X, evalE (numV l q.list) x = X := ⟨_, rfl⟩
  rw [hEX] at hfx
  have HEX := Lib.hid hEX
  obtain ⟨g0, o0, A2, c2, rfl, hk0, hc0⟩ := HA.out.kid_ (i := 0) (by simp)
  have hk : Et wa K (x) (exC (x).kind (x).n (x).name (x).op A2 (x).kids.length c2) := hk0
  have hc : ∀ j u, (exC (x).kind (x).n (x).name (x).op A2 (x).kids.length c2)[j]? = some u → wa.cell? ⟨g0, o0 + 0 * 5 + j, none⟩ = some u := hc0
  clear hk0 hc0
  have fk0 := hc 0 _ rfl
  have fk1 := hc 1 _ rfl
  have fk2 := hc 2 _ rfl
  have fk3 := hc 3 _ rfl
  have fk4 := hc 4 _ rfl
  simp only [Nat.add_zero, Nat.zero_mul, Nat.one_mul] at fk0 fk1 fk2 fk3 fk4
  clear hc
  have ce0 := hx wa.drew _ EA.out.drew hk.drew
  have ce : Calls Tryd.prog 23 #[.agg (exC (x).kind (x).n (x).name (x).op A2 (x).kids.length c2).toArray, .slice A n c, .agg #[.string q.s0, .string q.s1, .string q.s2, .string q.s3, .string q.s4, .string q.s5, .string q.s6, .string q.s7, .string q.s8, .string q.s9]] wa.drew fun ed w' => ed = .returned (tup (evalE (numV l q.list) (x))) ∧ Below wa.heap.size wa w' :=
    ce0.mono (fun ed w' ⟨h1, hb⟩ => ⟨h1, ⟨hb.os, hb.tape, hb.output, hb.size, hb.block⟩⟩)
  clear ce0 hk
  have xq := XQ.out
  have xe := XE.out
  have p0 := xq.cell 0
  have p1 := xq.cell 1
  have p2 := xq.cell 2
  have p3 := xq.cell 3
  have p4 := xq.cell 4
  have p5 := xq.cell 5
  have p6 := xq.cell 6
  have p7 := xq.cell 7
  have p8 := xq.cell 8
  have p9 := xq.cell 9
  simp only [List.getElem?_toArray, List.getElem?_cons_zero, List.getElem?_cons_succ] at p0 p1 p2 p3 p4 p5 p6 p7 p8 p9
  have r0 := xe.cell 0
  have r1 := xe.cell 1
  have r2 := xe.cell 2
  have r3 := xe.cell 3
  have r4 := xe.cell 4
  simp only [List.getElem?_toArray, List.getElem?_cons_zero, List.getElem?_cons_succ] at r0 r1 r2 r3 r4
  clear xq xe
  rw [hEX] at ce
  clear hEX hx
  generalize x.kind = x0 at *
  generalize x.n = x1 at *
  generalize x.name = x2 at *
  generalize x.op = x3 at *
  generalize x.kids.length = x4 at *
  have HP := Lib.hid (show PR = if EX.2 ≠ 0 then (0, EX.2) else bothP op.data.toList EX.1 EY by rw [← hPR, evalE, evalL, evalL, evalL, HEX.out, HEY.out]; unfold combP bothP; rw [if_neg (by omega), if_neg (by omega)]; simp only; rw [if_neg (by omega : ¬ k = 2), if_neg (by omega : ¬ k = 3)])
  clear hk hPR
  rw [hwa] at p0 p1 p2 p3 p4 p5 p6 p7 p8 p9 r0 r1 r2 r3 r4 fk0 fk1 fk2 fk3 fk4
  go_enter Tryd.func23, Tryd.ntmps23
  go_wp2_with fail
  rw [← hwa] at *
  go_region_law (first
    | (go_simp
       go_at_call 23
       (with_reducible refine ce.mono ?_)
       rintro ed w2 ⟨rfl, b2⟩))
  all_goals
    have B2 := via b2 BA
    have XE2 := Lib.hid (XE.out.next b2)
    have XQ2 := Lib.hid (XQ.out.next b2)
    have xe2 := XE2.out
    have HA2 := Lib.hid (HA.out.bel b2)
    have EA2 := Lib.hid (EA.out.bel b2)
    clear ce p0 p1 p2 p3 p4 p5 p6 p7 p8 p9 r0 r1 r2 r3 r4 fk0 fk1 fk2 fk3 fk4 b2
    have r0 := xe2.cell 0
    have r1 := xe2.cell 1
    have r2 := xe2.cell 2
    have r3 := xe2.cell 3
    have r4 := xe2.cell 4
    simp only [List.getElem?_toArray, List.getElem?_cons_zero, List.getElem?_cons_succ] at r0 r1 r2 r3 r4
    clear xe2
    by_cases hg : EX.2 = 0
    rotate_left
    · have g1 : (EX.2 == 0) = false := by simpa using hg
      have g2 : (EX.2 != 0) = true := by simpa using hg
      have HP2 := Lib.hid (show PR = (0, EX.2) by rw [HP.out, if_pos hg])
      clear hg
      go_wp2
      first | go_ret2 | go_returns
      exact ⟨by rw [HP2.out] <;> rfl, B2⟩
    · have g1 : (EX.2 == 0) = true := by simpa using hg
      have g2 : (EX.2 != 0) = false := by simpa using hg
      have HP2 := Lib.hid (show PR = bothP op.data.toList EX.1 EY by rw [HP.out, if_neg (by simpa using hg)])
      by_cases a0 : EX.1 = 0
      rotate_left
      · have a1 : (EX.1 == 0) = false := by simpa using a0
        have a2 : (EX.1 != 0) = true := by simpa using a0
        have HP3 := Lib.hid (show PR = (1, 0) by rw [HP2.out]; unfold bothP; simp [HO.out, a0])
        clear a0 hg
        go_wp2
        first | go_ret2 | go_returns
        exact ⟨by rw [HP3.out] <;> rfl, B2⟩
      · have a1 : (EX.1 == 0) = true := by simpa using a0
        have a2 : (EX.1 != 0) = false := by simpa using a0
        have HP3 := Lib.hid (show PR = if EY.2 ≠ 0 then (0, EY.2) else (bitP (EY.1 != 0), 0) by rw [HP2.out]; unfold bothP; simp [HO.out, a0])
        clear a0 hg
        have xk := XE2.out
        obtain ⟨gk9, ok9, A3, c3, hge, hk0, hc0⟩ := HA2.out.kid_ (i := 1) (by simp)
        injection hge with hge
        injection hge with hge1 hge2
        subst hge1 hge2
        have hk : Et w2 K (y) (exC (y).kind (y).n (y).name (y).op A3 (y).kids.length c3) := hk0
        have hc : ∀ j u, (exC (y).kind (y).n (y).name (y).op A3 (y).kids.length c3)[j]? = some u → w2.cell? ⟨g0, o0 + 1 * 5 + j, none⟩ = some u := hc0
        clear hk0 hc0
        have fk0 := hc 0 _ rfl
        have fk1 := hc 1 _ rfl
        have fk2 := hc 2 _ rfl
        have fk3 := hc 3 _ rfl
        have fk4 := hc 4 _ rfl
        simp only [Nat.add_zero, Nat.zero_mul, Nat.one_mul] at fk0 fk1 fk2 fk3 fk4
        clear hc
        have ce0 := HY.out w2.drew _ EA2.out.drew hk.drew
        have ce : Calls Tryd.prog 23 #[.agg (exC (y).kind (y).n (y).name (y).op A3 (y).kids.length c3).toArray, .slice A n c, .agg #[.string q.s0, .string q.s1, .string q.s2, .string q.s3, .string q.s4, .string q.s5, .string q.s6, .string q.s7, .string q.s8, .string q.s9]] w2.drew fun ed w' => ed = .returned (tup (evalE (numV l q.list) (y))) ∧ Below w2.heap.size w2 w' :=
          ce0.mono (fun ed w' ⟨h1, hb⟩ => ⟨h1, ⟨hb.os, hb.tape, hb.output, hb.size, hb.block⟩⟩)
        clear ce0 hk
        have xq := XQ2.out
        have xe := XE2.out
        have p0 := xq.cell 0
        have p1 := xq.cell 1
        have p2 := xq.cell 2
        have p3 := xq.cell 3
        have p4 := xq.cell 4
        have p5 := xq.cell 5
        have p6 := xq.cell 6
        have p7 := xq.cell 7
        have p8 := xq.cell 8
        have p9 := xq.cell 9
        simp only [List.getElem?_toArray, List.getElem?_cons_zero, List.getElem?_cons_succ] at p0 p1 p2 p3 p4 p5 p6 p7 p8 p9
        have r0 := xe.cell 0
        have r1 := xe.cell 1
        have r2 := xe.cell 2
        have r3 := xe.cell 3
        have r4 := xe.cell 4
        simp only [List.getElem?_toArray, List.getElem?_cons_zero, List.getElem?_cons_succ] at r0 r1 r2 r3 r4
        clear xq xe
        rw [HEY.out] at ce
        generalize y.kind = y0 at *
        generalize y.n = y1 at *
        generalize y.name = y2 at *
        generalize y.op = y3 at *
        generalize y.kids.length = y4 at *
        go_wp2_with fail
        go_region_law (first
          | (go_simp
             go_at_call 23
             (with_reducible refine ce.mono ?_)
             rintro ed w4 ⟨rfl, b4⟩))
        all_goals
          have B4 := via b4 B2
          have xe4 := XE2.out.next b4
          clear ce p0 p1 p2 p3 p4 p5 p6 p7 p8 p9 r0 r1 r2 r3 r4 fk0 fk1 fk2 fk3 fk4 b4
          have r0 := xe4.cell 0
          have r1 := xe4.cell 1
          have r2 := xe4.cell 2
          have r3 := xe4.cell 3
          have r4 := xe4.cell 4
          simp only [List.getElem?_toArray, List.getElem?_cons_zero, List.getElem?_cons_succ] at r0 r1 r2 r3 r4
          by_cases hg2 : EY.2 = 0
          rotate_left
          · have g3 : (EY.2 == 0) = false := by simpa using hg2
            have g4 : (EY.2 != 0) = true := by simpa using hg2
            have HP4 := Lib.hid (show PR = (0, EY.2) by rw [HP3.out, if_pos hg2])
            clear hg2
            go_wp2
            first | go_ret2 | go_returns
            exact ⟨by rw [HP4.out] <;> rfl, B4⟩
          · have g3 : (EY.2 == 0) = true := by simpa using hg2
            have g4 : (EY.2 != 0) = false := by simpa using hg2
            have HP4 := Lib.hid (show PR = (bitP (EY.1 != 0), 0) by rw [HP3.out, if_neg (by simpa using hg2)])
            have cb := fun W => rbit_c (EY.1 != 0) W
            generalize bitP (EY.1 != 0) = BT at *
            clear hg2
            go_wp2_with fail
            (with_reducible refine (cb _).mono ?_)
            rintro ed w5 ⟨rfl, rfl⟩
            go_wp2_with fail
            first | go_ret2 | go_returns
            exact ⟨by rw [HP4.out] <;> rfl, B4⟩
set_option maxHeartbeats 6400000 in
set_option maxRecDepth 100000 in
theorem reval_op {K : Nat → Prop} (A : Option Addr) (n c : Nat) (l : List Vr) (q : Cu) (k n0 : Int) (nm op : ByteArray) (x y : Ex) (E : Option Addr) (m : Nat) (w : World) (he : Env A n l q w) (h : Et w K (.mk k n0 nm op [x, y]) (exC k n0 nm op E 2 m)) (hk : k = 4) (hx : REvalC K A n c l q x) (hfx : CalP.I64 (evalE (numV l q.list) x).1) (hy : REvalC K A n c l q y) (hfy : CalP.I64 (evalE (numV l q.list) y).1) (o1 : op.data.toList ≠ [38, 38]) (o2 : op.data.toList ≠ [124, 124]) :
    Calls Tryd.prog 23 #[.agg (exC k n0 nm op E 2 m).toArray, .slice A n c, .agg #[.string q.s0, .string q.s1, .string q.s2, .string q.s3, .string q.s4, .string q.s5, .string q.s6, .string q.s7, .string q.s8, .string q.s9]] w fun ed w' => ed = .returned (tup (evalE (numV l q.list) (.mk k n0 nm op [x, y]))) ∧ Below w.heap.size w w' := by
  obtain ⟨wa, hwa⟩ : ∃ z : World, z = (w.alloc (.cells (exC k n0 nm op E 2 m).toArray 24)).alloc (.cells ([.string q.s0, .string q.s1, .string q.s2, .string q.s3, .string q.s4, .string q.s5, .string q.s6, .string q.s7, .string q.s8, .string q.s9] : List Value).toArray 34) := ⟨_, rfl⟩
  have BA : Below w.heap.size w wa := by rw [hwa]; go_grown
  have XE := Lib.hid (show Blk wa w.heap.size 24 (exC k n0 nm op E 2 m).toArray by rw [hwa]; exact (Blk.new _ _ _).alloc _)
  have XQ := Lib.hid (show Blk wa (w.heap.size + 1) 34 ([.string q.s0, .string q.s1, .string q.s2, .string q.s3, .string q.s4, .string q.s5, .string q.s6, .string q.s7, .string q.s8, .string q.s9] : List Value).toArray by rw [hwa]; exact Blk.new1 _ _ _ _)
  have EA := Lib.hid (he.bel BA)
  have HA := Lib.hid (h.bel BA)
  clear he h
  have e0 : (k == 0) = false := by rw [hk]; decide
  have e1 : (k == 1) = false := by rw [hk]; decide
  have e2 : (k == 2) = false := by rw [hk]; decide
  have e3 : (k == 3) = false := by rw [hk]; decide
  have e4 : (k == 4) = true := by rw [hk]; decide
  obtain ⟨PR, hPR⟩ : ∃ P, evalE (numV l q.list) (.mk k n0 nm op [x, y]) = P := ⟨_, rfl⟩
  rw [hPR]
  have HY := Lib.hid hy
  obtain ⟨EY, hEY⟩ : ∃ Y, evalE (numV l q.list) y = Y := ⟨_, rfl⟩
  rw [hEY] at hfy
  have HEY := Lib.hid hEY
  have tl : op.toList = op.data.toList := Lib.toList_data _
  have t1 : (op.toList == [38, 38]) = false := by rw [tl, beq_eq_false_iff_ne]; exact o1
  have t2 : (op.toList == [124, 124]) = false := by rw [tl, beq_eq_false_iff_ne]; exact o2
  clear hEY hy tl
  obtain ⟨EX, hEX⟩ : ∃ X, evalE (numV l q.list) x = X := ⟨_, rfl⟩
  rw [hEX] at hfx
  have HEX := Lib.hid hEX
  obtain ⟨g0, o0, A2, c2, rfl, hk0, hc0⟩ := HA.out.kid_ (i := 0) (by simp)
  have hk : Et wa K (x) (exC (x).kind (x).n (x).name (x).op A2 (x).kids.length c2) := hk0
  have hc : ∀ j u, (exC (x).kind (x).n (x).name (x).op A2 (x).kids.length c2)[j]? = some u → wa.cell? ⟨g0, o0 + 0 * 5 + j, none⟩ = some u := hc0
  clear hk0 hc0
  have fk0 := hc 0 _ rfl
  have fk1 := hc 1 _ rfl
  have fk2 := hc 2 _ rfl
  have fk3 := hc 3 _ rfl
  have fk4 := hc 4 _ rfl
  simp only [Nat.add_zero, Nat.zero_mul, Nat.one_mul] at fk0 fk1 fk2 fk3 fk4
  clear hc
  have ce0 := hx wa.drew _ EA.out.drew hk.drew
  have ce : Calls Tryd.prog 23 #[.agg (exC (x).kind (x).n (x).name (x).op A2 (x).kids.length c2).toArray, .slice A n c, .agg #[.string q.s0, .string q.s1, .string q.s2, .string q.s3, .string q.s4, .string q.s5, .string q.s6, .string q.s7, .string q.s8, .string q.s9]] wa.drew fun ed w' => ed = .returned (tup (evalE (numV l q.list) (x))) ∧ Below wa.heap.size wa w' :=
    ce0.mono (fun ed w' ⟨h1, hb⟩ => ⟨h1, ⟨hb.os, hb.tape, hb.output, hb.size, hb.block⟩⟩)
  clear ce0 hk
  have xq := XQ.out
  have xe := XE.out
  have p0 := xq.cell 0
  have p1 := xq.cell 1
  have p2 := xq.cell 2
  have p3 := xq.cell 3
  have p4 := xq.cell 4
  have p5 := xq.cell 5
  have p6 := xq.cell 6
  have p7 := xq.cell 7
  have p8 := xq.cell 8
  have p9 := xq.cell 9
  simp only [List.getElem?_toArray, List.getElem?_cons_zero, List.getElem?_cons_succ] at p0 p1 p2 p3 p4 p5 p6 p7 p8 p9
  have r0 := xe.cell 0
  have r1 := xe.cell 1
  have r2 := xe.cell 2
  have r3 := xe.cell 3
  have r4 := xe.cell 4
  simp only [List.getElem?_toArray, List.getElem?_cons_zero, List.getElem?_cons_succ] at r0 r1 r2 r3 r4
  clear xq xe
  rw [hEX] at ce
  clear hEX hx
  generalize x.kind = x0 at *
  generalize x.n = x1 at *
  generalize x.name = x2 at *
  generalize x.op = x3 at *
  generalize x.kids.length = x4 at *
  have HP := Lib.hid (show PR = if EX.2 ≠ 0 then (0, EX.2) else bothP op.data.toList EX.1 EY by rw [← hPR, evalE, evalL, evalL, evalL, HEX.out, HEY.out]; unfold combP bothP; rw [if_neg (by omega), if_neg (by omega)]; simp only; rw [if_neg (by omega : ¬ k = 2), if_neg (by omega : ¬ k = 3)])
  clear hk hPR
  rw [hwa] at p0 p1 p2 p3 p4 p5 p6 p7 p8 p9 r0 r1 r2 r3 r4 fk0 fk1 fk2 fk3 fk4
  go_enter Tryd.func23, Tryd.ntmps23
  go_wp2_with fail
  rw [← hwa] at *
  go_region_law (first
    | (go_simp
       go_at_call 23
       (with_reducible refine ce.mono ?_)
       rintro ed w2 ⟨rfl, b2⟩))
  all_goals
    have B2 := via b2 BA
    have XE2 := Lib.hid (XE.out.next b2)
    have XQ2 := Lib.hid (XQ.out.next b2)
    have xe2 := XE2.out
    have HA2 := Lib.hid (HA.out.bel b2)
    have EA2 := Lib.hid (EA.out.bel b2)
    clear ce p0 p1 p2 p3 p4 p5 p6 p7 p8 p9 r0 r1 r2 r3 r4 fk0 fk1 fk2 fk3 fk4 b2
    have r0 := xe2.cell 0
    have r1 := xe2.cell 1
    have r2 := xe2.cell 2
    have r3 := xe2.cell 3
    have r4 := xe2.cell 4
    simp only [List.getElem?_toArray, List.getElem?_cons_zero, List.getElem?_cons_succ] at r0 r1 r2 r3 r4
    clear xe2
    by_cases hg : EX.2 = 0
    rotate_left
    · have g1 : (EX.2 == 0) = false := by simpa using hg
      have g2 : (EX.2 != 0) = true := by simpa using hg
      have HP2 := Lib.hid (show PR = (0, EX.2) by rw [HP.out, if_pos hg])
      clear hg
      go_wp2
      first | go_ret2 | go_returns
      exact ⟨by rw [HP2.out] <;> rfl, B2⟩
    · have g1 : (EX.2 == 0) = true := by simpa using hg
      have g2 : (EX.2 != 0) = false := by simpa using hg
      have HP2 := Lib.hid (show PR = bothP op.data.toList EX.1 EY by rw [HP.out, if_neg (by simpa using hg)])
      have co := fun W => rop_c op EX.1 EY.1 W hfx.1 hfx.2 hfy.1 hfy.2
      have HP3 := Lib.hid (show PR = if EY.2 ≠ 0 then (0, EY.2) else opP op.data.toList EX.1 EY.1 by rw [HP2.out]; unfold bothP; simp [o1, o2])
      generalize opP op.data.toList EX.1 EY.1 = OP at *
      clear hg
      have xk := XE2.out
      obtain ⟨gk9, ok9, A3, c3, hge, hk0, hc0⟩ := HA2.out.kid_ (i := 1) (by simp)
      injection hge with hge
      injection hge with hge1 hge2
      subst hge1 hge2
      have hk : Et w2 K (y) (exC (y).kind (y).n (y).name (y).op A3 (y).kids.length c3) := hk0
      have hc : ∀ j u, (exC (y).kind (y).n (y).name (y).op A3 (y).kids.length c3)[j]? = some u → w2.cell? ⟨g0, o0 + 1 * 5 + j, none⟩ = some u := hc0
      clear hk0 hc0
      have fk0 := hc 0 _ rfl
      have fk1 := hc 1 _ rfl
      have fk2 := hc 2 _ rfl
      have fk3 := hc 3 _ rfl
      have fk4 := hc 4 _ rfl
      simp only [Nat.add_zero, Nat.zero_mul, Nat.one_mul] at fk0 fk1 fk2 fk3 fk4
      clear hc
      have ce0 := HY.out w2.drew _ EA2.out.drew hk.drew
      have ce : Calls Tryd.prog 23 #[.agg (exC (y).kind (y).n (y).name (y).op A3 (y).kids.length c3).toArray, .slice A n c, .agg #[.string q.s0, .string q.s1, .string q.s2, .string q.s3, .string q.s4, .string q.s5, .string q.s6, .string q.s7, .string q.s8, .string q.s9]] w2.drew fun ed w' => ed = .returned (tup (evalE (numV l q.list) (y))) ∧ Below w2.heap.size w2 w' :=
        ce0.mono (fun ed w' ⟨h1, hb⟩ => ⟨h1, ⟨hb.os, hb.tape, hb.output, hb.size, hb.block⟩⟩)
      clear ce0 hk
      have xq := XQ2.out
      have xe := XE2.out
      have p0 := xq.cell 0
      have p1 := xq.cell 1
      have p2 := xq.cell 2
      have p3 := xq.cell 3
      have p4 := xq.cell 4
      have p5 := xq.cell 5
      have p6 := xq.cell 6
      have p7 := xq.cell 7
      have p8 := xq.cell 8
      have p9 := xq.cell 9
      simp only [List.getElem?_toArray, List.getElem?_cons_zero, List.getElem?_cons_succ] at p0 p1 p2 p3 p4 p5 p6 p7 p8 p9
      have r0 := xe.cell 0
      have r1 := xe.cell 1
      have r2 := xe.cell 2
      have r3 := xe.cell 3
      have r4 := xe.cell 4
      simp only [List.getElem?_toArray, List.getElem?_cons_zero, List.getElem?_cons_succ] at r0 r1 r2 r3 r4
      clear xq xe
      rw [HEY.out] at ce
      generalize y.kind = y0 at *
      generalize y.n = y1 at *
      generalize y.name = y2 at *
      generalize y.op = y3 at *
      generalize y.kids.length = y4 at *
      go_wp2_with fail
      go_region_law (first
        | (go_simp
           go_at_call 23
           (with_reducible refine ce.mono ?_)
           rintro ed w4 ⟨rfl, b4⟩))
      all_goals
        have B4 := via b4 B2
        have xe4 := XE2.out.next b4
        clear ce p0 p1 p2 p3 p4 p5 p6 p7 p8 p9 r0 r1 r2 r3 r4 fk0 fk1 fk2 fk3 fk4 b4
        have r0 := xe4.cell 0
        have r1 := xe4.cell 1
        have r2 := xe4.cell 2
        have r3 := xe4.cell 3
        have r4 := xe4.cell 4
        simp only [List.getElem?_toArray, List.getElem?_cons_zero, List.getElem?_cons_succ] at r0 r1 r2 r3 r4
        by_cases hg2 : EY.2 = 0
        rotate_left
        · have g3 : (EY.2 == 0) = false := by simpa using hg2
          have g4 : (EY.2 != 0) = true := by simpa using hg2
          have HP4 := Lib.hid (show PR = (0, EY.2) by rw [HP3.out, if_pos hg2])
          clear hg2
          go_wp2
          first | go_ret2 | go_returns
          exact ⟨by rw [HP4.out] <;> rfl, B4⟩
        · have g3 : (EY.2 == 0) = true := by simpa using hg2
          have g4 : (EY.2 != 0) = false := by simpa using hg2
          have HP4 := Lib.hid (show PR = OP by rw [HP3.out, if_neg (by simpa using hg2)])
          clear hg2
          go_wp2_with fail
          (with_reducible refine (co _).mono ?_)
          rintro ed w5 ⟨rfl, rfl⟩
          go_wp2_with fail
          first | go_ret2 | go_returns
          exact ⟨by rw [HP4.out] <;> rfl, B4⟩
theorem reval_c {K : Nat → Prop} (A : Option Addr) (n c : Nat) (l : List Vr) (q : Cu) : ∀ (N : Nat) (r : Ex), nodesE r ≤ N → ∀ d, rightE r d = true → REvalC K A n c l q r := by
  intro N
  induction N with
  | zero => intro r h; have := nodes_pos r; omega
  | succ N ih =>
    intro r hN d hr w cs he h
    obtain ⟨k, n0, nm, op, kids⟩ := r
    obtain ⟨E, m, rfl⟩ := h.shape
    obtain ⟨hok, hlen, hrl⟩ := right_parts hr
    rw [nodesE] at hN
    have hfit : fitE (.mk k n0 nm op kids) := et_fit h
    rw [fitE] at hfit
    have hi64 : ∀ x, fitE x → CalP.I64 (evalE (numV l q.list) x).1 := fun x hx => eval_i64 (fun s => numV_i64 l q.list s) x hx
    rcases kind_of hok with hk | hk | hk | hk | hk
    · have h0 : kids.length = 0 := by rw [hlen, hk]; rfl
      have h1 : kids = [] := List.eq_nil_of_length_eq_zero h0
      subst h1
      exact reval_0 A n c l q k n0 nm op E m w he h hk
    · have h0 : kids.length = 0 := by rw [hlen, hk]; rfl
      have h1 : kids = [] := List.eq_nil_of_length_eq_zero h0
      subst h1
      exact reval_1 A n c l q k n0 nm op E m w he h hk
    · have h0 : kids.length = 1 := by rw [hlen, hk]; rfl
      match kids, h0 with
      | [x], _ =>
        simp only [nodesL] at hN
        rw [rightL, rightL, Bool.and_eq_true] at hrl
        rw [fitL] at hfit
        exact reval_2 A n c l q k n0 nm op x E m w he h hk (ih x (by omega) (d + 1) hrl.1) (hi64 x hfit.2.1)
    · have h0 : kids.length = 1 := by rw [hlen, hk]; rfl
      match kids, h0 with
      | [x], _ =>
        simp only [nodesL] at hN
        rw [rightL, rightL, Bool.and_eq_true] at hrl
        rw [fitL] at hfit
        exact reval_3 A n c l q k n0 nm op x E m w he h hk (ih x (by omega) (d + 1) hrl.1) (hi64 x hfit.2.1)
    · have h0 : kids.length = 2 := by rw [hlen, hk]; rfl
      match kids, h0 with
      | [x, y], _ =>
        simp only [nodesL] at hN
        rw [rightL, rightL, rightL, Bool.and_eq_true, Bool.and_eq_true] at hrl
        rw [fitL, fitL] at hfit
        by_cases o1 : op.data.toList = [38, 38]
        · exact reval_and A n c l q k n0 nm op x y E m w he h hk (ih x (by omega) (d + 1) hrl.1) (hi64 x hfit.2.1) (ih y (by omega) (d + 1) hrl.2.1) (hi64 y hfit.2.2.1) o1
        by_cases o2 : op.data.toList = [124, 124]
        · exact reval_or A n c l q k n0 nm op x y E m w he h hk (ih x (by omega) (d + 1) hrl.1) (hi64 x hfit.2.1) (ih y (by omega) (d + 1) hrl.2.1) (hi64 y hfit.2.2.1) o2
        · exact reval_op A n c l q k n0 nm op x y E m w he h hk (ih x (by omega) (d + 1) hrl.1) (hi64 x hfit.2.1) (ih y (by omega) (d + 1) hrl.2.1) (hi64 y hfit.2.2.1) o1 o2
theorem rmay_c {K : Nat → Prop} : ∀ (N : Nat) (r : Ex), nodesE r ≤ N → ∀ (w : World) (cs : List Value) (d : Nat), Et w K r cs → shortE r → d ≤ 64 →
    Calls Tryd.prog 22 #[.agg cs.toArray, .int .i64 d] w fun x w' => x = .returned (.bool (rightE r d)) ∧ Below w.heap.size w w' := by
  intro N
  induction N with
  | zero => intro r h; have := nodes_pos r; omega
  | succ N ih =>
    intro r hN w cs d h hs hd
    obtain ⟨k, n, nm, op, kids⟩ := r
    obtain ⟨A, c, rfl⟩ := h.shape
    rw [shortE] at hs
    rw [nodesE] at hN
    refine rmay_step k n nm op kids A c w d h hs.1 hd (fun i hi W cs2 h2 hd2 => ?_)
    exact ih _ (by have := nodes_kid kids i hi; omega) W cs2 (d + 1) h2 (short_kid kids i hi hs.2.2) hd2
set_option maxHeartbeats 3200000 in
set_option maxRecDepth 100000 in
theorem REval_c {K : Nat → Prop} (A : Option Addr) (n c : Nat) (l : List Vr) (q : Cu) (r : Ex) (cs : List Value) (w : World) (he : Env A n l q w) (h : Et w K r cs) (hs : shortE r) :
    Calls Tryd.prog 12 #[.agg cs.toArray, .slice A n c, .agg #[.string q.s0, .string q.s1, .string q.s2, .string q.s3, .string q.s4, .string q.s5, .string q.s6, .string q.s7, .string q.s8, .string q.s9]] w fun x w' => x = .returned (tup (valE l q r)) ∧ Below w.heap.size w w' := by
  obtain ⟨E, m, rfl⟩ := h.shape
  obtain ⟨PR, hPR⟩ : ∃ P, valE l q r = P := ⟨_, rfl⟩
  rw [hPR]
  obtain ⟨wa, hwa⟩ : ∃ z : World, z = (w.alloc (.cells (exC r.kind r.n r.name r.op E r.kids.length m).toArray 24)).alloc (.cells ([.string q.s0, .string q.s1, .string q.s2, .string q.s3, .string q.s4, .string q.s5, .string q.s6, .string q.s7, .string q.s8, .string q.s9] : List Value).toArray 34) := ⟨_, rfl⟩
  have BA : Below w.heap.size w wa := by rw [hwa]; go_grown
  have XE := Lib.hid (show Blk wa w.heap.size 24 (exC r.kind r.n r.name r.op E r.kids.length m).toArray by rw [hwa]; exact (Blk.new _ _ _).alloc _)
  have XQ := Lib.hid (show Blk wa (w.heap.size + 1) 34 ([.string q.s0, .string q.s1, .string q.s2, .string q.s3, .string q.s4, .string q.s5, .string q.s6, .string q.s7, .string q.s8, .string q.s9] : List Value).toArray by rw [hwa]; exact Blk.new1 _ _ _ _)
  have cm := rmay_c (nodesE r) r (Nat.le_refl _) wa _ 0 (h.bel BA) hs (by omega)
  rw [show ((0 : Nat) : Int) = 0 from rfl] at cm
  have hev := fun (hr : rightE r 0 = true) W (hb : Below wa.heap.size wa W) => reval_c A n c l q (nodesE r) r (Nat.le_refl _) 0 hr W _ ((he.bel BA).bel hb) ((h.bel BA).bel hb)
  clear he h
  generalize hEV : evalE (numV l q.list) r = EV at *
  have hPR2 : PR = if rightE r 0 then EV else (0, 5) := by rw [← hPR, ← hEV]; rfl
  clear hPR hEV
  have HEV := Lib.hid hev
  clear hev
  generalize r.kind = x0 at *
  generalize r.n = x1 at *
  generalize r.name = x2 at *
  generalize r.op = x3 at *
  generalize r.kids.length = x4 at *
  cases hr : rightE r 0
  · have HP := Lib.hid (show PR = (0, 5) by rw [hPR2, hr]; rfl)
    rw [hr] at cm
    clear hPR2 HEV hr
    go_enter Tryd.func12, Tryd.ntmps12
    go_wp2_with fail
    rw [← hwa]
    clear hwa
    (with_reducible refine cm.mono ?_)
    rintro x w2 ⟨rfl, b2⟩
    have B2 := via b2 BA
    go_wp2
    first | go_ret2 | go_returns
    exact ⟨by rw [HP.out] <;> rfl, B2⟩
  · have HP := Lib.hid (show PR = EV by rw [hPR2, hr]; rfl)
    rw [hr] at cm
    have HEV2 := Lib.hid (HEV.out hr)
    clear hPR2 HEV hr
    go_enter Tryd.func12, Tryd.ntmps12
    go_wp2_with fail
    rw [← hwa]
    clear hwa
    (with_reducible refine cm.mono ?_)
    rintro x w2 ⟨rfl, b2⟩
    have B2 := via b2 BA
    have xe2 := XE.out.next b2
    have xq2 := XQ.out.next b2
    have ce := HEV2.out w2 b2
    have r0 := xe2.cell 0
    have r1 := xe2.cell 1
    have r2 := xe2.cell 2
    have r3 := xe2.cell 3
    have r4 := xe2.cell 4
    simp only [List.getElem?_toArray, List.getElem?_cons_zero, List.getElem?_cons_succ] at r0 r1 r2 r3 r4
    have p0 := xq2.cell 0
    have p1 := xq2.cell 1
    have p2 := xq2.cell 2
    have p3 := xq2.cell 3
    have p4 := xq2.cell 4
    have p5 := xq2.cell 5
    have p6 := xq2.cell 6
    have p7 := xq2.cell 7
    have p8 := xq2.cell 8
    have p9 := xq2.cell 9
    simp only [List.getElem?_toArray, List.getElem?_cons_zero, List.getElem?_cons_succ] at p0 p1 p2 p3 p4 p5 p6 p7 p8 p9
    go_wp2_with fail
    (with_reducible refine ce.mono ?_)
    rintro x w3 ⟨rfl, b3⟩
    have B3 := via b3 B2
    go_wp2
    first | go_ret2 | go_returns
    exact ⟨by rw [HP.out] <;> rfl, B3⟩
end CalW
end Go.Proofs.YtledgkplddeghaaDoor
