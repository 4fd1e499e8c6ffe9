/- What a sum comes to: number, both, eval. Conditions: trees that may be; texts that fit. -/
import Derived.Test.YtledgkplddeghaaDoorCalN
import Derived.Test.YtledgkplddeghaaDoorCalM
import Derived.Deep.RegionLaw
namespace Go.Proofs.YtledgkplddeghaaDoor
set_option linter.unusedVariables false
set_option linter.unusedSimpArgs false
open Go.RowKit
namespace CalW
open CalP QuoP MemP MemW
theorem pr_tup (l : List UInt8) : NumW.pr l = tup (numP l) := by
  unfold NumW.pr numP
  by_cases h : NumP.formB l = true
  · rw [if_pos h, if_pos h, res_tup]
  · rw [if_neg h, if_neg h]
/-- Where names are looked up. -/
structure Env (A : Option Addr) (n : Nat) (l : List Vr) (q : Cu) (w : World) : Prop where
  vr : Vrs w w.heap.size A n l
  hn : n ≤ 4611686018427387904
  rdy : NumW.Rdy w
  fit : ∀ p ∈ l, p.2.size ≤ 60
  cut : ∀ s ∈ q.list, s.size ≤ 60
theorem Env.bel {A : Option Addr} {n : Nat} {l : List Vr} {q : Cu} {w w' : World} (h : Env A n l q w) (hb : Below w.heap.size w w') : Env A n l q w' := ⟨(h.vr.below hb).more hb.size, h.hn, h.rdy.below hb, h.fit, h.cut⟩
theorem Env.drew {A : Option Addr} {n : Nat} {l : List Vr} {q : Cu} {w : World} (h : Env A n l q w) : Env A n l q w.drew := ⟨h.vr, h.hn, ⟨h.rdy.tab, h.rdy.err, h.rdy.room⟩, h.fit, h.cut⟩
theorem get_mem' : ∀ {l : List Vr} {nm v : ByteArray}, getV l nm = some v → ∃ p ∈ l, p.2 = v
  | [], nm, v, h => by cases h
  | p :: r, nm, v, h => by
    rw [getV] at h
    split at h
    · injection h with h; exact ⟨p, List.mem_cons_self .., h⟩
    · obtain ⟨p2, h1, h2⟩ := get_mem' h; exact ⟨p2, List.mem_cons_of_mem _ h1, h2⟩
theorem name_fit {l : List Vr} {q : Cu} {nm v : ByteArray} (hf : ∀ p ∈ l, p.2.size ≤ 60) (hc : ∀ s ∈ q.list, s.size ≤ 60) (h : nameV l q.list nm = .ok v) : v.size ≤ 60 := by
  have hg : ∀ {v : ByteArray}, getV l nm = some v → v.size ≤ 60 := fun h => by obtain ⟨p, hp, rfl⟩ := get_mem' h; exact hf p hp
  unfold nameV at h
  split at h
  · split at h
    · injection h with h
      rename_i c _ _
      by_cases hi : c.toNat - 48 < q.list.length
      · rw [← h, List.getD_eq_getElem?_getD, List.getElem?_eq_getElem hi]; exact hc _ (List.getElem_mem hi)
      · rw [← h, List.getD_eq_getElem?_getD, List.getElem?_eq_none (by omega)]; decide
    · split at h
      · cases h
      · injection h with h; rename_i v' hv; rw [← h]; exact hg hv
  · split at h
    · cases h
    · injection h with h; rename_i v' hv; rw [← h]; exact hg hv
set_option maxHeartbeats 1600000 in
set_option maxRecDepth 100000 in
theorem number_c (A : Option Addr) (n c : Nat) (l : List Vr) (q : Cu) (nm : ByteArray) (w : World) (he : Env A n l q w) :
    Calls Tryd.prog 32 #[.agg #[.slice A n c, .string q.s0, .string q.s1, .string q.s2, .string q.s3, .string q.s4, .string q.s5, .string q.s6, .string q.s7, .string q.s8, .string q.s9], .string nm] w fun x w' => x = .returned (tup (numV l q.list nm)) ∧ Below w.heap.size w w' := by
  obtain ⟨wa, hwa⟩ : ∃ z : World, z = w.alloc (.cells ([.slice A n c, .string q.s0, .string q.s1, .string q.s2, .string q.s3, .string q.s4, .string q.s5, .string q.s6, .string q.s7, .string q.s8, .string q.s9] : List Value).toArray 57) := ⟨_, rfl⟩
  have BA : Below w.heap.size w wa := by rw [hwa]; go_grown
  have EA := he.bel BA
  have cn := name_c A n c l q nm wa EA.vr EA.hn
  unfold NamePost at cn
  obtain ⟨PR, hPR⟩ : ∃ P, numV l q.list nm = P := ⟨_, rfl⟩
  rw [hPR]
  have HPR := Lib.hid hPR
  have HE := Lib.hid EA
  clear hPR he EA
  go_enter Tryd.func32, Tryd.ntmps32
  go_wp2_with fail
  rw [← hwa]
  clear hwa
  (with_reducible refine cn.mono ?_)
  rintro x w2 ⟨b2, ⟨v, hv, rfl⟩ | ⟨hv, rfl⟩⟩
  rotate_left
  · have HP := Lib.hid (show PR = (0, 6) by rw [← HPR.out]; unfold numV; rw [hv])
    have B2 := via b2 BA
    go_wp2_with fail
    go_ret2
    exact ⟨by rw [HP.out] <;> rfl, B2⟩
  have B2 := via b2 BA
  have E2 := HE.out.bel b2
  have hvs := name_fit HE.out.fit HE.out.cut hv
  have cp := NumW.parse_c v w2 (by omega) E2.rdy
  rw [pr_tup] at cp
  have HP := Lib.hid (show PR = if (numP v.data.toList).2 = 1 then (0, 7) else numP v.data.toList by rw [← HPR.out]; unfold numV; rw [hv])
  clear HPR hv E2 b2 cn
  obtain ⟨RP, hRP⟩ : ∃ R, numP v.data.toList = R := ⟨_, rfl⟩
  rw [hRP] at cp HP
  clear hRP hvs
  obtain ⟨r1, r2⟩ := RP
  simp only at HP
  by_cases h1 : r2 = 1
  · have t1 : (r2 == 1) = true := by simpa using h1
    have HP2 := Lib.hid (show PR = (0, 7) by rw [HP.out, if_pos h1])
    clear h1 HP
    go_wp2_with fail
    (with_reducible refine cp.mono ?_)
    rintro x w3 ⟨rfl, b3⟩
    have B3 := via b3 B2
    go_wp2_with fail
    go_ret2
    exact ⟨by rw [HP2.out] <;> rfl, B3⟩
  · have t1 : (r2 == 1) = false := by simpa using h1
    have HP2 := Lib.hid (show PR = (r1, r2) by rw [HP.out, if_neg h1])
    clear h1 HP
    go_wp2_with fail
    (with_reducible refine cp.mono ?_)
    rintro x w3 ⟨rfl, b3⟩
    have B3 := via b3 B2
    go_wp2_with fail
    go_ret2
    exact ⟨by rw [HP2.out] <;> rfl, B3⟩
/-- What eval does at such an expression. -/
def EvalC (K : Nat → Prop) (A : Option Addr) (n c : Nat) (l : List Vr) (q : Cu) (r : Ex) : Prop := ∀ (w : World) (cs : List Value), Env A n l q w → Et w K r cs →
  Calls Tryd.prog 21 #[.agg #[.slice A n c, .string q.s0, .string q.s1, .string q.s2, .string q.s3, .string q.s4, .string q.s5, .string q.s6, .string q.s7, .string q.s8, .string q.s9], .agg cs.toArray] w fun x w' => x = .returned (tup (evalE (numV l q.list) r)) ∧ Below w.heap.size w w'
theorem Et.drew {w : World} {K : Nat → Prop} {r : Ex} {cs : List Value} (h : Et w K r cs) : Et w.drew K r cs := h.keep (fun _ hb => hb) (fun _ _ _ => rfl)
/-- What both comes to. -/
def bothP (op : List UInt8) (a : Int) (y : Int × Int) : Int × Int :=
  if op = [38, 38] ∧ a = 0 then (0, 0) else if op = [124, 124] ∧ a ≠ 0 then (1, 0)
  else if y.2 ≠ 0 then (0, y.2) else if op = [38, 38] ∨ op = [124, 124] then (bitP (y.1 != 0), 0) else opP op a y.1
set_option maxHeartbeats 6400000 in
set_option maxRecDepth 100000 in
theorem both_c {K : Nat → Prop} (A : Option Addr) (n c : Nat) (l : List Vr) (q : Cu) (k n0 : Int) (nm op : ByteArray) (x y : Ex) (E : Option Addr) (m : Nat) (a : Int) (w : World) (he : Env A n l q w) (h : Et w K (.mk k n0 nm op [x, y]) (exC k n0 nm op E 2 m)) (ha : CalP.I64 a)
    (hy : EvalC K A n c l q y) (hfy : CalP.I64 (evalE (numV l q.list) y).1) :
    Calls Tryd.prog 35 #[.agg #[.slice A n c, .string q.s0, .string q.s1, .string q.s2, .string q.s3, .string q.s4, .string q.s5, .string q.s6, .string q.s7, .string q.s8, .string q.s9], .agg (exC k n0 nm op E 2 m).toArray, .int .i64 a] w fun x w' => x = .returned (tup (bothP op.data.toList a (evalE (numV l q.list) y))) ∧ Below w.heap.size w w' := by
  have tl : op.toList = op.data.toList := Lib.toList_data _
  obtain ⟨wa, hwa⟩ : ∃ z : World, z = (w.alloc (.cells ([.slice A n c, .string q.s0, .string q.s1, .string q.s2, .string q.s3, .string q.s4, .string q.s5, .string q.s6, .string q.s7, .string q.s8, .string q.s9] : List Value).toArray 57)).alloc (.cells (exC k n0 nm op E 2 m).toArray 24) := ⟨_, rfl⟩
  have BA : Below w.heap.size w wa := by rw [hwa]; go_grown
  have XS := Lib.hid (show Blk wa w.heap.size 57 ([.slice A n c, .string q.s0, .string q.s1, .string q.s2, .string q.s3, .string q.s4, .string q.s5, .string q.s6, .string q.s7, .string q.s8, .string q.s9] : List Value).toArray by rw [hwa]; exact (Blk.new _ _ _).alloc _)
  have XE := Lib.hid (show Blk wa (w.heap.size + 1) 24 (exC k n0 nm op E 2 m).toArray by rw [hwa]; exact Blk.new1 _ _ _ _)
  have EA := Lib.hid (he.bel BA)
  have HA := Lib.hid (h.bel BA)
  have HY := Lib.hid hy
  have hfit := h.fits
  have ct := fun W => true_c a W
  clear he h hy
  obtain ⟨EY, hEY⟩ : ∃ Y, evalE (numV l q.list) y = Y := ⟨_, rfl⟩
  obtain ⟨PR, hPR⟩ : ∃ P, bothP op.data.toList a EY = P := ⟨_, rfl⟩
  rw [hEY] at hfy ⊢
  rw [hPR]
  have HEY := Lib.hid hEY
  have HPR := Lib.hid hPR
  clear hEY hPR
  obtain ⟨yk, hyk⟩ : ∃ z, z = y := ⟨_, rfl⟩
  have e0 := Lib.hid (show ∀ b : Bool, (!b) = (!b) from fun _ => rfl)
  by_cases o1 : op.data.toList = [38, 38]
  · have t1 : (op.toList == [38, 38]) = true := by rw [tl, o1]; decide
    have t2 : (op.toList == [124, 124]) = false := by rw [tl, o1]; decide
    by_cases a0 : a = 0
    · have a1 : (a != 0) = false := by rw [a0]; rfl
      have HP := Lib.hid (show PR = (0, 0) by rw [← HPR.out]; unfold bothP; rw [if_pos ⟨o1, a0⟩])
      simp only [a1] at ct
      have cb := fun W => bit_c false W
      clear a0 o1 tl HPR hyk
      go_enter Tryd.func35, Tryd.ntmps35
      go_wp2_with fail
      rw [← hwa]
      (with_reducible refine (ct _).mono ?_)
      rintro e w1 ⟨rfl, rfl⟩
      go_wp2_with fail
      (with_reducible refine (ct _).mono ?_)
      rintro e w1 ⟨rfl, rfl⟩
      go_wp2_with fail
      (with_reducible refine (cb _).mono ?_)
      rintro e w1 ⟨rfl, rfl⟩
      go_wp2_with fail
      first | go_ret2 | go_returns
      exact ⟨by rw [HP.out] <;> rfl, by go_grown⟩
    · have a1 : (a != 0) = true := by simpa using a0
      have HP := Lib.hid (show PR = if EY.2 ≠ 0 then (0, EY.2) else (bitP (EY.1 != 0), 0) by rw [← HPR.out]; unfold bothP; simp [o1, a0])
      simp only [a1] at ct
      clear a0 o1 tl HPR hyk
      go_enter Tryd.func35, Tryd.ntmps35
      go_wp2_with fail
      rw [← hwa]
      clear hwa
      (with_reducible refine (ct _).mono ?_)
      rintro e w1 ⟨rfl, rfl⟩
      obtain ⟨g0, o0, A2, c2, rfl, hk0, hc0⟩ := HA.out.kid_ (i := 1) (by simp)
      have hk : Et wa K (y) (exC (y).kind (y).n (y).name (y).op A2 (y).kids.length c2) := hk0
      have hc : ∀ j u, (exC (y).kind (y).n (y).name (y).op A2 (y).kids.length c2)[j]? = some u → wa.cell? ⟨g0, o0 + 1 * 5 + j, none⟩ = some u := hc0
      clear hk0 hc0
      have fk0 := hc 0 _ rfl
      have fk1 := hc 1 _ rfl
      have fk2 := hc 2 _ rfl
      have fk3 := hc 3 _ rfl
      have fk4 := hc 4 _ rfl
      simp only [Nat.add_zero, Nat.zero_mul, Nat.one_mul] at fk0 fk1 fk2 fk3 fk4
      clear hc
      have ce0 := HY.out wa.drew _ EA.out.drew hk.drew
      have ce : Calls Tryd.prog 21 #[.agg #[.slice A n c, .string q.s0, .string q.s1, .string q.s2, .string q.s3, .string q.s4, .string q.s5, .string q.s6, .string q.s7, .string q.s8, .string q.s9], .agg (exC (y).kind (y).n (y).name (y).op A2 (y).kids.length c2).toArray] wa.drew fun ed w' => ed = .returned (tup (evalE (numV l q.list) (y))) ∧ Below wa.heap.size wa w' :=
        ce0.mono (fun ed w' ⟨h1, hb⟩ => ⟨h1, ⟨hb.os, hb.tape, hb.output, hb.size, hb.block⟩⟩)
      clear ce0 hk
      have xs := XS.out
      have xe := XE.out
      have p0 := xs.cell 0
      have p1 := xs.cell 1
      have p2 := xs.cell 2
      have p3 := xs.cell 3
      have p4 := xs.cell 4
      have p5 := xs.cell 5
      have p6 := xs.cell 6
      have p7 := xs.cell 7
      have p8 := xs.cell 8
      have p9 := xs.cell 9
      have p10 := xs.cell 10
      simp only [List.getElem?_toArray, List.getElem?_cons_zero, List.getElem?_cons_succ] at p0 p1 p2 p3 p4 p5 p6 p7 p8 p9 p10
      have r0 := xe.cell 0
      have r1 := xe.cell 1
      have r2 := xe.cell 2
      have r3 := xe.cell 3
      have r4 := xe.cell 4
      simp only [List.getElem?_toArray, List.getElem?_cons_zero, List.getElem?_cons_succ] at r0 r1 r2 r3 r4
      clear xs xe
      rw [HEY.out] at ce
      generalize y.kind = k0 at *
      generalize y.n = k1 at *
      generalize y.name = k2 at *
      generalize y.op = k3 at *
      generalize y.kids.length = k4 at *
      go_wp2_with fail
      go_region_law (first
        | (go_simp
           go_at_call 21
           (with_reducible refine ce.mono ?_)
           rintro ed w2 ⟨rfl, b2⟩))
      all_goals
        have B2 := via b2 BA
        have xe2 := XE.out.next b2
        clear ce p0 p1 p2 p3 p4 p5 p6 p7 p8 p9 p10 r0 r1 r2 r3 r4 fk0 fk1 fk2 fk3 fk4 b2
        have r0 := xe2.cell 0
        have r1 := xe2.cell 1
        have r2 := xe2.cell 2
        have r3 := xe2.cell 3
        have r4 := xe2.cell 4
        simp only [List.getElem?_toArray, List.getElem?_cons_zero, List.getElem?_cons_succ] at r0 r1 r2 r3 r4
        by_cases hg : EY.2 = 0
        rotate_left
        · have g1 : (EY.2 == 0) = false := by simpa using hg
          have g2 : (EY.2 != 0) = true := by simpa using hg
          have HP2 := Lib.hid (show PR = (0, EY.2) by rw [HP.out, if_pos hg])
          clear hg
          go_wp2
          first | go_ret2 | go_returns
          exact ⟨by rw [HP2.out] <;> rfl, B2⟩
        · have g1 : (EY.2 == 0) = true := by simpa using hg
          have g2 : (EY.2 != 0) = false := by simpa using hg
          have HP2 := Lib.hid (show PR = (bitP (EY.1 != 0), 0) by rw [HP.out, if_neg (by simpa using hg)])
          have ct2 := fun W => true_c EY.1 W
          have cb := fun W => bit_c (EY.1 != 0) W
          clear hg
          go_wp2_with fail
          (with_reducible refine (ct2 _).mono ?_)
          rintro e w3 ⟨rfl, rfl⟩
          go_wp2_with fail
          (with_reducible refine (cb _).mono ?_)
          rintro e w3 ⟨rfl, rfl⟩
          go_wp2_with fail
          first | go_ret2 | go_returns
          exact ⟨by rw [HP2.out] <;> rfl, B2⟩
  by_cases o2 : op.data.toList = [124, 124]
  · have t1 : (op.toList == [38, 38]) = false := by rw [tl, o2]; decide
    have t2 : (op.toList == [124, 124]) = true := by rw [tl, o2]; decide
    by_cases a0 : a = 0
    rotate_left
    · have a1 : (a != 0) = true := by simpa using a0
      have HP := Lib.hid (show PR = (1, 0) by rw [← HPR.out]; unfold bothP; simp [o2, a0])
      simp only [a1] at ct
      have cb := fun W => bit_c true W
      clear a0 o1 o2 tl HPR hyk
      go_enter Tryd.func35, Tryd.ntmps35
      go_wp2_with fail
      rw [← hwa]
      (with_reducible refine (ct _).mono ?_)
      rintro e w1 ⟨rfl, rfl⟩
      go_wp2_with fail
      (with_reducible refine (ct _).mono ?_)
      rintro e w1 ⟨rfl, rfl⟩
      go_wp2_with fail
      (with_reducible refine (cb _).mono ?_)
      rintro e w1 ⟨rfl, rfl⟩
      go_wp2_with fail
      first | go_ret2 | go_returns
      exact ⟨by rw [HP.out] <;> rfl, by go_grown⟩
    · have a1 : (a != 0) = false := by rw [a0]; rfl
      have HP := Lib.hid (show PR = if EY.2 ≠ 0 then (0, EY.2) else (bitP (EY.1 != 0), 0) by rw [← HPR.out]; unfold bothP; simp [o2, a0])
      simp only [a1] at ct
      clear a0 o1 o2 tl HPR hyk
      go_enter Tryd.func35, Tryd.ntmps35
      go_wp2_with fail
      rw [← hwa]
      clear hwa
      (with_reducible refine (ct _).mono ?_)
      rintro e w1 ⟨rfl, rfl⟩
      obtain ⟨g0, o0, A2, c2, rfl, hk0, hc0⟩ := HA.out.kid_ (i := 1) (by simp)
      have hk : Et wa K (y) (exC (y).kind (y).n (y).name (y).op A2 (y).kids.length c2) := hk0
      have hc : ∀ j u, (exC (y).kind (y).n (y).name (y).op A2 (y).kids.length c2)[j]? = some u → wa.cell? ⟨g0, o0 + 1 * 5 + j, none⟩ = some u := hc0
      clear hk0 hc0
      have fk0 := hc 0 _ rfl
      have fk1 := hc 1 _ rfl
      have fk2 := hc 2 _ rfl
      have fk3 := hc 3 _ rfl
      have fk4 := hc 4 _ rfl
      simp only [Nat.add_zero, Nat.zero_mul, Nat.one_mul] at fk0 fk1 fk2 fk3 fk4
      clear hc
      have ce0 := HY.out wa.drew _ EA.out.drew hk.drew
      have ce : Calls Tryd.prog 21 #[.agg #[.slice A n c, .string q.s0, .string q.s1, .string q.s2, .string q.s3, .string q.s4, .string q.s5, .string q.s6, .string q.s7, .string q.s8, .string q.s9], .agg (exC (y).kind (y).n (y).name (y).op A2 (y).kids.length c2).toArray] wa.drew fun ed w' => ed = .returned (tup (evalE (numV l q.list) (y))) ∧ Below wa.heap.size wa w' :=
        ce0.mono (fun ed w' ⟨h1, hb⟩ => ⟨h1, ⟨hb.os, hb.tape, hb.output, hb.size, hb.block⟩⟩)
      clear ce0 hk
      have xs := XS.out
      have xe := XE.out
      have p0 := xs.cell 0
      have p1 := xs.cell 1
      have p2 := xs.cell 2
      have p3 := xs.cell 3
      have p4 := xs.cell 4
      have p5 := xs.cell 5
      have p6 := xs.cell 6
      have p7 := xs.cell 7
      have p8 := xs.cell 8
      have p9 := xs.cell 9
      have p10 := xs.cell 10
      simp only [List.getElem?_toArray, List.getElem?_cons_zero, List.getElem?_cons_succ] at p0 p1 p2 p3 p4 p5 p6 p7 p8 p9 p10
      have r0 := xe.cell 0
      have r1 := xe.cell 1
      have r2 := xe.cell 2
      have r3 := xe.cell 3
      have r4 := xe.cell 4
      simp only [List.getElem?_toArray, List.getElem?_cons_zero, List.getElem?_cons_succ] at r0 r1 r2 r3 r4
      clear xs xe
      rw [HEY.out] at ce
      generalize y.kind = k0 at *
      generalize y.n = k1 at *
      generalize y.name = k2 at *
      generalize y.op = k3 at *
      generalize y.kids.length = k4 at *
      go_wp2_with fail
      go_region_law (first
        | (go_simp
           go_at_call 21
           (with_reducible refine ce.mono ?_)
           rintro ed w2 ⟨rfl, b2⟩))
      all_goals
        have B2 := via b2 BA
        have xe2 := XE.out.next b2
        clear ce p0 p1 p2 p3 p4 p5 p6 p7 p8 p9 p10 r0 r1 r2 r3 r4 fk0 fk1 fk2 fk3 fk4 b2
        have r0 := xe2.cell 0
        have r1 := xe2.cell 1
        have r2 := xe2.cell 2
        have r3 := xe2.cell 3
        have r4 := xe2.cell 4
        simp only [List.getElem?_toArray, List.getElem?_cons_zero, List.getElem?_cons_succ] at r0 r1 r2 r3 r4
        by_cases hg : EY.2 = 0
        rotate_left
        · have g1 : (EY.2 == 0) = false := by simpa using hg
          have g2 : (EY.2 != 0) = true := by simpa using hg
          have HP2 := Lib.hid (show PR = (0, EY.2) by rw [HP.out, if_pos hg])
          clear hg
          go_wp2
          first | go_ret2 | go_returns
          exact ⟨by rw [HP2.out] <;> rfl, B2⟩
        · have g1 : (EY.2 == 0) = true := by simpa using hg
          have g2 : (EY.2 != 0) = false := by simpa using hg
          have HP2 := Lib.hid (show PR = (bitP (EY.1 != 0), 0) by rw [HP.out, if_neg (by simpa using hg)])
          have ct2 := fun W => true_c EY.1 W
          have cb := fun W => bit_c (EY.1 != 0) W
          clear hg
          go_wp2_with fail
          (with_reducible refine (ct2 _).mono ?_)
          rintro e w3 ⟨rfl, rfl⟩
          go_wp2_with fail
          (with_reducible refine (cb _).mono ?_)
          rintro e w3 ⟨rfl, rfl⟩
          go_wp2_with fail
          first | go_ret2 | go_returns
          exact ⟨by rw [HP2.out] <;> rfl, B2⟩
  · have t1 : (op.toList == [38, 38]) = false := by rw [tl, beq_eq_false_iff_ne]; exact o1
    have t2 : (op.toList == [124, 124]) = false := by rw [tl, beq_eq_false_iff_ne]; exact o2
    have HP := Lib.hid (show PR = if EY.2 ≠ 0 then (0, EY.2) else opP op.data.toList a EY.1 by rw [← HPR.out]; unfold bothP; simp [o1, o2])
    clear o1 o2 tl HPR hyk
    have co := fun W => op_c op a EY.1 W ha.1 ha.2 hfy.1 hfy.2
    generalize opP op.data.toList a EY.1 = OP at *
    obtain ⟨g0, o0, A2, c2, rfl, hk0, hc0⟩ := HA.out.kid_ (i := 1) (by simp)
    have hk : Et wa K (y) (exC (y).kind (y).n (y).name (y).op A2 (y).kids.length c2) := hk0
    have hc : ∀ j u, (exC (y).kind (y).n (y).name (y).op A2 (y).kids.length c2)[j]? = some u → wa.cell? ⟨g0, o0 + 1 * 5 + j, none⟩ = some u := hc0
    clear hk0 hc0
    have fk0 := hc 0 _ rfl
    have fk1 := hc 1 _ rfl
    have fk2 := hc 2 _ rfl
    have fk3 := hc 3 _ rfl
    have fk4 := hc 4 _ rfl
    simp only [Nat.add_zero, Nat.zero_mul, Nat.one_mul] at fk0 fk1 fk2 fk3 fk4
    clear hc
    have ce0 := HY.out wa.drew _ EA.out.drew hk.drew
    have ce : Calls Tryd.prog 21 #[.agg #[.slice A n c, .string q.s0, .string q.s1, .string q.s2, .string q.s3, .string q.s4, .string q.s5, .string q.s6, .string q.s7, .string q.s8, .string q.s9], .agg (exC (y).kind (y).n (y).name (y).op A2 (y).kids.length c2).toArray] wa.drew fun ed w' => ed = .returned (tup (evalE (numV l q.list) (y))) ∧ Below wa.heap.size wa w' :=
      ce0.mono (fun ed w' ⟨h1, hb⟩ => ⟨h1, ⟨hb.os, hb.tape, hb.output, hb.size, hb.block⟩⟩)
    clear ce0 hk
    have xs := XS.out
    have xe := XE.out
    have p0 := xs.cell 0
    have p1 := xs.cell 1
    have p2 := xs.cell 2
    have p3 := xs.cell 3
    have p4 := xs.cell 4
    have p5 := xs.cell 5
    have p6 := xs.cell 6
    have p7 := xs.cell 7
    have p8 := xs.cell 8
    have p9 := xs.cell 9
    have p10 := xs.cell 10
    simp only [List.getElem?_toArray, List.getElem?_cons_zero, List.getElem?_cons_succ] at p0 p1 p2 p3 p4 p5 p6 p7 p8 p9 p10
    have r0 := xe.cell 0
    have r1 := xe.cell 1
    have r2 := xe.cell 2
    have r3 := xe.cell 3
    have r4 := xe.cell 4
    simp only [List.getElem?_toArray, List.getElem?_cons_zero, List.getElem?_cons_succ] at r0 r1 r2 r3 r4
    clear xs xe
    rw [HEY.out] at ce
    generalize y.kind = k0 at *
    generalize y.n = k1 at *
    generalize y.name = k2 at *
    generalize y.op = k3 at *
    generalize y.kids.length = k4 at *
    go_enter Tryd.func35, Tryd.ntmps35
    rw [hwa] at p0 p1 p2 p3 p4 p5 p6 p7 p8 p9 p10 r0 r1 r2 r3 r4 fk0 fk1 fk2 fk3 fk4
    go_wp2_with fail
    rw [← hwa] at *
    go_region_law (first
      | (go_simp
         go_at_call 21
         (with_reducible refine ce.mono ?_)
         rintro ed w2 ⟨rfl, b2⟩))
    all_goals
      have B2 := via b2 BA
      have xe2 := XE.out.next b2
      clear ce p0 p1 p2 p3 p4 p5 p6 p7 p8 p9 p10 r0 r1 r2 r3 r4 fk0 fk1 fk2 fk3 fk4 b2
      have r0 := xe2.cell 0
      have r1 := xe2.cell 1
      have r2 := xe2.cell 2
      have r3 := xe2.cell 3
      have r4 := xe2.cell 4
      simp only [List.getElem?_toArray, List.getElem?_cons_zero, List.getElem?_cons_succ] at r0 r1 r2 r3 r4
      by_cases hg : EY.2 = 0
      rotate_left
      · have g1 : (EY.2 == 0) = false := by simpa using hg
        have g2 : (EY.2 != 0) = true := by simpa using hg
        have HP2 := Lib.hid (show PR = (0, EY.2) by rw [HP.out, if_pos hg])
        clear hg
        go_wp2
        first | go_ret2 | go_returns
        exact ⟨by rw [HP2.out] <;> rfl, B2⟩
      · have g1 : (EY.2 == 0) = true := by simpa using hg
        have g2 : (EY.2 != 0) = false := by simpa using hg
        have HP2 := Lib.hid (show PR = OP by rw [HP.out, if_neg (by simpa using hg)])
        clear hg
        go_wp2_with fail
        (with_reducible refine (co _).mono ?_)
        rintro e w3 ⟨rfl, rfl⟩
        go_wp2_with fail
        first | go_ret2 | go_returns
        exact ⟨by rw [HP2.out] <;> rfl, B2⟩
end CalW
end Go.Proofs.YtledgkplddeghaaDoor
