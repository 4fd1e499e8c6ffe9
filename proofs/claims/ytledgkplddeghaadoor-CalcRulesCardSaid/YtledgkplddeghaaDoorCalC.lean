/- The law CalcEvals. Conditions: arguments that fit; the tables of strconv. -/
import Derived.Test.YtledgkplddeghaaDoorCalB
namespace Go.Proofs.YtledgkplddeghaaDoor
set_option linter.unusedVariables false
set_option linter.unusedSimpArgs false
open Go.RowKit
namespace CalW
open CalP QuoP QuoW MemP MemW
theorem smallV_ok {l : List Vr} (h : smallV l = true) : l.length ≤ 20 ∧ ∀ p ∈ l, p.1.size ≤ 60 ∧ p.2.size ≤ 60 := by
  unfold smallV at h
  rw [Bool.and_eq_true] at h
  refine ⟨by simpa using h.1, fun p hp => ?_⟩
  have := List.all_eq_true.1 h.2 p hp
  simpa using this
set_option maxHeartbeats 6400000 in
set_option maxRecDepth 100000 in
theorem evals_c {K : Nat → Prop} (r : Ex) (cs : List Value) (A : Option Addr) (n c : Nat) (l : List Vr) (C : Option Addr) (m cm : Nat) (ss : List ByteArray) (w : World) (hw : NumW.Rdy w) (h : Et w K r cs) (hr : Vrs w w.heap.size A n l) (hn : n ≤ 9223372036854775807) (hf : FitW l)
    (hs : Rd w w.heap.size 1 C m (strC ss)) (hsl : ss.length = m) (hm : m ≤ 9223372036854775807) :
    Calls Tryd.prog 3 #[.agg cs.toArray, .slice A n c, .slice C m cm] w fun x w' => x = .returned (.bool true) ∧ Below w.heap.size w w' := by
  obtain ⟨E, m0, rfl⟩ := h.shape
  obtain ⟨wa, hwa⟩ : ∃ z : World, z = w.alloc (.cells (exC r.kind r.n r.name r.op E r.kids.length m0).toArray 24) := ⟨_, rfl⟩
  have BA : Below w.heap.size w wa := by rw [hwa]; go_grown
  have XA : Blk wa w.heap.size 24 (exC r.kind r.n r.name r.op E r.kids.length m0).toArray := by rw [hwa]; exact Blk.new _ _ _
  have hln := Vrs.len hr
  have caw := awake_c wa (hw.below BA)
  have csm := fun W (hb : Below w.heap.size w W) => small9_c r W _ 80 (by omega) (by omega) (h.bel hb)
  have cs2 := fun W (hb : Below w.heap.size w W) => MemW.small_c A n c l W ((hr.below hb).more hb.size) hn hf
  have cs3 := fun W (hb : Below w.heap.size w W) => smalls_c C m cm ss W ((hs.below hb).more hb.size) hsl hm
  have ccu := fun (hm10 : m ≤ 10) W (hb : Below w.heap.size w W) => cuts_c C m cm ss W ((hs.below hb).more hb.size) hsl hm10
  have cev := fun (hsh : shortE r) (h20 : n ≤ 20) (hfit : ∀ p ∈ l, p.2.size ≤ 60) (hcut : ∀ s ∈ (cutOf ss).list, s.size ≤ 60) W (hb : Below w.heap.size w W) => Eval_c A n c l (cutOf ss) r _ W ⟨(hr.below hb).more hb.size, by omega, hw.below hb, hfit, hcut⟩ (h.bel hb) hsh
  have crv := fun (hsh : shortE r) (h20 : n ≤ 20) (hfit : ∀ p ∈ l, p.2.size ≤ 60) (hcut : ∀ s ∈ (cutOf ss).list, s.size ≤ 60) W (hb : Below w.heap.size w W) => REval_c A n c l (cutOf ss) r _ W ⟨(hr.below hb).more hb.size, by omega, hw.below hb, hfit, hcut⟩ (h.bel hb) hsh
  have hsok := fun hh => small_ok (x := r) (most := 80) hh
  have hvok := fun hh => smallV_ok (l := l) hh
  have hcok := fun hh => smallS_ok (l := ss) hh
  clear h hr hs hw hf
  obtain ⟨S1, hS1⟩ : ∃ S, smallE r 80 = S := ⟨_, rfl⟩
  obtain ⟨S2, hS2⟩ : ∃ S, smallV l = S := ⟨_, rfl⟩
  obtain ⟨S3, hS3⟩ : ∃ S, smallS ss = S := ⟨_, rfl⟩
  simp only [hS1] at csm hsok
  simp only [hS2] at cs2 hvok
  simp only [hS3] at cs3 hcok
  obtain ⟨q, hq⟩ : ∃ q, cutOf ss = q := ⟨_, rfl⟩
  have hcm := fun hh => cut_mem ss hh
  simp only [hq] at ccu cev crv hcm
  obtain ⟨PV, hPV⟩ : ∃ P, valE l q r = P := ⟨_, rfl⟩
  simp only [hPV] at cev crv
  have CSM := Lib.hid csm
  have CS2 := Lib.hid cs2
  have CS3 := Lib.hid cs3
  have CCU := Lib.hid ccu
  have CEV := Lib.hid cev
  have CRV := Lib.hid crv
  have HSOK := Lib.hid hsok
  have HVOK := Lib.hid hvok
  have HCOK := Lib.hid hcok
  have HCM := Lib.hid hcm
  have HLN := Lib.hid hln
  have HSL := Lib.hid hsl
  clear csm cs2 cs3 ccu cev crv hsok hvok hcok hcm hS1 hS2 hS3 hq hPV hln hsl
  generalize r.kind = k0 at *
  generalize r.n = k1 at *
  generalize r.name = k2 at *
  generalize r.op = k3 at *
  generalize r.kids.length = k4 at *
  go_enter Tryd.func3, Tryd.ntmps3
  go_wp2_with fail
  rw [← hwa]
  clear hwa
  (with_reducible refine caw.mono ?_)
  rintro e w1 ⟨rfl, b1⟩
  have B1 := via b1 BA
  have X1 := XA.next b1
  clear caw b1 BA XA
  have c1 := CSM.out w1 B1
  have p0 := X1.cell 0
  have p1 := X1.cell 1
  have p2 := X1.cell 2
  have p3 := X1.cell 3
  have p4 := X1.cell 4
  simp only [List.getElem?_toArray, List.getElem?_cons_zero, List.getElem?_cons_succ] at p0 p1 p2 p3 p4
  cases S1
  · go_wp2_with fail
    (with_reducible refine c1.mono ?_)
    rintro e w2 ⟨rfl, b2⟩
    have B2 := via b2 B1
    go_wp2
    go_ret
    exact ⟨rfl, B2⟩
  go_wp2_with fail
  (with_reducible refine c1.mono ?_)
  rintro e w2 ⟨rfl, b2⟩
  have B2 := via b2 B1
  have X2 := X1.next b2
  clear c1 b2 X1 p0 p1 p2 p3 p4
  have c2 := CS2.out w2 B2
  cases S2
  · go_wp2_with fail
    (with_reducible refine c2.mono ?_)
    rintro e w3 ⟨rfl, b3⟩
    have B3 := via b3 B2
    go_wp2
    go_ret
    exact ⟨rfl, B3⟩
  go_wp2_with fail
  (with_reducible refine c2.mono ?_)
  rintro e w3 ⟨rfl, b3⟩
  have B3 := via b3 B2
  have X3 := X2.next b3
  clear c2 b3 X2
  have c3 := CS3.out w3 B3
  cases S3
  · go_wp2_with fail
    (with_reducible refine c3.mono ?_)
    rintro e w4 ⟨rfl, b4⟩
    have B4 := via b4 B3
    go_wp2
    go_ret
    exact ⟨rfl, B4⟩
  go_wp2_with fail
  (with_reducible refine c3.mono ?_)
  rintro e w4 ⟨rfl, b4⟩
  have B4 := via b4 B3
  have X4 := X3.next b4
  clear c3 b4 X3
  have hsh := (HSOK.out (by first | rfl | trivial)).2
  have hv := HVOK.out (by first | rfl | trivial)
  have hc := HCOK.out (by first | rfl | trivial)
  have h20 : n ≤ 20 := by have := HLN.out; omega
  have hm10 : m ≤ 10 := by have := HSL.out; omega
  have hcut := HCM.out hc.2
  have hfit : ∀ p ∈ l, p.2.size ≤ 60 := fun p hp => (hv.2 p hp).2
  have HCC := Lib.hid (CCU.out hm10)
  have HEV := Lib.hid (CEV.out hsh h20 hfit hcut)
  have HRV := Lib.hid (CRV.out hsh h20 hfit hcut)
  clear CSM CS2 CS3 CCU CEV CRV HSOK HVOK HCOK HCM HLN HSL hsh hv hc h20 hm10 hcut hfit
  have m1 := fun x : Cls w4 => call_cls (x := x) (v := .agg q.v.toArray) (HCC.out x.val (via x.ok B4))
  have m2 := fun x : Cls w4 => call_cls (x := x) (v := tup PV) (HEV.out x.val (via x.ok B4))
  have p0 := fun x : Cls w4 => X4.cls x 0
  have p1 := fun x : Cls w4 => X4.cls x 1
  have p2 := fun x : Cls w4 => X4.cls x 2
  have p3 := fun x : Cls w4 => X4.cls x 3
  have p4 := fun x : Cls w4 => X4.cls x 4
  simp only [List.getElem?_toArray, List.getElem?_cons_zero, List.getElem?_cons_succ] at p0 p1 p2 p3 p4
  go_wp2_with fail
  go_simp
  refine wp_region_cls (by kernel_rfl) (by kernel_rfl) ?_
  repeat (quiet_step (first
    | (go_at_call 11; with_reducible exact m1 _)
    | (go_at_call 10; with_reducible exact m2 _)))
  refine wpQuiet_nil ?_
  rintro _ ⟨y, rfl⟩
  have B5 := via y.ok B4
  have X5 := X4.next y.ok
  clear m1 m2 p0 p1 p2 p3 p4 X4
  generalize y.val = w5 at *
  have m1 := fun x : Cls w5 => call_cls (x := x) (v := .agg q.v.toArray) (HCC.out x.val (via x.ok B5))
  have m2 := fun x : Cls w5 => call_cls (x := x) (v := tup PV) (HRV.out x.val (via x.ok B5))
  have p0 := fun x : Cls w5 => X5.cls x 0
  have p1 := fun x : Cls w5 => X5.cls x 1
  have p2 := fun x : Cls w5 => X5.cls x 2
  have p3 := fun x : Cls w5 => X5.cls x 3
  have p4 := fun x : Cls w5 => X5.cls x 4
  simp only [List.getElem?_toArray, List.getElem?_cons_zero, List.getElem?_cons_succ] at p0 p1 p2 p3 p4
  go_wp2_with fail
  go_simp
  refine wp_region_cls (by kernel_rfl) (by kernel_rfl) ?_
  repeat (quiet_step (first
    | (go_at_call 11; with_reducible exact m1 _)
    | (go_at_call 12; with_reducible exact m2 _)))
  refine wpQuiet_nil ?_
  rintro _ ⟨z, rfl⟩
  have B6 := via z.ok B5
  clear m1 m2 p0 p1 p2 p3 p4 X5
  generalize z.val = w6 at *
  have ct := fun W => true_c PV.1 W
  have e1 : (PV.1 == PV.1) = true := by simp
  have e2 : (PV.2 == PV.2) = true := by simp
  have e3 : ((PV.1 != 0) == (PV.1 != 0)) = true := by simp
  go_wp2_with fail
  (with_reducible refine (ct _).mono ?_)
  rintro e w7 ⟨rfl, rfl⟩
  go_wp2
  go_ret
  exact ⟨by first | rfl | simp, B6⟩
end CalW
end Go.Proofs.YtledgkplddeghaaDoor
