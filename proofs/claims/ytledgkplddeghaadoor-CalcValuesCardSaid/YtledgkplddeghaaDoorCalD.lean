/- The law CalcValues. Conditions: arguments that fit; the tables of strconv. -/
import Derived.Test.YtledgkplddeghaaDoorCalC
import Derived.Test.YtledgkplddeghaaDoorCalW
namespace Go.Proofs.YtledgkplddeghaaDoor
set_option linter.unusedVariables false
set_option linter.unusedSimpArgs false
open Go.RowKit
namespace CalW
open CalP QuoP QuoW MemP MemW
set_option maxHeartbeats 6400000 in
set_option maxRecDepth 100000 in
theorem values_c (P : Option Addr) (pn pc : Nat) (ps : List Pt) (A : Option Addr) (n c : Nat) (l : List Vr) (C : Option Addr) (m cm : Nat) (ss : List ByteArray) (w : World) (hw : NumW.Rdy w) (hp : Pts w w.heap.size P pn ps) (hpn : pn ≤ 9223372036854775807) (hr : Vrs w w.heap.size A n l) (hn : n ≤ 9223372036854775807) (hf : FitW l)
    (hs : Rd w w.heap.size 1 C m (strC ss)) (hsl : ss.length = m) (hm : m ≤ 9223372036854775807) :
    Calls Tryd.prog 4 #[.slice P pn pc, .slice A n c, .slice C m cm] w fun x w' => x = .returned (.bool true) ∧ Below w.heap.size w w' := by
  have hln := Vrs.len hr
  have hpl := Pts.len hp
  have caw := awake_c w hw
  have cs2 := fun W (hb : Below w.heap.size w W) => MemW.small_c A n c l W ((hr.below hb).more hb.size) hn hf
  have cs3 := fun W (hb : Below w.heap.size w W) => smalls_c C m cm ss W ((hs.below hb).more hb.size) hsl hm
  have ccu := fun (hm10 : m ≤ 10) W (hb : Below w.heap.size w W) => cuts_c C m cm ss W ((hs.below hb).more hb.size) hsl hm10
  have cev := fun (h10 : pn ≤ 10) (hfp : ∀ p ∈ ps, p.1.length ≤ 60 ∧ p.2.length ≤ 60) (h20 : n ≤ 20) (hfit : ∀ p ∈ l, p.2.size ≤ 60) (hcut : ∀ s ∈ (cutOf ss).list, s.size ≤ 60) W (hb : Below w.heap.size w W) => Value_c A n c l (cutOf ss) P pn pc ps W ⟨(hr.below hb).more hb.size, by omega, hw.below hb, hfit, hcut⟩ ((hp.below hb).more hb.size) hfp h10
  have crv := fun (h10 : pn ≤ 10) (hfp : ∀ p ∈ ps, p.1.length ≤ 60 ∧ p.2.length ≤ 60) (h20 : n ≤ 20) (hfit : ∀ p ∈ l, p.2.size ≤ 60) (hcut : ∀ s ∈ (cutOf ss).list, s.size ≤ 60) W (hb : Below w.heap.size w W) => RValue_c A n c l (cutOf ss) P pn pc ps W ⟨(hr.below hb).more hb.size, by omega, hw.below hb, hfit, hcut⟩ ((hp.below hb).more hb.size) hfp h10
  have hvok := fun hh => smallV_ok (l := l) hh
  have hcok := fun hh => smallS_ok (l := ss) hh
  have HP := Lib.hid hp
  clear hp hr hs hw hf
  obtain ⟨S2, hS2⟩ : ∃ S, smallV l = S := ⟨_, rfl⟩
  obtain ⟨S3, hS3⟩ : ∃ S, smallS ss = S := ⟨_, rfl⟩
  simp only [hS2] at cs2 hvok
  simp only [hS3] at cs3 hcok
  obtain ⟨q, hq⟩ : ∃ q, cutOf ss = q := ⟨_, rfl⟩
  have hcm := fun hh => cut_mem ss hh
  simp only [hq] at ccu cev crv hcm
  obtain ⟨PV, hPV⟩ : ∃ P, valP l q ps = P := ⟨_, rfl⟩
  simp only [hPV] at cev crv
  have CS2 := Lib.hid cs2
  have CS3 := Lib.hid cs3
  have CCU := Lib.hid ccu
  have CEV := Lib.hid cev
  have CRV := Lib.hid crv
  have HVOK := Lib.hid hvok
  have HCOK := Lib.hid hcok
  have HCM := Lib.hid hcm
  have HLN := Lib.hid hln
  have HSL := Lib.hid hsl
  have HPL := Lib.hid hpl
  clear cs2 cs3 ccu cev crv hvok hcok hcm hS2 hS3 hq hPV hln hsl hpl
  by_cases h10 : 10 < pn
  · have d1 : decide ((10 : Int) < (pn : Int)) = true := by simp; omega
    have d1' : decide (10 < pn) = true := by simp; omega
    go_enter Tryd.func4, Tryd.ntmps4
    go_wp2_with fail
    (with_reducible refine caw.mono ?_)
    rintro e w1 ⟨rfl, b1⟩
    go_wp2
    go_ret
    exact ⟨rfl, b1⟩
  have d1 : decide ((10 : Int) < (pn : Int)) = false := by simp; omega
  have d1' : decide (10 < pn) = false := by simp; omega
  go_enter Tryd.func4, Tryd.ntmps4
  go_wp2_with fail
  (with_reducible refine caw.mono ?_)
  rintro e w1 ⟨rfl, B1⟩
  clear caw
  have c1 := CS2.out w1 B1
  cases S2
  · go_wp2_with fail
    (with_reducible refine c1.mono ?_)
    rintro e w2 ⟨rfl, b2⟩
    have B2 := via b2 B1
    go_wp2
    go_ret
    exact ⟨rfl, B2⟩
  go_wp2_with fail
  (with_reducible refine c1.mono ?_)
  rintro e w2 ⟨rfl, b2⟩
  have B2 := via b2 B1
  clear c1 b2
  have c2 := CS3.out w2 B2
  cases S3
  · go_wp2_with fail
    (with_reducible refine c2.mono ?_)
    rintro e w3 ⟨rfl, b3⟩
    have B3 := via b3 B2
    go_wp2
    go_ret
    exact ⟨rfl, B3⟩
  go_wp2_with fail
  (with_reducible refine c2.mono ?_)
  rintro e w3 ⟨rfl, b3⟩
  have B3 := via b3 B2
  clear c2 b3 B1 B2
  have hv := HVOK.out (by first | rfl | trivial)
  have hc := HCOK.out (by first | rfl | trivial)
  have h20 : n ≤ 20 := by have := HLN.out; omega
  have hm10 : m ≤ 10 := by have := HSL.out; omega
  have hcut := HCM.out hc.2
  have hfit : ∀ p ∈ l, p.2.size ≤ 60 := fun p hp => (hv.2 p hp).2
  have HCC := Lib.hid (CCU.out hm10)
  have HEV := Lib.hid (fun hfp => CEV.out (by omega) hfp h20 hfit hcut)
  have HRV := Lib.hid (fun hfp => CRV.out (by omega) hfp h20 hfit hcut)
  have HB3 := Lib.hid B3
  clear CS2 CS3 CCU CEV CRV HVOK HCOK HCM HLN HSL hv hc h20 hm10 hcut hfit B3 d1 d1'
  go_wp2
  go_loopw [30] (fun v wr => ∃ k : Nat, v = .int .i64 k ∧ k ≤ pn ∧ Hid (∀ p ∈ ps.take k, p.1.length ≤ 60 ∧ p.2.length ≤ 60) ∧ Below w.heap.size w wr) (fun v _ => pn - (intOf v).toNat)
  case atStart => exact ⟨0, rfl, by omega, Lib.hid (by simp), HB3.out⟩
  case round =>
    clear HB3
    obtain ⟨k, rfl, hk, hx, hB⟩ := hrel
    have zB := hB.size
    by_cases hlt : k < pn
    · obtain ⟨g, o, ⟨a, v⟩, rfl, hb, hq, q1, q2⟩ := Pts.get (HP.out.below hB) hlt
      simp only at q1 q2
      have ST := Lib.hid (fun (ha : a.length ≤ 60) (hv : v.length ≤ 60) => (show ∀ p ∈ ps.take (k + 1), p.1.length ≤ 60 ∧ p.2.length ≤ 60 by
        intro p hp
        rw [List.take_add_one, hq] at hp
        simp only [List.mem_append, Option.toList, List.mem_singleton] at hp
        rcases hp with hp | hp
        · exact hx.out p hp
        · rw [hp]; exact ⟨ha, hv⟩))
      have za := ba_size a
      have zv := ba_size v
      clear hx hq
      generalize ba a = sa at *
      generalize ba v = sv at *
      by_cases ha : 60 < sa.size
      · have d1 : decide ((60 : Int) < (sa.size : Int)) = true := by simp; omega
        have d1' : decide (60 < sa.size) = true := by simp; omega
        clear za zv
        go_wp2
        go_ret
        exact ⟨rfl, by go_grown⟩
      · have d1 : decide ((60 : Int) < (sa.size : Int)) = false := by simp; omega
        have d1' : decide (60 < sa.size) = false := by simp; omega
        by_cases hv : 60 < sv.size
        · have d2 : decide ((60 : Int) < (sv.size : Int)) = true := by simp; omega
          have d2' : decide (60 < sv.size) = true := by simp; omega
          clear za zv
          go_wp2
          go_ret
          exact ⟨rfl, by go_grown⟩
        · have d2 : decide ((60 : Int) < (sv.size : Int)) = false := by simp; omega
          have d2' : decide (60 < sv.size) = false := by simp; omega
          have ST2 := Lib.hid (ST.out (by omega) (by omega))
          clear ST za zv
          go_wp2
          go_roundw
          case rel => exact ⟨k + 1, by go_num, by omega, ST2, by go_grown⟩
          case measure => simp [intOf]; omega
    · obtain rfl : k = pn := by omega
      have hx2 := hx.out
      rw [List.take_of_length_le (by have := HPL.out; omega)] at hx2
      have c1 := HCC.out wr hB
      obtain ⟨z0, rfl⟩ : ∃ z : World, z = wr := ⟨_, rfl⟩
      go_wp2_with fail
      (with_reducible refine c1.mono ?_)
      rintro e w4 ⟨rfl, b4⟩
      have B4 := via b4 hB
      clear b4 c1
      have c2 := HEV.out hx2 w4 B4
      have c4 := HRV.out hx2
      obtain ⟨pa, pe⟩ := PV
      simp only at c2 c4
      generalize ba pa = va at *
      have C4 := Lib.hid c4
      clear c4
      go_wp2_with fail
      (with_reducible refine c2.mono ?_)
      rintro e w5 ⟨rfl, b5⟩
      have B5 := via b5 B4
      clear b5 c2
      have c3 := HCC.out w5 B5
      go_wp2_with fail
      (with_reducible refine c3.mono ?_)
      rintro e w6 ⟨rfl, b6⟩
      have B6 := via b6 B5
      clear b6 c3
      have c5 := C4.out w6 B6
      go_wp2_with fail
      (with_reducible refine c5.mono ?_)
      rintro e w7 ⟨rfl, b7⟩
      have B7 := via b7 B6
      have e2 : (pe == pe) = true := by simp
      go_wp2
      go_ret
      exact ⟨by first | rfl | simp, B7⟩
end CalW
end Go.Proofs.YtledgkplddeghaaDoor
