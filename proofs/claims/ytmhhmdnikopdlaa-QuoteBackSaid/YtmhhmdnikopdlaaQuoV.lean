/- The walk of QuoteBack. Condition: the parts can be read. -/
import Derived.Test.YtmhhmdnikopdlaaQuoN
import Derived.Test.YtmhhmdnikopdlaaQuoL
import Derived.Test.YtmhhmdnikopdlaaQuoQ
namespace Go.Proofs.Ytmhhmdnikopdlaa
open Go.RowKit
namespace QuoN
open QuoP QuoW QuoR QuoE QuoJ QuoK QuoL
section
variable (A : Option Addr) (n c : Nat) (l : List Pt) (m : ByteArray) (w : World) (hr : Pts w w.heap.size A n l) (hn : n ≤ 4611686018427387904) (hm : m.size ≤ 9223372036854775807)
include hr hn hm
set_option maxHeartbeats 1600000 in
theorem back_big (h : smB l = false) : Calls Try.prog 5 #[.slice A n c, .string m] w fun e w' => e = .returned (.bool true) ∧ Below w.heap.size w w' := by
  have _hm := hm
  have cw := awake_c w
  go_enter Try.func5, Try.ntmps5
  go_wp2_with fail
  (with_reducible refine cw.mono ?_)
  rintro e w1 ⟨rfl, hb⟩
  have cs := small_c A n c l w1 (Rd.more (hr.below hb) hb.size) hn
  rw [h] at cs
  go_wp2_with fail
  (with_reducible refine cs.mono ?_)
  rintro e w2 ⟨rfl, hb2⟩
  go_wp2
  go_ret
  exact ⟨rfl, via (a := w) hb2 hb⟩
set_option maxHeartbeats 1600000 in
theorem back_more (h : smB l = true) (h2 : 30 < m.size) : Calls Try.prog 5 #[.slice A n c, .string m] w fun e w' => e = .returned (.bool true) ∧ Below w.heap.size w w' := by
  have cw := awake_c w
  have d : decide (30 < (m.size : Int)) = true := by simp; omega
  go_enter Try.func5, Try.ntmps5
  go_wp2_with fail
  (with_reducible refine cw.mono ?_)
  rintro e w1 ⟨rfl, hb⟩
  have cs := small_c A n c l w1 (Rd.more (hr.below hb) hb.size) hn
  rw [h] at cs
  go_wp2_with fail
  (with_reducible refine cs.mono ?_)
  rintro e w2 ⟨rfl, hb2⟩
  go_wp2
  go_ret
  exact ⟨rfl, via (a := w) hb2 hb⟩
set_option maxHeartbeats 3200000 in
theorem back_no (h : smB l = true) (h2 : ¬ 30 < m.size) (hM : mayB l = false) : Calls Try.prog 5 #[.slice A n c, .string m] w fun e w' => e = .returned (.bool true) ∧ Below w.heap.size w w' := by
  have cw := awake_c w
  have hl := Pts.len hr
  have hsf := sm_fit h
  have hsm : SmP l := ⟨by omega, fun p hp => by have := hsf.2 p hp; omega⟩
  have hfp : FitP l := fun p hp => by have := hsf.2 p hp; omega
  have d : decide (30 < (m.size : Int)) = false := by simp; omega
  have HSM := Lib.hid hsm
  have HFP := Lib.hid hfp
  have hl20 := hsf.1
  clear hsf hsm hfp
  go_enter Try.func5, Try.ntmps5
  go_wp2_with fail
  (with_reducible refine cw.mono ?_)
  rintro e w1 ⟨rfl, hB⟩
  have hr1 := Rd.more (hr.below hB) hB.size
  have cs := small_c A _ c _ w1 hr1 hn
  rw [h] at cs
  go_wp2_with fail
  (with_reducible refine cs.mono ?_)
  rintro e w2 ⟨rfl, hb2⟩
  replace hB := via (a := w) hb2 hB
  have hr2 := Rd.more (hr1.below hb2) hb2.size
  clear cw cs hr1
  have c1 := print_no A _ c l w2 hr2 HSM.out hM
  go_wp2_with fail
  (with_reducible refine c1.mono ?_)
  rintro e w3 ⟨rfl, hb3⟩
  replace hB := via (a := w) hb3 hB
  have hr3 := Rd.more (hr2.below hb3) hb3.size
  have c2 := rmay_c A _ c _ w3 hr3 HFP.out hn
  rw [hM] at c2
  go_wp2_with fail
  (with_reducible refine c2.mono ?_)
  rintro e w4 ⟨rfl, hb4⟩
  replace hB := via (a := w) hb4 hB
  have hr4 := Rd.more (hr3.below hb4) hb4.size
  have c3 := may_c A _ c l w4 hr4 HFP.out hn
  rw [hM] at c3
  go_wp2_with fail
  (with_reducible refine c3.mono ?_)
  rintro e w5 ⟨rfl, hb5⟩
  replace hB := via (a := w) hb5 hB
  go_wp2
  go_ret
  exact ⟨rfl, hB⟩
end
end QuoN
end Go.Proofs.Ytmhhmdnikopdlaa
