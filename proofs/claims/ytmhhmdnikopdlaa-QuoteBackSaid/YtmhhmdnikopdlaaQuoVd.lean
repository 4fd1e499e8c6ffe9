/- The walk of QuoteBack, a part. Condition: the parts can be read. -/
import Derived.Test.YtmhhmdnikopdlaaQuoN
import Derived.Test.YtmhhmdnikopdlaaQuoL
import Derived.Test.YtmhhmdnikopdlaaQuoQ
namespace Go.Proofs.Ytmhhmdnikopdlaa
open Go.RowKit
namespace QuoN
open QuoP QuoW QuoR QuoE QuoJ QuoK QuoL
section
variable (A : Option Addr) (n c : Nat) (l : List Pt) (m : ByteArray) (w : World) (hr : Pts w w.heap.size A n l) (hn : n ≤ 4611686018427387904) (hm : m.size ≤ 9223372036854775807)
include hr hn hm
set_option maxHeartbeats 6400000 in
theorem back_v (h : smB l = true) (h2 : ¬ 30 < m.size) (hM : mayB l = true) (h0 : n = 1) (hp : ∀ p, l = [p] → p.1.isEmpty = false) : Calls Try.prog 5 #[.slice A n c, .string m] w fun e w' => e = .returned (.bool true) ∧ Below w.heap.size w w' := by
  subst h0
  have cw := awake_c w
  have hl := Pts.len hr
  have hsf := sm_fit h
  have hsm : SmP l := ⟨by omega, fun p hp => by have := hsf.2 p hp; omega⟩
  have hfp : FitP l := fun p hp => by have := hsf.2 p hp; omega
  have d : decide (30 < (m.size : Int)) = false := by simp; omega
  have HSM := Lib.hid hsm
  have HFP := Lib.hid hfp
  have hl20 := hsf.1
  clear hsf hsm hfp
  go_enter Try.func5, Try.ntmps5
  go_wp2_with fail
  (with_reducible refine cw.mono ?_)
  rintro e w1 ⟨rfl, hB⟩
  have hr1 := Rd.more (hr.below hB) hB.size
  have cs := small_c A _ c _ w1 hr1 hn
  rw [h] at cs
  go_wp2_with fail
  (with_reducible refine cs.mono ?_)
  rintro e w2 ⟨rfl, hb2⟩
  replace hB := via (a := w) hb2 hB
  have hr2 := Rd.more (hr1.below hb2) hb2.size
  clear cw cs hr1
  have c1 := print_yes A _ c _ w2 hr2 HSM.out hM
  have hpl : (printB l).length ≤ 100000100 := by
    have := parts_len _ HSM.out.2
    rw [printB, List.length_cons, List.length_append]; simp only [List.length_cons, List.length_nil]; omega
  have hbs := ba_size (printB l)
  have hbl := ba_list (printB l)
  obtain ⟨bs, hbb⟩ : ∃ x, ba (printB l) = x := ⟨_, rfl⟩
  have hcp := fun W (hR : Pts W W.heap.size A 1 l) => rprint_c A 1 c l W hR HSM.out
  simp only [hbb] at hcp
  rw [hbb] at c1 hbs hbl
  have hP : parse (bs ++ m).data.toList = .ok l m.data.toList := by
    have := parse_print hM m.data.toList
    rw [← hbl] at this
    simpa using this
  have hk : (bs ++ m).size - m.data.toList.length = bs.size := by rw [ByteArray.size_append, ← Lib.size_eq]; omega
  have hbz : bs.size ≤ 100000100 := by omega
  have c4 := fun W => (parse_c (bs ++ m) W (by rw [ByteArray.size_append]; omega)).mono (fun e w' h => pa_ok h hP)
  rw [hk] at c4
  clear hbb hbl hP hk hpl hbs
  go_wp2_with fail
  (with_reducible refine c1.mono ?_)
  rintro e w3 ⟨rfl, hb3⟩
  replace hB := via (a := w) hb3 hB
  have hr3 := Rd.more (hr2.below hb3) hb3.size
  have c2 := rmay_c A _ c _ w3 hr3 HFP.out hn
  rw [hM] at c2
  clear c1 hr2
  go_wp2_with fail
  (with_reducible refine c2.mono ?_)
  rintro e w4 ⟨rfl, hb4⟩
  replace hB := via (a := w) hb4 hB
  have hr4 := Rd.more (hr3.below hb4) hb4.size
  clear c2 hr3
  go_wp2_with fail
  refine (c4 _).mono ?_
  rintro e w5 ⟨A5, cc5, rfl, hg5, hb5⟩
  replace hB := via (a := w) hb5 hB
  have hr5 := Rd.more (hr4.below hb5) hb5.size
  clear c4 hr4
  obtain ⟨p, rfl⟩ : ∃ p, l = [p] := by
    match l, hl with
    | [p], _ => exact ⟨p, rfl⟩
  have cpl := plain_1 A c p w5 hr5 HFP.out hM
  rw [hp p rfl] at cpl
  simp only [Bool.false_eq_true, if_false] at cpl
  go_wp2_with fail
  (with_reducible refine cpl.mono ?_)
  rintro e w6 ⟨rfl, hb6⟩
  replace hB := via (a := w) hb6 hB
  have hr6 := Rd.more (hr5.below hb6) hb6.size
  have hg6 := Rd.more (hg5.below hb6) hb6.size
  obtain ⟨g, o, q, rfl, hgg, hq, q1, q2⟩ := Pts.get hr6 (k := 0) (by omega)
  cases hq
  have en := ba_empty p.1
  rw [hp p rfl] at en
  simp only [Nat.zero_mul, Nat.add_zero] at q1 q2
  have c7 := may_c _ _ c _ w6 hr6 HFP.out hn
  rw [hM] at c7
  clear cpl hr5 hg5
  go_wp2_with fail
  (with_reducible refine c7.mono ?_)
  rintro e w7 ⟨rfl, hb7⟩
  replace hB := via (a := w) hb7 hB
  have hr7 := Rd.more (hr6.below hb7) hb7.size
  have hg7 := Rd.more (hg6.below hb7) hb7.size
  have c8 := hcp w7 hr7
  clear c7 hr6 hg6
  go_wp2_with fail
  (with_reducible refine c8.mono ?_)
  rintro e w8 ⟨rfl, hb8⟩
  replace hB := via (a := w) hb8 hB
  have hr8 := Rd.more (hr7.below hb8) hb8.size
  have hg8 := Rd.more (hg7.below hb8) hb8.size
  have c9 := same_c A5 _ _ cc5 _ c _ _ w8 w8.heap.size hg8 hr8 (by omega) hn
  rw [decide_eq_true rfl] at c9
  clear c8 hr7 hg7
  go_wp2_with fail
  refine c9.mono ?_
  rintro e w9 ⟨rfl, hb9⟩
  replace hB := via (a := w) hb9 hB
  go_wp2
  go_ret
  exact ⟨rfl, hB⟩
end
end QuoN
end Go.Proofs.Ytmhhmdnikopdlaa
