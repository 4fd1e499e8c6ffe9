/- The walk of MemSets. Condition: an argument that can be. -/
import Derived.Test.YtfhnocelmpnjgaaMemZa
namespace Go.Proofs.Ytfhnocelmpnjgaa
open Go.RowKit
namespace MemW
open QuoW MemP Own
theorem own_vrs {w : World} {B : Nat} {v : Value} {l : List Vr} (h : OwnV w B v l) : ∃ A c, v = .slice A l.length c ∧ Vrs w w.heap.size A l.length l := by
  obtain ⟨A, c, e, hr, _⟩ := Own.rd h
  exact ⟨A, c, e, hr⟩
theorem small_yes {l : List Vr} (h : smallV l = true) : l.length ≤ 20 ∧ FitV l := by
  unfold smallV at h
  rw [Bool.and_eq_true, decide_eq_true_eq, List.all_eq_true] at h
  refine ⟨h.1, fun p hp => ?_⟩
  have := h.2 p hp
  simp at this; omega
theorem set_list_len (l : List Vr) (nm v : ByteArray) : (setV l nm v).1.length ≤ l.length + 1 := by
  unfold setV
  split
  · simp
  · split
    · simp
    · split
      · simp
      · have e := congrArg List.length (below_from (dropV l nm) nm)
        rw [List.length_append] at e
        have h1 : (dropV l nm).length ≤ l.length := List.length_filter_le _ _
        show (putV (dropV l nm) nm v).length ≤ _
        unfold putV
        rw [List.length_append, List.length_cons]; omega
set_option maxHeartbeats 3200000 in
set_option maxRecDepth 100000 in
theorem sets_c (A : Option Addr) (n c : Nat) (l : List Vr) (nm v : ByteArray) (w : World) (hr : Vrs w w.heap.size A n l) (hn : n ≤ 9223372036854775807) (hf : FitW l) (hnm : nm.size ≤ 9223372036854775807) (hv : v.size ≤ 9223372036854775807) :
    Calls Try.prog 4 #[.slice A n c, .string nm, .string v] w fun e w' => e = .returned (.bool true) ∧ Below w.heap.size w w' := by
  have hl := Vrs.len hr
  have cw := awake_c w
  cases hs : smallV l
  · go_enter Try.func4, Try.ntmps4
    go_wp2_with fail
    (with_reducible refine cw.mono ?_)
    rintro e w1 ⟨rfl, hb1⟩
    have cs := small_c A n c l w1 (Rd.more (hr.below hb1) hb1.size) hn hf
    rw [hs] at cs
    clear hs hr
    go_wp2_with fail
    (with_reducible refine cs.mono ?_)
    rintro e w2 ⟨rfl, hb2⟩
    have hB2 := via (a := w) hb2 hb1
    go_wp2
    go_ret
    exact ⟨rfl, hB2⟩
  obtain ⟨hl20, hfit⟩ := small_yes hs
  rw [hl] at hl20
  by_cases hz1 : 60 < nm.size
  · have d1 : decide ((60 : Int) < (nm.size : Int)) = true := by simp; omega
    go_enter Try.func4, Try.ntmps4
    go_wp2_with fail
    (with_reducible refine cw.mono ?_)
    rintro e w1 ⟨rfl, hb1⟩
    have cs := small_c A n c l w1 (Rd.more (hr.below hb1) hb1.size) hn hf
    rw [hs] at cs
    clear hs hr
    go_wp2_with fail
    (with_reducible refine cs.mono ?_)
    rintro e w2 ⟨rfl, hb2⟩
    have hB2 := via (a := w) hb2 hb1
    go_wp2
    go_ret
    exact ⟨rfl, hB2⟩
  have d1 : decide ((60 : Int) < (nm.size : Int)) = false := by simp; omega
  by_cases hz2 : 60 < v.size
  · have d2 : decide ((60 : Int) < (v.size : Int)) = true := by simp; omega
    go_enter Try.func4, Try.ntmps4
    go_wp2_with fail
    (with_reducible refine cw.mono ?_)
    rintro e w1 ⟨rfl, hb1⟩
    have cs := small_c A n c l w1 (Rd.more (hr.below hb1) hb1.size) hn hf
    rw [hs] at cs
    clear hs hr
    go_wp2_with fail
    (with_reducible refine cs.mono ?_)
    rintro e w2 ⟨rfl, hb2⟩
    have hB2 := via (a := w) hb2 hb1
    go_wp2
    go_ret
    exact ⟨rfl, hB2⟩
  have d2 : decide ((60 : Int) < (v.size : Int)) = false := by simp; omega
  have HF := Lib.hid hfit
  have HL := Lib.hid hl
  clear hfit hl
  go_enter Try.func4, Try.ntmps4
  go_wp2_with fail
  (with_reducible refine cw.mono ?_)
  rintro e w1 ⟨rfl, hb1⟩
  have cs := small_c A n c l w1 (Rd.more (hr.below hb1) hb1.size) hn hf
  rw [hs] at cs
  clear hs cw
  go_wp2_with fail
  (with_reducible refine cs.mono ?_)
  rintro e w2 ⟨rfl, hb2⟩
  have hB2 := via (a := w) hb2 hb1
  clear cs
  have R2 := Rd.more (hr.below hB2) hB2.size
  have c1 := set_c A n c l nm v w2 R2 HF.out (by omega) (by omega) (by omega)
  go_wp2_with fail
  (with_reducible refine c1.mono ?_)
  rintro e w3 ⟨sv, rfl, hown, hb3⟩
  have hB3 := via (a := w) hb3 hB2
  clear c1
  have R3 := Rd.more (hr.below hB3) hB3.size
  have c2 := rset_c A n c l nm v w3 R3 HF.out (by omega) (by omega) (by omega)
  have hlen := set_list_len l nm v
  rw [HL.out] at hlen
  generalize hS : setV l nm v = S at *
  have HS := Lib.hid hS
  go_wp2_with fail
  (with_reducible refine c2.mono ?_)
  rintro e w4 ⟨sv2, rfl, hown2, hb4⟩
  rw [hS] at hown2 ⊢
  clear hS
  have hB4 := via (a := w) hb4 hB3
  have hown4 := Own.next hown hb4
  clear c2 hown
  have R4 := Rd.more (hr.below hB4) hB4.size
  have c3 := get_c A n c l nm w4 R4 (by omega)
  go_wp2_with fail
  (with_reducible refine c3.mono ?_)
  rintro e w5 ⟨rfl, hb5⟩
  have hB5 := via (a := w) hb5 hB4
  have hown5 := Own.next hown4 hb5
  have hown5' := Own.next hown2 hb5
  clear c3 hown4 hown2
  have R5 := Rd.more (hr.below hB5) hB5.size
  have c4 := rget_c A n c l nm w5 R5 (by omega)
  obtain ⟨gv, hgv⟩ : ∃ gv, (getV l nm).getD ByteArray.empty = gv := ⟨_, rfl⟩
  obtain ⟨gb, hgb⟩ : ∃ gb, (getV l nm).isSome = gb := ⟨_, rfl⟩
  unfold GetPost at c4
  rw [hgv, hgb] at c4 ⊢
  clear hgv hgb
  go_wp2_with fail
  (with_reducible refine c4.mono ?_)
  rintro e w6 ⟨rfl, hb6⟩
  have hB6 := via (a := w) hb6 hB5
  have o1 := Own.next hown5 hb6
  have o2 := Own.next hown5' hb6
  clear c4 hown5 hown5'
  obtain ⟨S1, S2⟩ := S
  simp only at o1 o2 hlen ⊢
  obtain ⟨A1, k1, rfl, r1⟩ := own_vrs o1
  obtain ⟨A2, k2, rfl, r2⟩ := own_vrs o2
  have c5 := same_c A1 A2 S1.length k1 S1.length k2 S1 S1 w6 w6.heap.size r1 r2 (by omega) (by omega)
  rw [show decide (S1 = S1) = true by simp] at c5
  have R6 := Rd.more (hr.below hB6) hB6.size
  have hSl : S1.length ≤ 21 := by omega
  have ee : (gv.toList == gv.toList) = true := by simp
  have eb : (gb == gb) = true := by simp
  have ei : ((S2 : Int) == (S2 : Int)) = true := by simp
  clear o1 o2 hlen r1 r2
  go_wp2_with fail
  (with_reducible refine c5.mono ?_)
  rintro e w7 ⟨rfl, hb7⟩
  have hB7 := via (a := w) hb7 hB6
  clear c5
  have c6 := drop_c A n c l nm w7 (Rd.more (hr.below hB7) hB7.size) (by omega)
  go_wp2_with fail
  (with_reducible refine c6.mono ?_)
  rintro e w8 ⟨dv, rfl, od, hb8⟩
  have hB8 := via (a := w) hb8 hB7
  clear c6
  have c7 := rdrop_c A n c l nm w8 (Rd.more (hr.below hB8) hB8.size) (by omega)
  go_wp2_with fail
  (with_reducible refine c7.mono ?_)
  rintro e w9 ⟨dv2, rfl, od2, hb9⟩
  have hB9 := via (a := w) hb9 hB8
  have od9 := Own.next od hb9
  have hdl : (dropV l nm).length ≤ n := by rw [← HL.out]; exact List.length_filter_le _ _
  clear c7 od
  generalize dropV l nm = D at *
  obtain ⟨A3, k3, rfl, r3⟩ := own_vrs od9
  obtain ⟨A4, k4, rfl, r4⟩ := own_vrs od2
  have c8 := same_c A3 A4 D.length k3 D.length k4 D D w9 w9.heap.size r3 r4 (by omega) (by omega)
  rw [show decide (D = D) = true by simp] at c8
  clear od9 od2 r3 r4
  go_wp2_with fail
  (with_reducible refine c8.mono ?_)
  rintro e w10 ⟨rfl, hb10⟩
  have hB10 := via (a := w) hb10 hB9
  clear c8
  have c9 := may_c A n c l w10 (Rd.more (hr.below hB10) hB10.size) HF.out (by omega)
  obtain ⟨mb, hmb⟩ : ∃ mb, MemP.mayB l = mb := ⟨_, rfl⟩
  rw [hmb] at c9
  go_wp2_with fail
  (with_reducible refine c9.mono ?_)
  rintro e w11 ⟨rfl, hb11⟩
  have hB11 := via (a := w) hb11 hB10
  clear c9
  have c10 := rmay_c A n c l w11 (Rd.more (hr.below hB11) hB11.size) HF.out (by omega)
  rw [hmb] at c10
  clear hmb
  have em : (mb == mb) = true := by simp
  go_wp2_with fail
  (with_reducible refine c10.mono ?_)
  rintro e w12 ⟨rfl, hb12⟩
  have hB12 := via (a := w) hb12 hB11
  clear c10
  have c11 := fun W => short_c v W (by omega)
  have c12 := fun W => rshort_c v W (by omega)
  generalize shortV v = sv3 at *
  have es : (sv3.toList == sv3.toList) = true := by simp
  go_wp2_with (first | (with_reducible refine (c11 _).mono ?_; rintro e w' ⟨rfl, rfl⟩) | (with_reducible refine (c12 _).mono ?_; rintro e w' ⟨rfl, rfl⟩))
  go_ret
  exact ⟨rfl, hB12⟩
end MemW
end Go.Proofs.Ytfhnocelmpnjgaa
