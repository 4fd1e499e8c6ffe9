/- The walk of the law on texts. Conditions: numbers of 64 bits; the tables of strconv. -/
import Derived.Test.YtakaifaeaffelaaDoorNumA
namespace Go.Proofs.YtakaifaeaffelaaDoor
open Go.RowKit
namespace NumW
open NumP
theorem dec_length : ∀ (k u : Nat), u < 10 ^ (k + 1) → (Lib.decDigits u).length ≤ k + 1 := by
  intro k
  induction k with
  | zero => intro u h; rw [dec_split, if_pos (by omega)]; simp
  | succ k ih =>
    intro u h
    rw [dec_split]
    split
    · simp
    · have := ih (u / 10) (by rw [Nat.pow_succ] at h; omega)
      simp; omega
theorem itoa_size {n : Int} (h0 : -9223372036854775808 ≤ n) (h1 : n ≤ 9223372036854775807) : (⟨(Lib.itoa n).toArray⟩ : ByteArray).size ≤ 281474976710656 := by
  have p : (10 : Nat) ^ (19 + 1) = 100000000000000000000 := by rfl
  have : (Lib.itoa n).length ≤ 21 := by
    rw [Lib.itoa]
    split
    · have := dec_length 19 n.natAbs (by omega); simp; omega
    · have := dec_length 19 n.toNat (by omega); omega
  show (Lib.itoa n).toArray.size ≤ _
  simp; omega
theorem pr_itoa {n : Int} (h0 : -9223372036854775808 ≤ n) (h1 : n ≤ 9223372036854775807) : pr (⟨(Lib.itoa n).toArray⟩ : ByteArray).data.toList = .tuple #[.int .i64 n, .int .i64 0] := by
  show pr (Lib.itoa n).toArray.toList = _
  rw [List.toList_toArray, pr, if_pos (itoa_form n), itoa_pv, res_in ⟨h0, h1⟩]
section
variable (n : Int) (s : ByteArray) (w : World) (a0 : -9223372036854775808 ≤ n) (a1 : n ≤ 9223372036854775807) (hs : s.size ≤ 9223372036854775807) (hw : Rdy w)
include a0 a1 hs hw
set_option maxHeartbeats 1600000 in
theorem texts_c : Calls Tryd.prog 3 #[.int .i64 n, .string s] w fun e w' => e = .returned (.bool true) ∧ Below w.heap.size w w' := by
  have cw := awake_c w hw
  by_cases g : 40 < s.size
  · have d : decide (40 < (s.size : Int)) = true := by rw [decide_eq_true_iff]; omega
    go_enter Tryd.func3, Tryd.ntmps3
    go_wp2_with fail
    (with_reducible refine cw.mono ?_)
    rintro e w1 ⟨rfl, hb⟩
    go_wp2_with fail
    go_ret
    exact ⟨rfl, hb⟩
  · have d : decide (40 < (s.size : Int)) = false := by rw [decide_eq_false_iff_not]; omega
    have c1 := fun W hW => print_c n W a0 a1 hW
    have c2 := fun W hW => parse_c _ W (itoa_size a0 a1) hW
    have c3 := fun W hW => parse_c s W (by omega) hW
    have c4 := fun W => rparse_c s W (by omega)
    have c5 := fun W => rprint_c n W a0 a1
    rw [pr_itoa a0 a1] at c2
    generalize (⟨(Lib.itoa n).toArray⟩ : ByteArray) = t at *
    by_cases hf : formB s.data.toList = true
    · rw [pr, if_pos hf] at c3 c4
      by_cases hi : -9223372036854775808 ≤ pv s.data.toList ∧ pv s.data.toList ≤ 9223372036854775807
      · rw [res_in hi] at c3 c4
        have c6 := fun W hW => print_c (pv s.data.toList) W hi.1 hi.2 hW
        rw [form_itoa hf, Array.toArray_toList] at c6
        change ∀ W, Rdy W → Calls Tryd.prog _ _ W (fun e w' => e = .returned (.string s) ∧ _) at c6
        generalize pv s.data.toList = x at *
        clear hf
        go_enter Tryd.func3, Tryd.ntmps3
        go_wp2_with fail
        (with_reducible refine cw.mono ?_)
        rintro e w1 ⟨rfl, hb⟩
        have h1 := hw.below hb
        go_wp2_with fail
        (with_reducible refine (c1 _ h1).mono ?_)
        rintro e w2 ⟨rfl, hb2⟩
        have h2 := h1.below hb2
        have hB := via (a := w) hb2 hb
        clear hb hb2
        go_wp2_with fail
        (with_reducible refine (c2 _ h2).mono ?_)
        rintro e w3 ⟨rfl, hb3⟩
        have h3 := h2.below hb3
        replace hB := via (a := w) hb3 hB
        clear hb3
        go_wp2_with fail
        (with_reducible refine (c3 _ h3).mono ?_)
        rintro e w4 ⟨rfl, hb4⟩
        have h4 := h3.below hb4
        replace hB := via (a := w) hb4 hB
        clear hb4
        go_wp2_with fail
        (with_reducible refine (c4 _).mono ?_)
        rintro e w' ⟨rfl, rfl⟩
        go_wp2_with fail
        (with_reducible refine (c5 _).mono ?_)
        rintro e w5 ⟨rfl, hb5⟩
        have h5 := h4.below hb5
        replace hB := via (a := w) hb5 hB
        clear hb5
        go_wp2_with fail
        (with_reducible refine (c6 _ h5).mono ?_)
        rintro e w6 ⟨rfl, hb6⟩
        replace hB := via (a := w) hb6 hB
        go_wp2_with fail
        go_ret
        exact ⟨rfl, hB⟩
      · rw [res_out hi] at c3 c4
        clear hi hf
        go_enter Tryd.func3, Tryd.ntmps3
        go_wp2_with fail
        (with_reducible refine cw.mono ?_)
        rintro e w1 ⟨rfl, hb⟩
        have h1 := hw.below hb
        go_wp2_with fail
        (with_reducible refine (c1 _ h1).mono ?_)
        rintro e w2 ⟨rfl, hb2⟩
        have h2 := h1.below hb2
        have hB := via (a := w) hb2 hb
        clear hb hb2
        go_wp2_with fail
        (with_reducible refine (c2 _ h2).mono ?_)
        rintro e w3 ⟨rfl, hb3⟩
        have h3 := h2.below hb3
        replace hB := via (a := w) hb3 hB
        clear hb3
        go_wp2_with fail
        (with_reducible refine (c3 _ h3).mono ?_)
        rintro e w4 ⟨rfl, hb4⟩
        have h4 := h3.below hb4
        replace hB := via (a := w) hb4 hB
        clear hb4
        go_wp2_with fail
        (with_reducible refine (c4 _).mono ?_)
        rintro e w' ⟨rfl, rfl⟩
        go_wp2_with fail
        (with_reducible refine (c5 _).mono ?_)
        rintro e w5 ⟨rfl, hb5⟩
        replace hB := via (a := w) hb5 hB
        clear hb5
        go_wp2_with fail
        go_ret
        exact ⟨rfl, hB⟩
    · rw [pr, if_neg hf] at c3 c4
      clear hf
      go_enter Tryd.func3, Tryd.ntmps3
      go_wp2_with fail
      (with_reducible refine cw.mono ?_)
      rintro e w1 ⟨rfl, hb⟩
      have h1 := hw.below hb
      go_wp2_with fail
      (with_reducible refine (c1 _ h1).mono ?_)
      rintro e w2 ⟨rfl, hb2⟩
      have h2 := h1.below hb2
      have hB := via (a := w) hb2 hb
      clear hb hb2
      go_wp2_with fail
      (with_reducible refine (c2 _ h2).mono ?_)
      rintro e w3 ⟨rfl, hb3⟩
      have h3 := h2.below hb3
      replace hB := via (a := w) hb3 hB
      clear hb3
      go_wp2_with fail
      (with_reducible refine (c3 _ h3).mono ?_)
      rintro e w4 ⟨rfl, hb4⟩
      have h4 := h3.below hb4
      replace hB := via (a := w) hb4 hB
      clear hb4
      go_wp2_with fail
      (with_reducible refine (c4 _).mono ?_)
      rintro e w' ⟨rfl, rfl⟩
      go_wp2_with fail
      (with_reducible refine (c5 _).mono ?_)
      rintro e w5 ⟨rfl, hb5⟩
      replace hB := via (a := w) hb5 hB
      clear hb5
      go_wp2_with fail
      go_ret
      exact ⟨rfl, hB⟩
end
end NumW
end Go.Proofs.YtakaifaeaffelaaDoor
