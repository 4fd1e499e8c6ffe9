/- Names of faults, first lines, small numbers, words: the walks. Conditions: what may be; texts that fit; the tables of strconv. -/
import Derived.Test.YtooinkhjoppijaaDoorTraN
namespace Go.Proofs.YtooinkhjoppijaaDoor
set_option linter.unusedVariables false
set_option linter.unusedSimpArgs false
open Go.RowKit
namespace TraW
open TraP NumP NumW
theorem four_c (n : Int) (hn : n = 1 ∨ n = 2 ∨ n = 3 ∨ n = 4) (W : World) (b : Nat) (h : Blk W b 3 #[.int .i64 1, .int .i64 2, .int .i64 3, .int .i64 4]) :
    Calls Tryd.prog 45 #[.slice (some ⟨b, 0, none⟩) 4 4, .int .i64 n] W fun e w' => e = .returned (.bool true) ∧ W = w' := by
  have c := Tryd.slices_Contains_int b 0 4 4 [1, 2, 3, 4] n W (by simp) (by omega) (by
    intro j hj
    have := h.cell j
    rw [Nat.zero_add, this]
    simp at hj
    have hj : j = 0 ∨ j = 1 ∨ j = 2 ∨ j = 3 := by omega
    rcases hj with rfl | rfl | rfl | rfl <;> rfl)
  refine c.mono ?_
  rintro e w' ⟨rfl, rfl⟩
  refine ⟨?_, rfl⟩
  rcases hn with rfl | rfl | rfl | rfl <;> rfl
set_option maxHeartbeats 1600000 in
theorem name_c (n : Int) (hn : n = 1 ∨ n = 2 ∨ n = 3 ∨ n = 4) (w : World) : Calls Tryd.prog 34 #[.int .i64 n] w fun e w' => e = .returned (.string (ba (nameF n))) ∧ Below w.heap.size w w' := by
  have cc := four_c n hn
  obtain ⟨R, hR⟩ : ∃ R, ba (nameF n) = R := ⟨_, rfl⟩
  rw [hR]
  have H := Lib.hid hR
  clear hR
  rcases hn with rfl | rfl | rfl | rfl
  all_goals
    go_enter Tryd.func34, Tryd.ntmps34
    go_wp2_with fail
    (with_reducible refine (cc _ _ (Blk.new1 _ _ _ _)).mono ?_)
    rintro e w2 ⟨rfl, rfl⟩
    go_wp2
    go_ret
    exact ⟨ret_txt (by rw [← H.out]; rfl), by go_grown⟩
set_option maxHeartbeats 1600000 in
theorem first_c (k n : Int) (A : Option Addr) (m c : Nat) (w : World) (h : headB k n = true) :
    Calls Tryd.prog 18 #[trV k n A m c] w fun e w' => e = .returned (.string (ba (headL k n))) ∧ Below w.heap.size w w' := by
  obtain ⟨R, hR⟩ : ∃ R, ba (headL k n) = R := ⟨_, rfl⟩
  rw [hR]
  have H := Lib.hid hR
  clear hR
  simp only [trV]
  rcases head_cases h with ⟨rfl, rfl⟩ | ⟨rfl, hn⟩ | ⟨rfl, h0, h1⟩
  · clear h
    go_enter Tryd.func18, Tryd.ntmps18
    go_wp2
    go_ret
    exact ⟨ret_txt (by rw [← H.out]; rfl), by go_grown⟩
  · have cn := fun W => name_c n hn W
    have hz : (ba (nameF n)).size ≤ 20 := by rw [ba_size]; unfold nameF; repeat' split
                                             all_goals simp
    obtain ⟨Q, hQ⟩ : ∃ Q, ba (nameF n) = Q := ⟨_, rfl⟩
    rw [hQ] at cn hz
    have HQ := Lib.hid hQ
    clear hQ h hn
    go_enter Tryd.func18, Tryd.ntmps18
    go_wp2_with fail
    (with_reducible refine (cn _).mono ?_)
    rintro e w2 ⟨rfl, b2⟩
    have B2 := via (a := w) b2 (by go_grown)
    go_wp2
    go_ret
    exact ⟨ret_txt (by rw [← H.out, ← HQ.out]; simp only [ba_is, ba_app]; rfl), B2⟩
  · obtain ⟨q, rfl⟩ : ∃ q : Nat, n = q := ⟨n.toNat, by omega⟩
    have hq : q < 100 := by omega
    have cn := fun W => itoa_c q hq W
    have hz : (ba (Lib.itoa q)).size ≤ 20 := by rw [ba_size, itoa_nat]; exact dec_small q hq
    obtain ⟨Q, hQ⟩ : ∃ Q, ba (Lib.itoa q) = Q := ⟨_, rfl⟩
    rw [hQ] at cn hz
    have HQ := Lib.hid hQ
    clear hQ h
    go_enter Tryd.func18, Tryd.ntmps18
    go_wp2_with fail
    (with_reducible refine (cn _).mono ?_)
    rintro e w2 ⟨rfl, rfl⟩
    go_wp2
    go_ret
    exact ⟨ret_txt (by rw [← H.out]; simp only [ba_is, ← HQ.out, ba_app]; rfl), by go_grown⟩
set_option maxHeartbeats 1600000 in
theorem rhead_c (k n : Int) (w : World) (h : headB k n = true) :
    Calls Tryd.prog 28 #[.int .i64 k, .int .i64 n] w fun e w' => e = .returned (.string (ba (headL k n))) ∧ Below w.heap.size w w' := by
  obtain ⟨R, hR⟩ : ∃ R, ba (headL k n) = R := ⟨_, rfl⟩
  rw [hR]
  have H := Lib.hid hR
  clear hR
  rcases head_cases h with ⟨rfl, rfl⟩ | ⟨rfl, hn⟩ | ⟨rfl, h0, h1⟩
  · clear h
    go_enter Tryd.func28, Tryd.ntmps28
    go_wp2
    go_ret
    exact ⟨ret_txt (by rw [← H.out]; rfl), by go_grown⟩
  · clear h
    rcases hn with rfl | rfl | rfl | rfl
    all_goals
      go_enter Tryd.func28, Tryd.ntmps28
      go_wp2
      go_ret
      exact ⟨ret_txt (by rw [← H.out]; rfl), by go_grown⟩
  · obtain ⟨q, rfl⟩ : ∃ q : Nat, n = q := ⟨n.toNat, by omega⟩
    have hq : q < 100 := by omega
    have cn := fun W => rnum_c (q : Int) W (by omega) (by omega)
    have hz : (ba (Lib.itoa q)).size ≤ 20 := by rw [ba_size, itoa_nat]; exact dec_small q hq
    obtain ⟨Q, hQ⟩ : ∃ Q, ba (Lib.itoa q) = Q := ⟨_, rfl⟩
    rw [hQ] at cn hz
    have HQ := Lib.hid hQ
    clear hQ h
    go_enter Tryd.func28, Tryd.ntmps28
    go_wp2_with fail
    (with_reducible refine (cn _).mono ?_)
    rintro e w2 ⟨rfl, b2⟩
    go_wp2
    go_ret
    exact ⟨ret_txt (by rw [← H.out]; simp only [ba_is, ← HQ.out, ba_app]; rfl), b2⟩
/-- A small number's reading. -/
def SmP (l : Bs) (m : Int) (w : World) (e : Ending) (w' : World) : Prop :=
  ∃ v : Int, e = .returned (.tuple #[.int .i64 v, .bool (smallB l m)]) ∧ (smallB l m = true → v = pv l) ∧ Below w.heap.size w w'
theorem pr_is (l : Bs) : (∃ v : Int, pr l = .tuple #[.int .i64 v, .int .i64 0] ∧ formB l = true ∧ v = pv l ∧ -9223372036854775808 ≤ v ∧ v ≤ 9223372036854775807) ∨ (∃ k : Int, pr l = .tuple #[.int .i64 0, .int .i64 k] ∧ (k = 1 ∨ k = 3) ∧ (k = 1 ↔ formB l = false) ∧ (k = 3 → formB l = true ∧ ¬ (-9223372036854775808 ≤ pv l ∧ pv l ≤ 9223372036854775807))) := by
  unfold pr
  cases h : formB l
  · right; exact ⟨1, by simp, .inl rfl, by simp, by omega⟩
  · by_cases hv : -9223372036854775808 ≤ pv l ∧ pv l ≤ 9223372036854775807
    · left; exact ⟨pv l, by simp [res_in hv], rfl, rfl, hv.1, hv.2⟩
    · right; exact ⟨3, by simp [res_out hv], .inr rfl, by simp, fun _ => ⟨rfl, hv⟩⟩
set_option maxHeartbeats 1600000 in
theorem small_c (s : ByteArray) (m : Int) (w : World) (hs : s.size ≤ 281474976710656) (hw : Rdy w) (hm : 0 ≤ m ∧ m ≤ 1000) :
    Calls Tryd.prog 39 #[.string s, .int .i64 m] w (SmP s.data.toList m w) := by
  have cp := parse_c s w hs hw
  obtain ⟨hm0, hm1⟩ := hm
  obtain ⟨B, hB⟩ : ∃ B, smallB s.data.toList m = B := ⟨_, rfl⟩
  rcases pr_is s.data.toList with ⟨v, e, h1, h2, h3, h4⟩ | ⟨k, e, hk, h1, h2⟩
  · rw [e] at cp
    have HE := Lib.hid h2
    have HB : Hid (B = inB v m) := Lib.hid (by rw [← hB, smallB, h1, ← h2]; rfl)
    unfold SmP
    rw [hB]
    clear h1 h2 e hB
    by_cases hv0 : 0 ≤ v <;> by_cases hv1 : v ≤ m <;> (try (exfalso; omega))
    all_goals
      go_enter Tryd.func39, Tryd.ntmps39
      go_wp2_with fail
      (with_reducible refine cp.mono ?_)
      rintro e w2 ⟨rfl, b2⟩
      go_wp2
      go_ret2
      exact ⟨v, by rw [HB.out]; simp [inB, hv0, hv1], fun _ => HE.out, b2⟩
  · rw [e] at cp
    have HB : Hid (B = false) := Lib.hid (by
      rw [← hB, smallB]
      rcases hk with rfl | rfl
      · rw [h1.1 rfl]; rfl
      · have := (h2 rfl).2
        rw [(h2 rfl).1]
        simp only [inB, Bool.true_and, Bool.and_eq_false_iff, decide_eq_false_iff_not]; omega)
    unfold SmP
    rw [hB]
    clear h1 h2 e hB
    have e0 : (k == 0) = false := by rcases hk with rfl | rfl <;> rfl
    clear hk
    go_enter Tryd.func39, Tryd.ntmps39
    go_wp2_with fail
    (with_reducible refine cp.mono ?_)
    rintro e w2 ⟨rfl, b2⟩
    go_wp2
    go_ret2
    exact ⟨0, (by rw [HB.out]; rfl), by (rw [HB.out]; intro h; cases h), b2⟩
set_option maxHeartbeats 1600000 in
theorem words_c (s : ByteArray) (w : World) : Calls Tryd.prog 51 #[.string s] w fun e w' => e = .returned (.int .i64 (wordK s.data.toList)) ∧ w = w' := by
  obtain ⟨R, hR⟩ : ∃ R, wordK s.data.toList = R := ⟨_, rfl⟩
  rw [hR]
  have H := Lib.hid hR
  clear hR
  go_enter Tryd.func51, Tryd.ntmps51
  go_wp2
  all_goals
    go_ret
    exact ⟨ret_i64 (by rw [← H.out]; simp_all [wordK, Lib.toList_data, wSc, wTi, wEd, wAr, wRe, wEn, wTo]), rfl⟩
end TraW
end Go.Proofs.YtooinkhjoppijaaDoor
