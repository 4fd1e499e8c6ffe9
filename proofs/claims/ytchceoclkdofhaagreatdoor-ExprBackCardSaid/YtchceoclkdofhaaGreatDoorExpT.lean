/- The reference's scanner of tokens: its small walks. Conditions: texts that fit. -/
import Derived.Test.YtchceoclkdofhaaGreatDoorExpW
import Derived.Test.YtchceoclkdofhaaGreatDoorQuoN
namespace Go.Proofs.YtchceoclkdofhaaGreatDoor
set_option linter.unusedVariables false
set_option linter.unusedSimpArgs false
open Go.RowKit
namespace ExpT
open QuoP CalP ExpP ExpW
open QuoW (smallB drop_cons)
theorem small_c (c : UInt8) (w : World) (b : Bool) : Calls Tryz.prog 42 #[.int .u8 c.toNat, .bool b] w fun e w' => e = .returned (.bool (smallB c b)) ∧ w = w' := by
  cases b
  all_goals
    go_enter Tryz.func42, Tryz.ntmps42
    go_wp2
    all_goals (go_ret; refine ⟨ret_bool ?_, rfl⟩; rw [Bool.eq_iff_iff]; simp [smallB, letterB, digB]; try omega)
theorem small_with (c : UInt8) : smallB c true = withB c := by unfold smallB withB; rw [Bool.true_and, Bool.or_assoc]
theorem small_letter (c : UInt8) : smallB c false = letterB c := by unfold smallB; rw [Bool.false_and, Bool.or_false]
/-- How far such bytes go. -/
def runN (p : UInt8 → Bool) (s : ByteArray) (i : Nat) : Nat := i + ((s.data.toList.drop i).takeWhile p).length
theorem run_step {p : UInt8 → Bool} {s : ByteArray} {i : Nat} (h : i < s.size) (hp : p (s[i]'h) = true) : runN p s i = runN p s (i + 1) := by
  unfold runN
  rw [drop_cons s i h, List.takeWhile_cons, if_pos hp, List.length_cons]; omega
theorem run_stop {p : UInt8 → Bool} {s : ByteArray} {i : Nat} (h : i < s.size) (hp : p (s[i]'h) = false) : runN p s i = i := by
  unfold runN
  rw [drop_cons s i h, List.takeWhile_cons, if_neg (by rw [hp]; decide)]; rfl
theorem run_end {p : UInt8 → Bool} {s : ByteArray} {i : Nat} (h : ¬ i < s.size) : runN p s i = i := by
  unfold runN
  rw [List.drop_eq_nil_of_le (by rw [← Lib.size_eq]; omega)]; rfl
theorem run_le (p : UInt8 → Bool) (s : ByteArray) (i : Nat) (h : i ≤ s.size) : i ≤ runN p s i ∧ runN p s i ≤ s.size := by
  unfold runN
  have h1 := (List.takeWhile_prefix (l := s.data.toList.drop i) p).length_le
  rw [List.length_drop, ← Lib.size_eq] at h1
  omega
set_option maxRecDepth 100000 in
set_option maxHeartbeats 1600000 in
theorem letters_c (s : ByteArray) (i : Nat) (hi : i ≤ s.size) (hs : s.size ≤ 1048576) (w : World) : Calls Tryz.prog 46 #[.string s, .int .i64 i] w fun e w' => e = .returned (.int .i64 (runN letterB s i : Nat)) ∧ w = w' := by
  obtain ⟨R, hR⟩ : ∃ R, runN letterB s i = R := ⟨_, rfl⟩
  rw [hR]
  have HR := Lib.hid hR
  clear hR
  go_enter Tryz.func46, Tryz.ntmps46
  go_wp2_with fail
  go_loopw [1] (fun v wr => ∃ (j : Nat), v = .int .i64 j ∧ j ≤ s.size ∧ Hid (runN letterB s j = R) ∧ w = wr) (fun v _ => s.size - (intOf v).toNat)
  case atStart => exact ⟨i, rfl, hi, HR, rfl⟩
  case round =>
    clear HR hi
    obtain ⟨j, rfl, hj, HR, rfl⟩ := hrel
    by_cases hlt : j < s.size
    · have d : decide ((j : Int) < (s.size : Int)) = true := decide_eq_true (by omega)
      have c1 := small_c (s[j]'hlt) w false
      rw [small_letter] at c1
      cases hl : letterB (s[j]'hlt) with
      | true =>
        have HR2 := Lib.hid ((run_step hlt hl).symm.trans HR.out)
        rw [hl] at c1
        clear HR hl
        go_wp2_with fail
        (with_reducible refine c1.mono ?_)
        rintro e w9 ⟨rfl, rfl⟩
        go_wp2_with fail
        go_roundw
        case rel => exact ⟨j + 1, by go_num, by omega, HR2, trivial⟩
        case measure => simp [intOf]; omega
      | false =>
        have HR2 := (run_stop hlt hl).symm.trans HR.out
        subst HR2
        rw [hl] at c1
        clear HR hl
        go_wp2_with fail
        (with_reducible refine c1.mono ?_)
        rintro e w9 ⟨rfl, rfl⟩
        go_wp2_with fail
        go_ret
        exact ⟨rfl, rfl⟩
    · have d : decide ((j : Int) < (s.size : Int)) = false := decide_eq_false (by omega)
      have HR2 := (run_end hlt).symm.trans HR.out
      subst HR2
      clear HR
      go_wp2_with fail
      go_ret
      exact ⟨rfl, rfl⟩
set_option maxRecDepth 100000 in
set_option maxHeartbeats 1600000 in
theorem run_c (s : ByteArray) (i : Nat) (b : Bool) (hi : i ≤ s.size) (hs : s.size ≤ 1048576) (w : World) : Calls Tryz.prog 43 #[.string s, .int .i64 i, .bool b] w fun e w' => e = .returned (.int .i64 (runN (if b then digB else withB) s i : Nat)) ∧ w = w' := by
  obtain ⟨p, hp⟩ : ∃ p, (if b then digB else withB) = p := ⟨_, rfl⟩
  obtain ⟨R, hR⟩ : ∃ R, runN p s i = R := ⟨_, rfl⟩
  rw [hp, hR]
  have HR := Lib.hid hR
  have HP := Lib.hid hp
  clear hR hp
  go_enter Tryz.func43, Tryz.ntmps43
  go_wp2_with fail
  go_loopw [1] (fun v wr => ∃ (j : Nat), v = .int .i64 j ∧ j ≤ s.size ∧ Hid (runN p s j = R) ∧ w = wr) (fun v _ => s.size - (intOf v).toNat)
  case atStart => exact ⟨i, rfl, hi, HR, rfl⟩
  case round =>
    clear HR hi
    obtain ⟨j, rfl, hj, HR, rfl⟩ := hrel
    by_cases hlt : j < s.size
    rotate_left
    · have d : decide ((j : Int) < (s.size : Int)) = false := decide_eq_false (by omega)
      have HR2 := (run_end hlt).symm.trans HR.out
      subst HR2
      clear HR
      go_wp2_with fail
      go_ret
      exact ⟨rfl, rfl⟩
    have d : decide ((j : Int) < (s.size : Int)) = true := decide_eq_true (by omega)
    cases b with
    | false =>
      have hpe : p = withB := HP.out.symm
      subst hpe
      have c1 := small_c (s[j]'hlt) w true
      rw [small_with] at c1
      cases hl : withB (s[j]'hlt) with
      | true =>
        have HR2 := Lib.hid ((run_step hlt hl).symm.trans HR.out)
        rw [hl] at c1
        clear HR hl
        go_wp2_with fail
        (with_reducible refine c1.mono ?_)
        rintro e w9 ⟨rfl, rfl⟩
        go_wp2_with fail
        go_roundw
        case rel => exact ⟨j + 1, by go_num, by omega, HR2, trivial⟩
        case measure => simp [intOf]; omega
      | false =>
        have HR2 := (run_stop hlt hl).symm.trans HR.out
        subst HR2
        rw [hl] at c1
        clear HR hl
        go_wp2_with fail
        (with_reducible refine c1.mono ?_)
        rintro e w9 ⟨rfl, rfl⟩
        go_wp2_with fail
        go_ret
        exact ⟨rfl, rfl⟩
    | true =>
      have hpe : p = digB := HP.out.symm
      subst hpe
      have hq : (digB (s[j]'hlt) = true ∧ decide ((48 : Int) ≤ ((s[j]'hlt).toNat : Int)) = true ∧ decide (((s[j]'hlt).toNat : Int) ≤ 57) = true) ∨ (digB (s[j]'hlt) = false ∧ decide ((48 : Int) ≤ ((s[j]'hlt).toNat : Int)) = false) ∨ (digB (s[j]'hlt) = false ∧ decide ((48 : Int) ≤ ((s[j]'hlt).toNat : Int)) = true ∧ decide (((s[j]'hlt).toNat : Int) ≤ 57) = false) := by
        have hd : digB (s[j]'hlt) = (decide (48 ≤ (s[j]'hlt).toNat) && decide ((s[j]'hlt).toNat ≤ 57)) := rfl
        by_cases h1 : 48 ≤ (s[j]'hlt).toNat
        · by_cases h2 : (s[j]'hlt).toNat ≤ 57
          · exact .inl ⟨by rw [hd, decide_eq_true h1, decide_eq_true h2]; rfl, decide_eq_true (by omega), decide_eq_true (by omega)⟩
          · exact .inr (.inr ⟨by rw [hd, decide_eq_false h2, Bool.and_false], decide_eq_true (by omega), decide_eq_false (by omega)⟩)
        · exact .inr (.inl ⟨by rw [hd, decide_eq_false h1, Bool.false_and], decide_eq_false (by omega)⟩)
      rcases hq with ⟨hl, l1, l2⟩ | hq
      · have HR2 := Lib.hid ((run_step hlt hl).symm.trans HR.out)
        clear HR hl
        go_wp2_with fail
        go_roundw
        case rel => exact ⟨j + 1, by go_num, by omega, HR2, trivial⟩
        case measure => simp [intOf]; omega
      · have hl : digB (s[j]'hlt) = false := by rcases hq with ⟨h, _⟩ | ⟨h, _⟩ <;> exact h
        have HR2 := (run_stop hlt hl).symm.trans HR.out
        subst HR2
        clear HR hl
        rcases hq with ⟨-, l1⟩ | ⟨-, l1, l2⟩
        all_goals
          go_wp2_with fail
          go_ret
          exact ⟨rfl, rfl⟩
theorem ws_facts0 (ws : ByteArray) : ws.toList = ws.data.toList := Lib.toList_data _
theorem flag_c (s : ByteArray) (w : World) : Calls Tryz.prog 47 #[.string s] w fun e w' => e = .returned (.bool (flagB s.data.toList)) ∧ w = w' := by
  have hf : flagB s.data.toList = (s.toList == [105] || s.toList == [101, 120] || s.toList == [103, 108] || s.toList == [114, 101]) := by rw [ws_facts0]; rfl
  rw [hf]
  cases h0 : (s.toList == [105]) <;> cases h1 : (s.toList == [101, 120]) <;> cases h2 : (s.toList == [103, 108]) <;> cases h3 : (s.toList == [114, 101])
  all_goals
    go_enter Tryz.func47, Tryz.ntmps47
    go_wp2_with fail
    go_ret
    exact ⟨rfl, rfl⟩
end ExpT
end Go.Proofs.YtchceoclkdofhaaGreatDoor
