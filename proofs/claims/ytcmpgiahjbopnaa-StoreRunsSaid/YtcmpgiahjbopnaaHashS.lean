/- The walks of hash.Mix, Of, Masked. Conditions: numbers of 64 bits, texts that fit. -/
import Derived.Test.YtcmpgiahjbopnaaRows
import Derived.Test.YtcmpgiahjbopnaaHashP
import Derived.WalkKit
import Derived.WalkSpells
import Derived.WalkLawsBesides
import Derived.Handy
import Derived.Deep.QuietTactic
import Derived.BigQuiet
import Derived.Lib.Hide
import Derived.Lib.IndexBytes
namespace Go.Proofs.Ytcmpgiahjbopnaa
set_option linter.unusedVariables false
set_option linter.unusedSimpArgs false
open Go.RowKit
theorem ret_u64 {a : Int} {b : Nat} (h : a = (b : Int)) : Ending.returned (.int .u64 a) = .returned (.int .u64 (b : Int)) := by rw [h]
def strOf : Value → ByteArray
  | .string s => s
  | _ => ByteArray.empty
namespace HashW
open HashP
set_option maxHeartbeats 400000 in
theorem mix_c (x : Nat) (w : World) (h : x < 18446744073709551616) :
    Calls Try.prog 20 #[.int .u64 x] w fun e w' => e = .returned (.int .u64 (mix x : Nat)) ∧ w = w' := by
  have e1 := bits_st x h
  have e2 := bits_st (st x) (st_lt x)
  have e3 := bits_fin (st (st x)) (st_lt _)
  have E1 := Lib.hid e1
  have E2 := Lib.hid e2
  have E3 := Lib.hid e3
  clear e1 e2 e3
  go_enter Try.func20, Try.ntmps20
  go_wp2
  go_ret
  refine ⟨ret_u64 ?_, rfl⟩
  rw [E1.out, E2.out, E3.out]
  rfl
set_option maxHeartbeats 400000 in
theorem of_c (s : ByteArray) (seed : Nat) (w : World) (h : seed < 18446744073709551616) (hs : s.size ≤ 4611686018427387904) :
    Calls Try.prog 19 #[.string s, .int .u64 seed] w fun e w' => e = .returned (.int .u64 (of s.data.toList seed : Nat)) ∧ ∃ n, w' = w.drewN n := by
  go_enter Try.func19, Try.ntmps19
  go_wp2_with (go_at_call 20; refine (mix_c _ _ h).mono ?_; rintro e w' ⟨rfl, rfl⟩)
  go_loopw [5, 6] (fun t i wr => ∃ (r : ByteArray) (h : Nat), r.size ≤ s.size ∧ i = .string r ∧ t = .int .u64 (h : Nat) ∧ h < 18446744073709551616 ∧ Hid (chunks s.data.toList.length r.data.toList h = chunks s.data.toList.length s.data.toList (mix seed)) ∧ ∃ n, wr = w.drewN n) (fun _ i _ => (strOf i).size)
  case atStart => exact ⟨s, _, by omega, rfl, rfl, mix_lt _, rfl, 0, rfl⟩
  case round =>
    obtain ⟨r, hh, hr, rfl, rfl, hhl, HC, n, rfl⟩ := hrel
    by_cases hlt : r.toList.isEmpty = true
    · have hcm := fun W => mix_c (hh ^^^ s.size) W (xor_lt _ _ hhl (by unfold M; omega))
      have hx := Lib.hid (bits_xor_u64_nat hh s.size hhl (by omega))
      go_wp2_with fail
      rw [hx.out]
      refine (hcm _).mono ?_
      rintro e w' ⟨rfl, rfl⟩
      go_wp2_with fail
      go_ret
      refine ⟨ret_u64 ?_, _, rfl⟩
      have hd : r.data.toList = [] := by simpa [Lib.toList_data] using hlt
      have hh' : hh = chunks s.data.toList.length s.data.toList (mix seed) := by
        rw [← HC.out, hd]; cases s.data.toList.length <;> simp [chunks]
      rw [hh']; simp [of]
    · rw [Bool.not_eq_true] at hlt
      have hne : r.data.toList ≠ [] := by rw [← Lib.toList_data]; intro h; rw [h] at hlt; cases hlt
      have HC2 := Lib.hid (HC.out ▸ chunks_step _ r.data.toList hh hne (by rw [← Lib.size_eq, ← Lib.size_eq]; exact hr))
      have hx := Lib.hid (bits_xor_u64_nat hh (num (r.data.toList.take 8)) hhl (num_lt8 _ (List.length_take_le _ _)))
      have hcm := fun W => mix_c (hh ^^^ num (r.data.toList.take 8)) W (xor_lt _ _ hhl (num_lt8 _ (List.length_take_le _ _)))
      have F := Lib.hid fun (k : Nat) (hk : k < 8) (hr : k < r.size) => front_eq r.data.toList k hk _ (at_list r k hr)
      clear HC hne
      by_cases hm : 8 ≤ r.size
      · go_wp2
        go_loopw [7, 22] (fun t i wr => ∃ k : Nat, k ≤ 8 ∧ i = .int .i64 k ∧ t = .int .u64 (num (r.data.toList.take k) : Nat) ∧ ∃ n, wr = w.drewN n) (fun _ i _ => 8 - (intOf i).toNat)
        case atStart => exact ⟨0, by omega, rfl, rfl, n, rfl⟩
        case round =>
          obtain ⟨k, hk, rfl, rfl, n2, rfl⟩ := hrel
          by_cases hk2 : k < 8
          · go_wp2
            go_roundw
            case rel => exact ⟨k + 1, by omega, by go_num, congrArg (Value.int .u64) (F.out k hk2 _), _, rfl⟩
            case measure => simp [intOf]; omega
          · obtain rfl : k = 8 := by omega
            go_wp2_with fail
            rw [hx.out]
            refine (hcm _).mono ?_
            rintro e w' ⟨rfl, rfl⟩
            go_wp2_with fail
            go_roundw
            case rel =>
              refine ⟨_, _, ?_, rfl, rfl, mix_lt _, ?_, _, rfl⟩
              · simp; omega
              · rw [Lib.extract_to_end]; exact HC2.out.symm
            case measure => simp [strOf]; omega
      · have hk8 : r.data.toList.take 8 = r.data.toList := List.take_of_length_le (by rw [← Lib.size_eq]; omega)
        have hk9 : r.data.toList.take r.size = r.data.toList := List.take_of_length_le (by rw [← Lib.size_eq]; omega)
        rw [hk8] at hx hcm
        have HH := Lib.hid (And.intro hk8 hk9)
        clear hk8 hk9
        go_wp2
        go_loopw [7, 22] (fun t i wr => ∃ k : Nat, k ≤ r.size ∧ i = .int .i64 k ∧ t = .int .u64 (num (r.data.toList.take k) : Nat) ∧ ∃ n, wr = w.drewN n) (fun _ i _ => 8 - (intOf i).toNat)
        case atStart => exact ⟨0, by omega, rfl, rfl, n, rfl⟩
        case round =>
          obtain ⟨k, hk, rfl, rfl, n2, rfl⟩ := hrel
          by_cases hk2 : k < r.size
          · go_wp2
            go_roundw
            case rel => exact ⟨k + 1, by omega, by go_num, congrArg (Value.int .u64) (F.out k (by omega) hk2), _, rfl⟩
            case measure => simp [intOf]; omega
          · obtain rfl : k = r.size := by omega
            rw [HH.out.2]
            go_wp2_with fail
            rw [hx.out]
            refine (hcm _).mono ?_
            rintro e w' ⟨rfl, rfl⟩
            go_wp2_with fail
            go_roundw
            case rel =>
              refine ⟨_, _, ?_, rfl, rfl, mix_lt _, ?_, _, rfl⟩
              · simp
              · have h2 := HC2.out
                rw [List.drop_eq_nil_of_le (by rw [← Lib.size_eq]; omega), HH.out.1] at h2
                exact h2.symm
            case measure =>
              have : 0 < r.size := by
                rcases Nat.eq_zero_or_pos r.size with h | h
                · rw [Lib.toList_data] at hlt
                  rw [Lib.size_eq] at h
                  rw [List.eq_nil_of_length_eq_zero h] at hlt
                  cases hlt
                · exact h
              simp [strOf]; omega
set_option maxHeartbeats 400000 in
theorem masked_c (s : ByteArray) (seed mask : Nat) (w : World) (h : seed < 18446744073709551616) (hm : mask < 18446744073709551616) (hs : s.size ≤ 4611686018427387904) :
    Calls Try.prog 18 #[.string s, .int .u64 seed, .int .u64 mask] w fun e w' => e = .returned (.int .u64 (of s.data.toList seed &&& mask : Nat)) ∧ ∃ n, w' = w.drewN n := by
  have E := Lib.hid (u64_and_nat (of s.data.toList seed) mask (of_lt _ _) hm)
  go_enter Try.func18, Try.ntmps18
  go_wp2_with (go_at_call 19; refine (of_c _ _ _ h hs).mono ?_; rintro e w' ⟨rfl, n, rfl⟩)
  go_ret
  exact ⟨ret_u64 E.out, _, rfl⟩
end HashW
end Go.Proofs.Ytcmpgiahjbopnaa
