/- The walks of hash.Mix, Of, Masked and of the document's xor, Mix, Of. Conditions: numbers of 64 bits, texts that fit. -/
import Derived.Test.YtnpgmfldikgkjaaRows
import Derived.Test.YtnpgmfldikgkjaaHashP
import Derived.WalkKit
import Derived.WalkSpells
import Derived.WalkLawsBesides
import Derived.Handy
import Derived.Deep.QuietTactic
import Derived.BigQuiet
import Derived.Lib.Hide
import Derived.Lib.IndexBytes
namespace Go.Proofs.Ytnpgmfldikgkjaa
open Go.RowKit
theorem ret_u64 {a : Int} {b : Nat} (h : a = (b : Int)) : Ending.returned (.int .u64 a) = .returned (.int .u64 (b : Int)) := by rw [h]
def strOf : Value → ByteArray
  | .string s => s
  | _ => ByteArray.empty
namespace HashW
open HashP
set_option maxHeartbeats 400000 in
theorem mix_c (x : Nat) (w : World) (h : x < 18446744073709551616) :
    Calls Try.prog 13 #[.int .u64 x] w fun e w' => e = .returned (.int .u64 (mix x : Nat)) ∧ w = w' := by
  have e1 := bits_st x h
  have e2 := bits_st (st x) (st_lt x)
  have e3 := bits_fin (st (st x)) (st_lt _)
  have E1 := Lib.hid e1
  have E2 := Lib.hid e2
  have E3 := Lib.hid e3
  clear e1 e2 e3
  go_enter Try.func13, Try.ntmps13
  go_wp2
  go_ret
  refine ⟨ret_u64 ?_, rfl⟩
  rw [E1.out, E2.out, E3.out]
  rfl
set_option maxHeartbeats 400000 in
theorem xor_c (x y : Nat) (w : World) (h1 : x < 18446744073709551616) (g1 : y < 18446744073709551616) :
    Calls Try.prog 37 #[.int .u64 x, .int .u64 y] w fun e w' => e = .returned (.int .u64 (x ^^^ y : Nat)) ∧ ∃ n, w' = w.drewN n := by
  go_enter Try.func37, Try.ntmps37
  go_wp2
  go_loopw [5, 6] (fun t i wr => ∃ k : Nat, k ≤ 64 ∧ i = .int .i64 k ∧ t = .int .u64 ((x ^^^ y) % 2 ^ k : Nat) ∧ ∃ n, wr = w.drewN n) (fun _ i _ => 64 - (intOf i).toNat)
  case atStart => exact ⟨0, by omega, rfl, by simp [Nat.mod_one], 0, rfl⟩
  case round =>
    obtain ⟨k, hk, rfl, rfl, n, rfl⟩ := hrel
    by_cases hlt : k < 64
    · have T := Lib.hid (bit_tests x y k)
      have hs := Lib.hid (xor_next x y k hlt)
      by_cases hb : (((x : Int) / 2 ^ k).tmod 2 != ((y : Int) / 2 ^ k).tmod 2) = true
      · go_wp2
        go_quiet (fail)
        go_wp2
        go_roundw
        case rel => exact ⟨k + 1, by omega, by go_num, congrArg (Value.int .u64) ((hs.out).1 ((T.out).1 hb)), _, rfl⟩
        case measure => simp [intOf]; omega
      · rw [Bool.not_eq_true] at hb
        go_wp2
        go_quiet (fail)
        go_wp2
        go_roundw
        case rel => exact ⟨k + 1, by omega, by go_num, congrArg (Value.int .u64) ((hs.out).2 ((T.out).2 hb)), _, rfl⟩
        case measure => simp [intOf]; omega
    · go_wp2
      go_ret
      have hk : k = 64 := by omega
      subst hk
      exact ⟨ret_u64 (congrArg _ (Nat.mod_eq_of_lt (xor_lt x y h1 g1))), _, rfl⟩
theorem xor_sh (z : Nat) (w : World) (h : z < 18446744073709551616) :
    Calls Try.prog 37 #[.int .u64 z, .int .u64 ((z : Int) / 4294967296)] w fun e w' => e = .returned (.int .u64 (fin z : Nat)) ∧ ∃ n, w' = w.drewN n :=
  xor_c z (z / 4294967296) w h (Nat.lt_of_le_of_lt (Nat.div_le_self _ _) h)
set_option maxHeartbeats 400000 in
theorem rmix_c (x : Nat) (w : World) (h : x < 18446744073709551616) :
    Calls Try.prog 14 #[.int .u64 x] w fun e w' => e = .returned (.int .u64 (mix x : Nat)) ∧ ∃ n, w' = w.drewN n := by
  go_enter Try.func14, Try.ntmps14
  go_wp2
  go_loopw [0, 3] (fun t i wr => ∃ k : Nat, k ≤ 2 ∧ i = .int .i64 k ∧ t = .int .u64 (stN k x : Nat) ∧ ∃ n, wr = w.drewN n) (fun _ i _ => 2 - (intOf i).toNat)
  case atStart => exact ⟨0, by omega, rfl, rfl, 0, rfl⟩
  case round =>
    obtain ⟨k, hk, rfl, rfl, n, rfl⟩ := hrel
    have hc := fun W => xor_sh (stN k x) W (stN_lt k x h)
    by_cases hlt : k < 2
    · have E := Lib.hid (wrap_st (stN k x))
      go_wp2_with (go_at_call 37; refine (hc _).mono ?_; rintro e w' ⟨rfl, n', rfl⟩)
      go_roundw
      case rel => exact ⟨k + 1, by omega, by go_num, congrArg (Value.int .u64) E.out, _, rfl⟩
      case measure => simp [intOf]; omega
    · go_wp2_with (go_at_call 37; refine (hc _).mono ?_; rintro e w' ⟨rfl, n', rfl⟩)
      go_ret
      have hk : k = 2 := by omega
      subst hk
      exact ⟨rfl, _, rfl⟩
set_option maxHeartbeats 400000 in
theorem rof_c (s : ByteArray) (seed : Nat) (w : World) (h : seed < 18446744073709551616) (hs : s.size ≤ 4611686018427387904) :
    Calls Try.prog 10 #[.string s, .int .u64 seed] w fun e w' => e = .returned (.int .u64 (of s.data.toList seed : Nat)) ∧ ∃ n, w' = w.drewN n := by
  go_enter Try.func10, Try.ntmps10
  go_wp2_with (go_at_call 14; refine (rmix_c _ _ h).mono ?_; rintro e w' ⟨rfl, n', rfl⟩)
  go_loopw [5, 6] (fun t i wr => ∃ k h : Nat, k ≤ s.size + 7 ∧ i = .int .i64 k ∧ t = .int .u64 (h : Nat) ∧ h < 18446744073709551616 ∧ Hid (chunks s.data.toList.length (s.data.toList.drop k) h = chunks s.data.toList.length s.data.toList (mix seed)) ∧ ∃ n, wr = w.drewN n) (fun _ i _ => s.size + 7 - (intOf i).toNat)
  case atStart => exact ⟨0, _, by omega, rfl, rfl, mix_lt _, rfl, n', rfl⟩
  case round =>
    obtain ⟨k, hh, hk, rfl, rfl, hhl, HC, n, rfl⟩ := hrel
    by_cases hlt : k < s.size
    · go_wp2
      go_loop [7, 8] (fun t i => ∃ j : Nat, j ≤ 8 ∧ i = .int .i64 ((j : Int) - 1) ∧ t = .int .u64 (num ((s.data.toList.drop (k + j)).take (8 - j)) : Nat)) (fun _ i => (intOf i + 1).toNat)
      case atStart => exact ⟨8, by omega, rfl, by simp [num]⟩
      case round =>
        obtain ⟨j, hj, rfl, rfl⟩ := hrel
        cases j with
        | zero =>
          have hcx := fun W h1 => xor_c hh (num ((s.data.toList.drop k).take 8)) W h1 (num_lt8 _ (List.length_take_le _ _))
          have hcm := fun W => rmix_c (hh ^^^ num ((s.data.toList.drop k).take 8)) W (xor_lt _ _ hhl (num_lt8 _ (List.length_take_le _ _)))
          go_wp2_with (first
            | (go_at_call 37; refine (hcx _ hhl).mono ?_; rintro e w' ⟨rfl, n1, rfl⟩)
            | (go_at_call 14; refine (hcm _).mono ?_; rintro e w' ⟨rfl, n2, rfl⟩))
          go_roundw
          case rel =>
            refine ⟨k + 8, _, by omega, by go_num, rfl, mix_lt _, ?_, _, rfl⟩
            rw [← HC.out, chunks_step _ (s.data.toList.drop k) hh (by simp; omega) (by simp)]
            show chunks _ _ _ = _
            rw [List.drop_drop]
          case measure => simp [intOf]; omega
        | succ j =>
          go_wp2
          · go_round
            case rel => exact ⟨j, by omega, rfl, congrArg (Value.int .u64) (back_eq _ _ _ (by omega) _ (at_list _ _ _))⟩
            case measure => simp [intOf]
          · go_round
            case rel => exact ⟨j, by omega, rfl, congrArg (Value.int .u64) (gone_eq _ _ _ (by simp; omega))⟩
            case measure => simp [intOf]
    · have hd : s.data.toList.drop k = [] := List.drop_eq_nil_of_le (by simp; omega)
      have hh' : Hid (hh = chunks s.data.toList.length s.data.toList (mix seed)) := by
        show hh = _
        rw [← HC.out, hd]; cases s.data.toList.length <;> simp [chunks]
      have hcx := fun W => xor_c hh s.size W hhl (by omega)
      have hcm := fun W => rmix_c (hh ^^^ s.size) W (xor_lt _ _ hhl (by unfold M; omega))
      clear HC hd
      go_wp2_with (first
            | (go_at_call 37; refine (hcx _).mono ?_; rintro e w' ⟨rfl, n1, rfl⟩)
            | (go_at_call 14; refine (hcm _).mono ?_; rintro e w' ⟨rfl, n2, rfl⟩))
      go_ret
      refine ⟨ret_u64 ?_, _, rfl⟩
      rw [hh'.out]; simp [of]
set_option maxHeartbeats 400000 in
theorem of_c (s : ByteArray) (seed : Nat) (w : World) (h : seed < 18446744073709551616) (hs : s.size ≤ 4611686018427387904) :
    Calls Try.prog 12 #[.string s, .int .u64 seed] w fun e w' => e = .returned (.int .u64 (of s.data.toList seed : Nat)) ∧ ∃ n, w' = w.drewN n := by
  go_enter Try.func12, Try.ntmps12
  go_wp2_with (go_at_call 13; refine (mix_c _ _ h).mono ?_; rintro e w' ⟨rfl, rfl⟩)
  go_loopw [5, 6] (fun t i wr => ∃ (r : ByteArray) (h : Nat), r.size ≤ s.size ∧ i = .string r ∧ t = .int .u64 (h : Nat) ∧ h < 18446744073709551616 ∧ Hid (chunks s.data.toList.length r.data.toList h = chunks s.data.toList.length s.data.toList (mix seed)) ∧ ∃ n, wr = w.drewN n) (fun _ i _ => (strOf i).size)
  case atStart => exact ⟨s, _, by omega, rfl, rfl, mix_lt _, rfl, 0, rfl⟩
  case round =>
    obtain ⟨r, hh, hr, rfl, rfl, hhl, HC, n, rfl⟩ := hrel
    by_cases hlt : r.toList.isEmpty = true
    · have hcm := fun W => mix_c (hh ^^^ s.size) W (xor_lt _ _ hhl (by unfold M; omega))
      have hx := Lib.hid (bits_xor_u64_nat hh s.size hhl (by omega))
      go_wp2_with fail
      rw [hx.out]
      refine (hcm _).mono ?_
      rintro e w' ⟨rfl, rfl⟩
      go_wp2_with fail
      go_ret
      refine ⟨ret_u64 ?_, _, rfl⟩
      have hd : r.data.toList = [] := by simpa [Lib.toList_data] using hlt
      have hh' : hh = chunks s.data.toList.length s.data.toList (mix seed) := by
        rw [← HC.out, hd]; cases s.data.toList.length <;> simp [chunks]
      rw [hh']; simp [of]
    · rw [Bool.not_eq_true] at hlt
      have hne : r.data.toList ≠ [] := by rw [← Lib.toList_data]; intro h; rw [h] at hlt; cases hlt
      have HC2 := Lib.hid (HC.out ▸ chunks_step _ r.data.toList hh hne (by rw [← Lib.size_eq, ← Lib.size_eq]; exact hr))
      have hx := Lib.hid (bits_xor_u64_nat hh (num (r.data.toList.take 8)) hhl (num_lt8 _ (List.length_take_le _ _)))
      have hcm := fun W => mix_c (hh ^^^ num (r.data.toList.take 8)) W (xor_lt _ _ hhl (num_lt8 _ (List.length_take_le _ _)))
      have F := Lib.hid fun (k : Nat) (hk : k < 8) (hr : k < r.size) => front_eq r.data.toList k hk _ (at_list r k hr)
      clear HC hne
      by_cases hm : 8 ≤ r.size
      · go_wp2
        go_loopw [7, 22] (fun t i wr => ∃ k : Nat, k ≤ 8 ∧ i = .int .i64 k ∧ t = .int .u64 (num (r.data.toList.take k) : Nat) ∧ ∃ n, wr = w.drewN n) (fun _ i _ => 8 - (intOf i).toNat)
        case atStart => exact ⟨0, by omega, rfl, rfl, n, rfl⟩
        case round =>
          obtain ⟨k, hk, rfl, rfl, n2, rfl⟩ := hrel
          by_cases hk2 : k < 8
          · go_wp2
            go_roundw
            case rel => exact ⟨k + 1, by omega, by go_num, congrArg (Value.int .u64) (F.out k hk2 _), _, rfl⟩
            case measure => simp [intOf]; omega
          · obtain rfl : k = 8 := by omega
            go_wp2_with fail
            rw [hx.out]
            refine (hcm _).mono ?_
            rintro e w' ⟨rfl, rfl⟩
            go_wp2_with fail
            go_roundw
            case rel =>
              refine ⟨_, _, ?_, rfl, rfl, mix_lt _, ?_, _, rfl⟩
              · simp; omega
              · rw [Lib.extract_to_end]; exact HC2.out.symm
            case measure => simp [strOf]; omega
      · have hk8 : r.data.toList.take 8 = r.data.toList := List.take_of_length_le (by rw [← Lib.size_eq]; omega)
        have hk9 : r.data.toList.take r.size = r.data.toList := List.take_of_length_le (by rw [← Lib.size_eq]; omega)
        rw [hk8] at hx hcm
        have HH := Lib.hid (And.intro hk8 hk9)
        clear hk8 hk9
        go_wp2
        go_loopw [7, 22] (fun t i wr => ∃ k : Nat, k ≤ r.size ∧ i = .int .i64 k ∧ t = .int .u64 (num (r.data.toList.take k) : Nat) ∧ ∃ n, wr = w.drewN n) (fun _ i _ => 8 - (intOf i).toNat)
        case atStart => exact ⟨0, by omega, rfl, rfl, n, rfl⟩
        case round =>
          obtain ⟨k, hk, rfl, rfl, n2, rfl⟩ := hrel
          by_cases hk2 : k < r.size
          · go_wp2
            go_roundw
            case rel => exact ⟨k + 1, by omega, by go_num, congrArg (Value.int .u64) (F.out k (by omega) hk2), _, rfl⟩
            case measure => simp [intOf]; omega
          · obtain rfl : k = r.size := by omega
            rw [HH.out.2]
            go_wp2_with fail
            rw [hx.out]
            refine (hcm _).mono ?_
            rintro e w' ⟨rfl, rfl⟩
            go_wp2_with fail
            go_roundw
            case rel =>
              refine ⟨_, _, ?_, rfl, rfl, mix_lt _, ?_, _, rfl⟩
              · simp
              · have h2 := HC2.out
                rw [List.drop_eq_nil_of_le (by rw [← Lib.size_eq]; omega), HH.out.1] at h2
                exact h2.symm
            case measure =>
              have : 0 < r.size := by
                rcases Nat.eq_zero_or_pos r.size with h | h
                · rw [Lib.toList_data] at hlt
                  rw [Lib.size_eq] at h
                  rw [List.eq_nil_of_length_eq_zero h] at hlt
                  cases hlt
                · exact h
              simp [strOf]; omega
end HashW
end Go.Proofs.Ytnpgmfldikgkjaa
