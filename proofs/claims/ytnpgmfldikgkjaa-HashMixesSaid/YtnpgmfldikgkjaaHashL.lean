/- The walks of the two statements on hash. No condition. -/
import Derived.Test.YtnpgmfldikgkjaaHashW
namespace Go.Proofs.Ytnpgmfldikgkjaa
open Go.RowKit
namespace HashW
open HashP
set_option maxHeartbeats 400000 in
theorem masked_c (s : ByteArray) (seed mask : Nat) (w : World) (h : seed < 18446744073709551616) (hm : mask < 18446744073709551616) (hs : s.size ≤ 4611686018427387904) :
    Calls Try.prog 11 #[.string s, .int .u64 seed, .int .u64 mask] w fun e w' => e = .returned (.int .u64 (of s.data.toList seed &&& mask : Nat)) ∧ ∃ n, w' = w.drewN n := by
  have E := Lib.hid (u64_and_nat (of s.data.toList seed) mask (of_lt _ _) hm)
  go_enter Try.func11, Try.ntmps11
  go_wp2_with (go_at_call 12; refine (of_c _ _ _ h hs).mono ?_; rintro e w' ⟨rfl, n, rfl⟩)
  go_ret
  exact ⟨ret_u64 E.out, _, rfl⟩
set_option maxHeartbeats 400000 in
theorem awake27_c (w : World) : Calls Try.prog 9 #[] w fun e w' => e = .returned (.bool true) ∧ ∃ n, w' = w.drewN n := by
  have m0 : mix 0 = 0 := by decide
  have m1 : mix 1 ≠ 0 := by decide
  have c0 := fun W => mix_c 0 W (by decide)
  have c1 := fun W => mix_c 1 W (by decide)
  have c2 := fun W => of_c ⟨#[97]⟩ 1 W (by decide) (by decide)
  have c3 := fun W => rof_c ⟨#[97]⟩ 1 W (by decide) (by decide)
  have c4 := fun W => masked_c ⟨#[97]⟩ 1 0 W (by decide) (by decide) (by decide)
  rw [m0] at c0
  rw [Nat.and_zero] at c4
  generalize mix 1 = x1 at *
  generalize of _ 1 = x2 at *
  have m1' : ((x1 : Int) != 0) = true := by simp; omega
  clear m0 m1
  go_enter Try.func9, Try.ntmps9
  go_wp2_with fail
  refine (c0 _).mono ?_
  rintro e w' ⟨rfl, rfl⟩
  go_wp2_with fail
  refine (c1 _).mono ?_
  rintro e w' ⟨rfl, rfl⟩
  go_wp2_with fail
  refine (c2 _).mono ?_
  rintro e w' ⟨rfl, n2, rfl⟩
  go_wp2_with fail
  refine (c3 _).mono ?_
  rintro e w' ⟨rfl, n3, rfl⟩
  go_wp2_with fail
  refine (c4 _).mono ?_
  rintro e w' ⟨rfl, n4, rfl⟩
  go_wp2_with fail
  go_ret
  exact ⟨rfl, _, rfl⟩
set_option maxHeartbeats 400000 in
theorem hashTexts_c (s : ByteArray) (seed mask : Nat) (w : World) (h : seed < 18446744073709551616) (hm : mask < 18446744073709551616) (hs : s.size ≤ maxLen) :
    Calls Try.prog 3 #[.string s, .int .u64 seed, .int .u64 mask] w fun e w' => e = .returned (.bool true) ∧ ∃ n, w' = w.drewN n := by
  unfold maxLen at hs
  by_cases h100 : s.size ≤ 100
  · go_enter Try.func3, Try.ntmps3
    go_wp2_with (first
      | (go_at_call 9; refine (awake27_c _).mono ?_; rintro e w' ⟨rfl, n1, rfl⟩)
      | (go_at_call 10; refine (rof_c s _ _ h (by omega)).mono ?_; rintro e w' ⟨rfl, n2, rfl⟩)
      | (go_at_call 11; refine (masked_c s _ _ _ h hm (by omega)).mono ?_; rintro e w' ⟨rfl, n3, rfl⟩))
    go_loopw [23] (fun i wr => ∃ k : Nat, k ≤ 64 ∧ i = .int .i64 k ∧ ∃ n, wr = w.drewN n) (fun i _ => 64 - (intOf i).toNat)
    case atStart => exact ⟨0, by omega, rfl, _, rfl⟩
    case round =>
      obtain ⟨k, hk, rfl, n, rfl⟩ := hrel
      by_cases hlt : k < 64
      · by_cases hb : mask / 2 ^ k % 2 = 1
        · obtain ⟨hA, hB⟩ := mask_yes (of s.data.toList seed) mask k (of_lt _ _) hm hb
          clear hb
          go_wp2
          go_roundw
          case rel => exact ⟨k + 1, by omega, by go_num, _, rfl⟩
          case measure => simp [intOf]; omega
        · obtain ⟨hA, hB⟩ := mask_no (of s.data.toList seed) mask k (of_lt _ _) hm hb
          clear hb
          go_wp2
          go_roundw
          case rel => exact ⟨k + 1, by omega, by go_num, _, rfl⟩
          case measure => simp [intOf]; omega
      · go_wp2_with (first
          | (go_at_call 12; refine (of_c s _ _ h (by omega)).mono ?_; rintro e w' ⟨rfl, n2, rfl⟩))
        go_ret
        exact ⟨rfl, _, rfl⟩
  · go_enter Try.func3, Try.ntmps3
    go_wp2_with (first
      | (go_at_call 9; refine (awake27_c _).mono ?_; rintro e w' ⟨rfl, n1, rfl⟩))
    go_ret
    exact ⟨rfl, _, rfl⟩
set_option maxHeartbeats 400000 in
theorem hashMixes_c (x y : Nat) (w : World) (hx : x < 18446744073709551616) (hy : y < 18446744073709551616) :
    Calls Try.prog 4 #[.int .u64 x, .int .u64 y] w fun e w' => e = .returned (.bool true) ∧ ∃ n, w' = w.drewN n := by
  have hi : ((mix x : Int) == (mix y : Int)) = ((x : Int) == (y : Int)) := by
    by_cases e : x = y
    · subst e; simp
    · have : mix x ≠ mix y := fun h => e (mix_inj x y hx hy h)
      have h1 : ((mix x : Int) == (mix y : Int)) = false := by simp; omega
      have h2 : ((x : Int) == (y : Int)) = false := by simp; omega
      rw [h1, h2]
  have c1 := fun W => mix_c x W hx
  have c2 := fun W => mix_c y W hy
  have c3 := fun W => rmix_c x W hx
  generalize mix x = a at *
  generalize mix y = b at *
  go_enter Try.func4, Try.ntmps4
  go_wp2_with fail
  refine (awake27_c _).mono ?_
  rintro e w' ⟨rfl, n0, rfl⟩
  go_wp2_with fail
  refine (c1 _).mono ?_
  rintro e w' ⟨rfl, rfl⟩
  go_wp2_with fail
  refine (c2 _).mono ?_
  rintro e w' ⟨rfl, rfl⟩
  go_wp2_with fail
  refine (c3 _).mono ?_
  rintro e w' ⟨rfl, n3, rfl⟩
  go_wp2_with fail
  go_ret
  exact ⟨rfl, _, rfl⟩
end HashW
end Go.Proofs.Ytnpgmfldikgkjaa
