/- The walks of a byte as it stands in a text. No condition. -/
import Derived.Test.YtmhhmdnikopdlaaQuoR
namespace Go.Proofs.Ytmhhmdnikopdlaa
open Go.RowKit
namespace QuoI
open QuoP QuoW QuoR
theorem conv_one (W : World) (z : Int) : (convert 59 9 (.slice (some ⟨W.heap.size, 0, none⟩) 1 1)).run Try.prog (W.alloc (.cells #[.int .u8 z] 5)) = .ok (.string ⟨#[UInt8.ofNat z.toNat]⟩) (W.alloc (.cells #[.int .u8 z] 5)) := by
  have := run_convert_bytes_arg (P := Try.prog) (W.alloc (.cells #[.int .u8 z] 5)) 59 5 (by kernel_rfl) (by kernel_rfl) W.heap.size 0 1 1 [z] rfl (fun i hi => by
    obtain rfl : i = 0 := by omega
    rw [cell_of_row _ _ _ _ _ _ (heap_alloc_new W _)]; rfl) 9 (by kernel_rfl)
  rw [this]; rfl
theorem conv_two (W : World) (y z : Int) : (convert 59 9 (.slice (some ⟨W.heap.size, 0, none⟩) 2 2)).run Try.prog (W.alloc (.cells #[.int .u8 y, .int .u8 z] 5)) = .ok (.string ⟨#[UInt8.ofNat y.toNat, UInt8.ofNat z.toNat]⟩) (W.alloc (.cells #[.int .u8 y, .int .u8 z] 5)) := by
  have := run_convert_bytes_arg (P := Try.prog) (W.alloc (.cells #[.int .u8 y, .int .u8 z] 5)) 59 5 (by kernel_rfl) (by kernel_rfl) W.heap.size 0 2 2 [y, z] rfl (fun i hi => by
    rw [cell_of_row _ _ _ _ _ _ (heap_alloc_new W _)]
    match i, hi with
    | 0, _ => rfl
    | 1, _ => rfl) 9 (by kernel_rfl)
  rw [this]; rfl
theorem conv_two_d (W : World) (y z : Int) : (convert 59 9 (.slice (some ⟨W.heap.size, 0, none⟩) 2 2)).run Try.prog (W.alloc (.cells #[.int .u8 y, .int .u8 z] 5)).drew = .ok (.string ⟨#[UInt8.ofNat y.toNat, UInt8.ofNat z.toNat]⟩) (W.alloc (.cells #[.int .u8 y, .int .u8 z] 5)).drew := by
  have := run_convert_bytes_arg (P := Try.prog) (W.alloc (.cells #[.int .u8 y, .int .u8 z] 5)).drew 59 5 (by kernel_rfl) (by kernel_rfl) W.heap.size 0 2 2 [y, z] rfl (fun i hi => by
    show (W.alloc (.cells #[.int .u8 y, .int .u8 z] 5)).cell? _ = _
    rw [cell_of_row _ _ _ _ _ _ (heap_alloc_new W _)]
    match i, hi with
    | 0, _ => rfl
    | 1, _ => rfl) 9 (by kernel_rfl)
  rw [this]; rfl
theorem dig_at (n : Nat) (h : n < (⟨#[48, 49, 50, 51, 52, 53, 54, 55, 56, 57, 97, 98, 99, 100, 101, 102]⟩ : ByteArray).size) : (⟨#[48, 49, 50, 51, 52, 53, 54, 55, 56, 57, 97, 98, 99, 100, 101, 102]⟩ : ByteArray)[n]'h = hexC n := by
  have : ∀ n : Fin 16, (⟨#[48, 49, 50, 51, 52, 53, 54, 55, 56, 57, 97, 98, 99, 100, 101, 102]⟩ : ByteArray)[n.val]'(n.isLt) = hexC n.val := by decide
  exact this ⟨n, h⟩
set_option maxHeartbeats 400000 in
theorem rhex_c (n : Nat) (hn : n < 16) (w : World) : Calls Try.prog 68 #[.int .u8 (n : Int)] w fun e w' => e = .returned (.string ⟨#[hexC n]⟩) ∧ Below w.heap.size w w' := by
  have kc := conv_one
  have k : (n : Int) < 16 := by omega
  go_enter Try.func68, Try.ntmps68
  go_wp2
  go_ret
  refine ⟨?_, by go_grown⟩
  have e := dig_at n hn
  show Ending.returned (.string ⟨#[_]⟩) = _
  rw [e]
def plB (c : UInt8) : Bool := c == 34 || c == 92 || c == 36
theorem idx_plain (c : UInt8) : decide (0 ≤ Lib.indexByte [34, 92, 36] c) = plB c := by
  have := all_bytes (fun c => decide (0 ≤ Lib.indexByte [34, 92, 36] c) == plB c) (by decide +kernel) c
  simpa using this
theorem pl_iff (c : UInt8) : plB c = true ↔ (c = 34 ∨ c = 92 ∨ c = 36) := by simp [plB, or_assoc]
theorem ne_z {c : UInt8} {n : UInt8} (h : c ≠ n) : ((c.toNat : Int) == (n.toNat : Int)) = false := by
  rw [beq_eq_false_iff_ne]; intro e; exact h (UInt8.toNat_inj.1 (by omega))
theorem back1 (c : UInt8) : UInt8.ofNat ((c.toNat : Int)).toNat = c := by simp
theorem ret_s {a b : ByteArray} (h : a = b) : Ending.returned (.string a) = .returned (.string b) := by rw [h]
theorem one_n {c : UInt8} (h1 : c ≠ 10) (h2 : c ≠ 13) (h3 : c ≠ 9) : one c = if plB c then [92, c] else if c.toNat < 32 ∨ 126 < c.toNat then [92, 120, hexC (c.toNat / 16), hexC (c.toNat % 16)] else [c] := by
  rw [one, if_neg h1, if_neg h2, if_neg h3]
  by_cases h : plB c = true
  · rw [if_pos ((pl_iff c).1 h), if_pos h]
  · rw [if_neg (fun x => h ((pl_iff c).2 x)), if_neg h]
section
variable (c : UInt8) (w : World)
set_option maxHeartbeats 1600000 in
theorem one_c : Calls Try.prog 50 #[.int .u8 c.toNat] w fun e w' => e = .returned (.string ⟨(one c).toArray⟩) ∧ Below w.heap.size w w' := by
  have kc := conv_one
  have hl := c.toNat_lt
  by_cases e10 : c = 10
  · subst e10
    obtain ⟨z, hz⟩ : ∃ z : Int, (((10 : UInt8).toNat : Nat) : Int) = z := ⟨_, rfl⟩
    rw [hz]
    obtain rfl : z = 10 := hz.symm
    go_enter Try.func50, Try.ntmps50
    go_wp2
    go_ret
    exact ⟨rfl, by go_grown⟩
  by_cases e13 : c = 13
  · subst e13
    obtain ⟨z, hz⟩ : ∃ z : Int, (((13 : UInt8).toNat : Nat) : Int) = z := ⟨_, rfl⟩
    rw [hz]
    obtain rfl : z = 13 := hz.symm
    go_enter Try.func50, Try.ntmps50
    go_wp2
    go_ret
    exact ⟨rfl, by go_grown⟩
  by_cases e9 : c = 9
  · subst e9
    obtain ⟨z, hz⟩ : ∃ z : Int, (((9 : UInt8).toNat : Nat) : Int) = z := ⟨_, rfl⟩
    rw [hz]
    obtain rfl : z = 9 := hz.symm
    go_enter Try.func50, Try.ntmps50
    go_wp2
    go_ret
    exact ⟨rfl, by go_grown⟩
  have z1 : ((c.toNat : Int) == 10) = false := ne_z e10
  have z2 : ((c.toNat : Int) == 13) = false := ne_z e13
  have z3 : ((c.toNat : Int) == 9) = false := ne_z e9
  rw [one_n e10 e13 e9]
  have ci := fun W => idx_c c W ⟨#[34, 92, 36]⟩
  have hi := idx_plain c
  rw [show (⟨#[34, 92, 36]⟩ : ByteArray).data.toList = [34, 92, 36] from rfl] at ci
  generalize Lib.indexByte [34, 92, 36] c = v at *
  cases hp : plB c
  · rw [if_neg (by simp)]
    by_cases hh : c.toNat < 32 ∨ 126 < c.toNat
    · rw [if_pos hh]
      rw [hp] at hi
      have kc := conv_two_d
      have hb1 : 0 ≤ (c.toNat : Int) / 16 ∧ (c.toNat : Int) / 16 < 16 := by omega
      have hb2 : 0 ≤ (c.toNat : Int) % 16 ∧ (c.toNat : Int) % 16 < 16 := by omega
      have hd : (decide ((c.toNat : Int) < 32) || decide (126 < (c.toNat : Int))) = true := by simp; omega
      go_enter Try.func50, Try.ntmps50
      go_wp2_with (first | (with_reducible refine (ci _).mono ?_; rintro e w' ⟨rfl, rfl⟩))
      all_goals go_region
      all_goals go_wp2
      all_goals
        go_ret
        refine ⟨ret_s ?_, by go_grown⟩
        rw [dig_at (c.toNat / 16) (show _ < 16 by omega), dig_at (c.toNat % 16) (show _ < 16 by omega)]; rfl
    · rw [if_neg hh]
      have d1 : decide ((c.toNat : Int) < 32) = false := by simp; omega
      have d2 : decide (126 < (c.toNat : Int)) = false := by simp; omega
      rw [hp] at hi
      go_enter Try.func50, Try.ntmps50
      go_wp2_with (first | (with_reducible refine (ci _).mono ?_; rintro e w' ⟨rfl, rfl⟩))
      go_ret
      refine ⟨ret_s ?_, by go_grown⟩
      first | rfl | (rw [back1]) | (rw [back1]; rfl)
  · rw [if_pos rfl]
    rw [hp] at hi
    go_enter Try.func50, Try.ntmps50
    go_wp2_with (first | (with_reducible refine (ci _).mono ?_; rintro e w' ⟨rfl, rfl⟩))
    all_goals
      go_ret
      refine ⟨ret_s ?_, by go_grown⟩
      first | rfl | (rw [back1]; rfl)
set_option maxHeartbeats 1600000 in
theorem byte_c : Calls Try.prog 51 #[.int .u8 c.toNat] w fun e w' => e = .returned (.string ⟨(one c).toArray⟩) ∧ Below w.heap.size w w' := by
  have kc := conv_one
  have hl := c.toNat_lt
  by_cases e10 : c = 10
  · subst e10
    obtain ⟨z, hz⟩ : ∃ z : Int, (((10 : UInt8).toNat : Nat) : Int) = z := ⟨_, rfl⟩
    rw [hz]
    obtain rfl : z = 10 := hz.symm
    go_enter Try.func51, Try.ntmps51
    go_wp2
    go_ret
    exact ⟨rfl, by go_grown⟩
  by_cases e13 : c = 13
  · subst e13
    obtain ⟨z, hz⟩ : ∃ z : Int, (((13 : UInt8).toNat : Nat) : Int) = z := ⟨_, rfl⟩
    rw [hz]
    obtain rfl : z = 13 := hz.symm
    go_enter Try.func51, Try.ntmps51
    go_wp2
    go_ret
    exact ⟨rfl, by go_grown⟩
  by_cases e9 : c = 9
  · subst e9
    obtain ⟨z, hz⟩ : ∃ z : Int, (((9 : UInt8).toNat : Nat) : Int) = z := ⟨_, rfl⟩
    rw [hz]
    obtain rfl : z = 9 := hz.symm
    go_enter Try.func51, Try.ntmps51
    go_wp2
    go_ret
    exact ⟨rfl, by go_grown⟩
  have z1 : ((c.toNat : Int) == 10) = false := ne_z e10
  have z2 : ((c.toNat : Int) == 13) = false := ne_z e13
  have z3 : ((c.toNat : Int) == 9) = false := ne_z e9
  rw [one_n e10 e13 e9]
  cases hp : plB c
  · rw [if_neg (by simp)]
    by_cases hh : c.toNat < 32 ∨ 126 < c.toNat
    · rw [if_pos hh]
      have c1 := fun W => rhex_c (c.toNat / 16) (by omega) W
      have c2 := fun W => rhex_c (c.toNat % 16) (by omega) W
      rw [show ((c.toNat / 16 : Nat) : Int) = (c.toNat : Int) / 16 from by omega] at c1
      rw [show ((c.toNat % 16 : Nat) : Int) = (c.toNat : Int) % 16 from by omega] at c2
      simp only [plB, Bool.or_eq_false_iff, beq_eq_false_iff_ne] at hp
      have z4 : ((c.toNat : Int) == 34) = false := ne_z hp.1.1
      have z5 : ((c.toNat : Int) == 92) = false := ne_z hp.1.2
      have z6 : ((c.toNat : Int) == 36) = false := ne_z hp.2
      go_enter Try.func51, Try.ntmps51
      go_wp2_with fail
      all_goals
        (with_reducible refine (c1 _).mono ?_)
        rintro e w1 ⟨rfl, hb1⟩
        go_wp2_with fail
        (with_reducible refine (c2 _).mono ?_)
        rintro e w2 ⟨rfl, hb2⟩
        go_wp2
        go_ret
        exact ⟨rfl, via (a := w) hb2 hb1⟩
    · rw [if_neg hh]
      have d1 : decide ((c.toNat : Int) < 32) = false := by simp; omega
      have d2 : decide (126 < (c.toNat : Int)) = false := by simp; omega
      simp only [plB, Bool.or_eq_false_iff, beq_eq_false_iff_ne] at hp
      have z4 : ((c.toNat : Int) == 34) = false := ne_z hp.1.1
      have z5 : ((c.toNat : Int) == 92) = false := ne_z hp.1.2
      have z6 : ((c.toNat : Int) == 36) = false := ne_z hp.2
      go_enter Try.func51, Try.ntmps51
      go_wp2_with (first | fail)
      go_ret
      refine ⟨ret_s ?_, by go_grown⟩
      first | rfl | (rw [back1]) | (rw [back1]; rfl)
  · rw [if_pos rfl]
    have hz := (pl_iff c).1 hp
    clear z1 z2 z3 hl hp e10 e13 e9
    rcases hz with rfl | rfl | rfl
    all_goals
      go_enter Try.func51, Try.ntmps51
      go_wp2
      go_ret
      exact ⟨rfl, by go_grown⟩
end
end QuoI
end Go.Proofs.Ytmhhmdnikopdlaa
