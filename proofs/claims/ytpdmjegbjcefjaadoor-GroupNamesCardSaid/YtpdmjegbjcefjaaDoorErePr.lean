/- The text of a tree, in plain words; the walks of has, told. Conditions: none. -/
import Derived.Test.YtpdmjegbjcefjaaDoorEreF
import Derived.Test.YtpdmjegbjcefjaaDoorShelf
namespace Go.Proofs.YtpdmjegbjcefjaaDoor
set_option linter.unusedVariables false
set_option linter.unusedSimpArgs false
open Go.RowKit
namespace EreX
open EreP EreW
/-- Is a byte in a set? -/
def hasS (s c : Nat) : Bool := s.testBit c
theorem word_bit (S c : Nat) : (word S (c / 64)).testBit (c % 64) = S.testBit c := by
  unfold word
  rw [show (18446744073709551616 : Nat) = 2 ^ 64 from rfl, Nat.testBit_mod_two_pow, Nat.testBit_shiftRight]
  have : c % 64 < 64 := Nat.mod_lt _ (by decide)
  simp [this]
  congr 1; omega
@[local go_sem] theorem conv_one (W : World) (z : Int) : (convert 98 9 (.slice (some ⟨W.heap.size, 0, none⟩) 1 1)).run Tryd.prog (W.alloc (.cells #[.int .u8 z] 5)) = .ok (.string ⟨#[UInt8.ofNat z.toNat]⟩) (W.alloc (.cells #[.int .u8 z] 5)) := by
  have := run_convert_bytes_arg (P := Tryd.prog) (W.alloc (.cells #[.int .u8 z] 5)) 98 5 (by kernel_rfl) (by kernel_rfl) W.heap.size 0 1 1 [z] rfl (fun i hi => by
    obtain rfl : i = 0 := by omega
    rw [cell_of_row _ _ _ _ _ _ (heap_alloc_new W _)]; rfl) 9 (by kernel_rfl)
  rw [this]; rfl
@[local go_sem] theorem conv_two (W : World) (y z : Int) : (convert 98 9 (.slice (some ⟨W.heap.size, 0, none⟩) 2 2)).run Tryd.prog (W.alloc (.cells #[.int .u8 y, .int .u8 z] 5)) = .ok (.string ⟨#[UInt8.ofNat y.toNat, UInt8.ofNat z.toNat]⟩) (W.alloc (.cells #[.int .u8 y, .int .u8 z] 5)) := by
  have := run_convert_bytes_arg (P := Tryd.prog) (W.alloc (.cells #[.int .u8 y, .int .u8 z] 5)) 98 5 (by kernel_rfl) (by kernel_rfl) W.heap.size 0 2 2 [y, z] rfl (fun i hi => by
    rw [cell_of_row _ _ _ _ _ _ (heap_alloc_new W _)]
    match i, hi with
    | 0, _ => rfl
    | 1, _ => rfl) 9 (by kernel_rfl)
  rw [this]; rfl
theorem bit_test (x m : Nat) (h : x < 18446744073709551616) : (bits .and .u64 ((x : Int) / 2 ^ m) 1 == 1) = x.testBit m := by
  have h1 : ((x : Int) / 2 ^ m) = ((x / 2 ^ m : Nat) : Int) := by simp
  have h2 : x / 2 ^ m < 18446744073709551616 := Nat.lt_of_le_of_lt (Nat.div_le_self _ _) h
  rw [h1, show (1 : Int) = ((1 : Nat) : Int) from rfl, bits_and_u64_nat _ _ h2 (by decide), Nat.and_one_is_mod, Nat.testBit_eq_decide_div_mod_eq]
  rw [Bool.eq_iff_iff]; simp; omega
/-- A byte's text, with a stroke ahead of some. -/
def toldB (c : UInt8) (means : Bs) : Bs := if means.contains c then [92, c] else [c]
set_option maxHeartbeats 1600000 in
set_option maxRecDepth 100000 in
theorem told_c (c : UInt8) (m : ByteArray) (w : World) : Calls Tryd.prog 83 #[.int .u8 c.toNat, .string m] w fun x w' => x = .returned (.string ⟨(toldB c m.data.toList).toArray⟩) ∧ Below w.heap.size w w' := by
  have ci := fun W => idx_c c W m
  have hi := idx_any m.data.toList c
  generalize Lib.indexByte m.data.toList c = K at *
  have hb := back c
  unfold toldB
  cases hm : m.data.toList.contains c
  · rw [hm] at hi
    go_enter Tryd.func83, Tryd.ntmps83
    go_wp2_with fail
    (with_reducible refine (ci _).mono ?_)
    rintro e w' ⟨rfl, rfl⟩
    go_wp2
    go_ret
    refine ⟨?_, by go_grown⟩
    simp
  · rw [hm] at hi
    go_enter Tryd.func83, Tryd.ntmps83
    go_wp2_with fail
    (with_reducible refine (ci _).mono ?_)
    rintro e w' ⟨rfl, rfl⟩
    go_wp2
    go_ret
    refine ⟨?_, by go_grown⟩
    simp
set_option maxHeartbeats 1600000 in
set_option maxRecDepth 100000 in
theorem has_c (S c : Nat) (hc : c < 256) (w : World) : Calls Tryd.prog 92 #[wordsV S, .int .i64 c] w fun x w' => x = .returned (.bool (hasS S c)) ∧ Below w.heap.size w w' := by
  have h6 : (c : Int) >>> 6 = ((c / 64 : Nat) : Int) := by
    rw [Int.shiftRight_eq_div_pow]; omega
  have a63 := and63 c (by omega)
  have hq : c / 64 = 0 ∨ c / 64 = 1 ∨ c / 64 = 2 ∨ c / 64 = 3 := by omega
  have hbit := word_bit S c
  have hlt := fun k => word_lt S k
  have hm : c % 64 < 64 := Nat.mod_lt _ (by decide)
  rcases hq with hq | hq | hq | hq
  all_goals
    rw [hq] at hbit
    go_enter Tryd.func92, Tryd.ntmps92
    go_wp2
    go_ret
    refine ⟨?_, by go_grown⟩
    rw [bit_test _ _ (hlt _), hbit]; rfl
end EreX
end Go.Proofs.YtpdmjegbjcefjaaDoor
