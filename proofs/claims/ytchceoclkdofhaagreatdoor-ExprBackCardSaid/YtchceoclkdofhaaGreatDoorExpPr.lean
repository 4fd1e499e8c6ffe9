/- The reference's Print of a number, walked. Condition: a number of 64 bits. (Out of NumIt.) -/
import Derived.Test.YtchceoclkdofhaaGreatDoorNumM
namespace Go.Proofs.YtchceoclkdofhaaGreatDoor
set_option linter.unusedVariables false
set_option linter.unusedSimpArgs false
open Go.RowKit
namespace NumW
open NumP
theorem dec_split (u : Nat) : Lib.decDigits u = if u < 10 then [UInt8.ofNat (48 + u)] else Lib.decDigits (u / 10) ++ [UInt8.ofNat (48 + u % 10)] := by
  rw [Lib.decDigits]; split <;> simp_all
theorem dec_len (u : Nat) : (Lib.decDigits u).length ≤ u / 10 + 1 := by
  induction u using Nat.strongRecOn with
  | _ u ih =>
    rw [dec_split]
    split
    · simp
    · have := ih (u / 10) (by omega)
      rw [List.length_append]; simp only [List.length_cons, List.length_nil]; omega
theorem dig_add (k : Nat) : UInt8.ofNat (48 + k) = 48 + UInt8.ofNat k := by rw [UInt8.ofNat_add]; rfl
theorem out_more (k : Nat) (out : ByteArray) (l : List UInt8) (h : 10 ≤ k) (ho : Lib.decDigits k ++ out.data.toList = l) : Lib.decDigits (k / 10) ++ ((⟨#[48 + UInt8.ofNat (k % 10)]⟩ : ByteArray) ++ out).data.toList = l := by
  rw [dec_split, if_neg (by omega), dig_add] at ho
  rw [← ho]; simp
theorem out_last (k : Nat) (out : ByteArray) (l : List UInt8) (h : k < 10) (ho : Lib.decDigits k ++ out.data.toList = l) : ((⟨#[48 + UInt8.ofNat k]⟩ : ByteArray) ++ out).data.toList = l := by
  rw [dec_split, if_pos (by omega), dig_add] at ho
  rw [← ho]; simp
theorem conv_one (W : World) (z : Int) : (convert 116 9 (.slice (some ⟨W.heap.size, 0, none⟩) 1 1)).run Tryz.prog (W.alloc (.cells #[.int .u8 z] 5)) = .ok (.string ⟨#[UInt8.ofNat z.toNat]⟩) (W.alloc (.cells #[.int .u8 z] 5)) := by
  have := run_convert_bytes_arg (P := Tryz.prog) (W.alloc (.cells #[.int .u8 z] 5)) 116 5 (by kernel_rfl) (by kernel_rfl) W.heap.size 0 1 1 [z] rfl (fun i hi => by
    obtain rfl : i = 0 := by omega
    rw [cell_of_row _ _ _ _ _ _ (heap_alloc_new W _)]; rfl) 9 (by kernel_rfl)
  rw [this]; rfl
set_option maxHeartbeats 400000 in
theorem rprint_c (n : Int) (w : World) (h0 : -9223372036854775808 ≤ n) (h1 : n ≤ 9223372036854775807) : Calls Tryz.prog 60 #[.int .i64 n] w fun e w' => e = .returned (.string ⟨(Lib.itoa n).toArray⟩) ∧ Below w.heap.size w w' := by
  have cx := fun W => mag_c n W h0 h1
  have kc := conv_one
  obtain ⟨rs, hrs⟩ : ∃ rs, (⟨(Lib.itoa n).toArray⟩ : ByteArray) = rs := ⟨_, rfl⟩
  rw [hrs]
  have HS := Lib.hid hrs
  clear hrs
  go_enter Tryz.func60, Tryz.ntmps60
  go_wp2_with fail
  (with_reducible refine (cx _).mono ?_)
  rintro e w' ⟨rfl, rfl⟩
  go_wp2_with fail
  have hL := dec_len n.natAbs
  go_loopw [3, 4] (fun m o wr => ∃ (k : Nat) (out : ByteArray), k ≤ n.natAbs ∧ m = .int .u64 k ∧ o = .string out ∧ Hid (Lib.decDigits k ++ out.data.toList = Lib.decDigits n.natAbs) ∧ out.size ≤ 922337203685477581 ∧ Below w.heap.size w wr) (fun m _ _ => (intOf m).toNat)
  case atStart => exact ⟨n.natAbs, ByteArray.empty, by omega, rfl, rfl, by show _ ++ [] = _; simp, by decide, Below.refl _ _⟩
  case round =>
    obtain ⟨k, out, hk, rfl, rfl, hout, hsz, hB⟩ := hrel
    by_cases hlt : 10 ≤ k
    · have t1 : decide (10 ≤ (k : Int)) = true := by simp; omega
      have O := Lib.hid (out_more k out _ hlt hout.out)
      have hsz2 : ((⟨#[48 + UInt8.ofNat (k % 10)]⟩ : ByteArray) ++ out).size ≤ 922337203685477581 := by
        have h1 := congrArg List.length O.out
        rw [List.length_append] at h1
        rw [Lib.size_eq]; omega
      have z := hB.size
      go_wp2
      go_roundw
      case rel => exact ⟨k / 10, _, by omega, by go_num, rfl, O.out, hsz2, by go_grown⟩
      case measure => simp [intOf]; omega
    · have t1 : decide (10 ≤ (k : Int)) = false := by simp; omega
      have O := Lib.hid (out_last k out _ (by omega) hout.out)
      by_cases hn : n < 0
      · have t2 : decide (n < 0) = true := by simpa using hn
        have he : (⟨(Lib.itoa n).toArray⟩ : ByteArray) = ⟨#[45]⟩ ++ (⟨#[48 + UInt8.ofNat k]⟩ ++ out) := bytes_ext (by rw [Lib.itoa, if_pos hn, ← O.out]; simp)
        obtain rfl := HS.out.symm.trans he
        have z := hB.size
        go_wp2
        go_ret
        exact ⟨rfl, by go_grown⟩
      · have t2 : decide (n < 0) = false := by simpa using hn
        have he : (⟨(Lib.itoa n).toArray⟩ : ByteArray) = ⟨#[48 + UInt8.ofNat k]⟩ ++ out := bytes_ext (by rw [Lib.itoa, if_neg hn, show n.toNat = n.natAbs by omega, ← O.out])
        obtain rfl := HS.out.symm.trans he
        have z := hB.size
        go_wp2
        go_ret
        exact ⟨rfl, by go_grown⟩
end NumW
end Go.Proofs.YtchceoclkdofhaaGreatDoor
