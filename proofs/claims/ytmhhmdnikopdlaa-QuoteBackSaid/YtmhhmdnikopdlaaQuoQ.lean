/- The walk of the reference's Print. Conditions: at most 1000 parts, texts of at most 10^6 bytes. -/
import Derived.Test.YtmhhmdnikopdlaaQuoK
namespace Go.Proofs.Ytmhhmdnikopdlaa
open Go.RowKit
namespace QuoK
open QuoP QuoW QuoR QuoI QuoB
set_option maxHeartbeats 6400000 in
theorem rprint_c (A : Option Addr) (n c : Nat) (l : List Pt) (w : World) (hr : Pts w w.heap.size A n l) (hf : SmP l) :
    Calls Try.prog 19 #[.slice A n c] w fun e w' => e = .returned (.string (ba (printB l))) ∧ Below w.heap.size w w' := by
  have hl := Pts.len hr
  obtain ⟨hf1, hf2⟩ := hf
  have HF := Lib.hid hf2
  clear hf2
  go_enter Try.func19, Try.ntmps19
  go_wp2_with fail
  go_loopw [3, 4] (fun v3 v4 wr => ∃ (k : Nat) (b : ByteArray), v3 = .string b ∧ v4 = .int .i64 k ∧ k ≤ n ∧ Hid (b.data.toList = 34 :: (l.take k).flatMap partB) ∧ b.size ≤ 1 + 5000003 * k ∧ Below w.heap.size w wr) (fun _ v4 _ => n - (intOf v4).toNat)
  case atStart => exact ⟨0, _, rfl, rfl, by omega, Lib.hid (by simp), by decide, Below.refl _ _⟩
  case round =>
    obtain ⟨k, bo, rfl, rfl, hk, HK, hbs, hB⟩ := hrel
    have hzr := hB.size
    by_cases hlt : k < n
    · obtain ⟨g, o, ⟨nm, tx⟩, rfl, hg, hp, q1w, q2w⟩ := Pts.get hr hlt
      have q1 := hB.cell (p := ⟨g, o + k * 2, none⟩) hg |>.trans q1w
      have q2 := hB.cell (p := ⟨g, o + k * 2 + 1, none⟩) hg |>.trans q2w
      have hfp := HF.out _ (List.mem_of_getElem? hp)
      simp only at q1 q2 q1w q2w hfp
      have TK := Lib.hid (take_flat partB l k _ hp)
      have en := ba_empty nm
      have hsn := ba_size nm
      have hst := ba_size tx
      have hnl := ba_list nm
      obtain ⟨bn, hbn⟩ : ∃ x, ba nm = x := ⟨_, rfl⟩
      obtain ⟨bt, hbt⟩ : ∃ x, ba tx = x := ⟨_, rfl⟩
      rw [hbn] at q1 q1w en hsn hnl
      rw [hbt] at q2 q2w hst
      have HNL := Lib.hid hnl
      clear hnl
      cases h0 : nm.isEmpty <;> rw [h0] at en
      · have hPB : partB (nm, tx) = 36 :: 123 :: (nm ++ [125]) ++ tx.flatMap one := by rw [partB, if_neg (by intro e; simp only at e; rw [e] at h0; cases h0)]
        go_wp2_with fail
        go_loopw [3, 5] (fun v3 v5 wi => ∃ (j : Nat) (b : ByteArray), v3 = .string b ∧ v5 = .int .i64 j ∧ j ≤ tx.length ∧ Hid (b.data.toList = (bo.data.toList ++ (36 :: 123 :: (nm ++ [125]))) ++ (tx.take j).flatMap one) ∧ b.size ≤ (bo.size + bn.size + 3) + 4 * j ∧ Below w.heap.size w wi) (fun _ v5 _ => tx.length - (intOf v5).toNat)
        case atStart => exact ⟨0, _, rfl, rfl, by omega, Lib.hid (by rw [show List.take 0 tx = [] from rfl, ← HNL.out]; simp), by simp only [ByteArray.size_append, show (⟨#[36, 123]⟩ : ByteArray).size = 2 from rfl, show (⟨#[125]⟩ : ByteArray).size = 1 from rfl]; omega, hB⟩
        case round =>
          clear q1 q2
          obtain ⟨j, bj, rfl, rfl, hj, HJ, hsj, hBj⟩ := hrel
          have hzj := hBj.size
          have q1 := hBj.cell (p := ⟨g, o + k * 2, none⟩) hg |>.trans q1w
          have q2 := hBj.cell (p := ⟨g, o + k * 2 + 1, none⟩) hg |>.trans q2w
          by_cases hjl : j < tx.length
          · have hjb : j < bt.size := by omega
            have hx : tx[j]? = some (bt[j]'hjb) := by rw [← ba_list tx, List.getElem?_eq_getElem (by rw [← Lib.size_eq, hbt]; exact hjb)]; subst hbt; rfl
            obtain ⟨x, hxx⟩ : ∃ x, bt[j]'hjb = x := ⟨_, rfl⟩
            rw [hxx] at hx
            have TF := Lib.hid (take_flat one tx j x hx)
            have co := fun W => byte_c x W
            have hol := one_len x
            have hos : (⟨(one x).toArray⟩ : ByteArray).size ≤ 4 := by show (one x).toArray.size ≤ 4; simpa using hol
            clear hx
            obtain ⟨bx, hbx⟩ : ∃ b, (⟨(one x).toArray⟩ : ByteArray) = b := ⟨_, rfl⟩
            rw [hbx] at co hos
            go_wp2_with fail
            (with_reducible refine (co _).mono ?_)
            rintro e w5 ⟨rfl, hb5⟩
            have hB5 := via (a := w) hb5 hBj
            go_wp2
            go_roundw
            case rel => exact ⟨j + 1, _, rfl, by go_num, by omega, Lib.hid (by rw [TF.out, ← List.append_assoc, ← HJ.out, ← hbx]; simp), by rw [ByteArray.size_append]; omega, hB5⟩
            case measure => simp [intOf]; omega
          · obtain rfl : j = tx.length := by omega
            go_wp2
            go_roundw
            case rel =>
              refine ⟨k + 1, bj, rfl, by go_num, by omega, Lib.hid ?_, by omega, hBj⟩
              have hq := HJ.out
              rw [List.take_of_length_le (Nat.le_refl _)] at hq
              rw [TK.out, hq, hPB, HK.out]; simp
            case measure => simp [intOf]; omega
      · have hPB : partB (nm, tx) = tx.flatMap one := by rw [partB, if_pos (List.isEmpty_iff.1 h0)]; rfl
        go_wp2_with fail
        go_loopw [3, 5] (fun v3 v5 wi => ∃ (j : Nat) (b : ByteArray), v3 = .string b ∧ v5 = .int .i64 j ∧ j ≤ tx.length ∧ Hid (b.data.toList = bo.data.toList ++ (tx.take j).flatMap one) ∧ b.size ≤ bo.size + 4 * j ∧ Below w.heap.size w wi) (fun _ v5 _ => tx.length - (intOf v5).toNat)
        case atStart => exact ⟨0, _, rfl, rfl, by omega, Lib.hid (by rw [show List.take 0 tx = [] from rfl]; simp), by omega, hB⟩
        case round =>
          clear q1 q2
          obtain ⟨j, bj, rfl, rfl, hj, HJ, hsj, hBj⟩ := hrel
          have hzj := hBj.size
          have q1 := hBj.cell (p := ⟨g, o + k * 2, none⟩) hg |>.trans q1w
          have q2 := hBj.cell (p := ⟨g, o + k * 2 + 1, none⟩) hg |>.trans q2w
          by_cases hjl : j < tx.length
          · have hjb : j < bt.size := by omega
            have hx : tx[j]? = some (bt[j]'hjb) := by rw [← ba_list tx, List.getElem?_eq_getElem (by rw [← Lib.size_eq, hbt]; exact hjb)]; subst hbt; rfl
            obtain ⟨x, hxx⟩ : ∃ x, bt[j]'hjb = x := ⟨_, rfl⟩
            rw [hxx] at hx
            have TF := Lib.hid (take_flat one tx j x hx)
            have co := fun W => byte_c x W
            have hol := one_len x
            have hos : (⟨(one x).toArray⟩ : ByteArray).size ≤ 4 := by show (one x).toArray.size ≤ 4; simpa using hol
            clear hx
            obtain ⟨bx, hbx⟩ : ∃ b, (⟨(one x).toArray⟩ : ByteArray) = b := ⟨_, rfl⟩
            rw [hbx] at co hos
            go_wp2_with fail
            (with_reducible refine (co _).mono ?_)
            rintro e w5 ⟨rfl, hb5⟩
            have hB5 := via (a := w) hb5 hBj
            go_wp2
            go_roundw
            case rel => exact ⟨j + 1, _, rfl, by go_num, by omega, Lib.hid (by rw [TF.out, ← List.append_assoc, ← HJ.out, ← hbx]; simp), by rw [ByteArray.size_append]; omega, hB5⟩
            case measure => simp [intOf]; omega
          · obtain rfl : j = tx.length := by omega
            go_wp2
            go_roundw
            case rel =>
              refine ⟨k + 1, bj, rfl, by go_num, by omega, Lib.hid ?_, by omega, hBj⟩
              have hq := HJ.out
              rw [List.take_of_length_le (Nat.le_refl _)] at hq
              rw [TK.out, hq, hPB, HK.out]; simp
            case measure => simp [intOf]; omega
    · obtain rfl : k = n := by omega
      have hq := HK.out
      rw [List.take_of_length_le (by omega)] at hq
      have HQ := Lib.hid hq
      clear hq
      go_wp2
      go_ret
      refine ⟨?_, hB⟩
      show Ending.returned (.string (bo ++ ⟨#[34]⟩)) = _
      refine ret_s (bytes_ext ?_)
      rw [ba_list, printB]
      simp [HQ.out]
end QuoK
end Go.Proofs.Ytmhhmdnikopdlaa
