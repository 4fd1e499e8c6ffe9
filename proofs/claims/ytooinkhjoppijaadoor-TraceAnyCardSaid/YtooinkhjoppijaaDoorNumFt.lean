/- The walk of num.form. Condition: a text that fits. -/
import Derived.Test.YtooinkhjoppijaaDoorNumT
import Derived.Test.YtooinkhjoppijaaDoorNumG
namespace Go.Proofs.YtooinkhjoppijaaDoor
set_option linter.unusedVariables false
set_option linter.unusedSimpArgs false
open Go.RowKit
namespace NumW
open NumP
theorem byte_eq (s : ByteArray) (h0 : 0 < s.size) (n : UInt8) : (((s[0]'h0).toNat : Int) == (n.toNat : Int)) = (s.data.toList.head? == some n) := by
  have : s.data.toList.head? = some (s[0]'h0) := by
    rw [List.head?_eq_getElem?, List.getElem?_eq_getElem (by simpa using h0)]; rfl
  rw [this, Bool.eq_iff_iff]; simp only [beq_iff_eq, Option.some.injEq]
  constructor
  · intro h; exact UInt8.toNat_inj.1 (by omega)
  · rintro rfl; rfl
theorem full_of (s : ByteArray) (h0 : 0 < s.size) : s.toList.isEmpty = false := by
  rw [Lib.toList_data]; rw [Lib.size_eq] at h0
  cases h : s.data.toList with
  | nil => rw [h] at h0; simp at h0
  | cons => rfl
theorem dig_tests (c : UInt8) : (decide ((c.toNat : Int) < 48) || decide (57 < (c.toNat : Int))) = !digB c := by
  rw [Bool.eq_iff_iff]; simp [digB]; omega
theorem all_step (d : ByteArray) (k : Nat) (h : k < d.size) : (d.data.toList.take (k + 1)).all digB = ((d.data.toList.take k).all digB && digB (d[k]'h)) := by
  rw [List.take_add_one, List.getElem?_eq_getElem (by simpa using h)]; simp; rfl
theorem all_false (d : ByteArray) (k : Nat) (h : k < d.size) (x : digB (d[k]'h) = false) : d.data.toList.all digB = false := by
  rw [List.all_eq_false]
  have hm : d[k]'h ∈ d.data.toList := List.getElem_mem (l := d.data.toList) (n := k) (by simpa using h)
  exact ⟨_, hm, by rw [x]; decide⟩
set_option maxHeartbeats 400000 in
theorem form_neg (s : ByteArray) (w : World) (hs : s.size ≤ 4611686018427387904) (h0 : 0 < s.size) (x1 : (s.toList == [48]) = false) (x2 : (((s[0]'h0).toNat : Int) == 45) = true) (h1 : 0 < (s.extract 1 s.size).size) (x3 : ((((s.extract 1 s.size)[0]'h1).toNat : Int) == 48) = false) : Calls Tryd.prog 48 #[.string s] w fun e w' => e = .returned (.bool ((s.extract 1 s.size).data.toList.all digB)) ∧ w = w' := by
  have hne := full_of s h0
  have hne2 := full_of _ h1
  generalize hd : s.extract 1 s.size = d at *
  have hds : d.size ≤ 4611686018427387904 := by rw [← hd]; simp; omega
  obtain ⟨r, hr⟩ : ∃ r, d.data.toList.all digB = r := ⟨_, rfl⟩
  have HR := Lib.hid hr
  rw [hr]
  clear hr
  go_enter Tryd.func48, Tryd.ntmps48
  go_wp2
  clear x1 x2 hne x3 hne2 hd
  go_loop [24] (fun i => ∃ k : Nat, k ≤ d.size ∧ i = .int .i64 k ∧ Hid ((d.data.toList.take k).all digB = true)) (fun i => d.size - (intOf i).toNat)
  case atStart => exact ⟨0, by omega, rfl, rfl⟩
  case round =>
    obtain ⟨k, hk, rfl, hall⟩ := hrel
    by_cases hlt : k < d.size
    · have T := Lib.hid (dig_tests (d[k]'hlt))
      have AS := Lib.hid (all_step d k hlt)
      have AF := Lib.hid (all_false d k hlt)
      by_cases l1 : decide (((d[k]'hlt).toNat : Int) < 48) = true
      · go_wp2
        go_ret
        refine ⟨?_, rfl⟩; rw [← HR.out, AF.out (by have := T.out; rw [l1] at this; simpa using this.symm)]; rfl
      · rw [Bool.not_eq_true] at l1
        by_cases l2 : decide (57 < ((d[k]'hlt).toNat : Int)) = true
        · go_wp2
          go_ret
          refine ⟨?_, rfl⟩; rw [← HR.out, AF.out (by have := T.out; rw [l1, l2] at this; simpa using this.symm)]; rfl
        · rw [Bool.not_eq_true] at l2
          go_wp2
          go_round
          case rel => exact ⟨k + 1, by omega, by go_num, by show _ = true; rw [AS.out, hall.out]; have := T.out; rw [l1, l2] at this; simpa using this.symm⟩
          case measure => simp [intOf]; omega
    · obtain rfl : k = d.size := by omega
      go_wp2
      go_ret
      refine ⟨?_, rfl⟩; rw [← HR.out, ← hall.out, List.take_of_length_le (by simp)]; rfl
set_option maxHeartbeats 400000 in
theorem form_pos (s : ByteArray) (w : World) (hs : s.size ≤ 4611686018427387904) (h0 : 0 < s.size) (x1 : (s.toList == [48]) = false) (x2 : (((s[0]'h0).toNat : Int) == 45) = false) (x3 : (((s[0]'h0).toNat : Int) == 48) = false) : Calls Tryd.prog 48 #[.string s] w fun e w' => e = .returned (.bool (s.data.toList.all digB)) ∧ w = w' := by
  have hne := full_of s h0
  obtain ⟨r, hr⟩ : ∃ r, s.data.toList.all digB = r := ⟨_, rfl⟩
  have HR := Lib.hid hr
  rw [hr]
  clear hr
  go_enter Tryd.func48, Tryd.ntmps48
  go_wp2
  clear x1 x2 hne x3
  go_loop [24] (fun i => ∃ k : Nat, k ≤ s.size ∧ i = .int .i64 k ∧ Hid ((s.data.toList.take k).all digB = true)) (fun i => s.size - (intOf i).toNat)
  case atStart => exact ⟨0, by omega, rfl, rfl⟩
  case round =>
    obtain ⟨k, hk, rfl, hall⟩ := hrel
    by_cases hlt : k < s.size
    · have T := Lib.hid (dig_tests (s[k]'hlt))
      have AS := Lib.hid (all_step s k hlt)
      have AF := Lib.hid (all_false s k hlt)
      by_cases l1 : decide (((s[k]'hlt).toNat : Int) < 48) = true
      · go_wp2
        go_ret
        refine ⟨?_, rfl⟩; rw [← HR.out, AF.out (by have := T.out; rw [l1] at this; simpa using this.symm)]; rfl
      · rw [Bool.not_eq_true] at l1
        by_cases l2 : decide (57 < ((s[k]'hlt).toNat : Int)) = true
        · go_wp2
          go_ret
          refine ⟨?_, rfl⟩; rw [← HR.out, AF.out (by have := T.out; rw [l1, l2] at this; simpa using this.symm)]; rfl
        · rw [Bool.not_eq_true] at l2
          go_wp2
          go_round
          case rel => exact ⟨k + 1, by omega, by go_num, by show _ = true; rw [AS.out, hall.out]; have := T.out; rw [l1, l2] at this; simpa using this.symm⟩
          case measure => simp [intOf]; omega
    · obtain rfl : k = s.size := by omega
      go_wp2
      go_ret
      refine ⟨?_, rfl⟩; rw [← HR.out, ← hall.out, List.take_of_length_le (by simp)]; rfl
theorem formB_neg (s : ByteArray) (h0 : 0 < s.size) (x1 : (s.toList == [48]) = false) (x2 : (((s[0]'h0).toNat : Int) == 45) = true) : formB s.data.toList = digsB (s.extract 1 s.size).data.toList := by
  rw [Lib.toList_data] at x1
  have h2 : (((s[0]'h0).toNat : Int) == 45) = (s.data.toList.head? == some 45) := byte_eq s h0 45
  rw [x2] at h2
  rw [formB, x1, if_pos (by simpa using h2.symm), Lib.extract_to_end]
  simp
theorem formB_pos (s : ByteArray) (h0 : 0 < s.size) (x1 : (s.toList == [48]) = false) (x2 : (((s[0]'h0).toNat : Int) == 45) = false) : formB s.data.toList = digsB s.data.toList := by
  rw [Lib.toList_data] at x1
  have h2 : (((s[0]'h0).toNat : Int) == 45) = (s.data.toList.head? == some 45) := byte_eq s h0 45
  rw [x2] at h2
  rw [formB, x1, if_neg (by simpa using h2.symm)]
  simp
theorem digsB_full (s : ByteArray) (h0 : 0 < s.size) (x3 : (((s[0]'h0).toNat : Int) == 48) = false) : digsB s.data.toList = s.data.toList.all digB := by
  have h1 := full_of s h0
  rw [Lib.toList_data] at h1
  have h2 : (((s[0]'h0).toNat : Int) == 48) = (s.data.toList.head? == some 48) := byte_eq s h0 48
  rw [x3] at h2
  rw [digsB, h1, ← h2]; simp
theorem digsB_zero (s : ByteArray) (h0 : 0 < s.size) (x3 : (((s[0]'h0).toNat : Int) == 48) = true) : digsB s.data.toList = false := by
  have h2 : (((s[0]'h0).toNat : Int) == 48) = (s.data.toList.head? == some 48) := byte_eq s h0 48
  rw [x3] at h2
  rw [digsB, ← h2]; simp
theorem digsB_none (s : ByteArray) (h0 : ¬ 0 < s.size) : digsB s.data.toList = false := by
  have : s.data.toList = [] := by rw [Lib.size_eq] at h0; exact List.eq_nil_of_length_eq_zero (by omega)
  rw [this]; rfl
set_option maxHeartbeats 400000 in
theorem form_c (s : ByteArray) (w : World) (hs : s.size ≤ 4611686018427387904) : Calls Tryd.prog 48 #[.string s] w fun e w' => e = .returned (.bool (formB s.data.toList)) ∧ w = w' := by
  by_cases x1 : (s.toList == [48]) = true
  · have : formB s.data.toList = true := by rw [Lib.toList_data] at x1; rw [formB, x1]; rfl
    rw [this]
    clear this
    go_enter Tryd.func48, Tryd.ntmps48
    go_wp2
    go_ret
    exact ⟨rfl, rfl⟩
  rw [Bool.not_eq_true] at x1
  by_cases h0 : 0 < s.size
  · have hne := full_of s h0
    by_cases x2 : (((s[0]'h0).toNat : Int) == 45) = true
    · rw [formB_neg s h0 x1 x2]
      by_cases h1 : 0 < (s.extract 1 s.size).size
      · by_cases x3 : ((((s.extract 1 s.size)[0]'h1).toNat : Int) == 48) = true
        · have hne2 := full_of _ h1
          rw [digsB_zero _ h1 x3]
          generalize hd : s.extract 1 s.size = d at *
          go_enter Tryd.func48, Tryd.ntmps48
          go_wp2
          go_ret
          exact ⟨rfl, rfl⟩
        · rw [Bool.not_eq_true] at x3
          rw [digsB_full _ h1 x3]
          exact form_neg s w hs h0 x1 x2 h1 x3
      · rw [digsB_none _ h1]
        have hne2 : (s.extract 1 s.size).toList.isEmpty = true := by
          rw [Lib.toList_data]; rw [Lib.size_eq] at h1; rw [List.isEmpty_iff]; exact List.eq_nil_of_length_eq_zero (by omega)
        generalize hd : s.extract 1 s.size = d at *
        go_enter Tryd.func48, Tryd.ntmps48
        go_wp2
        go_ret
        exact ⟨rfl, rfl⟩
    · rw [Bool.not_eq_true] at x2
      rw [formB_pos s h0 x1 x2]
      by_cases x3 : (((s[0]'h0).toNat : Int) == 48) = true
      · rw [digsB_zero _ h0 x3]
        go_enter Tryd.func48, Tryd.ntmps48
        go_wp2
        go_ret
        exact ⟨rfl, rfl⟩
      · rw [Bool.not_eq_true] at x3
        rw [digsB_full _ h0 x3]
        exact form_pos s w hs h0 x1 x2 x3
  · have hn : s.toList.isEmpty = true := by
      rw [Lib.toList_data]; rw [Lib.size_eq] at h0; rw [List.isEmpty_iff]; exact List.eq_nil_of_length_eq_zero (by omega)
    have : formB s.data.toList = false := by
      rw [Lib.toList_data, List.isEmpty_iff] at hn; rw [hn]; rfl
    rw [this]
    clear this
    go_enter Tryd.func48, Tryd.ntmps48
    go_wp2
    go_ret
    exact ⟨rfl, rfl⟩
end NumW
end Go.Proofs.YtooinkhjoppijaaDoor
