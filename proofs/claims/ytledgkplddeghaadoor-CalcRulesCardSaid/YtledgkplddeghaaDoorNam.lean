/- The walks of quote.Name and of its reference (QuoW without text). Conditions: texts that fit. -/
import Derived.Test.YtledgkplddeghaaDoorMem
import Derived.Test.YtledgkplddeghaaDoorQuoP
namespace Go.Proofs.YtledgkplddeghaaDoor
set_option linter.unusedVariables false
set_option linter.unusedSimpArgs false
open Go.RowKit
namespace QuoW
open QuoP
theorem full_of (s : ByteArray) (h0 : 0 < s.size) : s.toList.isEmpty = false := by
  rw [Lib.toList_data]; rw [Lib.size_eq] at h0
  cases h : s.data.toList with
  | nil => rw [h] at h0; simp at h0
  | cons => rfl
theorem take_step (p : UInt8 → Bool) (d : ByteArray) (k : Nat) (h : k < d.size) : (d.data.toList.take (k + 1)).all p = ((d.data.toList.take k).all p && p (d[k]'h)) := by
  rw [List.take_add_one, List.getElem?_eq_getElem (by simpa using h)]; simp; rfl
theorem take_false (p : UInt8 → Bool) (d : ByteArray) (k : Nat) (h : k < d.size) (x : p (d[k]'h) = false) : d.data.toList.all p = false := by
  rw [List.all_eq_false]
  have hm : d[k]'h ∈ d.data.toList := List.getElem_mem (l := d.data.toList) (n := k) (by simpa using h)
  exact ⟨_, hm, by rw [x]; decide⟩
theorem drop_cons (s : ByteArray) (i : Nat) (h : i < s.size) : s.data.toList.drop i = (s[i]'h) :: s.data.toList.drop (i + 1) := by
  rw [List.drop_eq_getElem_cons (by simpa using h)]; rfl
section
variable (c : UInt8) (w : World)
theorem letter_c : Calls Tryd.prog 58 #[.int .u8 c.toNat] w fun e w' => e = .returned (.bool (letterB c)) ∧ w = w' := by
  go_enter Tryd.func58, Tryd.ntmps58
  go_wp2
  all_goals (go_ret; refine ⟨ret_bool ?_, rfl⟩; rw [Bool.eq_iff_iff]; simp [letterB]; omega)
theorem within_c : Calls Tryd.prog 59 #[.int .u8 c.toNat] w fun e w' => e = .returned (.bool (withB c)) ∧ w = w' := by
  have c1 := fun W => letter_c c W
  cases hl : letterB c <;> rw [hl] at c1
  all_goals
    go_enter Tryd.func59, Tryd.ntmps59
    go_wp2_with fail
    (with_reducible refine (c1 _).mono ?_)
    rintro e w' ⟨rfl, rfl⟩
    go_wp2_with fail
    all_goals (go_ret; refine ⟨ret_bool ?_, rfl⟩; rw [Bool.eq_iff_iff]; simp [withB, hl, digB]; try omega)
def smallB (c : UInt8) (b : Bool) : Bool := letterB c || (b && (digB c || c.toNat == 95))
theorem small_c (b : Bool) : Calls Tryd.prog 51 #[.int .u8 c.toNat, .bool b] w fun e w' => e = .returned (.bool (smallB c b)) ∧ w = w' := by
  cases b
  all_goals
    go_enter Tryd.func51, Tryd.ntmps51
    go_wp2
    all_goals (go_ret; refine ⟨ret_bool ?_, rfl⟩; rw [Bool.eq_iff_iff]; simp [smallB, letterB, digB]; try omega)
end
/-- A name, by its length. -/
theorem name_none (s : ByteArray) (h : s.size = 0) : nameB s.data.toList = false := by
  have e : s.data.toList = [] := List.eq_nil_of_length_eq_zero (by rw [← Lib.size_eq]; exact h)
  rw [e]; rfl
theorem name_one (s : ByteArray) (h : s.size = 1) : nameB s.data.toList = (letterB (s[0]'(by omega)) || digB (s[0]'(by omega))) := by
  have e := drop_cons s 0 (by omega)
  rw [List.drop_zero, List.drop_eq_nil_of_le (by rw [← Lib.size_eq]; omega)] at e
  rw [e]; rfl
theorem name_more (s : ByteArray) (h : 1 < s.size) : nameB s.data.toList = (letterB (s[0]'(by omega)) && s.data.toList.all withB && decide (s.size ≤ 8)) := by
  have e := drop_cons s 0 (by omega)
  have e1 := drop_cons s 1 h
  rw [List.drop_zero] at e
  have hl := Lib.size_eq s
  rw [show (0 : Nat) + 1 = 1 from rfl, e1] at e
  have hz : decide (s.size ≤ 8) = decide ((s[0] :: s[1] :: List.drop (1 + 1) s.data.toList).length ≤ 8) := by rw [← e, ← hl]
  rw [hz, e]
  simp only [nameB, List.all_cons, withB]
  cases letterB s[0] <;> simp
theorem name_big (s : ByteArray) (h : 8 < s.size) : nameB s.data.toList = false := by
  rw [name_more s (by omega)]; simp; omega
set_option maxHeartbeats 400000 in
theorem name_c (s : ByteArray) (w : World) (hs : s.size ≤ 4611686018427387904) : Calls Tryd.prog 42 #[.string s] w fun e w' => e = .returned (.bool (nameB s.data.toList)) ∧ w = w' := by
  have c1 := fun (c : UInt8) W => letter_c c W
  have c2 := fun (c : UInt8) W => within_c c W
  by_cases h0 : s.size = 0
  · have e0 : s.toList.isEmpty = true := by rw [Lib.toList_data, List.isEmpty_iff]; exact List.eq_nil_of_length_eq_zero (by rw [← Lib.size_eq]; exact h0)
    rw [name_none s h0]
    go_enter Tryd.func42, Tryd.ntmps42
    go_wp2
    go_ret
    exact ⟨rfl, rfl⟩
  have hne := full_of s (by omega)
  by_cases h8 : 8 < s.size
  · rw [name_big s h8]
    go_enter Tryd.func42, Tryd.ntmps42
    go_wp2
    go_ret
    exact ⟨rfl, rfl⟩
  by_cases h1 : s.size = 1
  · rw [name_one s h1]
    have d1 : ((s.size : Int) == 1) = true := by rw [beq_iff_eq]; omega
    generalize hx : s[0]'(show 0 < s.size by omega) = x
    cases hl : letterB x <;> cases l1 : decide ((48 : Int) ≤ (x.toNat : Int)) <;> cases l2 : decide ((x.toNat : Int) ≤ (57 : Int))
    all_goals
      go_enter Tryd.func42, Tryd.ntmps42
      subst hx
      go_wp2_with (first | (with_reducible refine (c1 _ _).mono ?_; rintro e w' ⟨rfl, rfl⟩))
      go_ret; refine ⟨ret_bool ?_, rfl⟩
      simp at l1 l2
      simp [hl, digB, l1, l2]; try omega
  · have d1 : ((s.size : Int) == 1) = false := by rw [beq_eq_false_iff_ne]; omega
    have d8 : decide (s.size ≤ 8) = true := by simpa using h8
    rw [name_more s (by omega), d8, Bool.and_true]
    cases hl : letterB (s[0]'(show 0 < s.size by omega))
    · go_enter Tryd.func42, Tryd.ntmps42
      go_wp2_with (first | (with_reducible refine (c1 _ _).mono ?_; rintro e w' ⟨rfl, rfl⟩))
      go_ret
      exact ⟨rfl, rfl⟩
    · rw [Bool.true_and]
      obtain ⟨r, hr⟩ : ∃ r, s.data.toList.all withB = r := ⟨_, rfl⟩
      have HR := Lib.hid hr
      rw [hr]
      clear hr
      go_enter Tryd.func42, Tryd.ntmps42
      go_wp2_with (first | (with_reducible refine (c1 _ _).mono ?_; rintro e w' ⟨rfl, rfl⟩))
      clear hne d1 hl c1
      go_loop [36] (fun i => ∃ k : Nat, k ≤ s.size ∧ i = .int .i64 k ∧ Hid ((s.data.toList.take k).all withB = true)) (fun i => s.size - (intOf i).toNat)
      case atStart => exact ⟨0, by omega, rfl, rfl⟩
      case round =>
        obtain ⟨k, hk, rfl, hall⟩ := hrel
        by_cases hlt : k < s.size
        · have AS := Lib.hid (take_step withB s k hlt)
          have AF := Lib.hid (take_false withB s k hlt)
          cases hb : withB (s[k]'hlt)
          · go_wp2_with (first | (with_reducible refine (c2 _ _).mono ?_; rintro e w' ⟨rfl, rfl⟩))
            go_ret
            refine ⟨?_, rfl⟩; rw [← HR.out, AF.out hb]; rfl
          · go_wp2_with (first | (with_reducible refine (c2 _ _).mono ?_; rintro e w' ⟨rfl, rfl⟩))
            go_round
            case rel => exact ⟨k + 1, by omega, by go_num, by show _ = true; rw [AS.out, hall.out, hb]; rfl⟩
            case measure => simp [intOf]; omega
        · obtain rfl : k = s.size := by omega
          go_wp2
          go_ret
          refine ⟨?_, rfl⟩; rw [← HR.out, ← hall.out, List.take_of_length_le (by simp)]; rfl
/-- A name as the reference has it. -/
def refB (l : Bs) : Bool := match l with
  | [] => true
  | c :: r => letterB c && r.all withB
theorem ref_name (l : Bs) (h : ¬ (l.length = 1 ∧ l.all digB = true)) : nameB l = (refB l && (decide (1 ≤ l.length) && decide (l.length ≤ 8))) := by
  match l, h with
  | [], _ => rfl
  | [c], h =>
    have hd : digB c = false := by
      cases e : digB c
      · rfl
      · exact absurd ⟨rfl, by simp [e]⟩ h
    simp [nameB, refB, hd]
  | c :: d :: r, _ => simp [nameB, refB, Bool.and_assoc]
theorem ref_step (s : ByteArray) (k : Nat) (h : k < s.size) : refB (s.data.toList.take (k + 1)) = (refB (s.data.toList.take k) && smallB (s[k]'h) (decide (0 < k))) := by
  match k, h with
  | 0, h =>
    have e := drop_cons s 0 h
    rw [List.drop_zero] at e
    rw [e]; simp [refB, smallB]
  | k + 1, h =>
    have e := drop_cons s 0 (by omega)
    rw [List.drop_zero] at e
    have e2 := take_step withB s (k + 1) h
    rw [show decide (0 < k + 1) = true by simp]
    generalize s[k + 1] = y at *
    generalize s[0] = x at *
    generalize s.data.toList.drop (0 + 1) = r at *
    rw [e] at e2 ⊢
    rw [List.take_succ_cons, List.take_succ_cons, List.all_cons, List.all_cons] at e2
    rw [List.take_succ_cons, List.take_succ_cons, refB, refB]
    have e3 : smallB y true = withB y := by simp [smallB, withB, Bool.or_assoc]
    rw [e3]
    cases hx : letterB x
    · simp
    · have : withB x = true := by simp [withB, hx]
      rw [this] at e2; simpa using e2
theorem ref_false : ∀ (l : Bs) (k : Nat), refB (l.take k) = false → refB l = false := by
  intro l k h
  cases l with
  | nil => rw [List.take_nil] at h; exact h
  | cons c r =>
    cases k with
    | zero => cases h
    | succ k =>
      rw [List.take_succ_cons] at h
      simp only [refB, Bool.and_eq_false_iff] at h ⊢
      rcases h with h | h
      · exact Or.inl h
      · right
        rw [List.all_eq_false] at h ⊢
        obtain ⟨x, hx, hy⟩ := h
        exact ⟨x, List.mem_of_mem_take hx, hy⟩
set_option maxHeartbeats 800000 in
theorem rname_c (s : ByteArray) (w : World) (hs : s.size ≤ 4611686018427387904) : Calls Tryd.prog 36 #[.string s] w fun e w' => e = .returned (.bool (nameB s.data.toList)) ∧ w = w' := by
  have c2 := fun (c : UInt8) b W => small_c c W b
  by_cases h1 : s.size = 1
  · have d1 : ((s.size : Int) == 1) = true := by rw [beq_iff_eq]; omega
    have e1 := drop_cons s 0 (by omega)
    rw [List.drop_zero, List.drop_eq_nil_of_le (by rw [← Lib.size_eq]; omega)] at e1
    have hp : 0 < s.size := by omega
    by_cases l1 : decide ((48 : Int) ≤ ((s[0]'hp).toNat : Int)) = true
    · by_cases l2 : decide (((s[0]'hp).toNat : Int) ≤ (57 : Int)) = true
      · rw [show nameB s.data.toList = true by rw [e1]; simp at l1 l2; simp [nameB, digB]; right; omega]
        clear e1
        go_enter Tryd.func36, Tryd.ntmps36
        go_wp2
        go_ret
        exact ⟨rfl, rfl⟩
      · rw [Bool.not_eq_true] at l2
        have HF := Lib.hid (ref_name s.data.toList (by rw [← Lib.size_eq]; rintro ⟨u1, u2⟩; rw [e1] at u2; simp [digB] at u2 l2; omega))
        obtain ⟨r, hr⟩ : ∃ r, nameB s.data.toList = r := ⟨_, rfl⟩
        have HR := Lib.hid hr
        rw [hr]
        clear hr
        go_enter Tryd.func36, Tryd.ntmps36
        go_wp2
        clear l1 l2 d1 e1
        go_loop [3] (fun i => ∃ k : Nat, k ≤ s.size ∧ i = .int .i64 k ∧ Hid (refB (s.data.toList.take k) = true)) (fun i => s.size - (intOf i).toNat)
        case atStart => exact ⟨0, by omega, rfl, rfl⟩
        case round =>
          obtain ⟨k, hk, rfl, hall⟩ := hrel
          by_cases hlt : k < s.size
          · have AS := Lib.hid (ref_step s k hlt)
            have AF := Lib.hid (ref_false s.data.toList (k + 1))
            cases hb : smallB (s[k]'hlt) (decide (0 < k))
            · go_wp2_with (first | (with_reducible refine (c2 _ _ _).mono ?_; rintro e w' ⟨rfl, rfl⟩))
              go_ret
              refine ⟨?_, rfl⟩; rw [← HR.out, HF.out, AF.out (by rw [AS.out, hb, Bool.and_false])]; rfl
            · go_wp2_with (first | (with_reducible refine (c2 _ _ _).mono ?_; rintro e w' ⟨rfl, rfl⟩))
              go_round
              case rel => exact ⟨k + 1, by omega, by go_num, by show _ = true; rw [AS.out, hall.out, hb]; rfl⟩
              case measure => simp [intOf]; omega
          · obtain rfl : k = s.size := by omega
            have ha := hall.out
            rw [List.take_of_length_le (by simp)] at ha
            have HZ := Lib.hid ha
            clear ha
            go_wp2
            all_goals
              go_ret
              refine ⟨?_, rfl⟩; rw [← HR.out, HF.out, HZ.out, ← Lib.size_eq]; refine ret_bool ?_; rw [Bool.eq_iff_iff]; simp; try omega
    · rw [Bool.not_eq_true] at l1
      have HF := Lib.hid (ref_name s.data.toList (by rw [← Lib.size_eq]; rintro ⟨u1, u2⟩; rw [e1] at u2; simp [digB] at u2 l1; omega))
      obtain ⟨r, hr⟩ : ∃ r, nameB s.data.toList = r := ⟨_, rfl⟩
      have HR := Lib.hid hr
      rw [hr]
      clear hr
      go_enter Tryd.func36, Tryd.ntmps36
      go_wp2
      clear l1 d1 e1
      go_loop [3] (fun i => ∃ k : Nat, k ≤ s.size ∧ i = .int .i64 k ∧ Hid (refB (s.data.toList.take k) = true)) (fun i => s.size - (intOf i).toNat)
      case atStart => exact ⟨0, by omega, rfl, rfl⟩
      case round =>
        obtain ⟨k, hk, rfl, hall⟩ := hrel
        by_cases hlt : k < s.size
        · have AS := Lib.hid (ref_step s k hlt)
          have AF := Lib.hid (ref_false s.data.toList (k + 1))
          cases hb : smallB (s[k]'hlt) (decide (0 < k))
          · go_wp2_with (first | (with_reducible refine (c2 _ _ _).mono ?_; rintro e w' ⟨rfl, rfl⟩))
            go_ret
            refine ⟨?_, rfl⟩; rw [← HR.out, HF.out, AF.out (by rw [AS.out, hb, Bool.and_false])]; rfl
          · go_wp2_with (first | (with_reducible refine (c2 _ _ _).mono ?_; rintro e w' ⟨rfl, rfl⟩))
            go_round
            case rel => exact ⟨k + 1, by omega, by go_num, by show _ = true; rw [AS.out, hall.out, hb]; rfl⟩
            case measure => simp [intOf]; omega
        · obtain rfl : k = s.size := by omega
          have ha := hall.out
          rw [List.take_of_length_le (by simp)] at ha
          have HZ := Lib.hid ha
          clear ha
          go_wp2
          all_goals
            go_ret
            refine ⟨?_, rfl⟩; rw [← HR.out, HF.out, HZ.out, ← Lib.size_eq]; refine ret_bool ?_; rw [Bool.eq_iff_iff]; simp; try omega
  · have d1 : ((s.size : Int) == 1) = false := by rw [beq_eq_false_iff_ne]; omega
    have HF := Lib.hid (ref_name s.data.toList (by rw [← Lib.size_eq]; rintro ⟨u1, u2⟩; omega))
    obtain ⟨r, hr⟩ : ∃ r, nameB s.data.toList = r := ⟨_, rfl⟩
    have HR := Lib.hid hr
    rw [hr]
    clear hr
    go_enter Tryd.func36, Tryd.ntmps36
    go_wp2
    clear d1
    go_loop [3] (fun i => ∃ k : Nat, k ≤ s.size ∧ i = .int .i64 k ∧ Hid (refB (s.data.toList.take k) = true)) (fun i => s.size - (intOf i).toNat)
    case atStart => exact ⟨0, by omega, rfl, rfl⟩
    case round =>
      obtain ⟨k, hk, rfl, hall⟩ := hrel
      by_cases hlt : k < s.size
      · have AS := Lib.hid (ref_step s k hlt)
        have AF := Lib.hid (ref_false s.data.toList (k + 1))
        cases hb : smallB (s[k]'hlt) (decide (0 < k))
        · go_wp2_with (first | (with_reducible refine (c2 _ _ _).mono ?_; rintro e w' ⟨rfl, rfl⟩))
          go_ret
          refine ⟨?_, rfl⟩; rw [← HR.out, HF.out, AF.out (by rw [AS.out, hb, Bool.and_false])]; rfl
        · go_wp2_with (first | (with_reducible refine (c2 _ _ _).mono ?_; rintro e w' ⟨rfl, rfl⟩))
          go_round
          case rel => exact ⟨k + 1, by omega, by go_num, by show _ = true; rw [AS.out, hall.out, hb]; rfl⟩
          case measure => simp [intOf]; omega
      · obtain rfl : k = s.size := by omega
        have ha := hall.out
        rw [List.take_of_length_le (by simp)] at ha
        have HZ := Lib.hid ha
        clear ha
        go_wp2
        all_goals
          go_ret
          refine ⟨?_, rfl⟩; rw [← HR.out, HF.out, HZ.out, ← Lib.size_eq]; refine ret_bool ?_; rw [Bool.eq_iff_iff]; simp; try omega
end QuoW
end Go.Proofs.YtledgkplddeghaaDoor
