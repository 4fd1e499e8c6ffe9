/- The walks of quote.Name and of its reference (QuoW without text). Conditions: texts that fit. -/
import Derived.Test.YtchceoclkdofhaaGreatDoorMem
import Derived.Test.YtchceoclkdofhaaGreatDoorCalTM
import Derived.Lib.FrozenHead2
import Derived.Lib.OthersKept
import Derived.Test.YtchceoclkdofhaaGreatDoorShelf
import Derived.Deep.AppendLies
import Derived.Deep.RegionLaw
namespace Go.Proofs.YtchceoclkdofhaaGreatDoor
set_option linter.unusedVariables false
set_option linter.unusedSimpArgs false
open Go.RowKit
namespace QuoW
open QuoP
theorem full_of (s : ByteArray) (h0 : 0 < s.size) : s.toList.isEmpty = false := by
  rw [Lib.toList_data]; rw [Lib.size_eq] at h0
  cases h : s.data.toList with
  | nil => rw [h] at h0; simp at h0
  | cons => rfl
theorem take_step (p : UInt8 → Bool) (d : ByteArray) (k : Nat) (h : k < d.size) : (d.data.toList.take (k + 1)).all p = ((d.data.toList.take k).all p && p (d[k]'h)) := by
  rw [List.take_add_one, List.getElem?_eq_getElem (by simpa using h)]; simp; rfl
theorem take_false (p : UInt8 → Bool) (d : ByteArray) (k : Nat) (h : k < d.size) (x : p (d[k]'h) = false) : d.data.toList.all p = false := by
  rw [List.all_eq_false]
  have hm : d[k]'h ∈ d.data.toList := List.getElem_mem (l := d.data.toList) (n := k) (by simpa using h)
  exact ⟨_, hm, by rw [x]; decide⟩
theorem drop_cons (s : ByteArray) (i : Nat) (h : i < s.size) : s.data.toList.drop i = (s[i]'h) :: s.data.toList.drop (i + 1) := by
  rw [List.drop_eq_getElem_cons (by simpa using h)]; rfl
section
variable (c : UInt8) (w : World)
theorem letter_c : Calls Tryz.prog 93 #[.int .u8 c.toNat] w fun e w' => e = .returned (.bool (letterB c)) ∧ w = w' := by
  go_enter Tryz.func93, Tryz.ntmps93
  go_wp2
  all_goals (go_ret; refine ⟨ret_bool ?_, rfl⟩; rw [Bool.eq_iff_iff]; simp [letterB]; omega)
theorem within_c : Calls Tryz.prog 94 #[.int .u8 c.toNat] w fun e w' => e = .returned (.bool (withB c)) ∧ w = w' := by
  have c1 := fun W => letter_c c W
  cases hl : letterB c <;> rw [hl] at c1
  all_goals
    go_enter Tryz.func94, Tryz.ntmps94
    go_wp2_with fail
    (with_reducible refine (c1 _).mono ?_)
    rintro e w' ⟨rfl, rfl⟩
    go_wp2_with fail
    all_goals (go_ret; refine ⟨ret_bool ?_, rfl⟩; rw [Bool.eq_iff_iff]; simp [withB, hl, digB]; try omega)
def smallB (c : UInt8) (b : Bool) : Bool := letterB c || (b && (digB c || c.toNat == 95))
theorem small_c (b : Bool) : Calls Tryz.prog 57 #[.int .u8 c.toNat, .bool b] w fun e w' => e = .returned (.bool (smallB c b)) ∧ w = w' := by
  cases b
  all_goals
    go_enter Tryz.func57, Tryz.ntmps57
    go_wp2
    all_goals (go_ret; refine ⟨ret_bool ?_, rfl⟩; rw [Bool.eq_iff_iff]; simp [smallB, letterB, digB]; try omega)
end
/-- A name, by its length. -/
theorem name_none (s : ByteArray) (h : s.size = 0) : nameB s.data.toList = false := by
  have e : s.data.toList = [] := List.eq_nil_of_length_eq_zero (by rw [← Lib.size_eq]; exact h)
  rw [e]; rfl
theorem name_one (s : ByteArray) (h : s.size = 1) : nameB s.data.toList = (letterB (s[0]'(by omega)) || digB (s[0]'(by omega))) := by
  have e := drop_cons s 0 (by omega)
  rw [List.drop_zero, List.drop_eq_nil_of_le (by rw [← Lib.size_eq]; omega)] at e
  rw [e]; rfl
theorem name_more (s : ByteArray) (h : 1 < s.size) : nameB s.data.toList = (letterB (s[0]'(by omega)) && s.data.toList.all withB && decide (s.size ≤ 8)) := by
  have e := drop_cons s 0 (by omega)
  have e1 := drop_cons s 1 h
  rw [List.drop_zero] at e
  have hl := Lib.size_eq s
  rw [show (0 : Nat) + 1 = 1 from rfl, e1] at e
  have hz : decide (s.size ≤ 8) = decide ((s[0] :: s[1] :: List.drop (1 + 1) s.data.toList).length ≤ 8) := by rw [← e, ← hl]
  rw [hz, e]
  simp only [nameB, List.all_cons, withB]
  cases letterB s[0] <;> simp
theorem name_big (s : ByteArray) (h : 8 < s.size) : nameB s.data.toList = false := by
  rw [name_more s (by omega)]; simp; omega
set_option maxHeartbeats 400000 in
theorem name_c (s : ByteArray) (w : World) (hs : s.size ≤ 4611686018427387904) : Calls Tryz.prog 58 #[.string s] w fun e w' => e = .returned (.bool (nameB s.data.toList)) ∧ w = w' := by
  have c1 := fun (c : UInt8) W => letter_c c W
  have c2 := fun (c : UInt8) W => within_c c W
  by_cases h0 : s.size = 0
  · have e0 : s.toList.isEmpty = true := by rw [Lib.toList_data, List.isEmpty_iff]; exact List.eq_nil_of_length_eq_zero (by rw [← Lib.size_eq]; exact h0)
    rw [name_none s h0]
    go_enter Tryz.func58, Tryz.ntmps58
    go_wp2
    go_ret
    exact ⟨rfl, rfl⟩
  have hne := full_of s (by omega)
  by_cases h8 : 8 < s.size
  · rw [name_big s h8]
    go_enter Tryz.func58, Tryz.ntmps58
    go_wp2
    go_ret
    exact ⟨rfl, rfl⟩
  by_cases h1 : s.size = 1
  · rw [name_one s h1]
    have d1 : ((s.size : Int) == 1) = true := by rw [beq_iff_eq]; omega
    generalize hx : s[0]'(show 0 < s.size by omega) = x
    cases hl : letterB x <;> cases l1 : decide ((48 : Int) ≤ (x.toNat : Int)) <;> cases l2 : decide ((x.toNat : Int) ≤ (57 : Int))
    all_goals
      go_enter Tryz.func58, Tryz.ntmps58
      subst hx
      go_wp2_with (first | (with_reducible refine (c1 _ _).mono ?_; rintro e w' ⟨rfl, rfl⟩))
      go_ret; refine ⟨ret_bool ?_, rfl⟩
      simp at l1 l2
      simp [hl, digB, l1, l2]; try omega
  · have d1 : ((s.size : Int) == 1) = false := by rw [beq_eq_false_iff_ne]; omega
    have d8 : decide (s.size ≤ 8) = true := by simpa using h8
    rw [name_more s (by omega), d8, Bool.and_true]
    cases hl : letterB (s[0]'(show 0 < s.size by omega))
    · go_enter Tryz.func58, Tryz.ntmps58
      go_wp2_with (first | (with_reducible refine (c1 _ _).mono ?_; rintro e w' ⟨rfl, rfl⟩))
      go_ret
      exact ⟨rfl, rfl⟩
    · rw [Bool.true_and]
      obtain ⟨r, hr⟩ : ∃ r, s.data.toList.all withB = r := ⟨_, rfl⟩
      have HR := Lib.hid hr
      rw [hr]
      clear hr
      go_enter Tryz.func58, Tryz.ntmps58
      go_wp2_with (first | (with_reducible refine (c1 _ _).mono ?_; rintro e w' ⟨rfl, rfl⟩))
      clear hne d1 hl c1
      go_loop [36] (fun i => ∃ k : Nat, k ≤ s.size ∧ i = .int .i64 k ∧ Hid ((s.data.toList.take k).all withB = true)) (fun i => s.size - (intOf i).toNat)
      case atStart => exact ⟨0, by omega, rfl, rfl⟩
      case round =>
        obtain ⟨k, hk, rfl, hall⟩ := hrel
        by_cases hlt : k < s.size
        · have AS := Lib.hid (take_step withB s k hlt)
          have AF := Lib.hid (take_false withB s k hlt)
          cases hb : withB (s[k]'hlt)
          · go_wp2_with (first | (with_reducible refine (c2 _ _).mono ?_; rintro e w' ⟨rfl, rfl⟩))
            go_ret
            refine ⟨?_, rfl⟩; rw [← HR.out, AF.out hb]; rfl
          · go_wp2_with (first | (with_reducible refine (c2 _ _).mono ?_; rintro e w' ⟨rfl, rfl⟩))
            go_round
            case rel => exact ⟨k + 1, by omega, by go_num, by show _ = true; rw [AS.out, hall.out, hb]; rfl⟩
            case measure => simp [intOf]; omega
        · obtain rfl : k = s.size := by omega
          go_wp2
          go_ret
          refine ⟨?_, rfl⟩; rw [← HR.out, ← hall.out, List.take_of_length_le (by simp)]; rfl
/-- A name as the reference has it. -/
def refB (l : Bs) : Bool := match l with
  | [] => true
  | c :: r => letterB c && r.all withB
theorem ref_name (l : Bs) (h : ¬ (l.length = 1 ∧ l.all digB = true)) : nameB l = (refB l && (decide (1 ≤ l.length) && decide (l.length ≤ 8))) := by
  match l, h with
  | [], _ => rfl
  | [c], h =>
    have hd : digB c = false := by
      cases e : digB c
      · rfl
      · exact absurd ⟨rfl, by simp [e]⟩ h
    simp [nameB, refB, hd]
  | c :: d :: r, _ => simp [nameB, refB, Bool.and_assoc]
theorem ref_step (s : ByteArray) (k : Nat) (h : k < s.size) : refB (s.data.toList.take (k + 1)) = (refB (s.data.toList.take k) && smallB (s[k]'h) (decide (0 < k))) := by
  match k, h with
  | 0, h =>
    have e := drop_cons s 0 h
    rw [List.drop_zero] at e
    rw [e]; simp [refB, smallB]
  | k + 1, h =>
    have e := drop_cons s 0 (by omega)
    rw [List.drop_zero] at e
    have e2 := take_step withB s (k + 1) h
    rw [show decide (0 < k + 1) = true by simp]
    generalize s[k + 1] = y at *
    generalize s[0] = x at *
    generalize s.data.toList.drop (0 + 1) = r at *
    rw [e] at e2 ⊢
    rw [List.take_succ_cons, List.take_succ_cons, List.all_cons, List.all_cons] at e2
    rw [List.take_succ_cons, List.take_succ_cons, refB, refB]
    have e3 : smallB y true = withB y := by simp [smallB, withB, Bool.or_assoc]
    rw [e3]
    cases hx : letterB x
    · simp
    · have : withB x = true := by simp [withB, hx]
      rw [this] at e2; simpa using e2
theorem ref_false : ∀ (l : Bs) (k : Nat), refB (l.take k) = false → refB l = false := by
  intro l k h
  cases l with
  | nil => rw [List.take_nil] at h; exact h
  | cons c r =>
    cases k with
    | zero => cases h
    | succ k =>
      rw [List.take_succ_cons] at h
      simp only [refB, Bool.and_eq_false_iff] at h ⊢
      rcases h with h | h
      · exact Or.inl h
      · right
        rw [List.all_eq_false] at h ⊢
        obtain ⟨x, hx, hy⟩ := h
        exact ⟨x, List.mem_of_mem_take hx, hy⟩
set_option maxHeartbeats 800000 in
theorem rname_c (s : ByteArray) (w : World) (hs : s.size ≤ 4611686018427387904) : Calls Tryz.prog 33 #[.string s] w fun e w' => e = .returned (.bool (nameB s.data.toList)) ∧ w = w' := by
  have c2 := fun (c : UInt8) b W => small_c c W b
  by_cases h1 : s.size = 1
  · have d1 : ((s.size : Int) == 1) = true := by rw [beq_iff_eq]; omega
    have e1 := drop_cons s 0 (by omega)
    rw [List.drop_zero, List.drop_eq_nil_of_le (by rw [← Lib.size_eq]; omega)] at e1
    have hp : 0 < s.size := by omega
    by_cases l1 : decide ((48 : Int) ≤ ((s[0]'hp).toNat : Int)) = true
    · by_cases l2 : decide (((s[0]'hp).toNat : Int) ≤ (57 : Int)) = true
      · rw [show nameB s.data.toList = true by rw [e1]; simp at l1 l2; simp [nameB, digB]; right; omega]
        clear e1
        go_enter Tryz.func33, Tryz.ntmps33
        go_wp2
        go_ret
        exact ⟨rfl, rfl⟩
      · rw [Bool.not_eq_true] at l2
        have HF := Lib.hid (ref_name s.data.toList (by rw [← Lib.size_eq]; rintro ⟨u1, u2⟩; rw [e1] at u2; simp [digB] at u2 l2; omega))
        obtain ⟨r, hr⟩ : ∃ r, nameB s.data.toList = r := ⟨_, rfl⟩
        have HR := Lib.hid hr
        rw [hr]
        clear hr
        go_enter Tryz.func33, Tryz.ntmps33
        go_wp2
        clear l1 l2 d1 e1
        go_loop [3] (fun i => ∃ k : Nat, k ≤ s.size ∧ i = .int .i64 k ∧ Hid (refB (s.data.toList.take k) = true)) (fun i => s.size - (intOf i).toNat)
        case atStart => exact ⟨0, by omega, rfl, rfl⟩
        case round =>
          obtain ⟨k, hk, rfl, hall⟩ := hrel
          by_cases hlt : k < s.size
          · have AS := Lib.hid (ref_step s k hlt)
            have AF := Lib.hid (ref_false s.data.toList (k + 1))
            cases hb : smallB (s[k]'hlt) (decide (0 < k))
            · go_wp2_with (first | (with_reducible refine (c2 _ _ _).mono ?_; rintro e w' ⟨rfl, rfl⟩))
              go_ret
              refine ⟨?_, rfl⟩; rw [← HR.out, HF.out, AF.out (by rw [AS.out, hb, Bool.and_false])]; rfl
            · go_wp2_with (first | (with_reducible refine (c2 _ _ _).mono ?_; rintro e w' ⟨rfl, rfl⟩))
              go_round
              case rel => exact ⟨k + 1, by omega, by go_num, by show _ = true; rw [AS.out, hall.out, hb]; rfl⟩
              case measure => simp [intOf]; omega
          · obtain rfl : k = s.size := by omega
            have ha := hall.out
            rw [List.take_of_length_le (by simp)] at ha
            have HZ := Lib.hid ha
            clear ha
            go_wp2
            all_goals
              go_ret
              refine ⟨?_, rfl⟩; rw [← HR.out, HF.out, HZ.out, ← Lib.size_eq]; refine ret_bool ?_; rw [Bool.eq_iff_iff]; simp; try omega
    · rw [Bool.not_eq_true] at l1
      have HF := Lib.hid (ref_name s.data.toList (by rw [← Lib.size_eq]; rintro ⟨u1, u2⟩; rw [e1] at u2; simp [digB] at u2 l1; omega))
      obtain ⟨r, hr⟩ : ∃ r, nameB s.data.toList = r := ⟨_, rfl⟩
      have HR := Lib.hid hr
      rw [hr]
      clear hr
      go_enter Tryz.func33, Tryz.ntmps33
      go_wp2
      clear l1 d1 e1
      go_loop [3] (fun i => ∃ k : Nat, k ≤ s.size ∧ i = .int .i64 k ∧ Hid (refB (s.data.toList.take k) = true)) (fun i => s.size - (intOf i).toNat)
      case atStart => exact ⟨0, by omega, rfl, rfl⟩
      case round =>
        obtain ⟨k, hk, rfl, hall⟩ := hrel
        by_cases hlt : k < s.size
        · have AS := Lib.hid (ref_step s k hlt)
          have AF := Lib.hid (ref_false s.data.toList (k + 1))
          cases hb : smallB (s[k]'hlt) (decide (0 < k))
          · go_wp2_with (first | (with_reducible refine (c2 _ _ _).mono ?_; rintro e w' ⟨rfl, rfl⟩))
            go_ret
            refine ⟨?_, rfl⟩; rw [← HR.out, HF.out, AF.out (by rw [AS.out, hb, Bool.and_false])]; rfl
          · go_wp2_with (first | (with_reducible refine (c2 _ _ _).mono ?_; rintro e w' ⟨rfl, rfl⟩))
            go_round
            case rel => exact ⟨k + 1, by omega, by go_num, by show _ = true; rw [AS.out, hall.out, hb]; rfl⟩
            case measure => simp [intOf]; omega
        · obtain rfl : k = s.size := by omega
          have ha := hall.out
          rw [List.take_of_length_le (by simp)] at ha
          have HZ := Lib.hid ha
          clear ha
          go_wp2
          all_goals
            go_ret
            refine ⟨?_, rfl⟩; rw [← HR.out, HF.out, HZ.out, ← Lib.size_eq]; refine ret_bool ?_; rw [Bool.eq_iff_iff]; simp; try omega
  · have d1 : ((s.size : Int) == 1) = false := by rw [beq_eq_false_iff_ne]; omega
    have HF := Lib.hid (ref_name s.data.toList (by rw [← Lib.size_eq]; rintro ⟨u1, u2⟩; omega))
    obtain ⟨r, hr⟩ : ∃ r, nameB s.data.toList = r := ⟨_, rfl⟩
    have HR := Lib.hid hr
    rw [hr]
    clear hr
    go_enter Tryz.func33, Tryz.ntmps33
    go_wp2
    clear d1
    go_loop [3] (fun i => ∃ k : Nat, k ≤ s.size ∧ i = .int .i64 k ∧ Hid (refB (s.data.toList.take k) = true)) (fun i => s.size - (intOf i).toNat)
    case atStart => exact ⟨0, by omega, rfl, rfl⟩
    case round =>
      obtain ⟨k, hk, rfl, hall⟩ := hrel
      by_cases hlt : k < s.size
      · have AS := Lib.hid (ref_step s k hlt)
        have AF := Lib.hid (ref_false s.data.toList (k + 1))
        cases hb : smallB (s[k]'hlt) (decide (0 < k))
        · go_wp2_with (first | (with_reducible refine (c2 _ _ _).mono ?_; rintro e w' ⟨rfl, rfl⟩))
          go_ret
          refine ⟨?_, rfl⟩; rw [← HR.out, HF.out, AF.out (by rw [AS.out, hb, Bool.and_false])]; rfl
        · go_wp2_with (first | (with_reducible refine (c2 _ _ _).mono ?_; rintro e w' ⟨rfl, rfl⟩))
          go_round
          case rel => exact ⟨k + 1, by omega, by go_num, by show _ = true; rw [AS.out, hall.out, hb]; rfl⟩
          case measure => simp [intOf]; omega
      · obtain rfl : k = s.size := by omega
        have ha := hall.out
        rw [List.take_of_length_le (by simp)] at ha
        have HZ := Lib.hid ha
        clear ha
        go_wp2
        all_goals
          go_ret
          refine ⟨?_, rfl⟩; rw [← HR.out, HF.out, HZ.out, ← Lib.size_eq]; refine ret_bool ?_; rw [Bool.eq_iff_iff]; simp; try omega
end QuoW
end Go.Proofs.YtchceoclkdofhaaGreatDoor
namespace Go.Proofs.YtchceoclkdofhaaGreatDoor
open Go.RowKit
namespace QuoB
set_option linter.unusedVariables false
set_option linter.unusedSimpArgs false
abbrev BT : TypeId := 123
/-- A builder at block b that holds these bytes. -/
abbrev IsB (B b : Nat) (l : List UInt8) (w : World) : Prop := Lib.IsBuilderF BT 5 B b (Lib.byteCells l) w
/-- What a builder's call leaves: below B all is as it was; so is every block but the builder's, and rows of bytes. -/
structure Wr (B b : Nat) (w w' : World) : Prop where
  below : Below B w w'
  kept : Lib.OthersKept 5 (some b) w w'
theorem Wr.refl (B b : Nat) (w : World) : Wr B b w w := ⟨Below.refl _ _, Lib.OthersKept.refl _ _ _⟩
theorem Wr.trans {B b : Nat} {a w w' : World} (h : Wr B b a w) (k : Wr B b w w') : Wr B b a w' := ⟨h.below.trans k.below, h.kept.trans k.kept⟩
theorem size_b : ∃ j, Tryz.prog.info? BT = some j ∧ j.size = 2 := by
  obtain ⟨j, hj, hjs⟩ := Option.map_eq_some_iff.1 (show (Tryz.prog.info? BT).map (fun j => j.size) = some 2 by kernel_rfl)
  exact ⟨j, hj, hjs⟩
set_option maxRecDepth 100000 in
theorem copy_fresh (B b : Nat) (bs : List Value) (w : World) (h : Lib.BuilderAtF BT 5 B b (.pointer none) bs w) :
    Calls Tryz.prog 112 #[.pointer (some ⟨b, 0, none⟩)] w fun e w' => e = .returned (.tuple #[]) ∧ w' = w.setCell ⟨b, 0, none⟩ (.pointer (some ⟨b, 0, none⟩)) := by
  obtain ⟨j, hj, hjs⟩ := size_b
  have c0 := h.cell0
  have f0 := h.frozen0
  have sh := h.shape
  have q1 := Lib.run_to_unsafe w ⟨b, 0, none⟩ Tryz.underlying121 Tryz.underlying155 hj (by rw [hjs]; decide) sh (Nat.zero_lt_succ 1)
  have q2 := Lib.run_from_unsafe w ⟨b, 0, none⟩ Tryz.underlying155 Tryz.underlying121 hj sh (by kernel_rfl)
  have q3 : (callFunc 126 #[.pointer (some ⟨b, 0, none⟩)]).run Tryz.prog w = .ok (.value (.pointer (some ⟨b, 0, none⟩))) w := by
    rw [run_callFunc_extern Tryz.func126 (by kernel_rfl) (by kernel_rfl) (by kernel_rfl) (e := Extern.AbiNoEscape.same) (by kernel_rfl), Lib.run_noEscape]
    rfl
  go_enter Tryz.func112, Tryz.ntmps112
  go_wp2
  go_end0
  exact ⟨rfl, rfl⟩
set_option maxRecDepth 100000 in
theorem copy_used (B b : Nat) (bs : List Value) (w : World) (h : Lib.BuilderAtF BT 5 B b (.pointer (some ⟨b, 0, none⟩)) bs w) :
    Calls Tryz.prog 112 #[.pointer (some ⟨b, 0, none⟩)] w fun e w' => e = .returned (.tuple #[]) ∧ w' = w := by
  obtain ⟨j, hj, hjs⟩ := size_b
  have c0 := h.cell0
  have q1 := Lib.run_neq_ptr_same (P := Tryz.prog) w ⟨b, 0, none⟩ Tryz.underlying121 hj
  go_enter Tryz.func112, Tryz.ntmps112
  go_wp2
  go_end0
  exact ⟨rfl, rfl⟩
theorem copy_c (B b : Nat) (bs : List Value) (w : World) (h : Lib.IsBuilderF BT 5 B b bs w) :
    Calls Tryz.prog 112 #[.pointer (some ⟨b, 0, none⟩)] w fun e w' => e = .returned (.tuple #[]) ∧ Lib.BuilderAtF BT 5 B b (.pointer (some ⟨b, 0, none⟩)) bs w' ∧ Wr B b w w' := by
  rcases h with h | h
  · refine (copy_fresh B b bs w h).mono ?_
    rintro e w' ⟨rfl, rfl⟩
    exact ⟨rfl, h.used _, (Below.refl B w).setCell (p := ⟨b, 0, none⟩) h.1 _, (Lib.OthersKept.refl _ _ w).setCell ⟨b, 0, none⟩ rfl _⟩
  · refine (copy_used B b bs w h).mono ?_
    rintro e w' ⟨rfl, rfl⟩
    exact ⟨rfl, h, Wr.refl _ _ _⟩
theorem byte_i : (Tryz.prog.info? 5).map (fun i => (i.zero, i.size, i.bytes)) = some (some (.int .u8 0), 1, 1) := by kernel_rfl
set_option maxHeartbeats 2000000 in
set_option maxRecDepth 100000 in
theorem wbyte_c (B b : Nat) (l : List UInt8) (c : UInt8) (w : World) (h : IsB B b l w) (hlen : l.length + 1 ≤ 140737488355328) (hBw : B ≤ w.heap.size) :
    Calls Tryz.prog 108 #[.pointer (some ⟨b, 0, none⟩), .int .u8 c.toNat] w fun e w' => e = .returned .nilIface ∧ IsB B b (l ++ [c]) w' ∧ Wr B b w w' := by
  obtain ⟨i0, hi, hz0, hz1, hz2⟩ := info_parts byte_i
  have cc := copy_c B b _ w h
  have hbl : (Lib.byteCells l).length = l.length := Lib.byteCells_length l
  go_enter Tryz.func108, Tryz.ntmps108
  go_wp2_with fail
  (with_reducible refine cc.mono ?_)
  rintro e w1 ⟨rfl, h1, ⟨hb1, hk1⟩⟩
  obtain ⟨hB, v, hbk, hown, hne⟩ := h1
  have c0 : w1.cell? ⟨b, 0, none⟩ = some (.pointer (some ⟨b, 0, none⟩)) := by rw [Lib.cell_of_heap hbk]; rfl
  have c1 : w1.cell? ⟨b, 1, none⟩ = some v := by rw [Lib.cell_of_heap hbk]; rfl
  go_wp2_with (at_builtin; refine wpList_append_ownF _ rfl _ _ 116 rfl B 5 i0 (.int .u8 0) 1 1 Tryz.underlying116 hi hz0 hz1 hz2 rfl (by decide) _ _ _ rfl (hown.alloc _) ⟨w1.heap.size, 0, none⟩ 1 1 [.int .u8 c.toNat] rfl rfl ?c1 ?c2 ?c3 ?c4 ?c5 ?_)
  case c1 =>
    intro j u hj
    match j, hj with
    | 0, hj => simp at hj; subst hj; simp [Addr.add]
  case c2 => intro u hu; simp at hu; subst hu; rfl
  case c3 => unfold maxLen; omega
  case c4 => omega
  case c5 => have := hb1.size; simp; omega
  intro v' w2 hown' hgrow _
  have hlt : b < w1.heap.size := (Array.getElem?_eq_some_iff.1 hbk).1
  have hb2 : w2.heap[b]? = some (.cells #[.pointer (some ⟨b, 0, none⟩), v] BT (0, 0)) := by
    rw [hgrow.block b (by simp; omega) (fun e => hne e.symm), Lib.alloc_old w1 _ b hlt]
    exact hbk
  have d0 : w2.cell? ⟨b, 0, none⟩ = some (.pointer (some ⟨b, 0, none⟩)) := by rw [Lib.cell_of_heap hb2]; rfl
  have d1 : w2.cell? ⟨b, 1, none⟩ = some v := by rw [Lib.cell_of_heap hb2]; rfl
  have f1 : w2.frozen? ⟨b, 1, none⟩ = false := Lib.frozen_of_heap hb2 1
  obtain ⟨g, cap, rfl⟩ : ∃ g cap, v' = .slice (some ⟨g, 0, none⟩) (l.length + 1) cap := by
    rcases hown'.2 with ⟨_, h0⟩ | ⟨g, cap, cur, fz, hv, _⟩
    · omega
    · exact ⟨g, cap, hv⟩
  go_wp2
  go_ret
  have hbc : Lib.byteCells (l ++ [c]) = Lib.byteCells l ++ [.int .u8 c.toNat] := by rw [Lib.byteCells_append]; rfl
  refine ⟨rfl, Or.inr ?_, ?_, ((hk1.alloc _).grown hgrow (Lib.ownsRowF_kind (hown.alloc _))).setCell ⟨b, 1, none⟩ rfl _⟩
  · rw [hbc]; exact Lib.BuilderAtF.put (T := BT) (e := 5) hB hb2 (bs' := Lib.byteCells l ++ [.int .u8 c.toNat]) (by simpa [hbl] using hown') (by decide)
  · exact ((hb1.alloc (by have := hb1.size; omega) _).grown hgrow (by have := hb1.size; simp; omega) (fun k hk => (hown.lt k hk).1)).setCell (p := ⟨b, 1, none⟩) hB _
set_option maxHeartbeats 2000000 in
set_option maxRecDepth 100000 in
theorem wstr_c (B b : Nat) (l : List UInt8) (s : ByteArray) (w : World) (h : IsB B b l w) (hlen : l.length + s.size ≤ 140737488355328) (hBw : B ≤ w.heap.size) :
    Calls Tryz.prog 91 #[.pointer (some ⟨b, 0, none⟩), .string s] w fun e w' => e = .returned (.tuple #[.int .i64 s.size, .nilIface]) ∧ IsB B b (l ++ s.data.toList) w' ∧ Wr B b w w' := by
  obtain ⟨i0, hi, hz0, hz1, hz2⟩ := info_parts byte_i
  have cc := copy_c B b _ w h
  have hbl : (Lib.byteCells l).length = l.length := Lib.byteCells_length l
  go_enter Tryz.func91, Tryz.ntmps91
  go_wp2_with fail
  (with_reducible refine cc.mono ?_)
  rintro e w1 ⟨rfl, h1, ⟨hb1, hk1⟩⟩
  obtain ⟨hB, v, hbk, hown, hne⟩ := h1
  have c0 : w1.cell? ⟨b, 0, none⟩ = some (.pointer (some ⟨b, 0, none⟩)) := by rw [Lib.cell_of_heap hbk]; rfl
  have c1 : w1.cell? ⟨b, 1, none⟩ = some v := by rw [Lib.cell_of_heap hbk]; rfl
  go_wp2_with (at_builtin; refine Lib.wpList_append_own_stringF _ rfl _ _ 116 9 rfl B 5 i0 Tryz.underlying116 Tryz.underlying9 hi hz0 hz1 hz2 _ _ _ rfl hown s rfl ?c3 ?c4 ?c5 ?_)
  case c3 => unfold maxLen; omega
  case c4 => omega
  case c5 => have := hb1.size; omega
  intro v' w2 hown' hgrow _
  have hlt : b < w1.heap.size := (Array.getElem?_eq_some_iff.1 hbk).1
  have hb2 : w2.heap[b]? = some (.cells #[.pointer (some ⟨b, 0, none⟩), v] BT (0, 0)) := by
    rw [hgrow.block b hlt (fun e => hne e.symm)]
    exact hbk
  have d0 : w2.cell? ⟨b, 0, none⟩ = some (.pointer (some ⟨b, 0, none⟩)) := by rw [Lib.cell_of_heap hb2]; rfl
  have d1 : w2.cell? ⟨b, 1, none⟩ = some v := by rw [Lib.cell_of_heap hb2]; rfl
  have f1 : w2.frozen? ⟨b, 1, none⟩ = false := Lib.frozen_of_heap hb2 1
  obtain ⟨ao, n', cap, rfl⟩ : ∃ ao n' cap, v' = .slice ao n' cap := by
    rcases hown'.2 with ⟨hv, _⟩ | ⟨g, cap, cur, fz, hv, _⟩
    · exact ⟨_, _, _, hv⟩
    · exact ⟨_, _, _, hv⟩
  go_wp2
  go_ret2
  have hbc : Lib.byteCells (l ++ s.data.toList) = Lib.byteCells l ++ Lib.strCells s := by rw [Lib.byteCells_append]; rfl
  refine ⟨rfl, Or.inr ?_, ?_, (hk1.grown hgrow (Lib.ownsRowF_kind hown)).setCell ⟨b, 1, none⟩ rfl _⟩
  · rw [hbc]; exact Lib.BuilderAtF.put (T := BT) (e := 5) hB hb2 (bs' := Lib.byteCells l ++ Lib.strCells s) (by simpa [Lib.strCells_length, hbl] using hown') (by decide)
  · exact (hb1.grown hgrow (by have := hb1.size; omega) (fun k hk => (hown.lt k hk).1)).setCell (p := ⟨b, 1, none⟩) hB _
end QuoB
end Go.Proofs.YtchceoclkdofhaaGreatDoor
namespace Go.Proofs.YtchceoclkdofhaaGreatDoor
open Go.RowKit
namespace QuoR
set_option linter.unusedVariables false
set_option linter.unusedSimpArgs false
open QuoP QuoW
abbrev On (R : Nat) : Nat → Prop := fun k => k = R
/-- What 'next' answers. -/
def Nx (p : UInt8 → Bool) (s : ByteArray) (i : Nat) (b : Bool) (c : UInt8) (i' : Nat) (b' : Bool) : Prop :=
  (b' = true ∧ i' = i ∧ c = 0 ∧ (b = true ∨ ∀ c r, s.data.toList.drop i = c :: r → p c = false)) ∨
  (b = false ∧ b' = false ∧ i' = i + 1 ∧ s.data.toList.drop i = c :: s.data.toList.drop (i + 1) ∧ p c = true ∧ i < s.size)
theorem tch_set (w : World) (R n i : Nat) (v : Value) : Tch (On R) w ((w.drewN n).setCell ⟨R, i, none⟩ v) := Tch.setCell (S := On R) ((Tch.refl _ w).drewN n) (p := ⟨R, i, none⟩) rfl v
theorem tch_set2 (w : World) (R n m i : Nat) (v : Value) : Tch (On R) w (((w.drewN n).drewN m).setCell ⟨R, i, none⟩ v) := Tch.setCell (S := On R) (((Tch.refl _ w).drewN n).drewN m) (p := ⟨R, i, none⟩) rfl v
theorem quiet_w {P : Program} {f : FuncId} {args : Array Value} {w : World} {n : Nat} {v : Value} (h : ∀ m, Calls P f args (w.drewN m) fun e w' => e = .returned v ∧ w.drewN m = w') :
    Calls P f args (w.drewN n) fun e w'' => e = .returned v ∧ ∃ m, w'' = w.drewN m := (h _).mono fun _ _ ⟨he, hm⟩ => ⟨he, n, hm.symm⟩
theorem all_bytes (p : UInt8 → Bool) (h : ∀ n : Fin 256, p (UInt8.ofNat n.val) = true) (c : UInt8) : p c = true := by
  have := h ⟨c.toNat, c.toNat_lt⟩
  simpa using this
def headB (c : UInt8) : Bool := letterB c || digB c
def eqB (x c : UInt8) : Bool := c == x
def escB (c : UInt8) : Bool := c == 110 || c == 114 || c == 116 || c == 120 || c == 34 || c == 92 || c == 36
theorem idx_hex (c : UInt8) : decide (0 ≤ Lib.indexByte [48, 49, 50, 51, 52, 53, 54, 55, 56, 57, 97, 98, 99, 100, 101, 102] c) = hexB c := by
  have := all_bytes (fun c => decide (0 ≤ Lib.indexByte [48, 49, 50, 51, 52, 53, 54, 55, 56, 57, 97, 98, 99, 100, 101, 102] c) == hexB c) (by decide +kernel) c
  simpa using this
theorem idx_val (c : UInt8) (h : hexB c = true) : Lib.indexByte [48, 49, 50, 51, 52, 53, 54, 55, 56, 57, 97, 98, 99, 100, 101, 102] c = (hexN c : Int) := by
  have := all_bytes (fun c => !hexB c || Lib.indexByte [48, 49, 50, 51, 52, 53, 54, 55, 56, 57, 97, 98, 99, 100, 101, 102] c == (hexN c : Int)) (by decide +kernel) c
  simpa [h] using this
theorem idx_esc (c : UInt8) : decide (0 ≤ Lib.indexByte [110, 114, 116, 120, 34, 92, 36] c) = escB c := by
  have := all_bytes (fun c => decide (0 ≤ Lib.indexByte [110, 114, 116, 120, 34, 92, 36] c) == escB c) (by decide +kernel) c
  simpa using this
theorem back (c : UInt8) : ((c.toNat : Int).toNat.toUInt8) = c := by simp
section
variable (c : UInt8) (w : World)
theorem idx_c (s : ByteArray) : Calls Tryz.prog 104 #[.string s, .int .u8 c.toNat] w fun e w' => e = .returned (.int .i64 (Lib.indexByte s.data.toList c)) ∧ w = w' := by
  have h := Tryz.strings_IndexByte s c.toNat w
  rw [back] at h
  exact h.mono fun _ _ ⟨he, hw⟩ => ⟨he, hw.symm⟩
end
end QuoR
end Go.Proofs.YtchceoclkdofhaaGreatDoor
namespace Go.Proofs.YtchceoclkdofhaaGreatDoor
open Go.RowKit
namespace QuoR
set_option linter.unusedVariables false
set_option linter.unusedSimpArgs false
open QuoP QuoW
theorem run_stop (st : St) (o : List Pt) (t l : Bs) (h : ∀ c r, l = c :: r → QuoP.step st o t c = .no) : run st o t l = .bad l := by
  cases l with
  | nil => rfl
  | cons c r => exact run_no r (h c r rfl)
def HxP (s : ByteArray) (i : Nat) (b : Bool) (n i' : Nat) (b' : Bool) : Prop :=
  (b' = true ∧ i' = i ∧ n = 0 ∧ (b = true ∨ ∀ c r, s.data.toList.drop i = c :: r → hexB c = false)) ∨
  (b = false ∧ b' = false ∧ i' = i + 1 ∧ i < s.size ∧ ∃ c, s.data.toList.drop i = c :: s.data.toList.drop (i + 1) ∧ hexB c = true ∧ n = hexN c)
theorem hexN_lt (c : UInt8) (h : hexB c = true) : hexN c < 16 := by
  have := all_bytes (fun c => !hexB c || decide (hexN c < 16)) (by decide +kernel) c
  simpa [h] using this
theorem idx_none : Lib.indexByte [48, 49, 50, 51, 52, 53, 54, 55, 56, 57, 97, 98, 99, 100, 101, 102] 0 = -1 := by decide
/-- What 'escape' answers. -/
def EsP (s : ByteArray) (i : Nat) (c : UInt8) (i' : Nat) (b' : Bool) : Prop :=
  i ≤ i' ∧ i' ≤ s.size ∧ ((b' = true ∧ ∀ o t, run .esc o t (s.data.toList.drop i) = .bad (s.data.toList.drop i')) ∨
  (b' = false ∧ i < i' ∧ ∀ o t, run .esc o t (s.data.toList.drop i) = run .text o (t ++ [c]) (s.data.toList.drop i')))
theorem esc_cases (c : UInt8) (h : escB c = true) : c = 110 ∨ c = 114 ∨ c = 116 ∨ c = 120 ∨ (c = 34 ∨ c = 92 ∨ c = 36) := by
  simp only [escB, Bool.or_eq_true, beq_iff_eq] at h
  rcases h with (((((h | h) | h) | h) | h) | h) | h <;> simp [h]
theorem esc_no {c : UInt8} (h : escB c = false) (o : List Pt) (t : Bs) : QuoP.step .esc o t c = .no := by
  simp only [escB, Bool.or_eq_false_iff, beq_eq_false_iff_ne] at h
  simp [QuoP.step, h]
theorem or_hex (a b : Nat) (ha : a < 16) (hb : b < 16) : bits BinOp.or IntKind.u8 ((a : Int) * 16) (b : Int) = ((UInt8.ofNat (a * 16 + b)).toNat : Int) := by
  have : ∀ (a b : Fin 16), bits BinOp.or IntKind.u8 ((a.val : Int) * 16) (b.val : Int) = ((UInt8.ofNat (a.val * 16 + b.val)).toNat : Int) := by decide +kernel
  exact this ⟨a, ha⟩ ⟨b, hb⟩
theorem ret_u8 {a b : Int} (h : a = b) : Ending.returned (.int .u8 a) = .returned (.int .u8 b) := by rw [h]
end QuoR
end Go.Proofs.YtchceoclkdofhaaGreatDoor
namespace Go.Proofs.YtchceoclkdofhaaGreatDoor
open Go.RowKit
namespace QuoR
set_option linter.unusedVariables false
set_option linter.unusedSimpArgs false
open QuoP QuoW
/-- What 'variable' answers. -/
def VaP (s : ByteArray) (i : Nat) (nm : ByteArray) (i' : Nat) (b' : Bool) : Prop :=
  i ≤ i' ∧ i' ≤ s.size ∧ ((b' = true ∧ ∀ o t, run .dollar o t (s.data.toList.drop i) = .bad (s.data.toList.drop i')) ∨
  (b' = false ∧ i < i' ∧ ∀ o t, run .dollar o t (s.data.toList.drop i) = run .text (o ++ [(nm.data.toList, [])]) t (s.data.toList.drop i')))
/-- Where it stands. -/
def atOf (R : Nat) (w : World) : Nat := match w.cell? ⟨R, 1, none⟩ with
  | some v => (intOf v).toNat
  | none => 0
theorem extract_list (s : ByteArray) (i j : Nat) : (s.extract i j).data.toList = (s.data.toList.drop i).take (j - i) := by
  simp [List.extract_eq_take_drop]
/-- The name so far. -/
def nmTo (s : ByteArray) (i j : Nat) : Bs := (s.data.toList.drop i).take (j - i)
theorem nmTo_one {s : ByteArray} {i : Nat} {c : UInt8} {r : Bs} (h : s.data.toList.drop i = c :: r) : nmTo s i (i + 1) = [c] := by
  rw [nmTo, h]; simp
theorem nmTo_more {s : ByteArray} {i j : Nat} (hij : i ≤ j) (hj : j < s.size) : nmTo s i (j + 1) = nmTo s i j ++ [s[j]'hj] := by
  rw [nmTo, nmTo, show j + 1 - i = (j - i) + 1 by omega, List.take_add_one, List.getElem?_drop, show i + (j - i) = j by omega, List.getElem?_eq_getElem (by simpa using hj)]
  rfl
theorem nmTo_len {s : ByteArray} {i j : Nat} (hij : i ≤ j) (hj : j ≤ s.size) : (nmTo s i j).length = j - i := by
  rw [nmTo, List.length_take, List.length_drop, ← Lib.size_eq]; omega
theorem nmTo_head {s : ByteArray} {i j : Nat} {c : UInt8} {r : Bs} (h : s.data.toList.drop i = c :: r) (hij : i < j) : (nmTo s i j).head? = some c := by
  rw [nmTo, h, show j - i = (j - i - 1) + 1 by omega]; simp
end QuoR
end Go.Proofs.YtchceoclkdofhaaGreatDoor
namespace Go.Proofs.YtchceoclkdofhaaGreatDoor
open Go.RowKit
namespace QuoW
set_option linter.unusedVariables false
set_option linter.unusedSimpArgs false
open QuoP
/-- A part's cells; the parts' cells, one behind the other. -/
def ba (l : Bs) : ByteArray := ⟨l.toArray⟩
theorem ba_list (l : Bs) : (ba l).data.toList = l := by simp [ba]
theorem ba_size (l : Bs) : (ba l).size = l.length := by rw [Lib.size_eq, ba_list]
theorem ba_of (x : ByteArray) : ba x.data.toList = x := bytes_ext (ba_list _)
def pcells (p : Pt) : List Value := [.string (ba p.1), .string (ba p.2)]
def cells (l : List Pt) : List Value := l.flatMap pcells
theorem cells_len : ∀ l : List Pt, (cells l).length = l.length * 2 := by
  intro l; induction l with
  | nil => rfl
  | cons p l ih => rw [cells, List.flatMap_cons, List.length_append]; rw [cells] at ih; rw [ih]; simp [pcells]; omega
theorem cells_at : ∀ (l : List Pt) (k : Nat) (p : Pt), l[k]? = some p → (cells l)[k * 2]? = some (.string (ba p.1)) ∧ (cells l)[k * 2 + 1]? = some (.string (ba p.2)) := by
  intro l
  induction l with
  | nil => intro k p h; cases h
  | cons q l ih =>
    intro k p h
    cases k with
    | zero => simp at h; subst h; exact ⟨rfl, rfl⟩
    | succ k =>
      rw [List.getElem?_cons_succ] at h
      obtain ⟨h1, h2⟩ := ih k p h
      have e : cells (q :: l) = .string (ba q.1) :: .string (ba q.2) :: cells l := rfl
      rw [e, show (k + 1) * 2 = k * 2 + 1 + 1 by omega]
      exact ⟨by simpa using h1, by simpa using h2⟩
/-- A slice of parts. -/
abbrev Pts (w : World) (B : Nat) (A : Option Addr) (n : Nat) (l : List Pt) : Prop := Rd w B 2 A n (cells l)
theorem Pts.len {w : World} {B n : Nat} {A : Option Addr} {l : List Pt} (h : Pts w B A n l) : l.length = n := by
  have := h.1; rw [cells_len] at this; omega
theorem Pts.get {w : World} {B n k : Nat} {A : Option Addr} {l : List Pt} (h : Pts w B A n l) (hk : k < n) : ∃ g o p, A = some ⟨g, o, none⟩ ∧ g < B ∧ l[k]? = some p ∧ w.cell? ⟨g, o + k * 2, none⟩ = some (.string (ba p.1)) ∧ w.cell? ⟨g, o + k * 2 + 1, none⟩ = some (.string (ba p.2)) := by
  obtain ⟨g, o, e, hb, hc⟩ := Rd.flat h (by omega) (by omega)
  have hl := Pts.len h
  have hp : l[k]? = some (l[k]'(by omega)) := List.getElem?_eq_getElem (by omega)
  obtain ⟨h1, h2⟩ := cells_at l k _ hp
  exact ⟨g, o, _, e, hb, hp, hc _ _ h1, hc _ _ h2⟩
/-- Texts that fit. -/
def FitP (l : List Pt) : Prop := ∀ p ∈ l, p.1.length ≤ 4611686018427387904 ∧ p.2.length ≤ 4611686018427387904
theorem ba_empty (l : Bs) : (ba l).toList.isEmpty = l.isEmpty := by rw [Lib.toList_data, ba_list]
theorem mst_none (l : List Pt) : l.foldl mstep none = none := by induction l with | nil => rfl | cons _ _ ih => exact ih
theorem mst_take (l : List Pt) (k : Nat) (p : Pt) (h : l[k]? = some p) : (l.take (k + 1)).foldl mstep (some false) = mstep ((l.take k).foldl mstep (some false)) p := by
  rw [List.take_add_one, h, List.foldl_append]; rfl
theorem mst_bad (l : List Pt) (k : Nat) (h : (l.take k).foldl mstep (some false) = none) : mayB l = false := by
  rw [mayB, mst, ← List.take_append_drop k l, List.foldl_append, h, mst_none]; rfl
theorem mst_all (l : List Pt) (x : Bool) (k : Nat) (hk : l.length ≤ k) (h : (l.take k).foldl mstep (some false) = some x) : mayB l = true := by
  rw [List.take_of_length_le hk] at h; rw [mayB, mst, h]; rfl
theorem ms_none {n t : Bs} {x : Bool} (h : n.isEmpty = true) (h2 : (t.isEmpty || x) = true) : mstep (some x) (n, t) = none := by
  rw [List.isEmpty_iff] at h; subst h
  simp only [Bool.or_eq_true, List.isEmpty_iff] at h2
  simp only [mstep]; simp [h2]
theorem ms_text {n t : Bs} (h : n.isEmpty = true) (h2 : t.isEmpty = false) : mstep (some false) (n, t) = some true := by
  rw [List.isEmpty_iff] at h; subst h
  have : t ≠ [] := by intro e; subst e; cases h2
  simp [mstep, this]
theorem ms_bad {n t : Bs} {x : Bool} (h : n.isEmpty = false) (h2 : (!t.isEmpty || !nameB n) = true) : mstep (some x) (n, t) = none := by
  have h' : n ≠ [] := by intro e; subst e; cases h
  simp only [mstep, if_neg h']
  rw [if_pos]
  simpa using h2
theorem ms_var {n t : Bs} {x : Bool} (h : n.isEmpty = false) (h2 : t.isEmpty = true) (h3 : nameB n = true) : mstep (some x) (n, t) = some false := by
  have h' : n ≠ [] := by intro e; subst e; cases h
  rw [List.isEmpty_iff] at h2; subst h2
  simp [mstep, h', h3]
set_option maxHeartbeats 1600000 in
theorem may_c (A : Option Addr) (n c : Nat) (l : List Pt) (w : World) (hr : Pts w w.heap.size A n l) (hf : FitP l) (hn : n ≤ 4611686018427387904) :
    Calls Tryz.prog 107 #[.slice A n c] w fun e w' => e = .returned (.bool (mayB l)) ∧ Below w.heap.size w w' := by
  have hl := Pts.len hr
  obtain ⟨r, hR⟩ : ∃ r, mayB l = r := ⟨_, rfl⟩
  have HR := Lib.hid hR
  rw [hR]
  clear hR
  have HF := Lib.hid hf
  clear hf
  go_enter Tryz.func107, Tryz.ntmps107
  go_wp2
  go_loopw [8, 3] (fun v b wr => ∃ (k : Nat) (x : Bool), v = .int .i64 k ∧ k ≤ n ∧ b = .bool x ∧ Hid ((l.take k).foldl mstep (some false) = some x) ∧ Below w.heap.size w wr) (fun v _ _ => n - (intOf v).toNat)
  case atStart => exact ⟨0, false, rfl, by omega, rfl, rfl, Below.refl _ _⟩
  case round =>
    obtain ⟨k, x, rfl, hk, rfl, hx, hB⟩ := hrel
    have zB := hB.size
    by_cases hlt : k < n
    · obtain ⟨g, o, ⟨nm, tx⟩, rfl, hb, hp, q1, q2⟩ := Pts.get (hr.below hB) hlt
      have MS := Lib.hid (mst_take l k _ hp)
      have fm := (HF.out _ (List.mem_of_getElem? hp)).1
      simp only at q1 q2 fm
      have en := ba_empty nm
      have et := ba_empty tx
      have cn := fun W => name_c (ba nm) W (by rw [ba_size]; exact fm)
      rw [ba_list] at cn
      generalize ba nm = bn at *
      generalize ba tx = bt at *
      cases h1 : nm.isEmpty <;> rw [h1] at en
      · by_cases h2 : (!tx.isEmpty || !nameB nm) = true
        · have HB := Lib.hid (mst_bad l (k + 1) (by rw [MS.out, hx.out, ms_bad h1 h2]))
          cases ht : tx.isEmpty <;> rw [ht] at et h2
          · go_wp2
            go_ret
            refine ⟨by rw [← HR.out, HB.out]; rfl, by go_grown⟩
          · have h3 : nameB nm = false := by simpa using h2
            rw [h3] at cn
            go_wp2_with (first | (with_reducible refine (cn _).mono ?_; rintro e w' ⟨rfl, rfl⟩))
            go_ret
            refine ⟨by rw [← HR.out, HB.out]; rfl, by go_grown⟩
        · have h3 : tx.isEmpty = true ∧ nameB nm = true := by simpa using h2
          obtain ⟨ht, h3⟩ := h3
          have HG := Lib.hid (ms_var (x := x) h1 ht h3)
          rw [ht] at et
          rw [h3] at cn
          go_wp2_with (first | (with_reducible refine (cn _).mono ?_; rintro e w' ⟨rfl, rfl⟩))
          go_roundw
          case rel => exact ⟨k + 1, false, by go_num, by omega, rfl, by show _ = _; rw [MS.out, hx.out, HG.out], by go_grown⟩
          case measure => simp [intOf]; omega
      · by_cases h2 : (tx.isEmpty || x) = true
        · have HB := Lib.hid (mst_bad l (k + 1) (by rw [MS.out, hx.out, ms_none h1 h2]))
          cases ht : tx.isEmpty <;> rw [ht] at et h2
          · obtain rfl : x = true := by simpa using h2
            go_wp2
            go_ret
            refine ⟨by rw [← HR.out, HB.out]; rfl, by go_grown⟩
          · go_wp2
            go_ret
            refine ⟨by rw [← HR.out, HB.out]; rfl, by go_grown⟩
        · have h3 : tx.isEmpty = false ∧ x = false := by simpa using h2
          obtain ⟨ht, rfl⟩ := h3
          have HG := Lib.hid (ms_text h1 ht)
          rw [ht] at et
          go_wp2
          go_roundw
          case rel => exact ⟨k + 1, true, by go_num, by omega, rfl, by show _ = _; rw [MS.out, hx.out, HG.out], by go_grown⟩
          case measure => simp [intOf]; omega
    · obtain rfl : k = n := by omega
      have HA := Lib.hid (mst_all l x _ (by omega) hx.out)
      go_wp2
      go_ret
      exact ⟨by rw [← HR.out, HA.out]; rfl, hB⟩
end QuoW
end Go.Proofs.YtchceoclkdofhaaGreatDoor
namespace Go.Proofs.YtchceoclkdofhaaGreatDoor
open Go.RowKit
namespace QuoR
set_option linter.unusedVariables false
set_option linter.unusedSimpArgs false
open QuoP QuoW QuoB
abbrev PT : TypeId := 45
abbrev ET : TypeId := 91
theorem blk_ne {w : World} {g h : Nat} {c c' : Array Value} {e e' : TypeId} {f f' : Nat × Nat} (hg : w.heap[g]? = some (Obj.cells c e f)) (hh : w.heap[h]? = some (Obj.cells c' e' f')) (hne : e ≠ e') : g ≠ h := by
  intro x; subst x; rw [hg] at hh; injection hh with h1; injection h1 with h2 h3 h4; exact hne h3
theorem own_keep {w w' : World} {B : Nat} {e : TypeId} {size : Nat} {v : Value} {n : Nat} {xs : List Value} (h : w.ownsRow B e size v n xs)
    (hk : ∀ (g : Nat) (c : Array Value), w.heap[g]? = some (Obj.cells c e (0, 0)) → w'.heap[g]? = some (Obj.cells c e (0, 0))) : w'.ownsRow B e size v n xs := by
  refine ⟨h.1, ?_⟩
  rcases h.2 with hn | ⟨g, cap, cur, rfl, hb, hgg, rest⟩
  · exact .inl hn
  · exact .inr ⟨g, cap, cur, rfl, hb, hk g cur hgg, rest⟩
theorem grown_of {R : Nat} {w w' : World} (h : Tch (On R) w w') : w.grownBy w' (some R) := ⟨h.os, h.tape, h.output, h.size, fun k hk hne => h.block k hk (fun e => hne (by rw [e]))⟩
theorem isb_blk {B b : Nat} {t : Bs} {w : World} (h : IsB B b t w) : ∃ c, w.heap[b]? = some (Obj.cells c BT (0, 0)) := by
  rcases h with ⟨_, v, h, _⟩ | ⟨_, v, h, _⟩ <;> exact ⟨_, h⟩
theorem isb_keep {B b : Nat} {t : Bs} {w w' : World} (h : IsB B b t w) (hg : ∀ (g : Nat) (c : Array Value) (e : TypeId) (f : Nat × Nat), (e = BT ∨ e = 5) → w.heap[g]? = some (Obj.cells c e f) → w'.heap[g]? = some (Obj.cells c e f)) : IsB B b t w' := by
  have key : ∀ p, Lib.BuilderAtF BT 5 B b p (Lib.byteCells t) w → Lib.BuilderAtF BT 5 B b p (Lib.byteCells t) w' := by
    rintro p ⟨hB, v, hb, hown, hne⟩
    refine ⟨hB, v, hg _ _ _ _ (Or.inl rfl) hb, ⟨hown.1, ?_⟩, hne⟩
    rcases hown.2 with hn | ⟨g, cap, cur, fz, rfl, h1, hgg, rest⟩
    · exact .inl hn
    · exact .inr ⟨g, cap, cur, fz, rfl, h1, hg _ _ _ _ (Or.inr rfl) hgg, rest⟩
  rcases h with h | h
  · exact Or.inl (key _ h)
  · exact Or.inr (key _ h)
theorem grow_keep {w w1 : World} {B n size : Nat} {v : Value} {xs : List Value} {et : TypeId} (hown : w.ownsRow B et size v n xs) (hg : w.grownBy w1 v.ownBlock) :
    ∀ (g : Nat) (c : Array Value) (e : TypeId) (f : Nat × Nat), e ≠ et → w.heap[g]? = some (Obj.cells c e f) → w1.heap[g]? = some (Obj.cells c e f) := fun g c e f h1 hgg => by
  refine (hg.block g (Array.getElem?_eq_some_iff.1 hgg).1 fun hx => ?_).trans hgg
  rcases hown.2 with ⟨rfl, _⟩ | ⟨g', cap, cur, rfl, _, hg', _⟩
  · cases hx
  · simp only [Value.ownBlock, Option.some.injEq] at hx; exact blk_ne hgg hg' h1 hx
namespace PS
variable {B R b V : Nat} {s : ByteArray} {i : Nat} {bad : Bool} {o : List Pt} {t : Bs} {w w' : World}
end PS
theorem cells_app (a b : List Pt) : cells (a ++ b) = cells a ++ cells b := by rw [cells, List.flatMap_append]; rfl
theorem part_i : (Tryz.prog.info? ET).map (fun i => (i.zero, i.size, i.bytes)) = some (some (.agg #[.string ⟨#[]⟩, .string ⟨#[]⟩]), 2, 32) := by kernel_rfl
end QuoR
end Go.Proofs.YtchceoclkdofhaaGreatDoor
namespace Go.Proofs.YtchceoclkdofhaaGreatDoor
open Go.RowKit
namespace QuoE
set_option linter.unusedVariables false
set_option linter.unusedSimpArgs false
open QuoP QuoW QuoR
def digV (c : UInt8) : Int := if hexB c then (hexN c : Int) else -1
theorem dig_1 {c : UInt8} (h : hexB c = true) (h0 : digB c = true) : (c.toNat : Int) - 48 = digV c := by
  simp only [digB, Bool.and_eq_true, decide_eq_true_eq] at h0
  rw [digV, if_pos h, hexN, if_pos (by simp [digB]; omega)]; omega
theorem dig_2 {c : UInt8} (h : hexB c = true) (h0 : digB c = false) (h1 : 97 ≤ c.toNat) : (c.toNat : Int) - 97 + 10 = digV c := by
  rw [digV, if_pos h, hexN, if_neg (by simp [h0])]; omega
theorem ret_i {a b : Int} (h : a = b) : Ending.returned (.int .i64 a) = .returned (.int .i64 b) := by rw [h]
theorem digit_c (c : UInt8) (w : World) : Calls Tryz.prog 103 #[.int .u8 c.toNat] w fun e w' => e = .returned (.int .i64 (digV c)) ∧ w = w' := by
  have hl := c.toNat_lt
  by_cases l1 : 48 ≤ c.toNat ∧ c.toNat ≤ 57
  · have d1 : decide ((48 : Int) ≤ (c.toNat : Int)) = true := by simp; omega
    have d2 : decide ((c.toNat : Int) ≤ (57 : Int)) = true := by simp; omega
    have e := dig_1 (c := c) (by simp [hexB, digB]; omega) (by simp [digB]; omega)
    have E := Lib.hid e
    clear e
    go_enter Tryz.func103, Tryz.ntmps103
    go_wp2
    go_ret
    exact ⟨ret_i E.out, rfl⟩
  · by_cases l2 : 97 ≤ c.toNat ∧ c.toNat ≤ 102
    · have d1 : decide ((c.toNat : Int) ≤ (57 : Int)) = false := by simp; omega
      have d0 : decide ((48 : Int) ≤ (c.toNat : Int)) = true := by simp; omega
      have d2 : decide ((97 : Int) ≤ (c.toNat : Int)) = true := by simp; omega
      have d3 : decide ((c.toNat : Int) ≤ (102 : Int)) = true := by simp; omega
      have e := dig_2 (c := c) (by simp [hexB, digB]; omega) (by simp [digB]; omega) l2.1
      have E := Lib.hid e
      clear e
      go_enter Tryz.func103, Tryz.ntmps103
      go_wp2
      go_ret
      exact ⟨ret_i E.out, rfl⟩
    · have e : (-1 : Int) = digV c := by rw [digV, if_neg]; simp [hexB, digB]; omega
      have E := Lib.hid e
      clear e
      go_enter Tryz.func103, Tryz.ntmps103
      go_wp2
      all_goals first | (exfalso; omega) | skip
      all_goals (go_ret; exact ⟨ret_i E.out, rfl⟩)
def atB (s : ByteArray) (i : Nat) : UInt8 := (s.data.toList.drop i).headD 0
theorem at_c (s : ByteArray) (i : Nat) (w : World) (hs : s.size ≤ 4611686018427387904) : Calls Tryz.prog 79 #[.string s, .int .i64 (i : Nat)] w fun e w' => e = .returned (.int .u8 (atB s i).toNat) ∧ w = w' := by
  by_cases h : i < s.size
  · have hd : atB s i = s[i]'h := by rw [atB, drop_cons s i h]; rfl
    rw [hd]
    go_enter Tryz.func79, Tryz.ntmps79
    go_wp2
    go_ret
    exact ⟨rfl, rfl⟩
  · have hd : atB s i = 0 := by rw [atB, List.drop_eq_nil_of_le (by rw [← Lib.size_eq]; omega)]; rfl
    rw [hd]
    go_enter Tryz.func79, Tryz.ntmps79
    go_wp2
    go_ret
    exact ⟨rfl, rfl⟩
theorem atB_is {s : ByteArray} {i : Nat} {c : UInt8} {r : Bs} (h : s.data.toList.drop i = c :: r) : atB s i = c := by rw [atB, h]; rfl
/-- What 'escape' answers. -/
def EPost (s : ByteArray) (i : Nat) (w : World) (e : Ending) (w' : World) : Prop := Below w.heap.size w w' ∧ ∃ (c : UInt8) (n k : Int), e = .returned (.tuple #[.int .u8 c.toNat, .int .i64 n, .int .i64 k]) ∧
  ((n = -1 ∧ ∃ j : Nat, k = j ∧ i ≤ j ∧ j ≤ s.size ∧ ∀ o t, run .esc o t (s.data.toList.drop i) = .bad (s.data.toList.drop j)) ∨
  (∃ m : Nat, n = m ∧ 1 ≤ m ∧ i + m ≤ s.size ∧ ∀ o t, run .esc o t (s.data.toList.drop i) = run .text o (t ++ [c]) (s.data.toList.drop (i + m))))
set_option maxHeartbeats 1600000 in
theorem rescape_hex (s : ByteArray) (i : Nat) (w : World) (x y : UInt8) (a b : Nat) (hlt2 : i + 2 < s.size) (hs : s.size ≤ 4294967296)
    (ca : ∀ W, Calls Tryz.prog 79 #[.string s, .int .i64 (i : Nat)] W fun e w' => e = .returned (.int .u8 120) ∧ W = w') (hx : s[i + 1]'(by omega) = x) (hy : s[i + 2]'hlt2 = y)
    (cd1 : ∀ W, Calls Tryz.prog 103 #[.int .u8 x.toNat] W fun e w' => e = .returned (.int .i64 (a : Int)) ∧ W = w') (cd2 : ∀ W, Calls Tryz.prog 103 #[.int .u8 y.toNat] W fun e w' => e = .returned (.int .i64 (b : Int)) ∧ W = w')
    (g1' : a < 16) (g2' : b < 16) (hr : ∀ o t, run .esc o t (s.data.toList.drop i) = run .text o (t ++ [UInt8.ofNat (a * 16 + b)]) (s.data.toList.drop (i + 3))) : Calls Tryz.prog 81 #[.string s, .int .i64 (i : Nat)] w (EPost s i w) := by
    have HR := Lib.hid hr
    clear hr
    have b1 : (i : Int) + 1 < (s.size : Int) := by omega
    have b2 : (i : Int) + 2 < (s.size : Int) := by omega
    go_enter Tryz.func81, Tryz.ntmps81
    go_wp2_with fail
    (with_reducible refine (ca _).mono ?_)
    rintro e w' ⟨rfl, rfl⟩
    go_wp2
    refine wp_loop_rounds 3 ?_
    rw [rounds_succ]
    go_wp2_with (first | (with_reducible refine (cd1 _).mono ?_; rintro e w' ⟨rfl, rfl⟩))
    rw [rounds_succ]
    go_wp2_with (first | (with_reducible refine (cd2 _).mono ?_; rintro e w' ⟨rfl, rfl⟩))
    rw [rounds_succ]
    go_wp2_with fail
    go_quiet (first | (with_reducible exact quiet_w (fun m => cd1 (w.drewN m))) | (with_reducible exact quiet_w (fun m => cd2 (w.drewN m))))
    go_wp2
    go_returns
    have e : ((UInt8.ofNat (a * 16 + b)).toNat : Int) = (a : Int) * 16 + (b : Int) := by rw [UInt8.toNat_ofNat']; omega
    refine ⟨below_dn (Below.refl _ _) _, UInt8.ofNat (a * 16 + b), 3, 0, ?_, Or.inr ⟨3, rfl, by omega, by omega, HR.out⟩⟩
    rw [e]; rfl
set_option maxHeartbeats 1600000 in
theorem rescape_c (s : ByteArray) (i : Nat) (w : World) (hi : i ≤ s.size) (hs : s.size ≤ 4294967296) : Calls Tryz.prog 81 #[.string s, .int .i64 (i : Nat)] w (EPost s i w) := by
  have ca := fun W => at_c s i W (by omega)
  by_cases h0 : s.size ≤ i
  · have en : s.data.toList.drop i = [] := List.drop_eq_nil_of_le (by rw [← Lib.size_eq]; omega)
    go_enter Tryz.func81, Tryz.ntmps81
    go_wp2_with fail
    (with_reducible refine (ca _).mono ?_)
    rintro e w' ⟨rfl, rfl⟩
    go_wp2
    go_returns
    exact ⟨Below.refl _ _, 0, -1, i, rfl, Or.inl ⟨rfl, i, rfl, Nat.le_refl _, by omega, fun o t => by rw [en]; rfl⟩⟩
  have hlt : i < s.size := by omega
  have hd := drop_cons s i hlt
  obtain ⟨c, hc⟩ : ∃ c, s[i]'hlt = c := ⟨_, rfl⟩
  rw [hc] at hd
  clear hc
  have hA := atB_is hd
  rw [hA] at ca
  clear hA
  have HD := Lib.hid hd
  clear hd
  obtain ⟨z, hz⟩ : ∃ z : Int, (c.toNat : Int) = z := ⟨_, rfl⟩
  rw [hz] at ca
  by_cases e110 : c = 110
  · subst e110
    obtain rfl : z = 110 := hz.symm
    go_enter Tryz.func81, Tryz.ntmps81
    go_wp2_with fail
    (with_reducible refine (ca _).mono ?_)
    rintro e w' ⟨rfl, rfl⟩
    go_wp2
    go_returns
    exact ⟨Below.refl _ _, 10, 1, 0, rfl, Or.inr ⟨1, rfl, by omega, by omega, fun o t => by rw [HD.out, run_go _ (show QuoP.step .esc o t 110 = .go .text o (t ++ [10]) from rfl)]⟩⟩
  by_cases e114 : c = 114
  · subst e114
    obtain rfl : z = 114 := hz.symm
    go_enter Tryz.func81, Tryz.ntmps81
    go_wp2_with fail
    (with_reducible refine (ca _).mono ?_)
    rintro e w' ⟨rfl, rfl⟩
    go_wp2
    go_returns
    exact ⟨Below.refl _ _, 13, 1, 0, rfl, Or.inr ⟨1, rfl, by omega, by omega, fun o t => by rw [HD.out, run_go _ (show QuoP.step .esc o t 114 = .go .text o (t ++ [13]) from rfl)]⟩⟩
  by_cases e116 : c = 116
  · subst e116
    obtain rfl : z = 116 := hz.symm
    go_enter Tryz.func81, Tryz.ntmps81
    go_wp2_with fail
    (with_reducible refine (ca _).mono ?_)
    rintro e w' ⟨rfl, rfl⟩
    go_wp2
    go_returns
    exact ⟨Below.refl _ _, 9, 1, 0, rfl, Or.inr ⟨1, rfl, by omega, by omega, fun o t => by rw [HD.out, run_go _ (show QuoP.step .esc o t 116 = .go .text o (t ++ [9]) from rfl)]⟩⟩
  by_cases e34 : c = 34
  · subst e34
    obtain rfl : z = 34 := hz.symm
    go_enter Tryz.func81, Tryz.ntmps81
    go_wp2_with fail
    (with_reducible refine (ca _).mono ?_)
    rintro e w' ⟨rfl, rfl⟩
    go_wp2
    go_returns
    exact ⟨Below.refl _ _, 34, 1, 0, rfl, Or.inr ⟨1, rfl, by omega, by omega, fun o t => by rw [HD.out, run_go _ (show QuoP.step .esc o t 34 = .go .text o (t ++ [34]) from rfl)]⟩⟩
  by_cases e92 : c = 92
  · subst e92
    obtain rfl : z = 92 := hz.symm
    go_enter Tryz.func81, Tryz.ntmps81
    go_wp2_with fail
    (with_reducible refine (ca _).mono ?_)
    rintro e w' ⟨rfl, rfl⟩
    go_wp2
    go_returns
    exact ⟨Below.refl _ _, 92, 1, 0, rfl, Or.inr ⟨1, rfl, by omega, by omega, fun o t => by rw [HD.out, run_go _ (show QuoP.step .esc o t 92 = .go .text o (t ++ [92]) from rfl)]⟩⟩
  by_cases e36 : c = 36
  · subst e36
    obtain rfl : z = 36 := hz.symm
    go_enter Tryz.func81, Tryz.ntmps81
    go_wp2_with fail
    (with_reducible refine (ca _).mono ?_)
    rintro e w' ⟨rfl, rfl⟩
    go_wp2
    go_returns
    exact ⟨Below.refl _ _, 36, 1, 0, rfl, Or.inr ⟨1, rfl, by omega, by omega, fun o t => by rw [HD.out, run_go _ (show QuoP.step .esc o t 36 = .go .text o (t ++ [36]) from rfl)]⟩⟩
  have z110 : (z == 110) = false := by subst hz; rw [beq_eq_false_iff_ne]; intro h; exact e110 (UInt8.toNat_inj.1 (by show c.toNat = 110; omega))
  have z114 : (z == 114) = false := by subst hz; rw [beq_eq_false_iff_ne]; intro h; exact e114 (UInt8.toNat_inj.1 (by show c.toNat = 114; omega))
  have z116 : (z == 116) = false := by subst hz; rw [beq_eq_false_iff_ne]; intro h; exact e116 (UInt8.toNat_inj.1 (by show c.toNat = 116; omega))
  have z34 : (z == 34) = false := by subst hz; rw [beq_eq_false_iff_ne]; intro h; exact e34 (UInt8.toNat_inj.1 (by show c.toNat = 34; omega))
  have z92 : (z == 92) = false := by subst hz; rw [beq_eq_false_iff_ne]; intro h; exact e92 (UInt8.toNat_inj.1 (by show c.toNat = 92; omega))
  have z36 : (z == 36) = false := by subst hz; rw [beq_eq_false_iff_ne]; intro h; exact e36 (UInt8.toNat_inj.1 (by show c.toNat = 36; omega))
  by_cases e120 : c = 120
  · subst e120
    obtain rfl : z = 120 := hz.symm
    clear z110 z114 z116 z34 z92 z36 e110 e114 e116 e34 e92 e36 hz
    have E1 : ∀ o t, run .esc o t (s.data.toList.drop i) = run .hex1 o t (s.data.toList.drop (i + 1)) := fun o t => by rw [HD.out, run_go _ (show QuoP.step .esc o t 120 = .go .hex1 o t from rfl)]
    have HE1 := Lib.hid E1
    clear E1
    by_cases h1 : s.size ≤ i + 1
    · have en : Hid (s.data.toList.drop (i + 1) = []) := Lib.hid (List.drop_eq_nil_of_le (by rw [← Lib.size_eq]; omega))
      go_enter Tryz.func81, Tryz.ntmps81
      go_wp2_with fail
      (with_reducible refine (ca _).mono ?_)
      rintro e w' ⟨rfl, rfl⟩
      go_wp2
      refine wp_loop_rounds 3 ?_
      rw [rounds_succ]
      go_wp2
      go_returns
      exact ⟨Below.refl _ _, 0, -1, (i + 1 : Nat), rfl, Or.inl ⟨rfl, i + 1, rfl, by omega, by omega, fun o t => by rw [HE1.out, en.out]; rfl⟩⟩
    have hlt1 : i + 1 < s.size := by omega
    have hd1 := drop_cons s (i + 1) hlt1
    obtain ⟨x, hx⟩ : ∃ x, s[i + 1]'hlt1 = x := ⟨_, rfl⟩
    rw [hx] at hd1
    have HD1 := Lib.hid hd1
    clear hd1
    have cd1 := fun W => digit_c x W
    cases g1 : hexB x
    · rw [show digV x = -1 by simp [digV, g1]] at cd1
      go_enter Tryz.func81, Tryz.ntmps81
      go_wp2_with fail
      (with_reducible refine (ca _).mono ?_)
      rintro e w' ⟨rfl, rfl⟩
      go_wp2
      refine wp_loop_rounds 3 ?_
      rw [rounds_succ]
      go_wp2_with (first | (with_reducible refine (cd1 _).mono ?_; rintro e w' ⟨rfl, rfl⟩))
      go_returns
      refine ⟨Below.refl _ _, 0, -1, (i + 1 : Nat), rfl, Or.inl ⟨rfl, i + 1, rfl, by omega, by omega, fun o t => ?_⟩⟩
      rw [HE1.out]
      refine run_stop _ _ _ _ fun c r e => ?_
      rw [HD1.out] at e; injection e with e1 e2; subst e1
      simp [QuoP.step, g1]
    have g1' := hexN_lt x g1
    obtain ⟨a, ha⟩ : ∃ a, hexN x = a := ⟨_, rfl⟩
    rw [show digV x = (hexN x : Int) by simp [digV, g1], ha] at cd1
    rw [ha] at g1'
    have HE2 : Hid (∀ o t, run .esc o t (s.data.toList.drop i) = run (.hex2 x) o t (s.data.toList.drop (i + 2))) := Lib.hid fun o t => by rw [HE1.out, HD1.out, run_go _ (show QuoP.step .hex1 o t x = .go (.hex2 x) o t by simp [QuoP.step, g1])]
    by_cases h2 : s.size ≤ i + 2
    · have en : Hid (s.data.toList.drop (i + 2) = []) := Lib.hid (List.drop_eq_nil_of_le (by rw [← Lib.size_eq]; omega))
      go_enter Tryz.func81, Tryz.ntmps81
      go_wp2_with fail
      (with_reducible refine (ca _).mono ?_)
      rintro e w' ⟨rfl, rfl⟩
      go_wp2
      refine wp_loop_rounds 3 ?_
      rw [rounds_succ]
      go_wp2_with (first | (with_reducible refine (cd1 _).mono ?_; rintro e w' ⟨rfl, rfl⟩))
      rw [rounds_succ]
      go_wp2
      go_returns
      exact ⟨Below.refl _ _, 0, -1, (i + 2 : Nat), rfl, Or.inl ⟨rfl, i + 2, rfl, by omega, by omega, fun o t => by rw [HE2.out, en.out]; rfl⟩⟩
    have hlt2 : i + 2 < s.size := by omega
    have hd2 := drop_cons s (i + 2) hlt2
    obtain ⟨y, hy⟩ : ∃ y, s[i + 2]'hlt2 = y := ⟨_, rfl⟩
    rw [hy] at hd2
    have HD2 := Lib.hid hd2
    clear hd2
    have cd2 := fun W => digit_c y W
    cases g2 : hexB y
    · rw [show digV y = -1 by simp [digV, g2]] at cd2
      go_enter Tryz.func81, Tryz.ntmps81
      go_wp2_with fail
      (with_reducible refine (ca _).mono ?_)
      rintro e w' ⟨rfl, rfl⟩
      go_wp2
      refine wp_loop_rounds 3 ?_
      rw [rounds_succ]
      go_wp2_with (first | (with_reducible refine (cd1 _).mono ?_; rintro e w' ⟨rfl, rfl⟩))
      rw [rounds_succ]
      go_wp2_with (first | (with_reducible refine (cd2 _).mono ?_; rintro e w' ⟨rfl, rfl⟩))
      go_returns
      refine ⟨Below.refl _ _, 0, -1, (i + 2 : Nat), rfl, Or.inl ⟨rfl, i + 2, rfl, by omega, by omega, fun o t => ?_⟩⟩
      rw [HE2.out]
      refine run_stop _ _ _ _ fun c r e => ?_
      rw [HD2.out] at e; injection e with e1 e2; subst e1
      simp [QuoP.step, g2]
    have g2' := hexN_lt y g2
    obtain ⟨b, hb⟩ : ∃ b, hexN y = b := ⟨_, rfl⟩
    rw [show digV y = (hexN y : Int) by simp [digV, g2], hb] at cd2
    rw [hb] at g2'
    exact rescape_hex s i w x y a b hlt2 hs ca hx hy cd1 cd2 g1' g2' (fun o t => by rw [HE2.out, HD2.out, run_go _ (show QuoP.step (.hex2 x) o t y = .go .text o (t ++ [UInt8.ofNat (hexN x * 16 + hexN y)]) by simp [QuoP.step, g2]), ha, hb])
  · have z120 : (z == 120) = false := by subst hz; rw [beq_eq_false_iff_ne]; intro h; exact e120 (UInt8.toNat_inj.1 (by show c.toNat = 120; omega))
    go_enter Tryz.func81, Tryz.ntmps81
    go_wp2_with fail
    (with_reducible refine (ca _).mono ?_)
    rintro e w' ⟨rfl, rfl⟩
    go_wp2
    go_returns
    refine ⟨Below.refl _ _, 0, -1, i, rfl, Or.inl ⟨rfl, i, rfl, Nat.le_refl _, by omega, fun o t => run_stop _ _ _ _ fun d r e => ?_⟩⟩
    rw [HD.out] at e; injection e with e1 e2; subst e1
    simp [QuoP.step, e110, e114, e116, e34, e92, e36, e120]
end QuoE
end Go.Proofs.YtchceoclkdofhaaGreatDoor
namespace Go.Proofs.YtchceoclkdofhaaGreatDoor
open Go.RowKit
namespace QuoE
set_option linter.unusedVariables false
set_option linter.unusedSimpArgs false
open QuoP QuoW QuoR
/-- What 'variable' answers. -/
def VPost (s : ByteArray) (i : Nat) (w : World) (e : Ending) (w' : World) : Prop := Below w.heap.size w w' ∧ ∃ (nm : ByteArray) (n k : Int), e = .returned (.tuple #[.string nm, .int .i64 n, .int .i64 k]) ∧
  ((n = -1 ∧ ∃ j : Nat, k = j ∧ i ≤ j ∧ j ≤ s.size ∧ ∀ o t, run .dollar o t (s.data.toList.drop i) = .bad (s.data.toList.drop j)) ∨
  (∃ m : Nat, n = m ∧ 1 ≤ m ∧ i + m ≤ s.size ∧ ∀ o t, run .dollar o t (s.data.toList.drop i) = run .text (o ++ [(nm.data.toList, [])]) t (s.data.toList.drop (i + m))))
theorem atB_no {s : ByteArray} {i : Nat} {x : UInt8} (hx : x ≠ 0) (h : atB s i ≠ x) : ∀ c r, s.data.toList.drop i = c :: r → c ≠ x := by
  intro c r e; rw [atB_is e] at h; exact h
theorem atB_yes {s : ByteArray} {i : Nat} {x : UInt8} (hx : x ≠ 0) (h : atB s i = x) : i < s.size ∧ s.data.toList.drop i = x :: s.data.toList.drop (i + 1) := by
  have hlt : i < s.size := by
    rcases Nat.lt_or_ge i s.size with h' | h'
    · exact h'
    · rw [atB, List.drop_eq_nil_of_le (by rw [← Lib.size_eq]; omega)] at h; exact absurd h.symm hx
  have hd := drop_cons s i hlt
  rw [atB_is hd] at h
  exact ⟨hlt, by rw [hd, h]⟩
theorem int_ne {c : UInt8} {n : Nat} (h : c.toNat ≠ n) : ((c.toNat : Int) == (n : Int)) = false := by rw [beq_eq_false_iff_ne]; omega
set_option maxHeartbeats 3200000 in
theorem rvariable_c (s : ByteArray) (i : Nat) (w : World) (hi : i ≤ s.size) (hs : s.size ≤ 4294967296) : Calls Tryz.prog 80 #[.string s, .int .i64 (i : Nat)] w (VPost s i w) := by
  have ca0 := fun W => at_c s i W (by omega)
  by_cases e0 : atB s i = 123
  rotate_left
  · obtain ⟨z, hz⟩ : ∃ z : Int, ((atB s i).toNat : Int) = z := ⟨_, rfl⟩
    rw [hz] at ca0
    have z0 : (z == 123) = false := by subst hz; rw [beq_eq_false_iff_ne]; intro h; exact e0 (UInt8.toNat_inj.1 (by show (atB s i).toNat = 123; omega))
    have z1 : (z != 123) = true := by simp [bne, z0]
    go_enter Tryz.func80, Tryz.ntmps80
    go_wp2_with fail
    (with_reducible refine (ca0 _).mono ?_)
    rintro e w' ⟨rfl, rfl⟩
    go_wp2
    go_returns
    refine ⟨Below.refl _ _, _, -1, i, rfl, Or.inl ⟨rfl, i, rfl, Nat.le_refl _, hi, fun o t => run_stop _ _ _ _ fun c r e => ?_⟩⟩
    have := atB_no (x := 123) (by decide) e0 c r e
    simp [QuoP.step, this]
  obtain ⟨hlt, hd⟩ := atB_yes (by decide) e0
  rw [e0, show (((123 : UInt8).toNat : Nat) : Int) = 123 from rfl] at ca0
  have HE1 : Hid (∀ o t, run .dollar o t (s.data.toList.drop i) = run .brace o t (s.data.toList.drop (i + 1))) := Lib.hid fun o t => by rw [hd, run_go _ (show QuoP.step .dollar o t 123 = .go .brace o t from rfl)]
  clear hd e0
  have ca1 := fun W => at_c s (i + 1) W (by omega)
  rw [show ((i + 1 : Nat) : Int) = (i : Int) + 1 from by omega] at ca1
  obtain ⟨c, hc⟩ : ∃ c, atB s (i + 1) = c := ⟨_, rfl⟩
  rw [hc] at ca1
  have cs1 := fun W => small_c c W false
  rw [show smallB c false = letterB c by simp [smallB]] at cs1
  by_cases h1 : s.size ≤ i + 1
  · have en : Hid (s.data.toList.drop (i + 1) = []) := Lib.hid (List.drop_eq_nil_of_le (by rw [← Lib.size_eq]; omega))
    go_enter Tryz.func80, Tryz.ntmps80
    go_wp2_with (first | (with_reducible refine (ca0 _).mono ?_; rintro e w' ⟨rfl, rfl⟩) | (with_reducible refine (ca1 _).mono ?_; rintro e w' ⟨rfl, rfl⟩))
    go_returns
    exact ⟨Below.refl _ _, _, -1, (i + 1 : Nat), rfl, Or.inl ⟨rfl, i + 1, rfl, by omega, by omega, fun o t => by rw [HE1.out, en.out]; rfl⟩⟩
  have hlt1 : i + 1 < s.size := by omega
  have hd1 := drop_cons s (i + 1) hlt1
  rw [← atB_is hd1, hc] at hd1
  clear hc
  have HD1 := Lib.hid hd1
  clear hd1
  have hcl := c.toNat_lt
  cases hl : letterB c <;> rw [hl] at cs1
  · by_cases h2 : digB c = true
    rotate_left
    · rw [Bool.not_eq_true] at h2
      have NO : Hid (∀ o t, run .brace o t (s.data.toList.drop (i + 1)) = .bad (s.data.toList.drop (i + 1))) := Lib.hid fun o t => run_stop _ _ _ _ fun d r e => by
        rw [HD1.out] at e; injection e with e1 e2; subst e1; simp [QuoP.step, hl, h2]
      have h2' : ¬ (48 ≤ c.toNat ∧ c.toNat ≤ 57) := by simpa [digB] using h2
      clear h2
      by_cases l1 : 48 ≤ c.toNat
      · have d1 : decide ((48 : Int) ≤ (c.toNat : Int)) = true := by simp; omega
        have d2 : decide ((c.toNat : Int) ≤ (57 : Int)) = false := by simp; omega
        go_enter Tryz.func80, Tryz.ntmps80
        go_wp2_with (first | (with_reducible refine (ca0 _).mono ?_; rintro e w' ⟨rfl, rfl⟩) | (with_reducible refine (ca1 _).mono ?_; rintro e w' ⟨rfl, rfl⟩) | (with_reducible refine (cs1 _).mono ?_; rintro e w' ⟨rfl, rfl⟩))
        go_returns
        exact ⟨Below.refl _ _, _, -1, (i + 1 : Nat), rfl, Or.inl ⟨rfl, i + 1, rfl, by omega, by omega, fun o t => by rw [HE1.out, NO.out]⟩⟩
      · have d1 : decide ((48 : Int) ≤ (c.toNat : Int)) = false := by simp; omega
        go_enter Tryz.func80, Tryz.ntmps80
        go_wp2_with (first | (with_reducible refine (ca0 _).mono ?_; rintro e w' ⟨rfl, rfl⟩) | (with_reducible refine (ca1 _).mono ?_; rintro e w' ⟨rfl, rfl⟩) | (with_reducible refine (cs1 _).mono ?_; rintro e w' ⟨rfl, rfl⟩))
        go_returns
        exact ⟨Below.refl _ _, _, -1, (i + 1 : Nat), rfl, Or.inl ⟨rfl, i + 1, rfl, by omega, by omega, fun o t => by rw [HE1.out, NO.out]⟩⟩
    have h2' : 48 ≤ c.toNat ∧ c.toNat ≤ 57 := by simpa [digB] using h2
    have HE2 : Hid (∀ o t, run .dollar o t (s.data.toList.drop i) = run (.nam [c]) o t (s.data.toList.drop (i + 2))) := Lib.hid fun o t => by rw [HE1.out, HD1.out, run_go _ (show QuoP.step .brace o t c = .go (.nam [c]) o t by simp [QuoP.step, h2])]
    have d1 : decide ((48 : Int) ≤ (c.toNat : Int)) = true := by simp; omega
    have d2 : decide ((c.toNat : Int) ≤ (57 : Int)) = true := by simp; omega
    clear h2
    have ca2 := fun W => at_c s (i + 2) W (by omega)
    rw [show ((i + 2 : Nat) : Int) = (i : Int) + 2 from by omega] at ca2
    by_cases e2 : atB s (i + 2) = 125
    · obtain ⟨hlt2, hd2⟩ := atB_yes (by decide) e2
      rw [e2, show (((125 : UInt8).toNat : Nat) : Int) = 125 from rfl] at ca2
      have HD2 := Lib.hid hd2
      clear hd2 e2
      go_enter Tryz.func80, Tryz.ntmps80
      go_wp2_with (first | (with_reducible refine (ca0 _).mono ?_; rintro e w' ⟨rfl, rfl⟩) | (with_reducible refine (ca1 _).mono ?_; rintro e w' ⟨rfl, rfl⟩) | (with_reducible refine (cs1 _).mono ?_; rintro e w' ⟨rfl, rfl⟩) | (with_reducible refine (ca2 _).mono ?_; rintro e w' ⟨rfl, rfl⟩))
      go_returns
      refine ⟨Below.refl _ _, s.extract (i + 1) (i + 2), (i : Int) + 2 + 1 - i, 0, rfl, Or.inr ⟨3, by omega, by omega, by omega, fun o t => ?_⟩⟩
      rw [HE2.out, HD2.out, run_go _ (show QuoP.step (.nam [c]) o t 125 = .go .text (o ++ [([c], [])]) t from rfl), extract_list, HD1.out]
      simp
    · obtain ⟨z, hz⟩ : ∃ z : Int, ((atB s (i + 2)).toNat : Int) = z := ⟨_, rfl⟩
      rw [hz] at ca2
      have z0 : (z == 125) = false := by subst hz; rw [beq_eq_false_iff_ne]; intro h; exact e2 (UInt8.toNat_inj.1 (by show (atB s (i + 2)).toNat = 125; omega))
      have z1 : (z != 125) = true := by simp [bne, z0]
      go_enter Tryz.func80, Tryz.ntmps80
      go_wp2_with (first | (with_reducible refine (ca0 _).mono ?_; rintro e w' ⟨rfl, rfl⟩) | (with_reducible refine (ca1 _).mono ?_; rintro e w' ⟨rfl, rfl⟩) | (with_reducible refine (cs1 _).mono ?_; rintro e w' ⟨rfl, rfl⟩) | (with_reducible refine (ca2 _).mono ?_; rintro e w' ⟨rfl, rfl⟩))
      go_returns
      refine ⟨Below.refl _ _, _, -1, (i + 2 : Nat), rfl, Or.inl ⟨rfl, i + 2, rfl, by omega, by omega, fun o t => ?_⟩⟩
      rw [HE2.out]
      refine run_stop _ _ _ _ fun d r e => ?_
      have hn := atB_no (x := 125) (by decide) e2 d r e
      simp [QuoP.step, hn, hl]
  · have HE2 : Hid (∀ o t, run .dollar o t (s.data.toList.drop i) = run (.nam [c]) o t (s.data.toList.drop (i + 2))) := Lib.hid fun o t => by rw [HE1.out, HD1.out, run_go _ (show QuoP.step .brace o t c = .go (.nam [c]) o t by simp [QuoP.step, hl])]
    go_enter Tryz.func80, Tryz.ntmps80
    go_wp2_with (first | (with_reducible refine (ca0 _).mono ?_; rintro e w' ⟨rfl, rfl⟩) | (with_reducible refine (ca1 _).mono ?_; rintro e w' ⟨rfl, rfl⟩) | (with_reducible refine (cs1 _).mono ?_; rintro e w' ⟨rfl, rfl⟩))
    go_loop [8] (fun v => ∃ j : Nat, v = .int .i64 j ∧ i + 2 ≤ j ∧ j ≤ s.size ∧ j ≤ i + 9 ∧ Hid (∀ o t, run .dollar o t (s.data.toList.drop i) = run (.nam (nmTo s (i + 1) j)) o t (s.data.toList.drop j))) (fun v => s.size - (intOf v).toNat)
    case atStart => exact ⟨i + 2, rfl, by omega, by omega, by omega, Lib.hid fun o t => by rw [HE2.out, nmTo_one HD1.out]⟩
    case round =>
      obtain ⟨j, rfl, hj0, hj1, hj2, HJ⟩ := hrel
      have caj := fun W => at_c s j W (by omega)
      by_cases g1 : j < s.size
      · have gd1 : decide (j < s.size) = true := by simpa using g1
        by_cases g2 : j < i + 9
        · have hdj := drop_cons s j g1
          obtain ⟨x, hx⟩ : ∃ x, s[j]'g1 = x := ⟨_, rfl⟩
          rw [hx] at hdj
          have csx := fun W => small_c x W true
          rw [show smallB x true = withB x by simp [smallB, withB, Bool.or_assoc]] at csx
          have HX := Lib.hid hdj
          clear hdj
          cases hw : withB x <;> rw [hw] at csx
          · skip
            have EX : Hid (∀ x r, s.data.toList.drop j = x :: r → ((nmTo s (i + 1) j).head?.any letterB && decide ((nmTo s (i + 1) j).length < 8) && withB x) = false) := Lib.hid fun x r e => by
              rw [HX.out] at e; injection e with e1 e2; subst e1; rw [hw, Bool.and_false]
            by_cases e2 : atB s j = 125
            · obtain ⟨hlt2, hd2⟩ := atB_yes (by decide) e2
              rw [e2, show (((125 : UInt8).toNat : Nat) : Int) = 125 from rfl] at caj
              have HD2 := Lib.hid hd2
              clear hd2 e2
              go_wp2_with (first | (with_reducible refine (caj _).mono ?_; rintro e w' ⟨rfl, rfl⟩) | (with_reducible refine (csx _).mono ?_; rintro e w' ⟨rfl, rfl⟩))
              go_returns
              refine ⟨Below.refl _ _, s.extract (i + 1) j, (j : Int) + 1 - i, 0, rfl, Or.inr ⟨j + 1 - i, by omega, by omega, by omega, fun o t => ?_⟩⟩
              rw [HJ.out, HD2.out, run_go _ (show QuoP.step (.nam (nmTo s (i + 1) j)) o t 125 = .go .text (o ++ [(nmTo s (i + 1) j, [])]) t from rfl), extract_list, show i + (j + 1 - i) = j + 1 by omega]
              rfl
            · obtain ⟨z, hz⟩ : ∃ z : Int, ((atB s j).toNat : Int) = z := ⟨_, rfl⟩
              rw [hz] at caj
              have z0 : (z == 125) = false := by subst hz; rw [beq_eq_false_iff_ne]; intro h; exact e2 (UInt8.toNat_inj.1 (by show (atB s j).toNat = 125; omega))
              have z1 : (z != 125) = true := by simp [bne, z0]
              have NO := Lib.hid (atB_no (x := 125) (by decide) e2)
              clear e2 hz
              go_wp2_with (first | (with_reducible refine (caj _).mono ?_; rintro e w' ⟨rfl, rfl⟩) | (with_reducible refine (csx _).mono ?_; rintro e w' ⟨rfl, rfl⟩))
              go_returns
              refine ⟨Below.refl _ _, _, -1, (j : Nat), rfl, Or.inl ⟨rfl, j, rfl, by omega, by omega, fun o t => ?_⟩⟩
              rw [HJ.out]
              refine run_stop _ _ _ _ fun d r e => ?_
              have hn := NO.out d r e
              have h2 := EX.out d r e
              simp only [QuoP.step]
              rw [if_neg hn, h2]; rfl
          · go_wp2_with (first | (with_reducible refine (csx _).mono ?_; rintro e w' ⟨rfl, rfl⟩))
            go_round
            case rel =>
              refine ⟨j + 1, by go_num, by omega, by omega, by omega, Lib.hid fun o t => ?_⟩
              have e2 : QuoP.step (.nam (nmTo s (i + 1) j)) o t x = .go (.nam (nmTo s (i + 1) j ++ [x])) o t := by
                simp only [QuoP.step]
                rw [if_neg (with_not x hw), nmTo_head HD1.out (show i + 1 < j by omega), nmTo_len (by omega) hj1]
                simp [hl, hw]; omega
              rw [HJ.out, HX.out, run_go _ e2, nmTo_more (by omega) g1, hx]
            case measure => simp [intOf]; omega
        · have csx := fun W => small_c c W true
          have gd2 : decide ((j : Int) < (i : Int) + 9) = false := by simp; omega
          have EX : Hid (∀ x r, s.data.toList.drop j = x :: r → ((nmTo s (i + 1) j).head?.any letterB && decide ((nmTo s (i + 1) j).length < 8) && withB x) = false) := Lib.hid fun x r e => by
            rw [nmTo_len (by omega) hj1, show decide (j - (i + 1) < 8) = false by simp; omega, Bool.and_false]; rfl
          by_cases e2 : atB s j = 125
          · obtain ⟨hlt2, hd2⟩ := atB_yes (by decide) e2
            rw [e2, show (((125 : UInt8).toNat : Nat) : Int) = 125 from rfl] at caj
            have HD2 := Lib.hid hd2
            clear hd2 e2
            go_wp2_with (first | (with_reducible refine (caj _).mono ?_; rintro e w' ⟨rfl, rfl⟩) | (with_reducible refine (csx _).mono ?_; rintro e w' ⟨rfl, rfl⟩))
            go_returns
            refine ⟨Below.refl _ _, s.extract (i + 1) j, (j : Int) + 1 - i, 0, rfl, Or.inr ⟨j + 1 - i, by omega, by omega, by omega, fun o t => ?_⟩⟩
            rw [HJ.out, HD2.out, run_go _ (show QuoP.step (.nam (nmTo s (i + 1) j)) o t 125 = .go .text (o ++ [(nmTo s (i + 1) j, [])]) t from rfl), extract_list, show i + (j + 1 - i) = j + 1 by omega]
            rfl
          · obtain ⟨z, hz⟩ : ∃ z : Int, ((atB s j).toNat : Int) = z := ⟨_, rfl⟩
            rw [hz] at caj
            have z0 : (z == 125) = false := by subst hz; rw [beq_eq_false_iff_ne]; intro h; exact e2 (UInt8.toNat_inj.1 (by show (atB s j).toNat = 125; omega))
            have z1 : (z != 125) = true := by simp [bne, z0]
            have NO := Lib.hid (atB_no (x := 125) (by decide) e2)
            clear e2 hz
            go_wp2_with (first | (with_reducible refine (caj _).mono ?_; rintro e w' ⟨rfl, rfl⟩) | (with_reducible refine (csx _).mono ?_; rintro e w' ⟨rfl, rfl⟩))
            go_returns
            refine ⟨Below.refl _ _, _, -1, (j : Nat), rfl, Or.inl ⟨rfl, j, rfl, by omega, by omega, fun o t => ?_⟩⟩
            rw [HJ.out]
            refine run_stop _ _ _ _ fun d r e => ?_
            have hn := NO.out d r e
            have h2 := EX.out d r e
            simp only [QuoP.step]
            rw [if_neg hn, h2]; rfl
      · have csx := fun W => small_c c W true
        have gd1 : decide (j < s.size) = false := by simpa using g1
        have EX : Hid (∀ x r, s.data.toList.drop j = x :: r → ((nmTo s (i + 1) j).head?.any letterB && decide ((nmTo s (i + 1) j).length < 8) && withB x) = false) := Lib.hid fun x r e => by
          rw [List.drop_eq_nil_of_le (by rw [← Lib.size_eq]; omega)] at e; cases e
        by_cases e2 : atB s j = 125
        · obtain ⟨hlt2, hd2⟩ := atB_yes (by decide) e2
          rw [e2, show (((125 : UInt8).toNat : Nat) : Int) = 125 from rfl] at caj
          have HD2 := Lib.hid hd2
          clear hd2 e2
          go_wp2_with (first | (with_reducible refine (caj _).mono ?_; rintro e w' ⟨rfl, rfl⟩) | (with_reducible refine (csx _).mono ?_; rintro e w' ⟨rfl, rfl⟩))
          go_returns
          refine ⟨Below.refl _ _, s.extract (i + 1) j, (j : Int) + 1 - i, 0, rfl, Or.inr ⟨j + 1 - i, by omega, by omega, by omega, fun o t => ?_⟩⟩
          rw [HJ.out, HD2.out, run_go _ (show QuoP.step (.nam (nmTo s (i + 1) j)) o t 125 = .go .text (o ++ [(nmTo s (i + 1) j, [])]) t from rfl), extract_list, show i + (j + 1 - i) = j + 1 by omega]
          rfl
        · obtain ⟨z, hz⟩ : ∃ z : Int, ((atB s j).toNat : Int) = z := ⟨_, rfl⟩
          rw [hz] at caj
          have z0 : (z == 125) = false := by subst hz; rw [beq_eq_false_iff_ne]; intro h; exact e2 (UInt8.toNat_inj.1 (by show (atB s j).toNat = 125; omega))
          have z1 : (z != 125) = true := by simp [bne, z0]
          have NO := Lib.hid (atB_no (x := 125) (by decide) e2)
          clear e2 hz
          go_wp2_with (first | (with_reducible refine (caj _).mono ?_; rintro e w' ⟨rfl, rfl⟩) | (with_reducible refine (csx _).mono ?_; rintro e w' ⟨rfl, rfl⟩))
          go_returns
          refine ⟨Below.refl _ _, _, -1, (j : Nat), rfl, Or.inl ⟨rfl, j, rfl, by omega, by omega, fun o t => ?_⟩⟩
          rw [HJ.out]
          refine run_stop _ _ _ _ fun d r e => ?_
          have hn := NO.out d r e
          have h2 := EX.out d r e
          simp only [QuoP.step]
          rw [if_neg hn, h2]; rfl
end QuoE
end Go.Proofs.YtchceoclkdofhaaGreatDoor
namespace Go.Proofs.YtchceoclkdofhaaGreatDoor
open Go.RowKit
namespace QuoR
set_option linter.unusedVariables false
set_option linter.unusedSimpArgs false
open QuoP QuoW QuoB
/-- What Parse answers. -/
def PaPost (s : ByteArray) (w : World) (e : Ending) (w' : World) : Prop := Below w.heap.size w w' ∧
  ((∃ o i v, parse s.data.toList = .ok o (s.data.toList.drop i) ∧ i ≤ s.size ∧ e = .returned (.tuple #[v, .int .i64 (i : Nat), .int .i64 0]) ∧ w'.ownsRow w.heap.size ET 2 v o.length (cells o)) ∨
  (∃ i, parse s.data.toList = .bad (s.data.toList.drop i) ∧ i ≤ s.size ∧ e = .returned (.tuple #[.slice none 0 0, .int .i64 (i : Nat), .int .i64 1])))
def badOf (R : Nat) (w : World) : Nat := match w.cell? ⟨R, 2, none⟩ with
  | some (.bool true) => 0
  | _ => 1
theorem flush_len (o : List Pt) (t : Bs) : (flush o t).length ≤ o.length + 1 := by unfold flush; split <;> simp
end QuoR
end Go.Proofs.YtchceoclkdofhaaGreatDoor
namespace Go.Proofs.YtchceoclkdofhaaGreatDoor
open Go.RowKit
namespace QuoI
set_option linter.unusedVariables false
set_option linter.unusedSimpArgs false
open QuoP QuoW QuoR
theorem conv_one (W : World) (z : Int) : (convert 116 9 (.slice (some ⟨W.heap.size, 0, none⟩) 1 1)).run Tryz.prog (W.alloc (.cells #[.int .u8 z] 5)) = .ok (.string ⟨#[UInt8.ofNat z.toNat]⟩) (W.alloc (.cells #[.int .u8 z] 5)) := by
  have := run_convert_bytes_arg (P := Tryz.prog) (W.alloc (.cells #[.int .u8 z] 5)) 116 5 (by kernel_rfl) (by kernel_rfl) W.heap.size 0 1 1 [z] rfl (fun i hi => by
    obtain rfl : i = 0 := by omega
    rw [cell_of_row _ _ _ _ _ _ (heap_alloc_new W _)]; rfl) 9 (by kernel_rfl)
  rw [this]; rfl
theorem conv_two (W : World) (y z : Int) : (convert 116 9 (.slice (some ⟨W.heap.size, 0, none⟩) 2 2)).run Tryz.prog (W.alloc (.cells #[.int .u8 y, .int .u8 z] 5)) = .ok (.string ⟨#[UInt8.ofNat y.toNat, UInt8.ofNat z.toNat]⟩) (W.alloc (.cells #[.int .u8 y, .int .u8 z] 5)) := by
  have := run_convert_bytes_arg (P := Tryz.prog) (W.alloc (.cells #[.int .u8 y, .int .u8 z] 5)) 116 5 (by kernel_rfl) (by kernel_rfl) W.heap.size 0 2 2 [y, z] rfl (fun i hi => by
    rw [cell_of_row _ _ _ _ _ _ (heap_alloc_new W _)]
    match i, hi with
    | 0, _ => rfl
    | 1, _ => rfl) 9 (by kernel_rfl)
  rw [this]; rfl
theorem conv_two_d (W : World) (y z : Int) : (convert 116 9 (.slice (some ⟨W.heap.size, 0, none⟩) 2 2)).run Tryz.prog (W.alloc (.cells #[.int .u8 y, .int .u8 z] 5)).drew = .ok (.string ⟨#[UInt8.ofNat y.toNat, UInt8.ofNat z.toNat]⟩) (W.alloc (.cells #[.int .u8 y, .int .u8 z] 5)).drew := by
  have := run_convert_bytes_arg (P := Tryz.prog) (W.alloc (.cells #[.int .u8 y, .int .u8 z] 5)).drew 116 5 (by kernel_rfl) (by kernel_rfl) W.heap.size 0 2 2 [y, z] rfl (fun i hi => by
    show (W.alloc (.cells #[.int .u8 y, .int .u8 z] 5)).cell? _ = _
    rw [cell_of_row _ _ _ _ _ _ (heap_alloc_new W _)]
    match i, hi with
    | 0, _ => rfl
    | 1, _ => rfl) 9 (by kernel_rfl)
  rw [this]; rfl
theorem dig_at (n : Nat) (h : n < (⟨#[48, 49, 50, 51, 52, 53, 54, 55, 56, 57, 97, 98, 99, 100, 101, 102]⟩ : ByteArray).size) : (⟨#[48, 49, 50, 51, 52, 53, 54, 55, 56, 57, 97, 98, 99, 100, 101, 102]⟩ : ByteArray)[n]'h = hexC n := by
  have : ∀ n : Fin 16, (⟨#[48, 49, 50, 51, 52, 53, 54, 55, 56, 57, 97, 98, 99, 100, 101, 102]⟩ : ByteArray)[n.val]'(n.isLt) = hexC n.val := by decide
  exact this ⟨n, h⟩
set_option maxHeartbeats 400000 in
theorem rhex_c (n : Nat) (hn : n < 16) (w : World) : Calls Tryz.prog 114 #[.int .u8 (n : Int)] w fun e w' => e = .returned (.string ⟨#[hexC n]⟩) ∧ Below w.heap.size w w' := by
  have kc := conv_one
  have k : (n : Int) < 16 := by omega
  go_enter Tryz.func114, Tryz.ntmps114
  go_wp2
  go_ret
  refine ⟨?_, by go_grown⟩
  have e := dig_at n hn
  show Ending.returned (.string ⟨#[_]⟩) = _
  rw [e]
def plB (c : UInt8) : Bool := c == 34 || c == 92 || c == 36
theorem idx_plain (c : UInt8) : decide (0 ≤ Lib.indexByte [34, 92, 36] c) = plB c := by
  have := all_bytes (fun c => decide (0 ≤ Lib.indexByte [34, 92, 36] c) == plB c) (by decide +kernel) c
  simpa using this
theorem pl_iff (c : UInt8) : plB c = true ↔ (c = 34 ∨ c = 92 ∨ c = 36) := by simp [plB, or_assoc]
theorem ne_z {c : UInt8} {n : UInt8} (h : c ≠ n) : ((c.toNat : Int) == (n.toNat : Int)) = false := by
  rw [beq_eq_false_iff_ne]; intro e; exact h (UInt8.toNat_inj.1 (by omega))
theorem back1 (c : UInt8) : UInt8.ofNat ((c.toNat : Int)).toNat = c := by simp
theorem ret_s {a b : ByteArray} (h : a = b) : Ending.returned (.string a) = .returned (.string b) := by rw [h]
theorem one_n {c : UInt8} (h1 : c ≠ 10) (h2 : c ≠ 13) (h3 : c ≠ 9) : QuoP.one c = if plB c then [92, c] else if c.toNat < 32 ∨ 126 < c.toNat then [92, 120, hexC (c.toNat / 16), hexC (c.toNat % 16)] else [c] := by
  rw [QuoP.one, if_neg h1, if_neg h2, if_neg h3]
  by_cases h : plB c = true
  · rw [if_pos ((pl_iff c).1 h), if_pos h]
  · rw [if_neg (fun x => h ((pl_iff c).2 x)), if_neg h]
section
variable (c : UInt8) (w : World)
set_option maxHeartbeats 1600000 in
theorem one_c : Calls Tryz.prog 109 #[.int .u8 c.toNat] w fun e w' => e = .returned (.string ⟨(QuoP.one c).toArray⟩) ∧ Below w.heap.size w w' := by
  have kc := conv_one
  have hl := c.toNat_lt
  by_cases e10 : c = 10
  · subst e10
    obtain ⟨z, hz⟩ : ∃ z : Int, (((10 : UInt8).toNat : Nat) : Int) = z := ⟨_, rfl⟩
    rw [hz]
    obtain rfl : z = 10 := hz.symm
    go_enter Tryz.func109, Tryz.ntmps109
    go_wp2
    go_ret
    exact ⟨rfl, by go_grown⟩
  by_cases e13 : c = 13
  · subst e13
    obtain ⟨z, hz⟩ : ∃ z : Int, (((13 : UInt8).toNat : Nat) : Int) = z := ⟨_, rfl⟩
    rw [hz]
    obtain rfl : z = 13 := hz.symm
    go_enter Tryz.func109, Tryz.ntmps109
    go_wp2
    go_ret
    exact ⟨rfl, by go_grown⟩
  by_cases e9 : c = 9
  · subst e9
    obtain ⟨z, hz⟩ : ∃ z : Int, (((9 : UInt8).toNat : Nat) : Int) = z := ⟨_, rfl⟩
    rw [hz]
    obtain rfl : z = 9 := hz.symm
    go_enter Tryz.func109, Tryz.ntmps109
    go_wp2
    go_ret
    exact ⟨rfl, by go_grown⟩
  have z1 : ((c.toNat : Int) == 10) = false := ne_z e10
  have z2 : ((c.toNat : Int) == 13) = false := ne_z e13
  have z3 : ((c.toNat : Int) == 9) = false := ne_z e9
  rw [one_n e10 e13 e9]
  have ci := fun W => idx_c c W ⟨#[34, 92, 36]⟩
  have hi := idx_plain c
  rw [show (⟨#[34, 92, 36]⟩ : ByteArray).data.toList = [34, 92, 36] from rfl] at ci
  generalize Lib.indexByte [34, 92, 36] c = v at *
  cases hp : plB c
  · rw [if_neg (by simp)]
    by_cases hh : c.toNat < 32 ∨ 126 < c.toNat
    · rw [if_pos hh]
      rw [hp] at hi
      have kc := conv_two_d
      have hb1 : 0 ≤ (c.toNat : Int) / 16 ∧ (c.toNat : Int) / 16 < 16 := by omega
      have hb2 : 0 ≤ (c.toNat : Int) % 16 ∧ (c.toNat : Int) % 16 < 16 := by omega
      have hd : (decide ((c.toNat : Int) < 32) || decide (126 < (c.toNat : Int))) = true := by simp; omega
      go_enter Tryz.func109, Tryz.ntmps109
      go_wp2_with (first | (with_reducible refine (ci _).mono ?_; rintro e w' ⟨rfl, rfl⟩))
      all_goals go_region
      all_goals go_wp2
      all_goals
        go_ret
        refine ⟨ret_s ?_, by go_grown⟩
        rw [dig_at (c.toNat / 16) (show _ < 16 by omega), dig_at (c.toNat % 16) (show _ < 16 by omega)]; rfl
    · rw [if_neg hh]
      have d1 : decide ((c.toNat : Int) < 32) = false := by simp; omega
      have d2 : decide (126 < (c.toNat : Int)) = false := by simp; omega
      rw [hp] at hi
      go_enter Tryz.func109, Tryz.ntmps109
      go_wp2_with (first | (with_reducible refine (ci _).mono ?_; rintro e w' ⟨rfl, rfl⟩))
      go_ret
      refine ⟨ret_s ?_, by go_grown⟩
      first | rfl | (rw [back1]) | (rw [back1]; rfl)
  · rw [if_pos rfl]
    rw [hp] at hi
    go_enter Tryz.func109, Tryz.ntmps109
    go_wp2_with (first | (with_reducible refine (ci _).mono ?_; rintro e w' ⟨rfl, rfl⟩))
    all_goals
      go_ret
      refine ⟨ret_s ?_, by go_grown⟩
      first | rfl | (rw [back1]; rfl)
set_option maxHeartbeats 1600000 in
theorem byte_c : Calls Tryz.prog 96 #[.int .u8 c.toNat] w fun e w' => e = .returned (.string ⟨(QuoP.one c).toArray⟩) ∧ Below w.heap.size w w' := by
  have kc := conv_one
  have hl := c.toNat_lt
  by_cases e10 : c = 10
  · subst e10
    obtain ⟨z, hz⟩ : ∃ z : Int, (((10 : UInt8).toNat : Nat) : Int) = z := ⟨_, rfl⟩
    rw [hz]
    obtain rfl : z = 10 := hz.symm
    go_enter Tryz.func96, Tryz.ntmps96
    go_wp2
    go_ret
    exact ⟨rfl, by go_grown⟩
  by_cases e13 : c = 13
  · subst e13
    obtain ⟨z, hz⟩ : ∃ z : Int, (((13 : UInt8).toNat : Nat) : Int) = z := ⟨_, rfl⟩
    rw [hz]
    obtain rfl : z = 13 := hz.symm
    go_enter Tryz.func96, Tryz.ntmps96
    go_wp2
    go_ret
    exact ⟨rfl, by go_grown⟩
  by_cases e9 : c = 9
  · subst e9
    obtain ⟨z, hz⟩ : ∃ z : Int, (((9 : UInt8).toNat : Nat) : Int) = z := ⟨_, rfl⟩
    rw [hz]
    obtain rfl : z = 9 := hz.symm
    go_enter Tryz.func96, Tryz.ntmps96
    go_wp2
    go_ret
    exact ⟨rfl, by go_grown⟩
  have z1 : ((c.toNat : Int) == 10) = false := ne_z e10
  have z2 : ((c.toNat : Int) == 13) = false := ne_z e13
  have z3 : ((c.toNat : Int) == 9) = false := ne_z e9
  rw [one_n e10 e13 e9]
  cases hp : plB c
  · rw [if_neg (by simp)]
    by_cases hh : c.toNat < 32 ∨ 126 < c.toNat
    · rw [if_pos hh]
      have c1 := fun W => rhex_c (c.toNat / 16) (by omega) W
      have c2 := fun W => rhex_c (c.toNat % 16) (by omega) W
      rw [show ((c.toNat / 16 : Nat) : Int) = (c.toNat : Int) / 16 from by omega] at c1
      rw [show ((c.toNat % 16 : Nat) : Int) = (c.toNat : Int) % 16 from by omega] at c2
      simp only [plB, Bool.or_eq_false_iff, beq_eq_false_iff_ne] at hp
      have z4 : ((c.toNat : Int) == 34) = false := ne_z hp.1.1
      have z5 : ((c.toNat : Int) == 92) = false := ne_z hp.1.2
      have z6 : ((c.toNat : Int) == 36) = false := ne_z hp.2
      go_enter Tryz.func96, Tryz.ntmps96
      go_wp2_with fail
      all_goals
        (with_reducible refine (c1 _).mono ?_)
        rintro e w1 ⟨rfl, hb1⟩
        go_wp2_with fail
        (with_reducible refine (c2 _).mono ?_)
        rintro e w2 ⟨rfl, hb2⟩
        go_wp2
        go_ret
        exact ⟨rfl, via (a := w) hb2 hb1⟩
    · rw [if_neg hh]
      have d1 : decide ((c.toNat : Int) < 32) = false := by simp; omega
      have d2 : decide (126 < (c.toNat : Int)) = false := by simp; omega
      simp only [plB, Bool.or_eq_false_iff, beq_eq_false_iff_ne] at hp
      have z4 : ((c.toNat : Int) == 34) = false := ne_z hp.1.1
      have z5 : ((c.toNat : Int) == 92) = false := ne_z hp.1.2
      have z6 : ((c.toNat : Int) == 36) = false := ne_z hp.2
      go_enter Tryz.func96, Tryz.ntmps96
      go_wp2_with (first | fail)
      go_ret
      refine ⟨ret_s ?_, by go_grown⟩
      first | rfl | (rw [back1]) | (rw [back1]; rfl)
  · rw [if_pos rfl]
    have hz := (pl_iff c).1 hp
    clear z1 z2 z3 hl hp e10 e13 e9
    rcases hz with rfl | rfl | rfl
    all_goals
      go_enter Tryz.func96, Tryz.ntmps96
      go_wp2
      go_ret
      exact ⟨rfl, by go_grown⟩
end
end QuoI
end Go.Proofs.YtchceoclkdofhaaGreatDoor
namespace Go.Proofs.YtchceoclkdofhaaGreatDoor
open Go.RowKit
namespace QuoE
set_option linter.unusedVariables false
set_option linter.unusedSimpArgs false
open QuoP QuoW QuoR QuoI
theorem ba_one (t : Bs) (c : UInt8) : ba t ++ ⟨#[c]⟩ = ba (t ++ [c]) := by
  apply bytes_ext
  rw [ba_list]; simp [ba]
theorem ba_nil : ba [] = ⟨#[]⟩ := rfl
/-- The loop. -/
def Lr (s : ByteArray) (w : World) (v tv iv : Value) (wr : World) : Prop := ∃ (o : List Pt) (t : Bs) (i : Nat), tv = .string (ba t) ∧ iv = .int .i64 i ∧ wr.ownsRow w.heap.size ET 2 v o.length (cells o) ∧ Below w.heap.size w wr ∧
  i ≤ s.size ∧ o.length ≤ 2 * i + 2 ∧ t.length ≤ i + 1 ∧ Hid (parse s.data.toList = run .text o t (s.data.toList.drop i))
theorem own_shape {w : World} {B : Nat} {n : Nat} {v : Value} {e : TypeId} {xs : List Value} {size : Nat} (h : w.ownsRow B e size v n xs) : ∃ a n c, v = .slice a n c := by
  rcases h.2 with ⟨rfl, _⟩ | ⟨g, cap, cur, rfl, _⟩ <;> exact ⟨_, _, _, rfl⟩
set_option maxHeartbeats 6400000 in
set_option maxRecDepth 100000 in
theorem rparse_c (s : ByteArray) (w : World) (hs : s.size ≤ 4294967296) :
    Calls Tryz.prog 45 #[.string s] w (PaPost s w) := by
  have ca0 := fun W => at_c s 0 W (by omega)
  rw [show ((0 : Nat) : Int) = 0 from rfl] at ca0
  by_cases e0 : atB s 0 = 34
  rotate_left
  · obtain ⟨z, hz⟩ : ∃ z : Int, ((atB s 0).toNat : Int) = z := ⟨_, rfl⟩
    rw [hz] at ca0
    have z0 : (z == 34) = false := by subst hz; rw [beq_eq_false_iff_ne]; intro h; exact e0 (UInt8.toNat_inj.1 (by show (atB s 0).toNat = 34; omega))
    have z1 : (z != 34) = true := by simp [bne, z0]
    go_enter Tryz.func45, Tryz.ntmps45
    go_wp2_with fail
    (with_reducible refine (ca0 _).mono ?_)
    rintro e w' ⟨rfl, rfl⟩
    go_wp2
    go_returns
    refine ⟨Below.refl _ _, Or.inr ⟨0, ?_, by omega, rfl⟩⟩
    rw [List.drop_zero, parse]
    refine run_stop _ _ _ _ fun c r e => ?_
    have := atB_no (x := 34) (by decide) e0 c r (by rw [List.drop_zero]; exact e)
    simp [QuoP.step, this]
  obtain ⟨hlt, hd⟩ := atB_yes (by decide) e0
  rw [e0, show (((34 : UInt8).toNat : Nat) : Int) = 34 from rfl] at ca0
  have HS : Hid (parse s.data.toList = run .text [] [] (s.data.toList.drop 1)) := Lib.hid (by
    rw [List.drop_zero] at hd
    rw [parse, hd, run_go _ (show QuoP.step .start [] [] 34 = .go .text [] [] from rfl)]; rfl)
  clear hd e0
  obtain ⟨i0, hi0, hz0, hz1, hz2⟩ := info_parts part_i
  go_enter Tryz.func45, Tryz.ntmps45
  go_wp2_with fail
  (with_reducible refine (ca0 _).mono ?_)
  rintro e w' ⟨rfl, rfl⟩
  go_wp2_with fail
  go_loopw [5, 6, 7] (fun v tv iv wr => Lr s w v tv iv wr) (fun _ _ iv _ => s.size - (intOf iv).toNat)
  case atStart => exact ⟨[], [], 1, rfl, rfl, World.ownsRow_nil _ _ _ _, Below.refl _ _, by omega, by simp, by simp, HS⟩
  case round =>
    clear HS ca0
    obtain ⟨o, t, i, rfl, rfl, hown, hB, hi, ho, ht, HR⟩ := hrel
    have hBz := hB.size
    by_cases hlt : i < s.size
    rotate_left
    · have en : Hid (s.data.toList.drop i = []) := Lib.hid (List.drop_eq_nil_of_le (by rw [← Lib.size_eq]; omega))
      go_wp2
      go_returns
      exact ⟨hB, Or.inr ⟨i, by rw [HR.out, en.out]; rfl, hi, rfl⟩⟩
    have hd := drop_cons s i hlt
    obtain ⟨c, hc⟩ : ∃ c, s[i]'hlt = c := ⟨_, rfl⟩
    rw [hc] at hd
    have hr := HR.out
    rw [hd] at hr
    have HR2 := Lib.hid hr
    have HD := Lib.hid hd
    clear hr hd HR
    have hcl := c.toNat_lt
    obtain ⟨bt, hbt⟩ : ∃ x, ba t = x := ⟨_, rfl⟩
    have hte := ba_empty t
    have hts : bt.size ≤ 4294967297 := by rw [← hbt, ba_size]; omega
    rw [hbt] at hte ⊢
    by_cases e34 : c = 34
    · subst e34
      cases h0 : t.isEmpty <;> rw [h0] at hte
      · have hn : t ≠ [] := by intro e; rw [e] at h0; cases h0
        have hfl : flush o t = o ++ [([], t)] := by rw [flush, if_neg hn]
        have hfn : (flush o t).length ≤ o.length + 1 := by rw [hfl]; simp
        go_wp2_with (at_builtin; refine wpList_append_lies _ rfl (.tmp 34) (.tmp 37) PT rfl w.heap.size ET i0 (.agg #[.string ⟨#[]⟩, .string ⟨#[]⟩]) 2 32 Tryz.underlying45 hi0 hz0 hz1 hz2 rfl (by decide) _ o.length (cells o) rfl (hown.alloc _) ⟨wr.heap.size, 0, none⟩ 1 1 [.string ⟨#[]⟩, .string bt] rfl rfl (World.news_of_block (heap_alloc_new wr _)) (by intro u hu; simp at hu; rcases hu with rfl | rfl <;> rfl) (by omega) (by unfold maxLen; omega) (by omega) (by simp; omega) _ rfl ?_)
        intro g cap w5 hown5 hgrow hat hlt5
        have hB5 : Below w.heap.size w w5 := (hB.alloc hBz _).grown hgrow (by simp; omega) (fun k hk => (hown.lt k hk).1)
        have hBz5 := hB5.size
        have hownF : w5.ownsRow w.heap.size ET 2 (.slice (some ⟨g, 0, none⟩) (o.length + 1) cap) (flush o t).length (cells (flush o t)) := by rw [hfl, cells_app, List.length_append, ← hbt] at *; exact hown5
        clear hfl hn
        go_wp2
        go_returns
        exact ⟨hB5, Or.inl ⟨flush o t, i + 1, _, by rw [HR2.out, run_fin _ (show QuoP.step .text o t 34 = .fin (flush o t) from rfl)], by omega, rfl, hownF⟩⟩
      · have hn : t = [] := List.isEmpty_iff.1 h0
        have hfl : flush o t = o := by rw [hn, flush_nil]
        have hfn : (flush o t).length ≤ o.length + 1 := by rw [hfl]; omega
        have hownF : wr.ownsRow w.heap.size ET 2 u5 (flush o t).length (cells (flush o t)) := by rw [hfl]; exact hown
        clear hfl hn
        have hB5 := hB
        have hBz5 := hBz
        go_wp2
        go_returns
        exact ⟨hB5, Or.inl ⟨flush o t, i + 1, _, by rw [HR2.out, run_fin _ (show QuoP.step .text o t 34 = .fin (flush o t) from rfl)], by omega, rfl, hownF⟩⟩
    by_cases e36 : c = 36
    · subst e36
      cases h0 : t.isEmpty <;> rw [h0] at hte
      · have hn : t ≠ [] := by intro e; rw [e] at h0; cases h0
        have hfl : flush o t = o ++ [([], t)] := by rw [flush, if_neg hn]
        have hfn : (flush o t).length ≤ o.length + 1 := by rw [hfl]; simp
        go_wp2_with (at_builtin; refine wpList_append_lies _ rfl (.tmp 34) (.tmp 37) PT rfl w.heap.size ET i0 (.agg #[.string ⟨#[]⟩, .string ⟨#[]⟩]) 2 32 Tryz.underlying45 hi0 hz0 hz1 hz2 rfl (by decide) _ o.length (cells o) rfl (hown.alloc _) ⟨wr.heap.size, 0, none⟩ 1 1 [.string ⟨#[]⟩, .string bt] rfl rfl (World.news_of_block (heap_alloc_new wr _)) (by intro u hu; simp at hu; rcases hu with rfl | rfl <;> rfl) (by omega) (by unfold maxLen; omega) (by omega) (by simp; omega) _ rfl ?_)
        intro g cap w5 hown5 hgrow hat hlt5
        have hB5 : Below w.heap.size w w5 := (hB.alloc hBz _).grown hgrow (by simp; omega) (fun k hk => (hown.lt k hk).1)
        have hBz5 := hB5.size
        have hownF : w5.ownsRow w.heap.size ET 2 (.slice (some ⟨g, 0, none⟩) (o.length + 1) cap) (flush o t).length (cells (flush o t)) := by rw [hfl, cells_app, List.length_append, ← hbt] at *; exact hown5
        clear hfl hn
        have cv := fun W => rvariable_c s (i + 1) W (by omega) (by omega)
        rw [show ((i + 1 : Nat) : Int) = (i : Int) + 1 from by omega] at cv
        have e2 : QuoP.step .text o t 36 = .go .dollar (flush o t) [] := rfl
        go_wp2_with fail
        (with_reducible refine (cv _).mono ?_)
        rintro e w6 ⟨hb6, nm, n, k, rfl, hV⟩
        have hB6 := via (a := w) hb6 hB5
        have hBz6 := hB6.size
        have hown6 : w6.ownsRow w.heap.size ET 2 _ (flush o t).length (cells (flush o t)) := own_keep hownF fun g c hg => (hb6.block g (Array.getElem?_eq_some_iff.1 hg).1).trans hg
        rcases hV with ⟨rfl, j, rfl, hj1, hj2, hq⟩ | ⟨m, rfl, hm1, hm2, hq⟩
        · go_wp2
          go_returns
          exact ⟨hB6, Or.inr ⟨j, by rw [HR2.out, run_go _ e2, hq], hj2, rfl⟩⟩
        · have HQ := Lib.hid hq
          clear hq
          have hmn : decide ((m : Int) < 0) = false := by rw [decide_eq_false_iff_not]; omega
          go_wp2_with (at_builtin; refine wpList_append_lies _ rfl (.tmp 57) (.tmp 60) PT rfl w.heap.size ET i0 (.agg #[.string ⟨#[]⟩, .string ⟨#[]⟩]) 2 32 Tryz.underlying45 hi0 hz0 hz1 hz2 rfl (by decide) _ (flush o t).length (cells (flush o t)) rfl (hown6.alloc _) ⟨w6.heap.size, 0, none⟩ 1 1 [.string nm, .string ⟨#[]⟩] rfl rfl (World.news_of_block (heap_alloc_new w6 _)) (by intro u hu; simp at hu; rcases hu with rfl | rfl <;> rfl) (by omega) (by unfold maxLen; omega) (by omega) (by simp; omega) _ rfl ?_)
          intro g7 cap7 w7 hown7 hgrow7 hat7 hlt7
          have hB7 : Below w.heap.size w w7 := (hB6.alloc hBz6 _).grown hgrow7 (by simp; omega) (fun k hk => (hown6.lt k hk).1)
          have hpc : cells [(nm.data.toList, [])] = [.string nm, .string ⟨#[]⟩] := (by rw [cells, List.flatMap_cons, pcells, ba_of]; rfl)
          go_wp2
          go_roundw
          case rel =>
            refine ⟨flush o t ++ [(nm.data.toList, [])], [], i + 1 + m, rfl, by go_num, by rw [cells_app, List.length_append, hpc]; exact hown7, hB7, hm2, by simp; omega, by simp, Lib.hid ?_⟩
            rw [HR2.out, run_go _ e2, HQ.out]
          case measure => simp [intOf]; omega
      · have hn : t = [] := List.isEmpty_iff.1 h0
        have hfl : flush o t = o := by rw [hn, flush_nil]
        have hfn : (flush o t).length ≤ o.length + 1 := by rw [hfl]; omega
        have hownF : wr.ownsRow w.heap.size ET 2 u5 (flush o t).length (cells (flush o t)) := by rw [hfl]; exact hown
        clear hfl hn
        have hB5 := hB
        have hBz5 := hBz
        have cv := fun W => rvariable_c s (i + 1) W (by omega) (by omega)
        rw [show ((i + 1 : Nat) : Int) = (i : Int) + 1 from by omega] at cv
        have e2 : QuoP.step .text o t 36 = .go .dollar (flush o t) [] := rfl
        go_wp2_with fail
        (with_reducible refine (cv _).mono ?_)
        rintro e w6 ⟨hb6, nm, n, k, rfl, hV⟩
        have hB6 := via (a := w) hb6 hB5
        have hBz6 := hB6.size
        have hown6 : w6.ownsRow w.heap.size ET 2 _ (flush o t).length (cells (flush o t)) := own_keep hownF fun g c hg => (hb6.block g (Array.getElem?_eq_some_iff.1 hg).1).trans hg
        rcases hV with ⟨rfl, j, rfl, hj1, hj2, hq⟩ | ⟨m, rfl, hm1, hm2, hq⟩
        · go_wp2
          go_returns
          exact ⟨hB6, Or.inr ⟨j, by rw [HR2.out, run_go _ e2, hq], hj2, rfl⟩⟩
        · have HQ := Lib.hid hq
          clear hq
          have hmn : decide ((m : Int) < 0) = false := by rw [decide_eq_false_iff_not]; omega
          go_wp2_with (at_builtin; refine wpList_append_lies _ rfl (.tmp 57) (.tmp 60) PT rfl w.heap.size ET i0 (.agg #[.string ⟨#[]⟩, .string ⟨#[]⟩]) 2 32 Tryz.underlying45 hi0 hz0 hz1 hz2 rfl (by decide) _ (flush o t).length (cells (flush o t)) rfl (hown6.alloc _) ⟨w6.heap.size, 0, none⟩ 1 1 [.string nm, .string ⟨#[]⟩] rfl rfl (World.news_of_block (heap_alloc_new w6 _)) (by intro u hu; simp at hu; rcases hu with rfl | rfl <;> rfl) (by omega) (by unfold maxLen; omega) (by omega) (by simp; omega) _ rfl ?_)
          intro g7 cap7 w7 hown7 hgrow7 hat7 hlt7
          have hB7 : Below w.heap.size w w7 := (hB6.alloc hBz6 _).grown hgrow7 (by simp; omega) (fun k hk => (hown6.lt k hk).1)
          have hpc : cells [(nm.data.toList, [])] = [.string nm, .string ⟨#[]⟩] := (by rw [cells, List.flatMap_cons, pcells, ba_of]; rfl)
          go_wp2
          go_roundw
          case rel =>
            refine ⟨flush o t ++ [(nm.data.toList, [])], [], i + 1 + m, rfl, by go_num, by rw [cells_app, List.length_append, hpc]; exact hown7, hB7, hm2, by simp; omega, by simp, Lib.hid ?_⟩
            rw [HR2.out, run_go _ e2, HQ.out]
          case measure => simp [intOf]; omega
    have z34 : ((c.toNat : Int) == 34) = false := ne_z e34
    have z36 : ((c.toNat : Int) == 36) = false := ne_z e36
    have kc := conv_one
    by_cases e92 : c = 92
    · subst e92
      have cv := fun W => rescape_c s (i + 1) W (by omega) (by omega)
      rw [show ((i + 1 : Nat) : Int) = (i : Int) + 1 from by omega] at cv
      have e2 : QuoP.step .text o t 92 = .go .esc o t := rfl
      go_wp2_with fail
      (with_reducible refine (cv _).mono ?_)
      rintro e w6 ⟨hb6, d, n, k, rfl, hV⟩
      have hB6 := via (a := w) hb6 hB
      have hBz6 := hB6.size
      rcases hV with ⟨rfl, j, rfl, hj1, hj2, hq⟩ | ⟨m, rfl, hm1, hm2, hq⟩
      · go_wp2
        go_returns
        exact ⟨hB6, Or.inr ⟨j, by rw [HR2.out, run_go _ e2, hq], hj2, rfl⟩⟩
      · have HQ := Lib.hid hq
        clear hq
        have hmn : decide ((m : Int) < 0) = false := by rw [decide_eq_false_iff_not]; omega
        go_wp2
        go_roundw
        case rel =>
          refine ⟨o, t ++ [d], i + 1 + m, ?_, by go_num, own_keep hown fun g c hg => ((hb6.alloc hb6.size _).block g (Array.getElem?_eq_some_iff.1 hg).1).trans hg, hB6.alloc hBz6 _, hm2, by omega, by simp; omega, Lib.hid ?_⟩
          · rw [← hbt]; exact congrArg Value.string (ba_one t d)
          · rw [HR2.out, run_go _ e2, HQ.out]
        case measure => simp [intOf]; omega
    have z92 : ((c.toNat : Int) == 92) = false := ne_z e92
    cases hx : textB c
    · have e2 : QuoP.step .text o t c = .no := by simp [QuoP.step, hx]
      have hx2 : c.toNat < 32 ∨ 126 < c.toNat := by simp [textB] at hx; omega
      by_cases l1 : c.toNat < 32
      · have d1 : decide ((c.toNat : Int) < 32) = true := by simp; omega
        go_wp2
        go_returns
        exact ⟨hB, Or.inr ⟨i, by rw [HR2.out, HD.out, run_no _ e2], hi, rfl⟩⟩
      · have d1 : decide ((c.toNat : Int) < 32) = false := by simp; omega
        have d2 : decide (126 < (c.toNat : Int)) = true := by simp; omega
        go_wp2
        go_returns
        exact ⟨hB, Or.inr ⟨i, by rw [HR2.out, HD.out, run_no _ e2], hi, rfl⟩⟩
    · have e2 : QuoP.step .text o t c = .go .text o (t ++ [c]) := by simp [QuoP.step, hx, e34, e36, e92]
      have hx2 : 32 ≤ c.toNat ∧ c.toNat ≤ 126 := by simpa [textB] using hx
      have d1 : decide ((c.toNat : Int) < 32) = false := by simp; omega
      have d2 : decide (126 < (c.toNat : Int)) = false := by simp; omega
      go_wp2
      go_roundw
      case rel =>
        refine ⟨o, t ++ [c], i + 1, ?_, by go_num, hown.alloc _, hB.alloc hBz _, by omega, by omega, by simp; omega, Lib.hid ?_⟩
        · rw [← hbt]; exact congrArg Value.string (ba_one t c)
        · rw [HR2.out, run_go _ e2]
      case measure => simp [intOf]; omega
end QuoE
end Go.Proofs.YtchceoclkdofhaaGreatDoor
