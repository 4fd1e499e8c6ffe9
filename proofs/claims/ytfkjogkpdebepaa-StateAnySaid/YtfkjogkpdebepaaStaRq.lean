/- The walks of the reference's reader: fail, a byte. Conditions: texts that fit. -/
import Derived.Test.YtfkjogkpdebepaaStaT
namespace Go.Proofs.Ytfkjogkpdebepaa
open Go.RowKit
namespace StaRq
open StaP StaR StaN
abbrev QT : TypeId := 63
abbrev Rdq (w : World) (R : Nat) (s : ByteArray) (i : Nat) (e : Int) : Prop := Blk w R QT #[.string s, .int .i64 i, .int .i64 e]
set_option maxHeartbeats 400000 in
theorem fail_no (R : Nat) (s : ByteArray) (i j : Nat) (e k : Int) (w : World) (h : Rdq w R s i e) (he : e ≠ 0) :
    Calls Try.prog 27 #[.pointer (some ⟨R, 0, none⟩), .int .i64 (j : Nat), .int .i64 k] w fun x w' => x = .returned (.tuple #[]) ∧ w = w' := by
  have k2 := h.cell 2
  simp only [List.getElem?_toArray, List.getElem?_cons_zero, List.getElem?_cons_succ] at k2
  have d : (e == 0) = false := by rw [beq_eq_false_iff_ne]; exact he
  go_enter Try.func27, Try.ntmps27
  go_wp2
  go_end0
  exact ⟨rfl, rfl⟩
set_option maxHeartbeats 400000 in
theorem fail_yes (R : Nat) (s : ByteArray) (i j : Nat) (k : Int) (w : World) (h : Rdq w R s i 0) :
    Calls Try.prog 27 #[.pointer (some ⟨R, 0, none⟩), .int .i64 (j : Nat), .int .i64 k] w fun x w' => x = .returned (.tuple #[]) ∧ Rdq w' R s j k ∧ Tch (On R) w w' := by
  have k1 := h.cell 1
  have k2 := h.cell 2
  have l1 := h.loose 1
  have l2 := h.loose 2
  simp only [List.getElem?_toArray, List.getElem?_cons_zero, List.getElem?_cons_succ] at k1 k2
  go_enter Try.func27, Try.ntmps27
  go_wp2
  go_end0
  exact ⟨rfl, (h.set_ 2 (.int .i64 k)).set_ 1 (.int .i64 j), Tch.setCell (S := On R) (Tch.setCell (S := On R) (Tch.refl _ w) (p := ⟨R, 2, none⟩) rfl _) (p := ⟨R, 1, none⟩) rfl _⟩
/-- What 'next' answers. -/
def QNx (s : ByteArray) (i : Nat) (e : Int) (c : UInt8) (i' : Nat) (e' : Int) : Prop :=
  (e ≠ 0 ∧ c = 0 ∧ i' = i ∧ e' = e) ∨ (e = 0 ∧ c = 0 ∧ i' = i ∧ e' = 1 ∧ s.data.toList.drop i = []) ∨
  (e = 0 ∧ e' = 0 ∧ i' = i + 1 ∧ s.data.toList.drop i = c :: s.data.toList.drop (i + 1) ∧ i < s.size)
def QNPost (s : ByteArray) (R i : Nat) (e : Int) (w : World) (x : Ending) (w' : World) : Prop :=
  ∃ c i' e', x = .returned (.int .i64 (c.toNat : Nat)) ∧ Rdq w' R s i' e' ∧ Tch (On R) w w' ∧ QNx s i e c i' e'
set_option maxHeartbeats 1600000 in
theorem next_c (R : Nat) (s : ByteArray) (i : Nat) (e : Int) (w : World) (h : Rdq w R s i e) (his : i ≤ s.size) (hs : s.size ≤ 4611686018427387904) :
    Calls Try.prog 39 #[.pointer (some ⟨R, 0, none⟩)] w (QNPost s R i e w) := by
  have k0 := h.cell 0
  have k1 := h.cell 1
  have k2 := h.cell 2
  simp only [List.getElem?_toArray, List.getElem?_cons_zero, List.getElem?_cons_succ] at k0 k1 k2
  by_cases he : e = 0
  rotate_left
  · have d2 : (e != 0) = true := by rw [bne_iff_ne]; exact he
    go_enter Try.func39, Try.ntmps39
    go_wp2
    go_ret
    exact ⟨0, i, e, rfl, h, Tch.refl _ _, Or.inl ⟨he, rfl, rfl, rfl⟩⟩
  subst he
  by_cases hlt : i < s.size
  · have hd := drop_cons s i hlt
    have hg : decide (s.size ≤ i) = false := by simp; omega
    obtain ⟨x, hx⟩ : ∃ x, s[i]'hlt = x := ⟨_, rfl⟩
    rw [hx] at hd
    have HD := Lib.hid hd
    clear hd
    go_enter Try.func39, Try.ntmps39
    go_wp2_with fail
    go_quiet (fail)
    generalize hq : w.drewN nq = wq
    have hB : Rdq wq R s i 0 := by subst hq; exact h.drewN nq
    have tB : Tch (On R) w wq := by subst hq; exact (Tch.refl _ w).drewN nq
    clear hq k0 k1 k2
    have k1 := hB.cell 1
    have l1 := hB.loose 1
    simp only [List.getElem?_toArray, List.getElem?_cons_zero, List.getElem?_cons_succ] at k1
    go_wp2
    have hC : Rdq (wq.setCell ⟨R, 1, none⟩ (.int .i64 ((i : Int) + 1))) R s (i + 1) 0 := hB.set_ 1 _
    have tC := Tch.setCell (S := On R) tB (p := ⟨R, 1, none⟩) rfl (.int .i64 ((i : Int) + 1))
    generalize wq.setCell ⟨R, 1, none⟩ (.int .i64 ((i : Int) + 1)) = wz at *
    clear k1 l1
    have k0 := hC.cell 0
    have k1 := hC.cell 1
    simp only [List.getElem?_toArray, List.getElem?_cons_zero, List.getElem?_cons_succ] at k0 k1
    rw [show ((i + 1 : Nat) : Int) = (i : Int) + 1 from by omega] at k1
    go_quiet (fail)
    go_wp2
    go_ret
    exact ⟨x, i + 1, 0, ret_i64 (by have := x.toNat_lt; unfold wrap64; omega), hC.drewN _, tC.drewN _, Or.inr (Or.inr ⟨rfl, rfl, rfl, HD.out, hlt⟩)⟩
  · have hg : decide (s.size ≤ i) = true := by simp; omega
    go_enter Try.func39, Try.ntmps39
    go_wp2_with fail
    go_quiet (fail)
    generalize hq : w.drewN nq = wq
    have hB : Rdq wq R s i 0 := by subst hq; exact h.drewN nq
    have tB : Tch (On R) w wq := by subst hq; exact (Tch.refl _ w).drewN nq
    clear hq k0 k1 k2
    have k1 := hB.cell 1
    simp only [List.getElem?_toArray, List.getElem?_cons_zero, List.getElem?_cons_succ] at k1
    have cf := fail_yes R s i i 1 wq hB
    go_wp2_with fail
    (with_reducible refine cf.mono ?_)
    rintro e w1 ⟨rfl, h1, t1⟩
    go_wp2
    go_ret
    exact ⟨0, i, 1, rfl, h1, tB.trans t1, Or.inr (Or.inl ⟨rfl, rfl, rfl, rfl, List.drop_eq_nil_of_le (by rw [← Lib.size_eq]; omega)⟩)⟩
end StaRq
end Go.Proofs.Ytfkjogkpdebepaa
