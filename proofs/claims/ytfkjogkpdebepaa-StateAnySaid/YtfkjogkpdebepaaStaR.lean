/- The walks of state's reader: fail, a byte. Conditions: texts that fit. -/
import Derived.Test.YtfkjogkpdebepaaStaF
namespace Go.Proofs.Ytfkjogkpdebepaa
open Go.RowKit
namespace StaR
open StaP
theorem drop_cons (s : ByteArray) (i : Nat) (h : i < s.size) : s.data.toList.drop i = (s[i]'h) :: s.data.toList.drop (i + 1) := by
  rw [List.drop_eq_getElem_cons (by simpa using h)]; rfl
abbrev RT : TypeId := 51
abbrev Rdr (w : World) (R : Nat) (s : ByteArray) (i : Nat) (e : Int) : Prop := Blk w R RT #[.string s, .int .i64 i, .int .i64 e]
abbrev On (R : Nat) : Nat → Prop := fun k => k = R
set_option maxHeartbeats 400000 in
theorem fail_no (R : Nat) (s : ByteArray) (i j : Nat) (e k : Int) (w : World) (h : Rdr w R s i e) (he : e ≠ 0) :
    Calls Try.prog 21 #[.pointer (some ⟨R, 0, none⟩), .int .i64 (j : Nat), .int .i64 k] w fun x w' => x = .returned (.tuple #[]) ∧ w = w' := by
  have k2 := h.cell 2
  simp only [List.getElem?_toArray, List.getElem?_cons_zero, List.getElem?_cons_succ] at k2
  have d : (e == 0) = false := by rw [beq_eq_false_iff_ne]; exact he
  go_enter Try.func21, Try.ntmps21
  go_wp2
  go_end0
  exact ⟨rfl, rfl⟩
set_option maxHeartbeats 400000 in
theorem fail_yes (R : Nat) (s : ByteArray) (i j : Nat) (k : Int) (w : World) (h : Rdr w R s i 0) :
    Calls Try.prog 21 #[.pointer (some ⟨R, 0, none⟩), .int .i64 (j : Nat), .int .i64 k] w fun x w' => x = .returned (.tuple #[]) ∧ Rdr w' R s j k ∧ Tch (On R) w w' := by
  have k1 := h.cell 1
  have k2 := h.cell 2
  have l1 := h.loose 1
  have l2 := h.loose 2
  simp only [List.getElem?_toArray, List.getElem?_cons_zero, List.getElem?_cons_succ] at k1 k2
  go_enter Try.func21, Try.ntmps21
  go_wp2
  go_end0
  exact ⟨rfl, (h.set_ 1 (.int .i64 j)).set_ 2 (.int .i64 k), Tch.setCell (S := On R) (Tch.setCell (S := On R) (Tch.refl _ w) (p := ⟨R, 1, none⟩) rfl _) (p := ⟨R, 2, none⟩) rfl _⟩
/-- What 'next' answers. -/
def SNx (hi : Nat) (s : ByteArray) (i : Nat) (e : Int) (c : UInt8) (i' : Nat) (e' : Int) : Prop :=
  (e ≠ 0 ∧ c = 0 ∧ i' = i ∧ e' = e) ∨ (e = 0 ∧ c = 0 ∧ i' = i ∧ e' = 1 ∧ ∀ c r, s.data.toList.drop i = c :: r → hi < c.toNat) ∨
  (e = 0 ∧ e' = 0 ∧ i' = i + 1 ∧ s.data.toList.drop i = c :: s.data.toList.drop (i + 1) ∧ c.toNat ≤ hi ∧ i < s.size)
def SNPost (hi : Nat) (s : ByteArray) (R i : Nat) (e : Int) (w : World) (x : Ending) (w' : World) : Prop :=
  ∃ c i' e', x = .returned (.int .u8 c.toNat) ∧ Rdr w' R s i' e' ∧ Tch (On R) w w' ∧ SNx hi s i e c i' e'
set_option maxHeartbeats 1600000 in
theorem next_c (R : Nat) (s : ByteArray) (i : Nat) (e : Int) (hi : Nat) (w : World) (h : Rdr w R s i e) (his : i ≤ s.size) (hs : s.size ≤ 4611686018427387904) (_hhi : hi ≤ 255) :
    Calls Try.prog 35 #[.pointer (some ⟨R, 0, none⟩), .int .u8 (hi : Nat)] w (SNPost hi s R i e w) := by
  have k0 := h.cell 0
  have k1 := h.cell 1
  have k2 := h.cell 2
  simp only [List.getElem?_toArray, List.getElem?_cons_zero, List.getElem?_cons_succ] at k0 k1 k2
  by_cases he : e = 0
  rotate_left
  · have d : (e == 0) = false := by rw [beq_eq_false_iff_ne]; exact he
    have d2 : (e != 0) = true := by rw [bne_iff_ne]; exact he
    go_enter Try.func35, Try.ntmps35
    go_wp2
    go_ret
    exact ⟨0, i, e, rfl, h, Tch.refl _ _, Or.inl ⟨he, rfl, rfl, rfl⟩⟩
  subst he
  by_cases hlt : i < s.size
  · have hd := drop_cons s i hlt
    have hg : decide (s.size ≤ i) = false := by simp; omega
    obtain ⟨x, hx⟩ : ∃ x, s[i]'hlt = x := ⟨_, rfl⟩
    rw [hx] at hd
    have HD := Lib.hid hd
    clear hd
    by_cases hp : hi < x.toNat
    · have hp2 : decide ((hi : Int) < (x.toNat : Int)) = true := by simp; omega
      go_enter Try.func35, Try.ntmps35
      go_wp2_with fail
      go_quiet (fail)
      generalize hq : w.drewN nq = wq
      have hB : Rdr wq R s i 0 := by subst hq; exact h.drewN nq
      have tB : Tch (On R) w wq := by subst hq; exact (Tch.refl _ w).drewN nq
      clear hq k0 k1 k2
      have k1 := hB.cell 1
      simp only [List.getElem?_toArray, List.getElem?_cons_zero, List.getElem?_cons_succ] at k1
      have cf := fail_yes R s i i 1 wq hB
      go_wp2_with fail
      (with_reducible refine cf.mono ?_)
      rintro e w1 ⟨rfl, h1, t1⟩
      go_wp2
      go_ret
      exact ⟨0, i, 1, rfl, h1, tB.trans t1, Or.inr (Or.inl ⟨rfl, rfl, rfl, rfl, fun c r e => by rw [HD.out] at e; injection e with e1 e2; subst e1; exact hp⟩)⟩
    · have hp2 : decide ((hi : Int) < (x.toNat : Int)) = false := by simp; omega
      go_enter Try.func35, Try.ntmps35
      go_wp2_with fail
      go_quiet (fail)
      generalize hq : w.drewN nq = wq
      have hB : Rdr wq R s i 0 := by subst hq; exact h.drewN nq
      have tB : Tch (On R) w wq := by subst hq; exact (Tch.refl _ w).drewN nq
      clear hq k0 k1 k2
      have k1 := hB.cell 1
      have l1 := hB.loose 1
      simp only [List.getElem?_toArray, List.getElem?_cons_zero, List.getElem?_cons_succ] at k1
      go_wp2
      have hC : Rdr (wq.setCell ⟨R, 1, none⟩ (.int .i64 ((i : Int) + 1))) R s (i + 1) 0 := hB.set_ 1 _
      have tC := Tch.setCell (S := On R) tB (p := ⟨R, 1, none⟩) rfl (.int .i64 ((i : Int) + 1))
      generalize wq.setCell ⟨R, 1, none⟩ (.int .i64 ((i : Int) + 1)) = wz at *
      clear k1 l1
      have k0 := hC.cell 0
      have k1 := hC.cell 1
      simp only [List.getElem?_toArray, List.getElem?_cons_zero, List.getElem?_cons_succ] at k0 k1
      rw [show ((i + 1 : Nat) : Int) = (i : Int) + 1 from by omega] at k1
      go_quiet (fail)
      go_wp2
      go_ret
      exact ⟨x, i + 1, 0, rfl, hC.drewN _, tC.drewN _, Or.inr (Or.inr ⟨rfl, rfl, rfl, HD.out, by omega, hlt⟩)⟩
  · have hg : decide (s.size ≤ i) = true := by simp; omega
    go_enter Try.func35, Try.ntmps35
    go_wp2_with fail
    go_quiet (fail)
    generalize hq : w.drewN nq = wq
    have hB : Rdr wq R s i 0 := by subst hq; exact h.drewN nq
    have tB : Tch (On R) w wq := by subst hq; exact (Tch.refl _ w).drewN nq
    clear hq k0 k1 k2
    have k1 := hB.cell 1
    simp only [List.getElem?_toArray, List.getElem?_cons_zero, List.getElem?_cons_succ] at k1
    have cf := fail_yes R s i i 1 wq hB
    go_wp2_with fail
    (with_reducible refine cf.mono ?_)
    rintro e w1 ⟨rfl, h1, t1⟩
    go_wp2
    go_ret
    exact ⟨0, i, 1, rfl, h1, tB.trans t1, Or.inr (Or.inl ⟨rfl, rfl, rfl, rfl, fun c r e => by rw [List.drop_eq_nil_of_le (by rw [← Lib.size_eq]; omega)] at e; cases e⟩)⟩
end StaR
end Go.Proofs.Ytfkjogkpdebepaa
