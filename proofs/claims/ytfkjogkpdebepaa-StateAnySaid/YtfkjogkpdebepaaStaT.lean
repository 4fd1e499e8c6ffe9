/- The walks of state's reader.many and reader.text. Conditions: texts that fit. -/
import Derived.Test.YtfkjogkpdebepaaStaN
namespace Go.Proofs.Ytfkjogkpdebepaa
open Go.RowKit
namespace StaN
open StaP StaR
theorem Run.inv {α : Type} {p : Pr α} {s : ByteArray} {i e i' : Nat} {g : α → Prop} (h : Run p (ab s i e) (ab s i' 0) g) : e = 0 ∧ ∃ x, p (s.data.toList.drop i) = .ok (x, s.data.toList.drop i') ∧ g x := by
  by_cases he : e = 0
  · subst he
    refine ⟨rfl, ?_⟩
    rw [ab_ok, ab_ok] at h
    simp only [Run] at h
    cases hp : p (s.data.toList.drop i) with
    | error er => rw [hp] at h; cases h
    | ok v => obtain ⟨x, r⟩ := v; rw [hp] at h; simp only at h; injection h.1 with h1; rw [h1]; exact ⟨x, rfl, h.2⟩
  · rw [ab_bad _ _ he, ab_ok] at h; cases h
theorem many_bad {a : St} {er : Er} {g : Int → Prop} {g' : Nat → Prop} {lo hi : Int} (h : Run numP a (.error er) g) : Run (manyP lo hi) a (.error er) g' := by
  cases a with
  | error e => exact h
  | ok l =>
    simp only [Run] at h ⊢
    rw [manyP]
    cases hp : numP l with
    | error e => rw [hp] at h; exact h
    | ok v => obtain ⟨x, r⟩ := v; rw [hp] at h; cases h.1
theorem text_bad {a : St} {er : Er} {g : Nat → Prop} {g' : Bs → Prop} (h : Run (manyP 0 65536) a (.error er) g) : Run textP a (.error er) g' := by
  cases a with
  | error e => exact h
  | ok l =>
    simp only [Run] at h ⊢
    rw [textP]
    cases hp : manyP 0 65536 l with
    | error e => rw [hp] at h; exact h
    | ok v => obtain ⟨x, r⟩ := v; rw [hp] at h; cases h.1
/-- What 'many' answers. -/
def MPost (lo hi : Int) (s : ByteArray) (R i e : Nat) (w : World) (x : Ending) (w' : World) : Prop :=
  ∃ (n i' e' : Nat), x = .returned (.int .i64 n) ∧ ((n : Int) ≤ hi ∨ n = 0) ∧ Rdr w' R s i' e' ∧ i' ≤ s.size ∧ Tch (On R) w w' ∧ (e' ≠ 0 → n = 0) ∧ Run (manyP lo hi) (ab s i e) (ab s i' e') (fun m => m = n)
set_option maxHeartbeats 3200000 in
set_option maxRecDepth 100000 in
theorem many_c (R : Nat) (s : ByteArray) (i e : Nat) (lo hi : Int) (hlo : 0 ≤ lo) (w : World) (h : Rdr w R s i e) (his : i ≤ s.size) (hs : s.size ≤ 4611686018427387904) :
    Calls Try.prog 36 #[.pointer (some ⟨R, 0, none⟩), .int .i64 lo, .int .i64 hi] w (MPost lo hi s R i e w) := by
  have cn := num_c R s i e w h his hs
  have k1 := h.cell 1
  simp only [List.getElem?_toArray, List.getElem?_cons_zero, List.getElem?_cons_succ] at k1
  go_enter Try.func36, Try.ntmps36
  go_wp2_with fail
  (with_reducible refine cn.mono ?_)
  rintro x w1 ⟨n, i1, e1, rfl, hn, h1, hi1, t1, hrun⟩
  clear k1
  have k2 := h1.cell 2
  simp only [List.getElem?_toArray, List.getElem?_cons_zero, List.getElem?_cons_succ] at k2
  by_cases he : e1 = 0
  · subst he
    obtain ⟨rfl, n', hp, rfl⟩ := hrun.inv
    have d : (((0 : Nat) : Int) != 0) = false := by simp
    by_cases hl : n' < lo
    · have dl : decide (n' < lo) = true := by simpa using hl
      have cf := fail_yes R s i1 i 1 w1 h1
      go_wp2_with fail
      (with_reducible refine cf.mono ?_)
      rintro x w2 ⟨rfl, h2, t2⟩
      go_wp2
      go_ret
      refine ⟨0, i, 1, rfl, Or.inr rfl, h2, his, t1.trans t2, fun _ => rfl, ?_⟩
      rw [ab_ok, ab_bad s i (e := 1) (by omega)]
      exact Run.err (by rw [manyP, hp]; simp only; rw [if_pos hl])
    · have dl : decide (n' < lo) = false := by simpa using hl
      by_cases hh : hi < n'
      · have dh : decide (hi < n') = true := by simpa using hh
        have cf := fail_yes R s i1 i 2 w1 h1
        go_wp2_with fail
        (with_reducible refine cf.mono ?_)
        rintro x w2 ⟨rfl, h2, t2⟩
        go_wp2
        go_ret
        refine ⟨0, i, 2, rfl, Or.inr rfl, h2, his, t1.trans t2, fun _ => rfl, ?_⟩
        rw [ab_ok, ab_bad s i (e := 2) (by omega)]
        exact Run.err (by rw [manyP, hp]; simp only; rw [if_neg (by omega), if_pos hh])
      · have dh : decide (hi < n') = false := by simpa using hh
        go_wp2
        go_ret
        refine ⟨n'.toNat, i1, 0, ret_i64 (by omega), Or.inl (by omega), h1, hi1, t1, fun h => absurd rfl h, ?_⟩
        rw [ab_ok, ab_ok]
        exact Run.go (x := n'.toNat) (by rw [manyP, hp]; simp only; rw [if_neg (by omega), if_neg (by omega)]) rfl
  · have d : ((e1 : Int) != 0) = true := by rw [bne_iff_ne]; omega
    go_wp2
    go_ret
    refine ⟨0, i1, e1, rfl, Or.inr rfl, h1, hi1, t1, fun _ => rfl, ?_⟩
    rw [ab_bad s i1 he] at hrun ⊢
    exact many_bad hrun
/-- What 'text' answers. -/
def XPost (s : ByteArray) (R i e : Nat) (w : World) (x : Ending) (w' : World) : Prop :=
  ∃ (t : ByteArray) (i' e' : Nat), x = .returned (.string t) ∧ t.size ≤ 65536 ∧ Rdr w' R s i' e' ∧ i' ≤ s.size ∧ Tch (On R) w w' ∧ Run textP (ab s i e) (ab s i' e') (fun m => m = t.data.toList)
set_option maxHeartbeats 3200000 in
set_option maxRecDepth 100000 in
theorem text_c (R : Nat) (s : ByteArray) (i e : Nat) (w : World) (h : Rdr w R s i e) (his : i ≤ s.size) (hs : s.size ≤ 4611686018427387904) :
    Calls Try.prog 17 #[.pointer (some ⟨R, 0, none⟩)] w (XPost s R i e w) := by
  have cn := many_c R s i e 0 65536 (by omega) w h his hs
  go_enter Try.func17, Try.ntmps17
  go_wp2_with fail
  (with_reducible refine cn.mono ?_)
  rintro x w1 ⟨n, i1, e1, rfl, hn, h1, hi1, t1, hz, hrun⟩
  have hn : n ≤ 65536 := by omega
  have k0 := h1.cell 0
  have k1 := h1.cell 1
  simp only [List.getElem?_toArray, List.getElem?_cons_zero, List.getElem?_cons_succ] at k0 k1
  by_cases hl : s.size - i1 < n
  · have he : e1 = 0 := by
      by_cases he : e1 = 0
      · exact he
      · have := hz he; omega
    subst he
    obtain ⟨rfl, n', hp, rfl⟩ := hrun.inv
    have dl : decide ((s.size : Int) - (i1 : Int) < (n' : Int)) = true := by simp; omega
    go_wp2_with fail
    go_quiet (fail)
    generalize hq : w1.drewN nq = wq
    have hB : Rdr wq R s i1 0 := by subst hq; exact h1.drewN nq
    have tB : Tch (On R) w wq := by subst hq; exact t1.drewN nq
    clear hq k0 k1
    have k0 := hB.cell 0
    simp only [List.getElem?_toArray, List.getElem?_cons_zero] at k0
    have cf := fail_yes R s i1 s.size 1 wq hB
    go_wp2_with fail
    (with_reducible refine cf.mono ?_)
    rintro x w2 ⟨rfl, h2, t2⟩
    clear k0
    have k2 := h2.cell 2
    simp only [List.getElem?_toArray, List.getElem?_cons_zero, List.getElem?_cons_succ] at k2
    go_wp2
    go_ret
    refine ⟨⟨#[]⟩, s.size, 1, rfl, by decide, h2, Nat.le_refl _, tB.trans t2, ?_⟩
    rw [ab_ok, ab_bad s s.size (e := 1) (by omega), List.drop_eq_nil_of_le (by rw [← Lib.size_eq]; omega) (i := s.size)]
    exact Run.err (by rw [textP, hp]; simp only; rw [if_pos (by rw [List.length_drop, ← Lib.size_eq]; omega)])
  · have dl : decide ((s.size : Int) - (i1 : Int) < (n : Int)) = false := by simp; omega
    go_wp2_with fail
    go_quiet (fail)
    generalize hq : w1.drewN nq = wq
    have hB : Rdr wq R s i1 e1 := by subst hq; exact h1.drewN nq
    have tB : Tch (On R) w wq := by subst hq; exact t1.drewN nq
    clear hq k0 k1
    have k0 := hB.cell 0
    have k1 := hB.cell 1
    have k2 := hB.cell 2
    simp only [List.getElem?_toArray, List.getElem?_cons_zero, List.getElem?_cons_succ] at k0 k1 k2
    by_cases he : e1 = 0
    · subst he
      have d : (((0 : Nat) : Int) != 0) = false := by simp
      have l1 := hB.loose 1
      obtain ⟨rfl, n', hp, rfl⟩ := hrun.inv
      go_wp2_with fail
      have hC : Rdr (wq.setCell ⟨R, 1, none⟩ (.int .i64 ((i1 : Int) + n'))) R s (i1 + n') 0 := hB.set_ 1 _
      have tC := Tch.setCell (S := On R) tB (p := ⟨R, 1, none⟩) rfl (.int .i64 ((i1 : Int) + n'))
      generalize wq.setCell ⟨R, 1, none⟩ (.int .i64 ((i1 : Int) + n')) = wz at *
      clear k0 k1 k2 l1
      have k0 := hC.cell 0
      have k1 := hC.cell 1
      simp only [List.getElem?_toArray, List.getElem?_cons_zero, List.getElem?_cons_succ] at k0 k1
      rw [show ((i1 + n' : Nat) : Int) = (i1 : Int) + n' from by omega] at k1
      go_quiet (fail)
      go_wp2
      go_ret
      refine ⟨s.extract i1 (i1 + n'), i1 + n', 0, rfl, by rw [ByteArray.size_extract]; omega, hC.drewN _, by omega, tC.drewN _, ?_⟩
      rw [ab_ok, ab_ok]
      refine Run.go (x := (s.data.toList.drop i1).take n') ?_ (by rw [Lib.extract_data]; congr 1; omega)
      rw [textP, hp]; simp only
      rw [if_neg (by rw [List.length_drop, ← Lib.size_eq]; omega), List.drop_drop]
    · have d : ((e1 : Int) != 0) = true := by rw [bne_iff_ne]; omega
      go_wp2
      go_ret
      refine ⟨⟨#[]⟩, i1, e1, rfl, by decide, hB, hi1, tB, ?_⟩
      rw [ab_bad s i1 he] at hrun ⊢
      exact text_bad hrun
end StaN
end Go.Proofs.Ytfkjogkpdebepaa
