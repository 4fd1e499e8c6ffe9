/- The walks of quote's reader. Conditions: texts that fit. -/
import Derived.Test.YtmhhmdnikopdlaaQuoW
import Derived.Test.YtmhhmdnikopdlaaQuoB
import Derived.Test.YtmhhmdnikopdlaaShelf
namespace Go.Proofs.Ytmhhmdnikopdlaa
open Go.RowKit
namespace QuoR
open QuoP QuoW
abbrev RT : TypeId := 57
abbrev Rdr (w : World) (R : Nat) (s : ByteArray) (i : Nat) (b : Bool) : Prop := Blk w R RT #[.string s, .int .i64 i, .bool b]
abbrev On (R : Nat) : Nat → Prop := fun k => k = R
/-- What 'next' answers. -/
def Nx (p : UInt8 → Bool) (s : ByteArray) (i : Nat) (b : Bool) (c : UInt8) (i' : Nat) (b' : Bool) : Prop :=
  (b' = true ∧ i' = i ∧ c = 0 ∧ (b = true ∨ ∀ c r, s.data.toList.drop i = c :: r → p c = false)) ∨
  (b = false ∧ b' = false ∧ i' = i + 1 ∧ s.data.toList.drop i = c :: s.data.toList.drop (i + 1) ∧ p c = true ∧ i < s.size)
def NxPost (p : UInt8 → Bool) (s : ByteArray) (R i : Nat) (b : Bool) (w : World) (e : Ending) (w' : World) : Prop :=
  ∃ c i' b', e = .returned (.int .u8 c.toNat) ∧ Rdr w' R s i' b' ∧ Tch (On R) w w' ∧ Nx p s i b c i' b'
theorem tch_set (w : World) (R n i : Nat) (v : Value) : Tch (On R) w ((w.drewN n).setCell ⟨R, i, none⟩ v) := Tch.setCell (S := On R) ((Tch.refl _ w).drewN n) (p := ⟨R, i, none⟩) rfl v
theorem tch_set2 (w : World) (R n m i : Nat) (v : Value) : Tch (On R) w (((w.drewN n).drewN m).setCell ⟨R, i, none⟩ v) := Tch.setCell (S := On R) (((Tch.refl _ w).drewN n).drewN m) (p := ⟨R, i, none⟩) rfl v
theorem quiet_w {P : Program} {f : FuncId} {args : Array Value} {w : World} {n : Nat} {v : Value} (h : ∀ m, Calls P f args (w.drewN m) fun e w' => e = .returned v ∧ w.drewN m = w') :
    Calls P f args (w.drewN n) fun e w'' => e = .returned v ∧ ∃ m, w'' = w.drewN m := (h _).mono fun _ _ ⟨he, hm⟩ => ⟨he, n, hm.symm⟩
theorem all_bytes (p : UInt8 → Bool) (h : ∀ n : Fin 256, p (UInt8.ofNat n.val) = true) (c : UInt8) : p c = true := by
  have := h ⟨c.toNat, c.toNat_lt⟩
  simpa using this
def headB (c : UInt8) : Bool := letterB c || digB c
def eqB (x c : UInt8) : Bool := c == x
def escB (c : UInt8) : Bool := c == 110 || c == 114 || c == 116 || c == 120 || c == 34 || c == 92 || c == 36
theorem idx_hex (c : UInt8) : decide (0 ≤ Lib.indexByte [48, 49, 50, 51, 52, 53, 54, 55, 56, 57, 97, 98, 99, 100, 101, 102] c) = hexB c := by
  have := all_bytes (fun c => decide (0 ≤ Lib.indexByte [48, 49, 50, 51, 52, 53, 54, 55, 56, 57, 97, 98, 99, 100, 101, 102] c) == hexB c) (by decide +kernel) c
  simpa using this
theorem idx_val (c : UInt8) (h : hexB c = true) : Lib.indexByte [48, 49, 50, 51, 52, 53, 54, 55, 56, 57, 97, 98, 99, 100, 101, 102] c = (hexN c : Int) := by
  have := all_bytes (fun c => !hexB c || Lib.indexByte [48, 49, 50, 51, 52, 53, 54, 55, 56, 57, 97, 98, 99, 100, 101, 102] c == (hexN c : Int)) (by decide +kernel) c
  simpa [h] using this
theorem idx_esc (c : UInt8) : decide (0 ≤ Lib.indexByte [110, 114, 116, 120, 34, 92, 36] c) = escB c := by
  have := all_bytes (fun c => decide (0 ≤ Lib.indexByte [110, 114, 116, 120, 34, 92, 36] c) == escB c) (by decide +kernel) c
  simpa using this
theorem back (c : UInt8) : ((c.toNat : Int).toNat.toUInt8) = c := by simp
section
variable (c : UInt8) (w : World)
theorem is_c (x : UInt8) (X : Nat) (hx : w.cell? ⟨X, 0, none⟩ = some (.int .u8 x.toNat)) : Calls Try.prog 61 #[.int .u8 c.toNat, .pointer (some ⟨X, 0, none⟩)] w fun e w' => e = .returned (.bool (eqB x c)) ∧ w = w' := by
  go_enter Try.func61, Try.ntmps61
  go_wp2
  go_ret
  refine ⟨ret_bool ?_, rfl⟩
  rw [Bool.eq_iff_iff]; simp [eqB, ← UInt8.toNat_inj]; omega
theorem idx_c (s : ByteArray) : Calls Try.prog 65 #[.string s, .int .u8 c.toNat] w fun e w' => e = .returned (.int .i64 (Lib.indexByte s.data.toList c)) ∧ w = w' := by
  have h := Try.strings_IndexByte s c.toNat w
  rw [back] at h
  exact h.mono fun _ _ ⟨he, hw⟩ => ⟨he, hw.symm⟩
theorem hex1_c : Calls Try.prog 75 #[.int .u8 c.toNat] w fun e w' => e = .returned (.bool (hexB c)) ∧ w = w' := by
  have ci := fun W => idx_c c W ⟨#[48, 49, 50, 51, 52, 53, 54, 55, 56, 57, 97, 98, 99, 100, 101, 102]⟩
  have hd := idx_hex c
  rw [show (⟨#[48, 49, 50, 51, 52, 53, 54, 55, 56, 57, 97, 98, 99, 100, 101, 102]⟩ : ByteArray).data.toList = [48, 49, 50, 51, 52, 53, 54, 55, 56, 57, 97, 98, 99, 100, 101, 102] from rfl] at ci
  generalize Lib.indexByte [48, 49, 50, 51, 52, 53, 54, 55, 56, 57, 97, 98, 99, 100, 101, 102] c = z at *
  go_enter Try.func75, Try.ntmps75
  go_wp2_with (first | (with_reducible refine (ci _).mono ?_; rintro e w' ⟨rfl, rfl⟩))
  go_ret
  exact ⟨rfl, rfl⟩
theorem esc1_c : Calls Try.prog 64 #[.int .u8 c.toNat] w fun e w' => e = .returned (.bool (escB c)) ∧ w = w' := by
  have ci := fun W => idx_c c W ⟨#[110, 114, 116, 120, 34, 92, 36]⟩
  have hd := idx_esc c
  rw [show (⟨#[110, 114, 116, 120, 34, 92, 36]⟩ : ByteArray).data.toList = [110, 114, 116, 120, 34, 92, 36] from rfl] at ci
  generalize Lib.indexByte [110, 114, 116, 120, 34, 92, 36] c = z at *
  go_enter Try.func64, Try.ntmps64
  go_wp2_with (first | (with_reducible refine (ci _).mono ?_; rintro e w' ⟨rfl, rfl⟩))
  go_ret
  exact ⟨rfl, rfl⟩
theorem var1_c : Calls Try.prog 62 #[.int .u8 c.toNat] w fun e w' => e = .returned (.bool (headB c)) ∧ w = w' := by
  have c1 := fun W => letter_c c W
  cases hl : letterB c <;> rw [hl] at c1
  all_goals
    go_enter Try.func62, Try.ntmps62
    go_wp2_with fail
    (with_reducible refine (c1 _).mono ?_)
    rintro e w' ⟨rfl, rfl⟩
    go_wp2_with fail
    all_goals (go_ret; refine ⟨ret_bool ?_, rfl⟩; rw [Bool.eq_iff_iff]; simp [headB, hl, digB]; try omega)
end
/-- A rule for one byte: its value and its cell. -/
def isV (X : Nat) : Value := .func (.func 61) #[] #[.pointer (some ⟨X, 0, none⟩)]
set_option maxHeartbeats 1600000 in
theorem next_text (R : Nat) (s : ByteArray) (i : Nat) (b : Bool) (w : World) (h : Rdr w R s i b) (hi : i ≤ s.size) (hs : s.size ≤ 4611686018427387904) :
    Calls Try.prog 37 #[.pointer (some ⟨R, 0, none⟩), .func (.func 39) #[] #[]] w (NxPost (textB) s R i b w) := by
  have k0 := h.cell 0
  have k1 := h.cell 1
  have k2 := h.cell 2
  have l2 := h.loose 2
  have l1 := h.loose 1
  simp only [List.getElem?_toArray, List.getElem?_cons_zero, List.getElem?_cons_succ] at k0 k1 k2
  have ct := fun (c : UInt8) (m : Nat) => text_c c (w.drewN m)
  cases b
  · by_cases hlt : i < s.size
    · have hd := drop_cons s i hlt
      have hg : decide (s.size ≤ i) = false := by simp; omega
      obtain ⟨x, hx⟩ : ∃ x, s[i]'hlt = x := ⟨_, rfl⟩
      rw [hx] at hd
      cases hp : (textB) x
      · have HP := Lib.hid hp
        have ct2 := ct x
        rw [hp] at ct2
        clear hp ct
        go_enter Try.func37, Try.ntmps37
        go_wp2_with fail
        go_quiet (exact quiet_w ct2)
        generalize hq : w.drewN nq = wq
        have k2 : wq.cell? ⟨R, 2, none⟩ = some (.bool false) := by subst hq; exact k2
        have l2 : wq.frozen? ⟨R, 2, none⟩ = false := by subst hq; exact l2
        go_wp2
        go_ret
        subst hq
        refine ⟨0, i, true, rfl, ((h.drewN nq).set_ 2 (.bool true)), tch_set _ _ _ _ _, Or.inl ⟨rfl, rfl, rfl, Or.inr fun c r e => ?_⟩⟩
        rw [hd] at e; injection e with e1 e2; subst e1; exact HP.out
      · have HP := Lib.hid hp
        have ct2 := ct x
        rw [hp] at ct2
        clear hp ct
        go_enter Try.func37, Try.ntmps37
        go_wp2_with fail
        go_quiet (exact quiet_w ct2)
        generalize hq : w.drewN nq = wq
        have hB : Rdr wq R s i false := by subst hq; exact h.drewN nq
        have k0 := hB.cell 0
        have k1 := hB.cell 1
        have l1 := hB.loose 1
        simp only [List.getElem?_toArray, List.getElem?_cons_zero, List.getElem?_cons_succ] at k0 k1
        go_wp2
        go_quiet (fail)
        generalize hq2 : wq.drewN nq = wz
        have hB : Rdr wz R s i false := by subst hq2; exact hB.drewN nq
        have k1 := hB.cell 1
        have l1 := hB.loose 1
        simp only [List.getElem?_toArray, List.getElem?_cons_zero, List.getElem?_cons_succ] at k1
        go_wp2
        go_ret
        subst hq2
        subst hq
        exact ⟨x, i + 1, false, rfl, hB.set_ 1 _, tch_set2 _ _ _ _ _ _, Or.inr ⟨rfl, rfl, rfl, hd, HP.out, hlt⟩⟩
    · have hg : decide (s.size ≤ i) = true := by simp; omega
      clear ct
      go_enter Try.func37, Try.ntmps37
      go_wp2_with fail
      go_quiet (fail)
      generalize hq : w.drewN nq = wq
      have k2 : wq.cell? ⟨R, 2, none⟩ = some (.bool false) := by subst hq; exact k2
      have l2 : wq.frozen? ⟨R, 2, none⟩ = false := by subst hq; exact l2
      go_wp2
      go_ret
      subst hq
      refine ⟨0, i, true, rfl, ((h.drewN nq).set_ 2 (.bool true)), tch_set _ _ _ _ _, Or.inl ⟨rfl, rfl, rfl, Or.inr fun c r e => ?_⟩⟩
      rw [List.drop_eq_nil_of_le (by rw [← Lib.size_eq]; omega)] at e; cases e
  · clear ct
    go_enter Try.func37, Try.ntmps37
    go_wp2_with fail
    go_quiet (fail)
    go_wp2
    go_ret
    exact ⟨0, i, true, rfl, ((h.drewN nq).set_ 2 (.bool true)), tch_set _ _ _ _ _, Or.inl ⟨rfl, rfl, rfl, Or.inl rfl⟩⟩
set_option maxHeartbeats 1600000 in
theorem next_hex (R : Nat) (s : ByteArray) (i : Nat) (b : Bool) (w : World) (h : Rdr w R s i b) (hi : i ≤ s.size) (hs : s.size ≤ 4611686018427387904) :
    Calls Try.prog 37 #[.pointer (some ⟨R, 0, none⟩), .func (.func 75) #[] #[]] w (NxPost (hexB) s R i b w) := by
  have k0 := h.cell 0
  have k1 := h.cell 1
  have k2 := h.cell 2
  have l2 := h.loose 2
  have l1 := h.loose 1
  simp only [List.getElem?_toArray, List.getElem?_cons_zero, List.getElem?_cons_succ] at k0 k1 k2
  have ct := fun (c : UInt8) (m : Nat) => hex1_c c (w.drewN m)
  cases b
  · by_cases hlt : i < s.size
    · have hd := drop_cons s i hlt
      have hg : decide (s.size ≤ i) = false := by simp; omega
      obtain ⟨x, hx⟩ : ∃ x, s[i]'hlt = x := ⟨_, rfl⟩
      rw [hx] at hd
      cases hp : (hexB) x
      · have HP := Lib.hid hp
        have ct2 := ct x
        rw [hp] at ct2
        clear hp ct
        go_enter Try.func37, Try.ntmps37
        go_wp2_with fail
        go_quiet (exact quiet_w ct2)
        generalize hq : w.drewN nq = wq
        have k2 : wq.cell? ⟨R, 2, none⟩ = some (.bool false) := by subst hq; exact k2
        have l2 : wq.frozen? ⟨R, 2, none⟩ = false := by subst hq; exact l2
        go_wp2
        go_ret
        subst hq
        refine ⟨0, i, true, rfl, ((h.drewN nq).set_ 2 (.bool true)), tch_set _ _ _ _ _, Or.inl ⟨rfl, rfl, rfl, Or.inr fun c r e => ?_⟩⟩
        rw [hd] at e; injection e with e1 e2; subst e1; exact HP.out
      · have HP := Lib.hid hp
        have ct2 := ct x
        rw [hp] at ct2
        clear hp ct
        go_enter Try.func37, Try.ntmps37
        go_wp2_with fail
        go_quiet (exact quiet_w ct2)
        generalize hq : w.drewN nq = wq
        have hB : Rdr wq R s i false := by subst hq; exact h.drewN nq
        have k0 := hB.cell 0
        have k1 := hB.cell 1
        have l1 := hB.loose 1
        simp only [List.getElem?_toArray, List.getElem?_cons_zero, List.getElem?_cons_succ] at k0 k1
        go_wp2
        go_quiet (fail)
        generalize hq2 : wq.drewN nq = wz
        have hB : Rdr wz R s i false := by subst hq2; exact hB.drewN nq
        have k1 := hB.cell 1
        have l1 := hB.loose 1
        simp only [List.getElem?_toArray, List.getElem?_cons_zero, List.getElem?_cons_succ] at k1
        go_wp2
        go_ret
        subst hq2
        subst hq
        exact ⟨x, i + 1, false, rfl, hB.set_ 1 _, tch_set2 _ _ _ _ _ _, Or.inr ⟨rfl, rfl, rfl, hd, HP.out, hlt⟩⟩
    · have hg : decide (s.size ≤ i) = true := by simp; omega
      clear ct
      go_enter Try.func37, Try.ntmps37
      go_wp2_with fail
      go_quiet (fail)
      generalize hq : w.drewN nq = wq
      have k2 : wq.cell? ⟨R, 2, none⟩ = some (.bool false) := by subst hq; exact k2
      have l2 : wq.frozen? ⟨R, 2, none⟩ = false := by subst hq; exact l2
      go_wp2
      go_ret
      subst hq
      refine ⟨0, i, true, rfl, ((h.drewN nq).set_ 2 (.bool true)), tch_set _ _ _ _ _, Or.inl ⟨rfl, rfl, rfl, Or.inr fun c r e => ?_⟩⟩
      rw [List.drop_eq_nil_of_le (by rw [← Lib.size_eq]; omega)] at e; cases e
  · clear ct
    go_enter Try.func37, Try.ntmps37
    go_wp2_with fail
    go_quiet (fail)
    go_wp2
    go_ret
    exact ⟨0, i, true, rfl, ((h.drewN nq).set_ 2 (.bool true)), tch_set _ _ _ _ _, Or.inl ⟨rfl, rfl, rfl, Or.inl rfl⟩⟩
set_option maxHeartbeats 1600000 in
theorem next_esc (R : Nat) (s : ByteArray) (i : Nat) (b : Bool) (w : World) (h : Rdr w R s i b) (hi : i ≤ s.size) (hs : s.size ≤ 4611686018427387904) :
    Calls Try.prog 37 #[.pointer (some ⟨R, 0, none⟩), .func (.func 64) #[] #[]] w (NxPost (escB) s R i b w) := by
  have k0 := h.cell 0
  have k1 := h.cell 1
  have k2 := h.cell 2
  have l2 := h.loose 2
  have l1 := h.loose 1
  simp only [List.getElem?_toArray, List.getElem?_cons_zero, List.getElem?_cons_succ] at k0 k1 k2
  have ct := fun (c : UInt8) (m : Nat) => esc1_c c (w.drewN m)
  cases b
  · by_cases hlt : i < s.size
    · have hd := drop_cons s i hlt
      have hg : decide (s.size ≤ i) = false := by simp; omega
      obtain ⟨x, hx⟩ : ∃ x, s[i]'hlt = x := ⟨_, rfl⟩
      rw [hx] at hd
      cases hp : (escB) x
      · have HP := Lib.hid hp
        have ct2 := ct x
        rw [hp] at ct2
        clear hp ct
        go_enter Try.func37, Try.ntmps37
        go_wp2_with fail
        go_quiet (exact quiet_w ct2)
        generalize hq : w.drewN nq = wq
        have k2 : wq.cell? ⟨R, 2, none⟩ = some (.bool false) := by subst hq; exact k2
        have l2 : wq.frozen? ⟨R, 2, none⟩ = false := by subst hq; exact l2
        go_wp2
        go_ret
        subst hq
        refine ⟨0, i, true, rfl, ((h.drewN nq).set_ 2 (.bool true)), tch_set _ _ _ _ _, Or.inl ⟨rfl, rfl, rfl, Or.inr fun c r e => ?_⟩⟩
        rw [hd] at e; injection e with e1 e2; subst e1; exact HP.out
      · have HP := Lib.hid hp
        have ct2 := ct x
        rw [hp] at ct2
        clear hp ct
        go_enter Try.func37, Try.ntmps37
        go_wp2_with fail
        go_quiet (exact quiet_w ct2)
        generalize hq : w.drewN nq = wq
        have hB : Rdr wq R s i false := by subst hq; exact h.drewN nq
        have k0 := hB.cell 0
        have k1 := hB.cell 1
        have l1 := hB.loose 1
        simp only [List.getElem?_toArray, List.getElem?_cons_zero, List.getElem?_cons_succ] at k0 k1
        go_wp2
        go_quiet (fail)
        generalize hq2 : wq.drewN nq = wz
        have hB : Rdr wz R s i false := by subst hq2; exact hB.drewN nq
        have k1 := hB.cell 1
        have l1 := hB.loose 1
        simp only [List.getElem?_toArray, List.getElem?_cons_zero, List.getElem?_cons_succ] at k1
        go_wp2
        go_ret
        subst hq2
        subst hq
        exact ⟨x, i + 1, false, rfl, hB.set_ 1 _, tch_set2 _ _ _ _ _ _, Or.inr ⟨rfl, rfl, rfl, hd, HP.out, hlt⟩⟩
    · have hg : decide (s.size ≤ i) = true := by simp; omega
      clear ct
      go_enter Try.func37, Try.ntmps37
      go_wp2_with fail
      go_quiet (fail)
      generalize hq : w.drewN nq = wq
      have k2 : wq.cell? ⟨R, 2, none⟩ = some (.bool false) := by subst hq; exact k2
      have l2 : wq.frozen? ⟨R, 2, none⟩ = false := by subst hq; exact l2
      go_wp2
      go_ret
      subst hq
      refine ⟨0, i, true, rfl, ((h.drewN nq).set_ 2 (.bool true)), tch_set _ _ _ _ _, Or.inl ⟨rfl, rfl, rfl, Or.inr fun c r e => ?_⟩⟩
      rw [List.drop_eq_nil_of_le (by rw [← Lib.size_eq]; omega)] at e; cases e
  · clear ct
    go_enter Try.func37, Try.ntmps37
    go_wp2_with fail
    go_quiet (fail)
    go_wp2
    go_ret
    exact ⟨0, i, true, rfl, ((h.drewN nq).set_ 2 (.bool true)), tch_set _ _ _ _ _, Or.inl ⟨rfl, rfl, rfl, Or.inl rfl⟩⟩
set_option maxHeartbeats 1600000 in
theorem next_var (R : Nat) (s : ByteArray) (i : Nat) (b : Bool) (w : World) (h : Rdr w R s i b) (hi : i ≤ s.size) (hs : s.size ≤ 4611686018427387904) :
    Calls Try.prog 37 #[.pointer (some ⟨R, 0, none⟩), .func (.func 62) #[] #[]] w (NxPost (headB) s R i b w) := by
  have k0 := h.cell 0
  have k1 := h.cell 1
  have k2 := h.cell 2
  have l2 := h.loose 2
  have l1 := h.loose 1
  simp only [List.getElem?_toArray, List.getElem?_cons_zero, List.getElem?_cons_succ] at k0 k1 k2
  have ct := fun (c : UInt8) (m : Nat) => var1_c c (w.drewN m)
  cases b
  · by_cases hlt : i < s.size
    · have hd := drop_cons s i hlt
      have hg : decide (s.size ≤ i) = false := by simp; omega
      obtain ⟨x, hx⟩ : ∃ x, s[i]'hlt = x := ⟨_, rfl⟩
      rw [hx] at hd
      cases hp : (headB) x
      · have HP := Lib.hid hp
        have ct2 := ct x
        rw [hp] at ct2
        clear hp ct
        go_enter Try.func37, Try.ntmps37
        go_wp2_with fail
        go_quiet (exact quiet_w ct2)
        generalize hq : w.drewN nq = wq
        have k2 : wq.cell? ⟨R, 2, none⟩ = some (.bool false) := by subst hq; exact k2
        have l2 : wq.frozen? ⟨R, 2, none⟩ = false := by subst hq; exact l2
        go_wp2
        go_ret
        subst hq
        refine ⟨0, i, true, rfl, ((h.drewN nq).set_ 2 (.bool true)), tch_set _ _ _ _ _, Or.inl ⟨rfl, rfl, rfl, Or.inr fun c r e => ?_⟩⟩
        rw [hd] at e; injection e with e1 e2; subst e1; exact HP.out
      · have HP := Lib.hid hp
        have ct2 := ct x
        rw [hp] at ct2
        clear hp ct
        go_enter Try.func37, Try.ntmps37
        go_wp2_with fail
        go_quiet (exact quiet_w ct2)
        generalize hq : w.drewN nq = wq
        have hB : Rdr wq R s i false := by subst hq; exact h.drewN nq
        have k0 := hB.cell 0
        have k1 := hB.cell 1
        have l1 := hB.loose 1
        simp only [List.getElem?_toArray, List.getElem?_cons_zero, List.getElem?_cons_succ] at k0 k1
        go_wp2
        go_quiet (fail)
        generalize hq2 : wq.drewN nq = wz
        have hB : Rdr wz R s i false := by subst hq2; exact hB.drewN nq
        have k1 := hB.cell 1
        have l1 := hB.loose 1
        simp only [List.getElem?_toArray, List.getElem?_cons_zero, List.getElem?_cons_succ] at k1
        go_wp2
        go_ret
        subst hq2
        subst hq
        exact ⟨x, i + 1, false, rfl, hB.set_ 1 _, tch_set2 _ _ _ _ _ _, Or.inr ⟨rfl, rfl, rfl, hd, HP.out, hlt⟩⟩
    · have hg : decide (s.size ≤ i) = true := by simp; omega
      clear ct
      go_enter Try.func37, Try.ntmps37
      go_wp2_with fail
      go_quiet (fail)
      generalize hq : w.drewN nq = wq
      have k2 : wq.cell? ⟨R, 2, none⟩ = some (.bool false) := by subst hq; exact k2
      have l2 : wq.frozen? ⟨R, 2, none⟩ = false := by subst hq; exact l2
      go_wp2
      go_ret
      subst hq
      refine ⟨0, i, true, rfl, ((h.drewN nq).set_ 2 (.bool true)), tch_set _ _ _ _ _, Or.inl ⟨rfl, rfl, rfl, Or.inr fun c r e => ?_⟩⟩
      rw [List.drop_eq_nil_of_le (by rw [← Lib.size_eq]; omega)] at e; cases e
  · clear ct
    go_enter Try.func37, Try.ntmps37
    go_wp2_with fail
    go_quiet (fail)
    go_wp2
    go_ret
    exact ⟨0, i, true, rfl, ((h.drewN nq).set_ 2 (.bool true)), tch_set _ _ _ _ _, Or.inl ⟨rfl, rfl, rfl, Or.inl rfl⟩⟩
set_option maxHeartbeats 1600000 in
theorem next_is (R : Nat) (s : ByteArray) (i : Nat) (b : Bool) (w : World) (h : Rdr w R s i b) (hi : i ≤ s.size) (hs : s.size ≤ 4611686018427387904) (x0 : UInt8) (X : Nat) (hx0 : w.cell? ⟨X, 0, none⟩ = some (.int .u8 x0.toNat)) :
    Calls Try.prog 37 #[.pointer (some ⟨R, 0, none⟩), .func (.func 61) #[] #[.pointer (some ⟨X, 0, none⟩)]] w (NxPost (eqB x0) s R i b w) := by
  have k0 := h.cell 0
  have k1 := h.cell 1
  have k2 := h.cell 2
  have l2 := h.loose 2
  have l1 := h.loose 1
  simp only [List.getElem?_toArray, List.getElem?_cons_zero, List.getElem?_cons_succ] at k0 k1 k2
  have ct := fun (c : UInt8) (m : Nat) => is_c c (w.drewN m) x0 X hx0
  cases b
  · by_cases hlt : i < s.size
    · have hd := drop_cons s i hlt
      have hg : decide (s.size ≤ i) = false := by simp; omega
      obtain ⟨x, hx⟩ : ∃ x, s[i]'hlt = x := ⟨_, rfl⟩
      rw [hx] at hd
      cases hp : (eqB x0) x
      · have HP := Lib.hid hp
        have ct2 := ct x
        rw [hp] at ct2
        clear hp ct
        go_enter Try.func37, Try.ntmps37
        go_wp2_with fail
        go_quiet (exact quiet_w ct2)
        generalize hq : w.drewN nq = wq
        have k2 : wq.cell? ⟨R, 2, none⟩ = some (.bool false) := by subst hq; exact k2
        have l2 : wq.frozen? ⟨R, 2, none⟩ = false := by subst hq; exact l2
        go_wp2
        go_ret
        subst hq
        refine ⟨0, i, true, rfl, ((h.drewN nq).set_ 2 (.bool true)), tch_set _ _ _ _ _, Or.inl ⟨rfl, rfl, rfl, Or.inr fun c r e => ?_⟩⟩
        rw [hd] at e; injection e with e1 e2; subst e1; exact HP.out
      · have HP := Lib.hid hp
        have ct2 := ct x
        rw [hp] at ct2
        clear hp ct
        go_enter Try.func37, Try.ntmps37
        go_wp2_with fail
        go_quiet (exact quiet_w ct2)
        generalize hq : w.drewN nq = wq
        have hB : Rdr wq R s i false := by subst hq; exact h.drewN nq
        have k0 := hB.cell 0
        have k1 := hB.cell 1
        have l1 := hB.loose 1
        simp only [List.getElem?_toArray, List.getElem?_cons_zero, List.getElem?_cons_succ] at k0 k1
        go_wp2
        go_quiet (fail)
        generalize hq2 : wq.drewN nq = wz
        have hB : Rdr wz R s i false := by subst hq2; exact hB.drewN nq
        have k1 := hB.cell 1
        have l1 := hB.loose 1
        simp only [List.getElem?_toArray, List.getElem?_cons_zero, List.getElem?_cons_succ] at k1
        go_wp2
        go_ret
        subst hq2
        subst hq
        exact ⟨x, i + 1, false, rfl, hB.set_ 1 _, tch_set2 _ _ _ _ _ _, Or.inr ⟨rfl, rfl, rfl, hd, HP.out, hlt⟩⟩
    · have hg : decide (s.size ≤ i) = true := by simp; omega
      clear ct
      go_enter Try.func37, Try.ntmps37
      go_wp2_with fail
      go_quiet (fail)
      generalize hq : w.drewN nq = wq
      have k2 : wq.cell? ⟨R, 2, none⟩ = some (.bool false) := by subst hq; exact k2
      have l2 : wq.frozen? ⟨R, 2, none⟩ = false := by subst hq; exact l2
      go_wp2
      go_ret
      subst hq
      refine ⟨0, i, true, rfl, ((h.drewN nq).set_ 2 (.bool true)), tch_set _ _ _ _ _, Or.inl ⟨rfl, rfl, rfl, Or.inr fun c r e => ?_⟩⟩
      rw [List.drop_eq_nil_of_le (by rw [← Lib.size_eq]; omega)] at e; cases e
  · clear ct
    go_enter Try.func37, Try.ntmps37
    go_wp2_with fail
    go_quiet (fail)
    go_wp2
    go_ret
    exact ⟨0, i, true, rfl, ((h.drewN nq).set_ 2 (.bool true)), tch_set _ _ _ _ _, Or.inl ⟨rfl, rfl, rfl, Or.inl rfl⟩⟩
end QuoR
end Go.Proofs.Ytmhhmdnikopdlaa
