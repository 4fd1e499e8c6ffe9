/- The walks of the expression reader's small methods. Conditions: texts that fit. -/
import Derived.Test.YtdonokghemhfiaaDoorEreQ
import Derived.Test.YtdonokghemhfiaaDoorShelf
namespace Go.Proofs.YtdonokghemhfiaaDoor
open Go.RowKit
namespace EreW
open EreP
/-- The reader: its text, its place, its groups, its error. -/
def Rdr (w : World) (R : Nat) (s : ByteArray) (i g e : Nat) : Prop := Blk w R 47 #[.string s, .int .i64 i, .int .i64 g, .int .i64 e]
abbrev On (R : Nat) : Nat → Prop := fun k => k = R
theorem Rdr.lt {w : World} {R i g e : Nat} {s : ByteArray} (h : Rdr w R s i g e) : R < w.heap.size := Blk.lt h
theorem Rdr.cells {w : World} {R i g e : Nat} {s : ByteArray} (h : Rdr w R s i g e) :
    w.cell? ⟨R, 0, none⟩ = some (.string s) ∧ w.cell? ⟨R, 1, none⟩ = some (.int .i64 i) ∧ w.cell? ⟨R, 2, none⟩ = some (.int .i64 g) ∧ w.cell? ⟨R, 3, none⟩ = some (.int .i64 e) :=
  ⟨Blk.cell h 0, Blk.cell h 1, Blk.cell h 2, Blk.cell h 3⟩
theorem Rdr.free {w : World} {R i g e : Nat} {s : ByteArray} (h : Rdr w R s i g e) (k : Nat) : w.frozen? ⟨R, k, none⟩ = false := Blk.loose h k
theorem Rdr.next {w w' : World} {R i g e : Nat} {s : ByteArray} (h : Rdr w R s i g e) (hb : Below w.heap.size w w') : Rdr w' R s i g e := Blk.next h hb
theorem Rdr.dn {w : World} {R i g e : Nat} {s : ByteArray} (h : Rdr w R s i g e) (m : Nat) : Rdr (w.drewN m) R s i g e := h
theorem Rdr.alloc {w : World} {R i g e : Nat} {s : ByteArray} (h : Rdr w R s i g e) (o : Obj) : Rdr (w.alloc o) R s i g e := Blk.alloc h o
theorem Rdr.setAt {w : World} {R i g e : Nat} {s : ByteArray} (h : Rdr w R s i g e) (i' : Nat) : Rdr (w.setCell ⟨R, 1, none⟩ (.int .i64 i')) R s i' g e := Blk.set_ h 1 _
theorem Rdr.setG {w : World} {R i g e : Nat} {s : ByteArray} (h : Rdr w R s i g e) (g' : Nat) : Rdr (w.setCell ⟨R, 2, none⟩ (.int .i64 g')) R s i g' e := Blk.set_ h 2 _
theorem Rdr.setE {w : World} {R i g e : Nat} {s : ByteArray} (h : Rdr w R s i g e) (e' : Nat) : Rdr (w.setCell ⟨R, 3, none⟩ (.int .i64 e')) R s i g e' := Blk.set_ h 3 _
abbrev pt (R : Nat) : Value := .pointer (some ⟨R, 0, none⟩)
/-- What is left. -/
abbrev rest (s : ByteArray) (i : Nat) : Bs := s.data.toList.drop i
theorem rest_cons (s : ByteArray) (i : Nat) (h : i < s.size) : rest s i = (s[i]'h) :: rest s (i + 1) := by
  unfold rest; rw [List.drop_eq_getElem_cons (by simpa using h)]; rfl
theorem rest_nil (s : ByteArray) (i : Nat) (h : s.size ≤ i) : rest s i = [] := List.drop_eq_nil_of_le (by rw [← Lib.size_eq]; exact h)
theorem rest_len (s : ByteArray) (i : Nat) : (rest s i).length = s.size - i := by unfold rest; rw [List.length_drop, ← Lib.size_eq]
theorem rest_inj {s : ByteArray} {i : Nat} {r : Bs} {k : Nat} (h : rest s i = r) (hk : r.length = s.size - k) (hi : i ≤ s.size) (hks : k ≤ s.size) : i = k := by
  have := rest_len s i; rw [h] at this; omega
def failS (k e : Nat) : Nat := if e = 0 then k else e
def peekB (any : Bs) (l : Bs) (e : Nat) : Bool := e == 0 && (match l with | [] => false | c :: _ => any.contains c)
theorem idx_any (any : Bs) (c : UInt8) : decide ((0 : Int) ≤ Lib.indexByte any c) = any.contains c := by
  rw [Bool.eq_iff_iff, decide_eq_true_eq, List.contains_iff_mem]
  have hge := Lib.indexByte_ge any c
  constructor
  · intro h
    obtain ⟨o, ho⟩ : ∃ o : Nat, Lib.indexByte any c = o := ⟨(Lib.indexByte any c).toNat, by omega⟩
    exact List.mem_of_getElem? (Lib.indexByte_some ho).1
  · intro h
    rcases (by omega : Lib.indexByte any c < 0 ∨ 0 ≤ Lib.indexByte any c) with h1 | h1
    · obtain ⟨k, hk, hc⟩ := List.getElem_of_mem h
      exact absurd (by rw [List.getElem?_eq_getElem hk, hc]) (Lib.indexByte_none (show Lib.indexByte any c = -1 by omega) k)
    · exact h1
theorem back (c : UInt8) : (c.toNat : Int).toNat.toUInt8 = c := by simp
theorem idx_c (c : UInt8) (w : World) (s : ByteArray) : Calls Tryd.prog 49 #[.string s, .int .u8 c.toNat] w fun e w' => e = .returned (.int .i64 (Lib.indexByte s.data.toList c)) ∧ w = w' := by
  have h := Tryd.strings_IndexByte s c.toNat w
  rw [back] at h
  exact h.mono fun _ _ ⟨he, hw⟩ => ⟨he, hw.symm⟩
theorem quiet_w {P : Program} {f : FuncId} {args : Array Value} {w : World} {n : Nat} {v : Value} (h : ∀ m, Calls P f args (w.drewN m) fun e w' => e = .returned v ∧ w.drewN m = w') :
    Calls P f args (w.drewN n) fun e w'' => e = .returned v ∧ ∃ m, w'' = w.drewN m := (h _).mono fun _ _ ⟨he, hm⟩ => ⟨he, n, hm.symm⟩
set_option maxHeartbeats 800000 in
theorem more_c (R : Nat) (s : ByteArray) (i g e : Nat) (w : World) (h : Rdr w R s i g e) :
    Calls Tryd.prog 20 #[pt R] w fun x w' => x = .returned (.bool (e == 0 && decide (i < s.size))) ∧ ∃ m, w' = w.drewN m := by
  obtain ⟨k0, k1, k2, k3⟩ := h.cells
  by_cases he : e = 0
  · subst he
    by_cases hlt : i < s.size
    · have d : decide ((i : Int) < (s.size : Int)) = true := by simp; omega
      rw [decide_eq_true hlt]
      go_enter Tryd.func20, Tryd.ntmps20
      go_wp2
      go_quiet (fail)
      go_wp2
      go_ret
      exact ⟨rfl, _, rfl⟩
    · rw [decide_eq_false hlt]
      go_enter Tryd.func20, Tryd.ntmps20
      go_wp2
      go_quiet (fail)
      go_wp2
      go_ret
      exact ⟨rfl, _, rfl⟩
  · have d : ((e : Int) == 0) = false := by rw [beq_eq_false_iff_ne]; omega
    have d2 : (e == 0) = false := by rw [beq_eq_false_iff_ne]; omega
    rw [d2]
    go_enter Tryd.func20, Tryd.ntmps20
    go_wp2
    go_quiet (fail)
    go_wp2
    go_ret
    exact ⟨rfl, _, rfl⟩
theorem fail_c (R : Nat) (s : ByteArray) (i g e k : Nat) (w : World) (h : Rdr w R s i g e) :
    Calls Tryd.prog 21 #[pt R, .int .i64 k] w fun x w' => x = .returned (.tuple #[]) ∧ Rdr w' R s i g (failS k e) ∧ Tch (On R) w w' := by
  obtain ⟨k0, k1, k2, k3⟩ := h.cells
  have f3 := h.free 3
  by_cases he : e = 0
  · subst he
    have H := Lib.hid (h.setE k)
    have T := Lib.hid ((Tch.refl (On R) w).setCell (p := ⟨R, 3, none⟩) rfl (.int .i64 k))
    clear h
    go_enter Tryd.func21, Tryd.ntmps21
    go_wp2
    go_end0
    exact ⟨rfl, H.out, T.out⟩
  · have d : ((e : Int) == 0) = false := by rw [beq_eq_false_iff_ne]; omega
    have d2 : failS k e = e := if_neg he
    rw [d2]
    have H := Lib.hid h
    clear h
    go_enter Tryd.func21, Tryd.ntmps21
    go_wp2
    go_end0
    exact ⟨rfl, H.out, Tch.refl _ _⟩
theorem fail1_c (R : Nat) (s : ByteArray) (i g e : Nat) (w : World) (h : Rdr w R s i g e) :
    Calls Tryd.prog 21 #[pt R, .int .i64 1] w fun x w' => x = .returned (.tuple #[]) ∧ Rdr w' R s i g (failS 1 e) ∧ Tch (On R) w w' := fail_c R s i g e 1 w h
theorem fail8_c (R : Nat) (s : ByteArray) (i g e : Nat) (w : World) (h : Rdr w R s i g e) :
    Calls Tryd.prog 21 #[pt R, .int .i64 8] w fun x w' => x = .returned (.tuple #[]) ∧ Rdr w' R s i g (failS 8 e) ∧ Tch (On R) w w' := fail_c R s i g e 8 w h
/-- Is the next byte one of some? -/
def PeekPost (b : Bool) (w : World) (x : Ending) (w' : World) : Prop := x = .returned (.bool b) ∧ ∃ m, w' = w.drewN m
set_option maxHeartbeats 800000 in
theorem peek_c (R : Nat) (s any : ByteArray) (i g e : Nat) (w : World) (h : Rdr w R s i g e) :
    Calls Tryd.prog 34 #[pt R, .string any] w (PeekPost (peekB any.data.toList (rest s i) e) w) := by
  obtain ⟨k0, k1, k2, k3⟩ := h.cells
  clear h
  by_cases he : e = 0
  · subst he
    by_cases hlt : i < s.size
    · have d : decide ((i : Int) < (s.size : Int)) = true := by simp; omega
      rw [rest_cons s i hlt]
      have hb : peekB any.data.toList ((s[i]'hlt) :: rest s (i + 1)) 0 = decide ((0 : Int) ≤ Lib.indexByte any.data.toList (s[i]'hlt)) := (idx_any _ _).symm
      rw [hb]
      have ci := fun W => idx_c (s[i]'hlt) W any
      clear hb
      generalize Lib.indexByte any.data.toList (s[i]'hlt) = z at *
      go_enter Tryd.func34, Tryd.ntmps34
      go_wp2_with fail
      go_quiet (first | (with_reducible exact quiet_w (fun m => ci _)))
      go_wp2
      go_ret
      exact ⟨rfl, _, rfl⟩
    · have d : decide ((i : Int) < (s.size : Int)) = false := by simp; omega
      have d2 : decide (i < s.size) = false := by simp; omega
      rw [rest_nil s i (by omega)]
      show Calls _ _ _ _ (PeekPost false w)
      clear hlt
      go_enter Tryd.func34, Tryd.ntmps34
      go_wp2_with fail
      go_quiet (fail)
      go_wp2
      go_ret
      exact ⟨rfl, _, rfl⟩
  · have d : ((e : Int) == 0) = false := by rw [beq_eq_false_iff_ne]; omega
    have d2 : (e == 0) = false := by rw [beq_eq_false_iff_ne]; omega
    have hb : peekB any.data.toList (rest s i) e = false := by unfold peekB; rw [d2]; rfl
    rw [hb]
    clear hb he
    go_enter Tryd.func34, Tryd.ntmps34
    go_wp2_with fail
    go_quiet (fail)
    go_wp2
    go_ret
    exact ⟨rfl, _, rfl⟩
/-- The next byte. -/
def StepPost (R : Nat) (s : ByteArray) (c i g e : Nat) (w : World) (x : Ending) (w' : World) : Prop := x = .returned (.int .u8 c) ∧ Rdr w' R s i g e ∧ Tch (On R) w w'
set_option maxHeartbeats 800000 in
theorem next_ok (R : Nat) (s : ByteArray) (i g : Nat) (w : World) (h : Rdr w R s i g 0) (hlt : i < s.size) (hs : s.size ≤ 4611686018427387904) :
    Calls Tryd.prog 35 #[pt R] w (StepPost R s (s[i]'hlt).toNat (i + 1) g 0 w) := by
  have cm := more_c R s i g 0 w h
  rw [decide_eq_true hlt] at cm
  go_enter Tryd.func35, Tryd.ntmps35
  go_wp2_with fail
  (with_reducible refine cm.mono ?_)
  rintro x w1 ⟨rfl, m, rfl⟩
  obtain ⟨k0, k1, k2, k3⟩ := (h.dn m).cells
  have f1 := (h.dn m).free 1
  have h1 := (h.dn m).setAt (i + 1)
  have t1 := ((Tch.refl (On R) w).drewN m).setCell (p := ⟨R, 1, none⟩) rfl (.int .i64 ((i + 1 : Nat) : Int))
  rw [show ((i + 1 : Nat) : Int) = (i : Int) + 1 from by omega] at h1 t1
  clear cm
  generalize w.drewN m = wd at *
  go_wp2
  generalize wd.setCell ⟨R, 1, none⟩ (.int .i64 ((i : Int) + 1)) = wz at *
  obtain ⟨q0, q1, q2, q3⟩ := h1.cells
  rw [show ((i + 1 : Nat) : Int) = (i : Int) + 1 from by omega] at q1
  clear k0 k1 k2 k3 f1
  go_quiet (fail)
  go_wp2
  go_ret
  exact ⟨rfl, h1.dn _, t1.drewN _⟩
set_option maxHeartbeats 800000 in
theorem next_no (R : Nat) (s : ByteArray) (i g e : Nat) (w : World) (h : Rdr w R s i g e) (hno : e ≠ 0 ∨ s.size ≤ i) :
    Calls Tryd.prog 35 #[pt R] w (StepPost R s 0 i g (failS 1 e) w) := by
  have cm := more_c R s i g e w h
  have hb : (e == 0 && decide (i < s.size)) = false := by
    rcases hno with hno | hno
    · simp [hno]
    · simp; intro _; omega
  rw [hb] at cm
  clear hb hno
  go_enter Tryd.func35, Tryd.ntmps35
  go_wp2_with fail
  (with_reducible refine cm.mono ?_)
  rintro x w1 ⟨rfl, m, rfl⟩
  have cf := fail1_c R s i g e (w.drewN m) (h.dn m)
  have t1 := (Tch.refl (On R) w).drewN m
  clear cm
  go_wp2_with fail
  (with_reducible refine cf.mono ?_)
  rintro x w2 ⟨rfl, h2, t2⟩
  go_wp2
  go_ret
  exact ⟨rfl, h2, t1.trans t2⟩
set_option maxHeartbeats 800000 in
theorem need_ok (R : Nat) (s any : ByteArray) (i g : Nat) (w : World) (h : Rdr w R s i g 0) (hlt : i < s.size) (hc : any.data.toList.contains (s[i]'hlt) = true) (hs : s.size ≤ 4611686018427387904) :
    Calls Tryd.prog 68 #[pt R, .string any] w (StepPost R s (s[i]'hlt).toNat (i + 1) g 0 w) := by
  have cp := peek_c R s any i g 0 w h
  rw [rest_cons s i hlt, show peekB any.data.toList ((s[i]'hlt) :: rest s (i + 1)) 0 = true from hc] at cp
  clear hc
  go_enter Tryd.func68, Tryd.ntmps68
  go_wp2_with fail
  (with_reducible refine cp.mono ?_)
  rintro x w1 ⟨rfl, m, rfl⟩
  have cn := next_ok R s i g (w.drewN m) (h.dn m) hlt hs
  have t1 := (Tch.refl (On R) w).drewN m
  clear cp
  go_wp2_with fail
  (with_reducible refine cn.mono ?_)
  rintro x w2 ⟨rfl, h2, t2⟩
  go_wp2
  go_ret
  exact ⟨rfl, h2, t1.trans t2⟩
set_option maxHeartbeats 800000 in
theorem need_no (R : Nat) (s any : ByteArray) (i g e : Nat) (w : World) (h : Rdr w R s i g e) (hp : peekB any.data.toList (rest s i) e = false) :
    Calls Tryd.prog 68 #[pt R, .string any] w (StepPost R s 0 i g (failS 1 e) w) := by
  have cp := peek_c R s any i g e w h
  rw [hp] at cp
  clear hp
  go_enter Tryd.func68, Tryd.ntmps68
  go_wp2_with fail
  (with_reducible refine cp.mono ?_)
  rintro x w1 ⟨rfl, m, rfl⟩
  have cf := fail1_c R s i g e (w.drewN m) (h.dn m)
  have t1 := (Tch.refl (On R) w).drewN m
  clear cp
  go_wp2_with fail
  (with_reducible refine cf.mono ?_)
  rintro x w2 ⟨rfl, h2, t2⟩
  go_wp2
  go_ret
  exact ⟨rfl, h2, t1.trans t2⟩
end EreW
end Go.Proofs.YtdonokghemhfiaaDoor
