/- The reference's reader: is, fail, digit, braces. Conditions: texts that fit. -/
import Derived.Test.YtpdmjegbjcefjaaDoorEreV
namespace Go.Proofs.YtpdmjegbjcefjaaDoor
set_option linter.unusedVariables false
set_option linter.unusedSimpArgs false
open Go.RowKit
namespace EreN
open EreP EreW
/-- The reader: its text, its place, its groups, its error. -/
def Rdr (w : World) (R : Nat) (s : ByteArray) (i g e : Nat) : Prop := Blk w R 73 #[.string s, .int .i64 i, .int .i64 g, .int .i64 e]
theorem Rdr.lt {w : World} {R i g e : Nat} {s : ByteArray} (h : Rdr w R s i g e) : R < w.heap.size := Blk.lt h
theorem Rdr.cells {w : World} {R i g e : Nat} {s : ByteArray} (h : Rdr w R s i g e) :
    w.cell? ⟨R, 0, none⟩ = some (.string s) ∧ w.cell? ⟨R, 1, none⟩ = some (.int .i64 i) ∧ w.cell? ⟨R, 2, none⟩ = some (.int .i64 g) ∧ w.cell? ⟨R, 3, none⟩ = some (.int .i64 e) :=
  ⟨Blk.cell h 0, Blk.cell h 1, Blk.cell h 2, Blk.cell h 3⟩
theorem Rdr.free {w : World} {R i g e : Nat} {s : ByteArray} (h : Rdr w R s i g e) (k : Nat) : w.frozen? ⟨R, k, none⟩ = false := Blk.loose h k
theorem Rdr.next {w w' : World} {R i g e : Nat} {s : ByteArray} (h : Rdr w R s i g e) (hb : Below w.heap.size w w') : Rdr w' R s i g e := Blk.next h hb
theorem Rdr.dn {w : World} {R i g e : Nat} {s : ByteArray} (h : Rdr w R s i g e) (m : Nat) : Rdr (w.drewN m) R s i g e := h
theorem Rdr.alloc {w : World} {R i g e : Nat} {s : ByteArray} (h : Rdr w R s i g e) (o : Obj) : Rdr (w.alloc o) R s i g e := Blk.alloc h o
theorem Rdr.setAt {w : World} {R i g e : Nat} {s : ByteArray} (h : Rdr w R s i g e) (i' : Nat) : Rdr (w.setCell ⟨R, 1, none⟩ (.int .i64 i')) R s i' g e := Blk.set_ h 1 _
theorem Rdr.setG {w : World} {R i g e : Nat} {s : ByteArray} (h : Rdr w R s i g e) (g' : Nat) : Rdr (w.setCell ⟨R, 2, none⟩ (.int .i64 g')) R s i g' e := Blk.set_ h 2 _
theorem Rdr.setE {w : World} {R i g e : Nat} {s : ByteArray} (h : Rdr w R s i g e) (e' : Nat) : Rdr (w.setCell ⟨R, 3, none⟩ (.int .i64 e')) R s i g e' := Blk.set_ h 3 _
/-- Is that byte the next one? -/
def isB (c : UInt8) (l : Bs) (e : Nat) : Bool := e == 0 && l.head? == some c
set_option maxHeartbeats 800000 in
theorem is_c (R : Nat) (s : ByteArray) (i g e : Nat) (c : UInt8) (w : World) (h : Rdr w R s i g e) (hs : s.size ≤ 1000000) :
    Calls Tryd.prog 48 #[pt R, .int .u8 c.toNat] w fun x w' => x = .returned (.bool (isB c (rest s i) e)) ∧ ∃ m, w' = w.drewN m := by
  obtain ⟨k0, k1, k2, k3⟩ := h.cells
  clear h
  unfold isB
  by_cases he : e = 0
  · subst he
    by_cases hlt : i < s.size
    · have d : decide ((i : Int) < (s.size : Int)) = true := by simp; omega
      rw [rest_cons s i hlt]
      have hb : ((0 : Nat) == 0 && ((s[i]'hlt) :: rest s (i + 1)).head? == some c) = (((s[i]'hlt).toNat : Int) == (c.toNat : Int)) := by
        rw [Bool.eq_iff_iff]; simp
        constructor
        · rintro rfl; rfl
        · intro h; exact UInt8.toNat_inj.1 (by omega)
      rw [hb]
      clear hb
      cases hq : (((s[i]'hlt).toNat : Int) == (c.toNat : Int))
      all_goals
        go_enter Tryd.func48, Tryd.ntmps48
        go_wp2
        go_quiet (fail)
        go_wp2
        go_ret
        exact ⟨rfl, _, rfl⟩
    · have d : decide ((i : Int) < (s.size : Int)) = false := by simp; omega
      have d2 : decide (i < s.size) = false := by simp; omega
      rw [rest_nil s i (by omega)]
      go_enter Tryd.func48, Tryd.ntmps48
      go_wp2
      go_quiet (fail)
      go_wp2
      go_ret
      exact ⟨rfl, _, rfl⟩
  · have d : ((e : Int) == 0) = false := by rw [beq_eq_false_iff_ne]; omega
    have d2 : (e == 0) = false := by rw [beq_eq_false_iff_ne]; omega
    rw [d2]
    go_enter Tryd.func48, Tryd.ntmps48
    go_wp2
    go_quiet (fail)
    go_wp2
    go_ret
    exact ⟨rfl, _, rfl⟩
theorem fail_c (R : Nat) (s : ByteArray) (i g e k : Nat) (w : World) (h : Rdr w R s i g e) :
    Calls Tryd.prog 37 #[pt R, .int .i64 k] w fun x w' => x = .returned (.tuple #[]) ∧ Rdr w' R s i g (failS k e) ∧ Tch (On R) w w' := by
  obtain ⟨k0, k1, k2, k3⟩ := h.cells
  have f3 := h.free 3
  by_cases he : e = 0
  · subst he
    have H := Lib.hid (h.setE k)
    have T := Lib.hid ((Tch.refl (On R) w).setCell (p := ⟨R, 3, none⟩) rfl (.int .i64 k))
    clear h
    go_enter Tryd.func37, Tryd.ntmps37
    go_wp2
    go_end0
    exact ⟨rfl, H.out, T.out⟩
  · have d : ((e : Int) == 0) = false := by rw [beq_eq_false_iff_ne]; omega
    have d2 : failS k e = e := if_neg he
    rw [d2]
    have H := Lib.hid h
    clear h
    go_enter Tryd.func37, Tryd.ntmps37
    go_wp2
    go_end0
    exact ⟨rfl, H.out, Tch.refl _ _⟩
/-- What digit leaves. -/
def DPost (R : Nat) (s : ByteArray) (g : Nat) (w : World) (spec : Except (Bs × Nat) (Nat × Bs)) (x : Ending) (w' : World) : Prop :=
  (∃ (d k : Nat), x = .returned (.int .i64 d) ∧ Rdr w' R s k g 0 ∧ k ≤ s.size ∧ Tch (On R) w w' ∧ spec = .ok (d, rest s k) ∧ d ≤ 8) ∨
  (∃ k : Nat, x = .returned (.int .i64 (-1)) ∧ Rdr w' R s k g 1 ∧ k ≤ s.size ∧ Tch (On R) w w' ∧ spec = .error (rest s k, 1))
set_option maxHeartbeats 3200000 in
set_option maxRecDepth 100000 in
theorem digit_c (R : Nat) (s : ByteArray) (i g least : Nat) (w : World) (h : Rdr w R s i g 0) (hi : i ≤ s.size) (hl : least ≤ 8) (hs : s.size ≤ 1000000) :
    Calls Tryd.prog 88 #[pt R, .int .i64 least] w (DPost R s g w (digitP least (rest s i))) := by
  obtain ⟨k0, k1, k2, k3⟩ := h.cells
  have f1 := h.free 1
  have cf := fun m => fail_c R s i g 0 1 (w.drewN m) (h.dn m)
  rw [show failS 1 0 = 1 from rfl, show ((1 : Nat) : Int) = 1 from rfl] at cf
  have H := Lib.hid h
  clear h
  have bad : digitP least (rest s i) = .error (rest s i, 1) → ∀ m w', Rdr w' R s i g 1 → Tch (On R) (w.drewN m) w' → DPost R s g w (digitP least (rest s i)) (.returned (.int .i64 (-1))) w' := by
    intro he m w' hr ht
    exact Or.inr ⟨i, rfl, hr, hi, ((Tch.refl _ w).drewN m).trans ht, he⟩
  have BAD := Lib.hid bad
  clear bad
  by_cases hlt : i < s.size
  rotate_left
  · have d : decide ((i : Int) < (s.size : Int)) = false := by simp; omega
    have he : digitP least (rest s i) = .error (rest s i, 1) := by rw [rest_nil s i (by omega)]; rfl
    have HE := Lib.hid he
    have d2 : decide (i < s.size) = false := by simp; omega
    clear he hlt
    generalize digitP least (rest s i) = SP at *
    go_enter Tryd.func88, Tryd.ntmps88
    go_wp2
    go_quiet (fail)
    go_wp2_with fail
    (with_reducible refine (cf _).mono ?_)
    rintro e w2 ⟨rfl, hr, ht⟩
    go_wp2
    first | (refine bodyPost_ret (R := DPost R s g w SP) (results_tmp rfl _ _ _) rfl ?_) | fail
    exact BAD.out HE.out _ _ hr ht
  have d : decide ((i : Int) < (s.size : Int)) = true := by simp; omega
  have hc := rest_cons s i hlt
  obtain ⟨c, hce⟩ : ∃ c, s[i]'hlt = c := ⟨_, rfl⟩
  rw [hce] at hc
  have hcl := c.toNat_lt
  have hspec : digitP least (rest s i) = if 48 + least ≤ c.toNat ∧ c.toNat ≤ 56 then .ok (c.toNat - 48, rest s (i + 1)) else .error (rest s i, 1) := by rw [hc]; rfl
  have HS := Lib.hid hspec
  clear hspec hc
  generalize digitP least (rest s i) = SP at *
  by_cases g1 : 48 ≤ c.toNat
  rotate_left
  · have e1 : decide ((48 : Int) ≤ (c.toNat : Int)) = false := by simp; omega
    have he := Lib.hid (HS.out.trans (if_neg (by omega)))
    go_enter Tryd.func88, Tryd.ntmps88
    go_wp2
    go_quiet (fail)
    go_wp2_with fail
    (with_reducible refine (cf _).mono ?_)
    rintro e w2 ⟨rfl, hr, ht⟩
    go_wp2
    first | (refine bodyPost_ret (R := DPost R s g w SP) (results_tmp rfl _ _ _) rfl ?_) | fail
    exact BAD.out he.out _ _ hr ht
  have e1 : decide ((48 : Int) ≤ (c.toNat : Int)) = true := by simp; omega
  by_cases g2 : c.toNat ≤ 56
  rotate_left
  · have e2 : decide ((c.toNat : Int) ≤ 56) = false := by simp; omega
    have he := Lib.hid (HS.out.trans (if_neg (by omega)))
    go_enter Tryd.func88, Tryd.ntmps88
    go_wp2
    go_quiet (fail)
    go_wp2_with fail
    (with_reducible refine (cf _).mono ?_)
    rintro e w2 ⟨rfl, hr, ht⟩
    go_wp2
    first | (refine bodyPost_ret (R := DPost R s g w SP) (results_tmp rfl _ _ _) rfl ?_) | fail
    exact BAD.out he.out _ _ hr ht
  have e2 : decide ((c.toNat : Int) ≤ 56) = true := by simp; omega
  by_cases g3 : 48 + least ≤ c.toNat
  rotate_left
  · have e3 : decide ((least : Int) ≤ (c.toNat : Int) - 48) = false := by simp; omega
    have he := Lib.hid (HS.out.trans (if_neg (by omega)))
    go_enter Tryd.func88, Tryd.ntmps88
    go_wp2
    go_quiet (fail)
    go_wp2_with fail
    (with_reducible refine (cf _).mono ?_)
    rintro e w2 ⟨rfl, hr, ht⟩
    go_wp2
    first | (refine bodyPost_ret (R := DPost R s g w SP) (results_tmp rfl _ _ _) rfl ?_) | fail
    exact BAD.out he.out _ _ hr ht
  have e3 : decide ((least : Int) ≤ (c.toNat : Int) - 48) = true := by simp; omega
  have he := Lib.hid (HS.out.trans (if_pos ⟨g3, g2⟩))
  clear HS BAD cf
  go_enter Tryd.func88, Tryd.ntmps88
  go_wp2
  go_quiet (fail)
  have hr1 : Rdr ((w.drewN nq).setCell ⟨R, 1, none⟩ (.int .i64 ((i + 1 : Nat) : Int))) R s (i + 1) g 0 := (H.out.dn nq).setAt (i + 1)
  have ht1 : Tch (On R) w ((w.drewN nq).setCell ⟨R, 1, none⟩ (.int .i64 ((i + 1 : Nat) : Int))) := ((Tch.refl (On R) w).drewN nq).setCell (p := ⟨R, 1, none⟩) rfl _
  rw [show ((i + 1 : Nat) : Int) = (i : Int) + 1 from rfl] at hr1 ht1
  obtain ⟨j0, j1, j2, j3⟩ := hr1.cells
  rw [show ((i + 1 : Nat) : Int) = (i : Int) + 1 from rfl] at j1
  have HR1 := Lib.hid hr1
  have HT1 := Lib.hid ht1
  clear hr1 ht1
  go_wp2_with fail
  generalize (w.drewN nq).setCell ⟨R, 1, none⟩ (.int .i64 ((i : Int) + 1)) = w3 at *
  go_quiet (fail)
  go_wp2
  first | (refine bodyPost_ret (R := DPost R s g w SP) (results_tmp rfl _ _ _) rfl ?_) | fail
  refine Or.inl ⟨c.toNat - 48, i + 1, ?_, HR1.out.dn nq, by omega, HT1.out.drewN nq, he.out, by omega⟩
  show Ending.returned (.int .i64 ((c.toNat : Int) - 48)) = _
  rw [show ((c.toNat - 48 : Nat) : Int) = (c.toNat : Int) - 48 by omega]
/-- What braces leaves. -/
def BPost (R : Nat) (s : ByteArray) (g : Nat) (w : World) (spec : Except (Bs × Nat) ((Int × Int) × Bs)) (x : Ending) (w' : World) : Prop :=
  (∃ (a b : Int) (k : Nat), x = .returned (.tuple #[.int .i64 a, .int .i64 b]) ∧ Rdr w' R s k g 0 ∧ k ≤ s.size ∧ Tch (On R) w w' ∧ spec = .ok ((a, b), rest s k)) ∨
  (∃ k : Nat, x = .returned (.tuple #[.int .i64 0, .int .i64 0]) ∧ Rdr w' R s k g 1 ∧ k ≤ s.size ∧ Tch (On R) w w' ∧ spec = .error (rest s k, 1))
end EreN
end Go.Proofs.YtpdmjegbjcefjaaDoor
