/- The walks of the expression reader's end and class. Conditions: texts that fit. -/
import Derived.Test.YtdonokghemhfiaaDoorEreS
namespace Go.Proofs.YtdonokghemhfiaaDoor
set_option linter.unusedVariables false
set_option linter.unusedSimpArgs false
open Go.RowKit
namespace EreW
open EreP
/-- How an item's byte was read. -/
def EndPost (s : ByteArray) (R i g : Nat) (w : World) (x : Ending) (w' : World) : Prop :=
  ∃ (c : UInt8) (k e : Nat), x = .returned (.int .u8 c.toNat) ∧ Rdr w' R s k g e ∧ k ≤ s.size ∧ Tch (On R) w w' ∧
    ((e = 0 ∧ itemP (rest s i) = .ok (c, rest s k)) ∨ (e = 1 ∧ itemP (rest s i) = .error (rest s k, 1)))
abbrev bS (l : Array UInt8) : ByteArray := ⟨l⟩
set_option maxHeartbeats 1600000 in
theorem end_c (R : Nat) (s : ByteArray) (i g : Nat) (w : World) (h : Rdr w R s i g 0) (hi : i ≤ s.size) (hs : s.size ≤ 4611686018427387904) :
    Calls Tryd.prog 75 #[pt R] w (EndPost s R i g w) := by
  have cp := peek_c R s ⟨#[93, 45]⟩ i g 0 w h
  by_cases hlt : i < s.size
  · rw [rest_cons s i hlt] at cp
    have hn := fun m => next_ok R s i g (w.drewN m) (h.dn m) hlt hs
    have hE := rest_cons s i hlt
    generalize hc : (s[i]'hlt) = c at *
    clear hc
    by_cases h1 : (c == 93 || c == 45) = true
    · have hI : Hid (itemP (rest s i) = .error (rest s i, 1)) := Lib.hid (by rw [hE, itemP.eq_def]; simp only; rw [if_pos h1])
      have hp : peekB (⟨#[93, 45]⟩ : ByteArray).data.toList (c :: rest s (i + 1)) 0 = true := by
        show List.contains [93, 45] c = true
        simp at h1 ⊢; exact h1
      rw [hp] at cp
      clear h1 hp hE hn
      go_enter Tryd.func75, Tryd.ntmps75
      go_wp2_with fail
      (with_reducible refine cp.mono ?_)
      rintro x w1 ⟨rfl, m, rfl⟩
      have cf := fail1_c R s i g 0 (w.drewN m) (h.dn m)
      have t1 := (Tch.refl (On R) w).drewN m
      clear cp
      go_wp2_with fail
      (with_reducible refine cf.mono ?_)
      rintro x w2 ⟨rfl, h2, t2⟩
      go_wp2
      go_ret
      exact ⟨0, i, 1, rfl, h2, hi, t1.trans t2, Or.inr ⟨rfl, hI.out⟩⟩
    · have hp : peekB (⟨#[93, 45]⟩ : ByteArray).data.toList (c :: rest s (i + 1)) 0 = false := by
        show List.contains [93, 45] c = false
        simp at h1 ⊢; exact h1
      rw [hp] at cp
      by_cases h2 : c = 92
      · subst h2
        by_cases hl2 : i + 1 < s.size
        · have hI : Hid (itemP (rest s i) = .ok (s[i + 1]'hl2, rest s (i + 1 + 1))) := Lib.hid (by rw [hE, rest_cons s (i + 1) hl2, itemP.eq_def]; rfl)
          have hn2 := fun W hW => next_ok R s (i + 1) g W hW hl2 hs
          generalize (s[i + 1]'hl2) = c2 at *
          clear h1 hp hE
          go_enter Tryd.func75, Tryd.ntmps75
          go_wp2_with fail
          (with_reducible refine cp.mono ?_)
          rintro x w1 ⟨rfl, m, rfl⟩
          have cn := hn m
          have t1 := (Tch.refl (On R) w).drewN m
          clear cp hn
          go_wp2_with fail
          (with_reducible refine cn.mono ?_)
          rintro x w2 ⟨rfl, h2, t2⟩
          obtain ⟨k0, k1, k2, k3⟩ := h2.cells
          have cn2 := hn2 w2 h2
          clear cn hn2
          rw [show (((92 : UInt8).toNat : Nat) : Int) = 92 from rfl]
          go_wp2_with fail
          (with_reducible refine cn2.mono ?_)
          rintro x w3 ⟨rfl, h3, t3⟩
          go_wp2
          go_ret
          exact ⟨c2, i + 1 + 1, 0, rfl, h3, by omega, (t1.trans t2).trans t3, Or.inl ⟨rfl, hI.out⟩⟩
        · have hI : Hid (itemP (rest s i) = .error (rest s (i + 1), 1)) := Lib.hid (by rw [hE, rest_nil s (i + 1) (by omega), itemP.eq_def]; rfl)
          have hn2 := fun W hW => next_no R s (i + 1) g 0 W hW (Or.inr (by omega))
          clear h1 hp hE
          go_enter Tryd.func75, Tryd.ntmps75
          go_wp2_with fail
          (with_reducible refine cp.mono ?_)
          rintro x w1 ⟨rfl, m, rfl⟩
          have cn := hn m
          have t1 := (Tch.refl (On R) w).drewN m
          clear cp hn
          go_wp2_with fail
          (with_reducible refine cn.mono ?_)
          rintro x w2 ⟨rfl, h2, t2⟩
          obtain ⟨k0, k1, k2, k3⟩ := h2.cells
          have cn2 := hn2 w2 h2
          clear cn hn2
          rw [show (((92 : UInt8).toNat : Nat) : Int) = 92 from rfl]
          go_wp2_with fail
          (with_reducible refine cn2.mono ?_)
          rintro x w3 ⟨rfl, h3, t3⟩
          go_wp2
          go_ret
          exact ⟨0, i + 1, 1, rfl, h3, by omega, (t1.trans t2).trans t3, Or.inr ⟨rfl, hI.out⟩⟩
      · have hI : Hid (itemP (rest s i) = .ok (c, rest s (i + 1))) := Lib.hid (by rw [hE, itemP.eq_def]; simp only; rw [if_neg h1, if_neg (by simpa using h2)])
        have d : ((c.toNat : Int) == 92) = false := by
          rw [beq_eq_false_iff_ne]; intro e; apply h2; apply UInt8.toNat_inj.1; show c.toNat = 92; omega
        clear h1 hp hE h2
        go_enter Tryd.func75, Tryd.ntmps75
        go_wp2_with fail
        (with_reducible refine cp.mono ?_)
        rintro x w1 ⟨rfl, m, rfl⟩
        have cn := hn m
        have t1 := (Tch.refl (On R) w).drewN m
        clear cp hn
        go_wp2_with fail
        (with_reducible refine cn.mono ?_)
        rintro x w2 ⟨rfl, h2, t2⟩
        go_wp2
        go_ret
        exact ⟨c, i + 1, 0, rfl, h2, by omega, t1.trans t2, Or.inl ⟨rfl, hI.out⟩⟩
  · have hI : Hid (itemP (rest s i) = .error (rest s i, 1)) := Lib.hid (by rw [rest_nil s i (by omega)]; rfl)
    rw [rest_nil s i (by omega)] at cp
    have hn := fun m => next_no R s i g 0 (w.drewN m) (h.dn m) (Or.inr (by omega))
    have hp : peekB (⟨#[93, 45]⟩ : ByteArray).data.toList [] 0 = false := rfl
    rw [hp] at cp
    go_enter Tryd.func75, Tryd.ntmps75
    go_wp2_with fail
    (with_reducible refine cp.mono ?_)
    rintro x w1 ⟨rfl, m, rfl⟩
    have cn := hn m
    have t1 := (Tch.refl (On R) w).drewN m
    clear cp hn hp
    go_wp2_with fail
    (with_reducible refine cn.mono ?_)
    rintro x w2 ⟨rfl, h2, t2⟩
    go_wp2
    go_ret
    exact ⟨0, i, 1, rfl, h2, hi, t1.trans t2, Or.inr ⟨rfl, hI.out⟩⟩
end EreW
end Go.Proofs.YtdonokghemhfiaaDoor
