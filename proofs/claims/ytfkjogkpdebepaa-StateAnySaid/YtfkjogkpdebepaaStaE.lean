/- The walks of the references' Same of variables and of numbers. Conditions: lists that fit. -/
import Derived.Test.YtfkjogkpdebepaaStaZ
import Derived.Laws.StructEq
namespace Go.Proofs.Ytfkjogkpdebepaa
open Go.RowKit
namespace StaE
open StaP StaL StaG StaX StaZ
theorem vr_len {w : World} {B n : Nat} {A : Option Addr} {l : List MVr} (h : Rd w B 2 A n (vcells l)) : l.length = n := by
  have := h.1; rw [vcells_len] at this; omega
theorem vr_get {w : World} {B n k : Nat} {A : Option Addr} {l : List MVr} (h : Rd w B 2 A n (vcells l)) (hk : k < n) : ∃ g o p, A = some ⟨g, o, none⟩ ∧ g < B ∧ l[k]? = some p ∧ w.cell? ⟨g, o + k * 2, none⟩ = some (.string (bz p.1)) ∧ w.cell? ⟨g, o + k * 2 + 1, none⟩ = some (.string (bz p.2)) := by
  obtain ⟨g, o, e, hb, hc⟩ := Rd.flat h (by omega) (by omega)
  have hl := vr_len h
  have hp : l[k]? = some (l[k]'(by omega)) := List.getElem?_eq_getElem (by omega)
  obtain ⟨h1, h2⟩ := vcells_at l k _ hp
  exact ⟨g, o, _, e, hb, hp, hc _ _ h1, by rw [Nat.add_assoc]; exact hc _ _ h2⟩
theorem in_get {w : World} {B n k : Nat} {A : Option Addr} {l : List Int} (h : Rd w B 1 A n (ints l)) (hk : k < n) : ∃ g o p, A = some ⟨g, o, none⟩ ∧ g < B ∧ l[k]? = some p ∧ w.cell? ⟨g, o + k, none⟩ = some (.int .i64 p) := by
  obtain ⟨g, o, e, hb, hc⟩ := Rd.flat h (by omega) (by omega)
  have hl := h.1
  rw [List.length_map] at hl
  have hp : l[k]? = some (l[k]'(by omega)) := List.getElem?_eq_getElem (by omega)
  exact ⟨g, o, _, e, hb, hp, hc _ _ (by rw [ints, List.getElem?_map, hp]; rfl)⟩
theorem in_len {w : World} {B n : Nat} {A : Option Addr} {l : List Int} (h : Rd w B 1 A n (ints l)) : l.length = n := by
  have := h.1; rw [List.length_map] at this; omega
theorem var_ne (x y x' y' : ByteArray) (w : World) : (binOp .neq 45 (.agg #[.string x, .string y]) (.agg #[.string x', .string y'])).run Try.prog w = .ok (.bool (!(x.toList == x'.toList && y.toList == y'.toList))) w := by
  have u := Try.underlying9
  have hS : Try.prog.underlying 45 = some (.struct (Try.prog.fieldsOf 45)) := by kernel_rfl
  rw [run_neq_struct, show (10000 : Nat) = 9998 + 1 + 1 from rfl, run_equalIn_agg w (9998 + 1) 45 _ _ hS (by kernel_rfl)]
  simp only [Program.fieldsOf, Try.underlying45]
  go_simp
  by_cases h1 : x.toList = x'.toList <;> by_cases h2 : y.toList = y'.toList <;> simp [h1, h2]
theorem pair_eq (p q : MVr) : ((bz p.1).toList == (bz q.1).toList && (bz p.2).toList == (bz q.2).toList) = decide (p = q) := by
  rw [Lib.toList_data, Lib.toList_data, Lib.toList_data, Lib.toList_data, bz_list, bz_list, bz_list, bz_list, Bool.eq_iff_iff]
  obtain ⟨a, b⟩ := p
  obtain ⟨c, d⟩ := q
  simp
set_option maxHeartbeats 1600000 in
theorem samevars_c (A A' : Option Addr) (n c n' c' : Nat) (l l' : List MVr) (w : World) (B : Nat) (hr : Rd w B 2 A n (vcells l)) (hr' : Rd w B 2 A' n' (vcells l')) (hn : n ≤ 4611686018427387904) (hn' : n' ≤ 4611686018427387904) :
    Calls Try.prog 42 #[.slice A n c, .slice A' n' c'] w fun e w' => e = .returned (.bool (decide (l = l'))) ∧ Below w.heap.size w w' := by
  have hl := vr_len hr
  have hl' := vr_len hr'
  obtain ⟨r, hR⟩ : ∃ r, decide (l = l') = r := ⟨_, rfl⟩
  have HR := Lib.hid hR
  rw [hR]
  clear hR
  by_cases hnn : n = n'
  rotate_left
  · have d : ((n : Int) == (n' : Int)) = false := by rw [beq_eq_false_iff_ne]; omega
    have d1 : ((n : Int) != (n' : Int)) = true := by simp [bne, d]
    go_enter Try.func42, Try.ntmps42
    go_wp2
    go_ret
    refine ⟨?_, Below.refl _ _⟩
    rw [← HR.out, show decide (l = l') = false by rw [decide_eq_false_iff_not]; intro e; rw [e] at hl; omega]; rfl
  subst hnn
  go_enter Try.func42, Try.ntmps42
  go_wp2
  go_loopw [5] (fun v wr => ∃ k : Nat, v = .int .i64 k ∧ k ≤ n ∧ Hid (l.take k = l'.take k) ∧ ∃ m, wr = w.drewN m) (fun v _ => n - (intOf v).toNat)
  case atStart => exact ⟨0, rfl, by omega, rfl, 0, rfl⟩
  case round =>
    obtain ⟨k, rfl, hk, HK, m, rfl⟩ := hrel
    by_cases hlt : k < n
    · obtain ⟨g, o, p, rfl, hg, hp, q1, q2⟩ := vr_get hr hlt
      obtain ⟨g', o', p', rfl, hg', hp', q1', q2'⟩ := vr_get hr' hlt
      generalize hw : w.drewN m = wd
      have q1 : wd.cell? ⟨g, o + k * 2, none⟩ = some (.string (bz p.1)) := by subst hw; exact q1
      have q2 : wd.cell? ⟨g, o + k * 2 + 1, none⟩ = some (.string (bz p.2)) := by subst hw; exact q2
      have q1' : wd.cell? ⟨g', o' + k * 2, none⟩ = some (.string (bz p'.1)) := by subst hw; exact q1'
      have q2' : wd.cell? ⟨g', o' + k * 2 + 1, none⟩ = some (.string (bz p'.2)) := by subst hw; exact q2'
      have hne := fun W => var_ne (bz p.1) (bz p.2) (bz p'.1) (bz p'.2) W
      rw [pair_eq] at hne
      cases he : decide (p = p')
      · rw [he] at hne
        have NE : Hid (decide (l = l') = false) := Lib.hid (by
          rw [decide_eq_false_iff_not]; intro e; subst e; rw [hp] at hp'; injection hp' with e; exact (of_decide_eq_false he) e)
        go_wp2_with fail
        go_quiet (fail)
        go_wp2_with fail
        go_ret
        refine ⟨by rw [← HR.out, NE.out]; rfl, ?_⟩
        subst hw
        exact below_dn (below_dn (Below.refl _ _) _) _
      · rw [he] at hne
        have EQ : Hid (l.take (k + 1) = l'.take (k + 1)) := Lib.hid (by
          rw [List.take_add_one, List.take_add_one, HK.out, hp, hp', of_decide_eq_true he])
        go_wp2_with fail
        go_quiet (fail)
        go_wp2_with fail
        go_roundw
        case rel => exact ⟨k + 1, by go_num, by omega, EQ, m + nq, by subst hw; simp [World.drewN, Nat.add_assoc]⟩
        case measure => simp [intOf]; omega
    · obtain rfl : k = n := by omega
      go_wp2
      go_ret
      refine ⟨?_, below_dn (Below.refl _ _) _⟩
      have ha := HK.out
      rw [List.take_of_length_le (by omega), List.take_of_length_le (by omega)] at ha
      rw [← HR.out, ha]; simp
set_option maxHeartbeats 1600000 in
theorem sameints_c (A A' : Option Addr) (n c n' c' : Nat) (l l' : List Int) (w : World) (B : Nat) (hr : Rd w B 1 A n (ints l)) (hr' : Rd w B 1 A' n' (ints l')) (hn : n ≤ 4611686018427387904) (hn' : n' ≤ 4611686018427387904) :
    Calls Try.prog 43 #[.slice A n c, .slice A' n' c'] w fun e w' => e = .returned (.bool (decide (l = l'))) ∧ Below w.heap.size w w' := by
  have hl := in_len hr
  have hl' := in_len hr'
  obtain ⟨r, hR⟩ : ∃ r, decide (l = l') = r := ⟨_, rfl⟩
  have HR := Lib.hid hR
  rw [hR]
  clear hR
  by_cases hnn : n = n'
  rotate_left
  · have d : ((n : Int) == (n' : Int)) = false := by rw [beq_eq_false_iff_ne]; omega
    have d1 : ((n : Int) != (n' : Int)) = true := by simp [bne, d]
    go_enter Try.func43, Try.ntmps43
    go_wp2
    go_ret
    refine ⟨?_, Below.refl _ _⟩
    rw [← HR.out, show decide (l = l') = false by rw [decide_eq_false_iff_not]; intro e; rw [e] at hl; omega]; rfl
  subst hnn
  go_enter Try.func43, Try.ntmps43
  go_wp2
  go_loopw [5] (fun v wr => ∃ k : Nat, v = .int .i64 k ∧ k ≤ n ∧ Hid (l.take k = l'.take k) ∧ ∃ m, wr = w.drewN m) (fun v _ => n - (intOf v).toNat)
  case atStart => exact ⟨0, rfl, by omega, rfl, 0, rfl⟩
  case round =>
    obtain ⟨k, rfl, hk, HK, m, rfl⟩ := hrel
    by_cases hlt : k < n
    · obtain ⟨g, o, p, rfl, hg, hp, q1⟩ := in_get hr hlt
      obtain ⟨g', o', p', rfl, hg', hp', q1'⟩ := in_get hr' hlt
      generalize hw : w.drewN m = wd
      have q1 : wd.cell? ⟨g, o + k, none⟩ = some (.int .i64 p) := by subst hw; exact q1
      have q1' : wd.cell? ⟨g', o' + k, none⟩ = some (.int .i64 p') := by subst hw; exact q1'
      by_cases hpp : p = p'
      rotate_left
      · skip
        have NE : Hid (decide (l = l') = false) := Lib.hid (by
          rw [decide_eq_false_iff_not]; intro e; subst e; rw [hp] at hp'; injection hp' with e; exact hpp e)
        go_wp2_with fail
        go_quiet (fail)
        go_wp2_with fail
        go_ret
        refine ⟨by rw [← HR.out, NE.out]; rfl, ?_⟩
        subst hw
        exact below_dn (below_dn (Below.refl _ _) _) _
      · have d1 : (p == p') = true := by rw [beq_iff_eq]; exact hpp
        have d2 : (p != p') = false := by simp [bne, d1]
        have EQ : Hid (l.take (k + 1) = l'.take (k + 1)) := Lib.hid (by
          rw [List.take_add_one, List.take_add_one, HK.out, hp, hp', hpp])
        go_wp2_with fail
        go_quiet (fail)
        go_wp2_with fail
        go_roundw
        case rel => exact ⟨k + 1, by go_num, by omega, EQ, m + nq, by subst hw; simp [World.drewN, Nat.add_assoc]⟩
        case measure => simp [intOf]; omega
    · obtain rfl : k = n := by omega
      go_wp2
      go_ret
      refine ⟨?_, below_dn (Below.refl _ _) _⟩
      have ha := HK.out
      rw [List.take_of_length_le (by omega), List.take_of_length_le (by omega)] at ha
      rw [← HR.out, ha]; simp
end StaE
end Go.Proofs.Ytfkjogkpdebepaa
