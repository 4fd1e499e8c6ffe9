/- The walks of Same, small and Plain. Conditions: texts that fit. -/
import Derived.Test.YtmhhmdnikopdlaaQuoM
import Derived.Test.YtmhhmdnikopdlaaQuoR
import Derived.Laws.StructEq
namespace Go.Proofs.Ytmhhmdnikopdlaa
open Go.RowKit
namespace QuoJ
open QuoP QuoW QuoR
theorem part_ne (x y x' y' : ByteArray) (w : World) : (binOp .neq 39 (.agg #[.string x, .string y]) (.agg #[.string x', .string y'])).run Try.prog w = .ok (.bool (!(x.toList == x'.toList && y.toList == y'.toList))) w := by
  have u := Try.underlying9
  have hS : Try.prog.underlying 39 = some (.struct (Try.prog.fieldsOf 39)) := by kernel_rfl
  rw [run_neq_struct, show (10000 : Nat) = 9998 + 1 + 1 from rfl, run_equalIn_agg w (9998 + 1) 39 _ _ hS (by kernel_rfl)]
  simp only [Program.fieldsOf, Try.underlying39]
  go_simp
  by_cases h1 : x.toList = x'.toList <;> by_cases h2 : y.toList = y'.toList <;> simp [h1, h2]
theorem pair_eq (p q : Pt) : ((ba p.1).toList == (ba q.1).toList && (ba p.2).toList == (ba q.2).toList) = decide (p = q) := by
  rw [Lib.toList_data, Lib.toList_data, Lib.toList_data, Lib.toList_data, ba_list, ba_list, ba_list, ba_list, Bool.eq_iff_iff]
  obtain ⟨a, b⟩ := p
  obtain ⟨c, d⟩ := q
  simp
set_option maxHeartbeats 1600000 in
theorem same_c (A A' : Option Addr) (n c n' c' : Nat) (l l' : List Pt) (w : World) (B : Nat) (hr : Pts w B A n l) (hr' : Pts w B A' n' l') (hn : n ≤ 4611686018427387904) (hn' : n' ≤ 4611686018427387904) :
    Calls Try.prog 11 #[.slice A n c, .slice A' n' c'] w fun e w' => e = .returned (.bool (decide (l = l'))) ∧ Below w.heap.size w w' := by
  have hl := Pts.len hr
  have hl' := Pts.len hr'
  obtain ⟨r, hR⟩ : ∃ r, decide (l = l') = r := ⟨_, rfl⟩
  have HR := Lib.hid hR
  rw [hR]
  clear hR
  by_cases hnn : n = n'
  rotate_left
  · have d : ((n : Int) == (n' : Int)) = false := by rw [beq_eq_false_iff_ne]; omega
    have d1 : ((n : Int) != (n' : Int)) = true := by simp [bne, d]
    go_enter Try.func11, Try.ntmps11
    go_wp2
    go_ret
    refine ⟨?_, Below.refl _ _⟩
    rw [← HR.out, show decide (l = l') = false by rw [decide_eq_false_iff_not]; intro e; rw [e] at hl; omega]; rfl
  subst hnn
  go_enter Try.func11, Try.ntmps11
  go_wp2
  go_loopw [5] (fun v wr => ∃ k : Nat, v = .int .i64 k ∧ k ≤ n ∧ Hid (l.take k = l'.take k) ∧ ∃ m, wr = w.drewN m) (fun v _ => n - (intOf v).toNat)
  case atStart => exact ⟨0, rfl, by omega, rfl, 0, rfl⟩
  case round =>
    obtain ⟨k, rfl, hk, HK, m, rfl⟩ := hrel
    by_cases hlt : k < n
    · obtain ⟨g, o, p, rfl, hg, hp, q1, q2⟩ := Pts.get hr hlt
      obtain ⟨g', o', p', rfl, hg', hp', q1', q2'⟩ := Pts.get hr' hlt
      generalize hw : w.drewN m = wd
      have q1 : wd.cell? ⟨g, o + k * 2, none⟩ = some (.string (ba p.1)) := by subst hw; exact q1
      have q2 : wd.cell? ⟨g, o + k * 2 + 1, none⟩ = some (.string (ba p.2)) := by subst hw; exact q2
      have q1' : wd.cell? ⟨g', o' + k * 2, none⟩ = some (.string (ba p'.1)) := by subst hw; exact q1'
      have q2' : wd.cell? ⟨g', o' + k * 2 + 1, none⟩ = some (.string (ba p'.2)) := by subst hw; exact q2'
      have hne := fun W => part_ne (ba p.1) (ba p.2) (ba p'.1) (ba p'.2) W
      rw [pair_eq] at hne
      cases he : decide (p = p')
      · rw [he] at hne
        have NE : Hid (decide (l = l') = false) := Lib.hid (by
          rw [decide_eq_false_iff_not]; intro e; subst e; rw [hp] at hp'; injection hp' with e; exact (of_decide_eq_false he) e)
        go_wp2_with fail
        go_quiet (fail)
        go_wp2_with fail
        go_ret
        refine ⟨by rw [← HR.out, NE.out]; rfl, ?_⟩
        subst hw
        exact below_dn (below_dn (Below.refl _ _) _) _
      · rw [he] at hne
        have EQ : Hid (l.take (k + 1) = l'.take (k + 1)) := Lib.hid (by
          rw [List.take_add_one, List.take_add_one, HK.out, hp, hp', of_decide_eq_true he])
        go_wp2_with fail
        go_quiet (fail)
        go_wp2_with fail
        go_roundw
        case rel => exact ⟨k + 1, by go_num, by omega, EQ, m + nq, by subst hw; simp [World.drewN, Nat.add_assoc]⟩
        case measure => simp [intOf]; omega
    · obtain rfl : k = n := by omega
      go_wp2
      go_ret
      refine ⟨?_, below_dn (Below.refl _ _) _⟩
      have ha := HK.out
      rw [List.take_of_length_le (by omega), List.take_of_length_le (by omega)] at ha
      rw [← HR.out, ha]; simp
end QuoJ
end Go.Proofs.Ytmhhmdnikopdlaa
