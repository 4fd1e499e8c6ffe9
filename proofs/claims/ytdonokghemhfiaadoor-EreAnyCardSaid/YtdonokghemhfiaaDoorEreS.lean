/- The walks of sets of bytes. Conditions: numbers of a byte. -/
import Derived.Test.YtdonokghemhfiaaDoorEreW
import Derived.Test.YtdonokghemhfiaaDoorEreB
import Derived.RegionTactic
import Derived.ChangeAlike
namespace Go.Proofs.YtdonokghemhfiaaDoor
set_option linter.unusedVariables false
set_option linter.unusedSimpArgs false
open Go.RowKit
namespace EreW
open EreP
/-- A set's four words. -/
def wcells (S : Nat) : Array Value := #[.int .u64 (word S 0), .int .u64 (word S 1), .int .u64 (word S 2), .int .u64 (word S 3)]
abbrev setV (S : Nat) : Value := .agg #[.int .u64 (word S 0), .int .u64 (word S 1), .int .u64 (word S 2), .int .u64 (word S 3)]
theorem wcells_at (S k : Nat) (h : k < 4) : (wcells S)[k]? = some (.int .u64 (word S k)) := by
  rcases (by omega : k = 0 ∨ k = 1 ∨ k = 2 ∨ k = 3) with rfl | rfl | rfl | rfl <;> rfl
theorem and63 (c : Nat) (h : c ≤ 255) : bits .and .i64 (c : Int) 63 = ((c % 64 : Nat) : Int) := by
  have : ∀ k : Fin 256, bits .and .i64 ((k.val : Nat) : Int) 63 = ((k.val % 64 : Nat) : Int) := by decide +kernel
  exact this ⟨c, by omega⟩
theorem or_pow (old r : Nat) (h : old < 18446744073709551616) (hr : r < 64) : bits .or .u64 (old : Int) (IntKind.u64.wrap (2 ^ r)) = ((old ||| 1 <<< r : Nat) : Int) := by
  have h1 : (2 : Int) ^ r = ((2 ^ r : Nat) : Int) := by push_cast; rfl
  have h2 : (2 : Nat) ^ r < 18446744073709551616 := by
    have : (2 : Nat) ^ r < 2 ^ 64 := Nat.pow_lt_pow_right (by decide) hr
    exact this
  have h3 : IntKind.u64.wrap ((2 : Int) ^ r) = ((2 ^ r : Nat) : Int) := by
    rw [h1]
    simp only [IntKind.wrap, IntKind.bits, IntKind.signed]
    generalize (2 : Nat) ^ r = p at *
    simp; omega
  rw [h3, u64_or_nat _ _ h h2, Nat.one_shiftLeft]
theorem wcells_or (S c : Nat) (h : c < 256) : wcells (S ||| oneS c) = (wcells S).setIfInBounds (c / 64) (.int .u64 ((word S (c / 64) ||| 1 <<< (c % 64) : Nat) : Int)) := by
  unfold wcells
  simp only [word_or, word_one]
  rcases (by omega : c / 64 = 0 ∨ c / 64 = 1 ∨ c / 64 = 2 ∨ c / 64 = 3) with h | h | h | h <;> rw [h] <;> simp
theorem set_of (S T : Nat) (h : wcells S = wcells T) : setV S = setV T := by
  unfold wcells at h; unfold setV; rw [h]
set_option maxHeartbeats 1600000 in
theorem with_c (S : Nat) (a b : UInt8) (w : World) :
    Calls Tryd.prog 76 #[setV S, .int .u8 a.toNat, .int .u8 b.toNat] w fun x w' => x = .returned (setV (S ||| rangeS a.toNat b.toNat)) ∧ Below w.heap.size w w' := by
  have ha := a.toNat_lt
  have hb := b.toNat_lt
  generalize a.toNat = a at *
  generalize b.toNat = b at *
  have fit : a < 2 ^ 8 → a ≤ 255 := by omega
  replace ha : a ≤ 255 := by omega
  replace hb : b ≤ 255 := by omega
  obtain ⟨w0, hw0⟩ : ∃ z : World, z = (w.alloc (.cells #[.int .u64 (word S 0), .int .u64 (word S 1), .int .u64 (word S 2), .int .u64 (word S 3)] 25)).alloc (.cells #[.int .u64 0, .int .u64 0, .int .u64 0, .int .u64 0] 25) := ⟨_, rfl⟩
  have b0 : Blk w0 w.heap.size 25 (wcells S) := by rw [hw0]; exact (Blk.new _ _ _).alloc _
  have b1 : Blk w0 (w.heap.size + 1) 25 #[.int .u64 0, .int .u64 0, .int .u64 0, .int .u64 0] := by rw [hw0]; exact Blk.new1 _ _ _ _
  have hbel : Below w.heap.size w w0 := by rw [hw0]; exact ((Below.refl _ _).alloc (Nat.le_refl _) _).alloc (by rw [World.size_alloc]; omega) _
  clear fit
  go_enter Tryd.func76, Tryd.ntmps76
  go_wp2
  rw [← hw0]
  clear hw0
  go_loopw [7] (fun cv wr => ∃ c : Nat, cv = .int .i64 c ∧ c ≤ 256 ∧ a ≤ c ∧ c ≤ max a (b + 1) ∧ Blk wr w.heap.size 25 (wcells (S ||| fromS a c)) ∧ Blk wr (w.heap.size + 1) 25 #[.int .u64 0, .int .u64 0, .int .u64 0, .int .u64 0] ∧ Below w.heap.size w wr) (fun cv _ => 257 - (intOf cv).toNat)
  case atStart => exact ⟨a, rfl, by omega, by omega, by omega, by rw [from_le a a (Nat.le_refl _), Nat.or_zero]; exact b0, b1, hbel⟩
  case round =>
    clear hbel b0 b1
    obtain ⟨z0, rfl⟩ : ∃ z : World, z = wr := ⟨_, rfl⟩
    obtain ⟨c, rfl, hc, hac, hcm, hB, hB1, hbel⟩ := hrel
    by_cases hlt : c ≤ b
    · have d : decide ((c : Int) ≤ (b : Int)) = true := by simp; omega
      have y0 := hB.cell (c / 64)
      rw [wcells_at _ _ (by omega)] at y0
      have f0 := hB.loose (c / 64)
      have e5 := or_pow (word (S ||| fromS a c) (c / 64)) (c % 64) (word_lt _ _) (Nat.mod_lt _ (by decide))
      have e6 := wcells_or (S ||| fromS a c) c (by omega)
      have B2 := hB.set_ (c / 64) (.int .u64 ((word (S ||| fromS a c) (c / 64) ||| 1 <<< (c % 64) : Nat) : Int))
      rw [← e6, Nat.or_assoc, show fromS a c ||| oneS c = fromS a (c + 1) by rw [from_succ, if_pos hac], ← e5] at B2
      have B3 := hB1.far (p := ⟨w.heap.size, c / 64, none⟩) (by show w.heap.size + 1 ≠ w.heap.size; omega) (.int .u64 (bits .or .u64 ((word (S ||| fromS a c) (c / 64) : Nat) : Int) (IntKind.u64.wrap (2 ^ (c % 64)))))
      have b4 := hbel.setCell (p := ⟨w.heap.size, c / 64, none⟩) (Nat.le_refl _) (.int .u64 (bits .or .u64 ((word (S ||| fromS a c) (c / 64) : Nat) : Int) (IntKind.u64.wrap (2 ^ (c % 64)))))
      obtain ⟨q, hq⟩ : ∃ q, q = c / 64 := ⟨_, rfl⟩
      obtain ⟨r, hr⟩ : ∃ r, r = c % 64 := ⟨_, rfl⟩
      have e1 : (c : Int) / 64 = (q : Int) := by omega
      have e2 := and63 c (by omega)
      have q4 : q < 4 := by omega
      have r64 : r < 64 := by omega
      rw [← hr] at e2 B2 B3 b4
      rw [← hq] at y0 f0 B2 B3 b4
      have H2 := Lib.hid B2
      have H3 := Lib.hid B3
      have H4 := Lib.hid b4
      clear hq hr e5 e6 B2 B3 b4
      generalize word (S ||| fromS a c) q = old at *
      clear hB hB1
      go_wp2_with fail
      go_region
      go_wp2
      go_roundw
      case rel => exact ⟨c + 1, by go_num, by omega, by omega, by omega, H2.out, H3.out, below_dn H4.out 1⟩
      case measure => simp [intOf]; omega
    · have d : decide ((c : Int) ≤ (b : Int)) = false := by simp; omega
      have x0 := hB.cell 0
      have x1 := hB.cell 1
      have x2 := hB.cell 2
      have x3 := hB.cell 3
      have z0' := hB1.cell 0
      have z1' := hB1.cell 1
      have z2' := hB1.cell 2
      have z3' := hB1.cell 3
      have f0 := hB1.loose 0
      have f1 := hB1.loose 1
      have f2 := hB1.loose 2
      have f3 := hB1.loose 3
      rw [wcells_at _ _ (by omega)] at x0 x1 x2 x3
      simp only [List.getElem?_toArray, List.getElem?_cons_zero, List.getElem?_cons_succ] at z0' z1' z2' z3'
      have es : S ||| rangeS a b = S ||| fromS a c := by
        by_cases h : a ≤ b
        · have : c = b + 1 := by omega
          rw [this]; rfl
        · have : c = a := by omega
          rw [this, from_le a a (Nat.le_refl _)]
          unfold rangeS; rw [from_le a (b + 1) (by omega)]
      have HE := Lib.hid (congrArg setV es)
      generalize S ||| fromS a c = T at *
      have hl := hB1.lt
      clear hB hB1 es
      go_wp2
      refine bodyPost_ret (v := setV T) (by simp [results, Tryd.results76, go_sem, z0', z1', z2', z3']) rfl ⟨by rw [HE.out], ?_⟩
      go_grown
theorem unxor (x : Nat) (h : x < 18446744073709551616) : bits .xor .u64 IntKind.u64.max (x : Int) = ((18446744073709551615 - x : Nat) : Int) := by
  have h1 := u64_xor_nat 18446744073709551615 x (by decide) h
  have h2 : (18446744073709551615 : Nat) ^^^ x = 18446744073709551615 - x := by
    apply Nat.eq_of_testBit_eq; intro i
    rw [Nat.testBit_xor, show 18446744073709551615 - x = 2 ^ 64 - (x + 1) by omega, Nat.testBit_two_pow_sub_succ (by omega), show (18446744073709551615 : Nat) = 2 ^ 64 - 1 from rfl, Nat.testBit_two_pow_sub_one]
    by_cases hi : i < 64
    · simp [hi]
    · rw [w64 h (by omega)]; simp [hi]
  rw [h2] at h1
  exact h1
set_option maxHeartbeats 1600000 in
theorem not_c (S : Nat) (w : World) :
    Calls Tryd.prog 53 #[setV S] w fun x w' => x = .returned (setV (notS S)) ∧ Below w.heap.size w w' := by
  have HE : Hid (setV (notS S) = .agg #[.int .u64 (bits .xor .u64 IntKind.u64.max (word S 0 : Int)), .int .u64 (bits .xor .u64 IntKind.u64.max (word S 1 : Int)), .int .u64 (bits .xor .u64 IntKind.u64.max (word S 2 : Int)), .int .u64 (bits .xor .u64 IntKind.u64.max (word S 3 : Int))]) := Lib.hid (by
    unfold setV; rw [word_not S 0 (by omega), word_not S 1 (by omega), word_not S 2 (by omega), word_not S 3 (by omega), unxor _ (word_lt _ _), unxor _ (word_lt _ _), unxor _ (word_lt _ _), unxor _ (word_lt _ _)])
  obtain ⟨R, hR⟩ : ∃ R, setV (notS S) = R := ⟨_, rfl⟩
  have HR := Lib.hid hR
  rw [hR]
  clear hR
  unfold setV
  generalize word S 0 = a at *
  generalize word S 1 = b at *
  generalize word S 2 = c at *
  generalize word S 3 = d at *
  go_enter Tryd.func53, Tryd.ntmps53
  go_wp2
  refine wp_loop_rounds 5 ?_
  rw [rounds_succ]
  go_wp2
  rw [rounds_succ]
  go_wp2
  rw [rounds_succ]
  go_wp2
  rw [rounds_succ]
  go_wp2
  rw [rounds_succ]
  go_wp2
  refine bodyPost_ret (v := R) ?_ rfl ⟨rfl, ?_⟩
  · rw [← HR.out, HE.out]
    simp [results, Tryd.results53, go_sem]
  · go_grown
end EreW
end Go.Proofs.YtdonokghemhfiaaDoor
