/- The walks of the expression reader's small methods. Conditions: texts that fit. -/
import Derived.Test.YtpdmjegbjcefjaaDoorEreB
import Derived.Test.YtpdmjegbjcefjaaDoorShelf
import Derived.RegionTactic
import Derived.ChangeAlike
namespace Go.Proofs.YtpdmjegbjcefjaaDoor
open Go.RowKit
namespace EreW
open EreP
abbrev On (R : Nat) : Nat → Prop := fun k => k = R
abbrev pt (R : Nat) : Value := .pointer (some ⟨R, 0, none⟩)
/-- What is left. -/
abbrev rest (s : ByteArray) (i : Nat) : Bs := s.data.toList.drop i
theorem rest_cons (s : ByteArray) (i : Nat) (h : i < s.size) : rest s i = (s[i]'h) :: rest s (i + 1) := by
  unfold rest; rw [List.drop_eq_getElem_cons (by simpa using h)]; rfl
theorem rest_nil (s : ByteArray) (i : Nat) (h : s.size ≤ i) : rest s i = [] := List.drop_eq_nil_of_le (by rw [← Lib.size_eq]; exact h)
theorem rest_len (s : ByteArray) (i : Nat) : (rest s i).length = s.size - i := by unfold rest; rw [List.length_drop, ← Lib.size_eq]
theorem rest_inj {s : ByteArray} {i : Nat} {r : Bs} {k : Nat} (h : rest s i = r) (hk : r.length = s.size - k) (hi : i ≤ s.size) (hks : k ≤ s.size) : i = k := by
  have := rest_len s i; rw [h] at this; omega
def failS (k e : Nat) : Nat := if e = 0 then k else e
def peekB (any : Bs) (l : Bs) (e : Nat) : Bool := e == 0 && (match l with | [] => false | c :: _ => any.contains c)
theorem idx_any (any : Bs) (c : UInt8) : decide ((0 : Int) ≤ Lib.indexByte any c) = any.contains c := by
  rw [Bool.eq_iff_iff, decide_eq_true_eq, List.contains_iff_mem]
  have hge := Lib.indexByte_ge any c
  constructor
  · intro h
    obtain ⟨o, ho⟩ : ∃ o : Nat, Lib.indexByte any c = o := ⟨(Lib.indexByte any c).toNat, by omega⟩
    exact List.mem_of_getElem? (Lib.indexByte_some ho).1
  · intro h
    rcases (by omega : Lib.indexByte any c < 0 ∨ 0 ≤ Lib.indexByte any c) with h1 | h1
    · obtain ⟨k, hk, hc⟩ := List.getElem_of_mem h
      exact absurd (by rw [List.getElem?_eq_getElem hk, hc]) (Lib.indexByte_none (show Lib.indexByte any c = -1 by omega) k)
    · exact h1
theorem back (c : UInt8) : (c.toNat : Int).toNat.toUInt8 = c := by simp
theorem idx_c (c : UInt8) (w : World) (s : ByteArray) : Calls Tryd.prog 93 #[.string s, .int .u8 c.toNat] w fun e w' => e = .returned (.int .i64 (Lib.indexByte s.data.toList c)) ∧ w = w' := by
  have h := Tryd.strings_IndexByte s c.toNat w
  rw [back] at h
  exact h.mono fun _ _ ⟨he, hw⟩ => ⟨he, hw.symm⟩
theorem quiet_w {P : Program} {f : FuncId} {args : Array Value} {w : World} {n : Nat} {v : Value} (h : ∀ m, Calls P f args (w.drewN m) fun e w' => e = .returned v ∧ w.drewN m = w') :
    Calls P f args (w.drewN n) fun e w'' => e = .returned v ∧ ∃ m, w'' = w.drewN m := (h _).mono fun _ _ ⟨he, hm⟩ => ⟨he, n, hm.symm⟩
/-- Is the next byte one of some? -/
def PeekPost (b : Bool) (w : World) (x : Ending) (w' : World) : Prop := x = .returned (.bool b) ∧ ∃ m, w' = w.drewN m
end EreW
end Go.Proofs.YtpdmjegbjcefjaaDoor
namespace Go.Proofs.YtpdmjegbjcefjaaDoor
set_option linter.unusedVariables false
set_option linter.unusedSimpArgs false
open Go.RowKit
namespace EreW
open EreP
/-- A set's four words. -/
def wcells (S : Nat) : Array Value := #[.int .u64 (word S 0), .int .u64 (word S 1), .int .u64 (word S 2), .int .u64 (word S 3)]
abbrev setV (S : Nat) : Value := .agg #[.int .u64 (word S 0), .int .u64 (word S 1), .int .u64 (word S 2), .int .u64 (word S 3)]
theorem wcells_at (S k : Nat) (h : k < 4) : (wcells S)[k]? = some (.int .u64 (word S k)) := by
  rcases (by omega : k = 0 ∨ k = 1 ∨ k = 2 ∨ k = 3) with rfl | rfl | rfl | rfl <;> rfl
theorem and63 (c : Nat) (h : c ≤ 255) : bits .and .i64 (c : Int) 63 = ((c % 64 : Nat) : Int) := by
  have : ∀ k : Fin 256, bits .and .i64 ((k.val : Nat) : Int) 63 = ((k.val % 64 : Nat) : Int) := by decide +kernel
  exact this ⟨c, by omega⟩
theorem or_pow (old r : Nat) (h : old < 18446744073709551616) (hr : r < 64) : bits .or .u64 (old : Int) (IntKind.u64.wrap (2 ^ r)) = ((old ||| 1 <<< r : Nat) : Int) := by
  have h1 : (2 : Int) ^ r = ((2 ^ r : Nat) : Int) := by push_cast; rfl
  have h2 : (2 : Nat) ^ r < 18446744073709551616 := by
    have : (2 : Nat) ^ r < 2 ^ 64 := Nat.pow_lt_pow_right (by decide) hr
    exact this
  have h3 : IntKind.u64.wrap ((2 : Int) ^ r) = ((2 ^ r : Nat) : Int) := by
    rw [h1]
    simp only [IntKind.wrap, IntKind.bits, IntKind.signed]
    generalize (2 : Nat) ^ r = p at *
    simp; omega
  rw [h3, u64_or_nat _ _ h h2, Nat.one_shiftLeft]
theorem wcells_or (S c : Nat) (h : c < 256) : wcells (S ||| oneS c) = (wcells S).setIfInBounds (c / 64) (.int .u64 ((word S (c / 64) ||| 1 <<< (c % 64) : Nat) : Int)) := by
  unfold wcells
  simp only [word_or, word_one]
  rcases (by omega : c / 64 = 0 ∨ c / 64 = 1 ∨ c / 64 = 2 ∨ c / 64 = 3) with h | h | h | h <;> rw [h] <;> simp
theorem set_of (S T : Nat) (h : wcells S = wcells T) : setV S = setV T := by
  unfold wcells at h; unfold setV; rw [h]
theorem unxor (x : Nat) (h : x < 18446744073709551616) : bits .xor .u64 IntKind.u64.max (x : Int) = ((18446744073709551615 - x : Nat) : Int) := by
  have h1 := u64_xor_nat 18446744073709551615 x (by decide) h
  have h2 : (18446744073709551615 : Nat) ^^^ x = 18446744073709551615 - x := by
    apply Nat.eq_of_testBit_eq; intro i
    rw [Nat.testBit_xor, show 18446744073709551615 - x = 2 ^ 64 - (x + 1) by omega, Nat.testBit_two_pow_sub_succ (by omega), show (18446744073709551615 : Nat) = 2 ^ 64 - 1 from rfl, Nat.testBit_two_pow_sub_one]
    by_cases hi : i < 64
    · simp [hi]
    · rw [w64 h (by omega)]; simp [hi]
  rw [h2] at h1
  exact h1
set_option maxHeartbeats 1600000 in
theorem not_c (S : Nat) (w : World) :
    Calls Tryd.prog 82 #[setV S] w fun x w' => x = .returned (setV (notS S)) ∧ Below w.heap.size w w' := by
  have HE : Hid (setV (notS S) = .agg #[.int .u64 (bits .xor .u64 IntKind.u64.max (word S 0 : Int)), .int .u64 (bits .xor .u64 IntKind.u64.max (word S 1 : Int)), .int .u64 (bits .xor .u64 IntKind.u64.max (word S 2 : Int)), .int .u64 (bits .xor .u64 IntKind.u64.max (word S 3 : Int))]) := Lib.hid (by
    unfold setV; rw [word_not S 0 (by omega), word_not S 1 (by omega), word_not S 2 (by omega), word_not S 3 (by omega), unxor _ (word_lt _ _), unxor _ (word_lt _ _), unxor _ (word_lt _ _), unxor _ (word_lt _ _)])
  obtain ⟨R, hR⟩ : ∃ R, setV (notS S) = R := ⟨_, rfl⟩
  have HR := Lib.hid hR
  rw [hR]
  clear hR
  unfold setV
  generalize word S 0 = a at *
  generalize word S 1 = b at *
  generalize word S 2 = c at *
  generalize word S 3 = d at *
  go_enter Tryd.func82, Tryd.ntmps82
  go_wp2
  refine wp_loop_rounds 5 ?_
  rw [rounds_succ]
  go_wp2
  rw [rounds_succ]
  go_wp2
  rw [rounds_succ]
  go_wp2
  rw [rounds_succ]
  go_wp2
  rw [rounds_succ]
  go_wp2
  refine bodyPost_ret (v := R) ?_ rfl ⟨rfl, ?_⟩
  · rw [← HR.out, HE.out]
    simp [results, Tryd.results82, go_sem]
  · go_grown
end EreW
end Go.Proofs.YtpdmjegbjcefjaaDoor
