/- Plain laws of sums: small trees; what comes to a number; the rules. No program. No condition. -/
import Derived.Test.YtchceoclkdofhaaGreatDoorCalTM
namespace Go.Proofs.YtchceoclkdofhaaGreatDoor
set_option linter.unusedVariables false
set_option linter.unusedSimpArgs false
open Go.RowKit
namespace CalP
open QuoP MemP
mutual
/-- How many are left of so many; below 0: none. -/
def countE : Ex → Int → Int
  | .mk _ _ nm op kids, left => if 60 < nm.size ∨ 60 < op.size then -1 else countL kids (left - 1)
def countL : List Ex → Int → Int
  | [], left => left
  | x :: l, left => if left < 0 then left else countL l (countE x left)
end
mutual
/-- All names are short. -/
def shortE : Ex → Prop
  | .mk _ _ nm op kids => nm.size ≤ 60 ∧ op.size ≤ 60 ∧ shortL kids
def shortL : List Ex → Prop
  | [] => True
  | x :: l => shortE x ∧ shortL l
end
mutual
theorem count_le : ∀ (x : Ex) (left : Int), countE x left ≤ left ∨ countE x left < 0
  | .mk k n nm op kids, left => by
    rw [countE]
    split
    · right; decide
    · rcases count_leL kids (left - 1) with h | h
      · left; omega
      · right; exact h
theorem count_leL : ∀ (l : List Ex) (left : Int), countL l left ≤ left ∨ countL l left < 0
  | [], left => by rw [countL]; left; omega
  | x :: l, left => by
    rw [countL]
    split
    · left; omega
    · rcases count_le x left with h | h
      · rcases count_leL l (countE x left) with h2 | h2
        · left; omega
        · right; exact h2
      · have : countL l (countE x left) < 0 := by
          cases l with
          | nil => rw [countL]; exact h
          | cons y l => rw [countL, if_pos h]; exact h
        right; exact this
end
mutual
theorem count_ok : ∀ (x : Ex) (left : Int), 0 ≤ countE x left → (nodesE x : Int) + countE x left = left ∧ shortE x
  | .mk k n nm op kids, left => by
    intro h
    rw [countE] at h ⊢
    split at h
    · exact absurd h (by decide)
    · rename_i hs
      rw [if_neg hs]
      obtain ⟨h1, h2⟩ := count_okL kids (left - 1) h
      refine ⟨?_, ?_⟩
      · rw [nodesE]; omega
      · rw [shortE]; exact ⟨by omega, by omega, h2⟩
theorem count_okL : ∀ (l : List Ex) (left : Int), 0 ≤ countL l left → (nodesL l : Int) + countL l left = left ∧ shortL l
  | [], left => by
    intro h
    rw [countL] at h ⊢
    exact ⟨by simp [nodesL], by rw [shortL]; trivial⟩
  | x :: l, left => by
    intro h
    rw [countL] at h ⊢
    split at h
    · omega
    · rename_i hl
      rw [if_neg hl]
      by_cases hx : 0 ≤ countE x left
      · obtain ⟨h1, h2⟩ := count_ok x left hx
        obtain ⟨h3, h4⟩ := count_okL l _ h
        refine ⟨?_, ?_⟩
        · rw [nodesL]; omega
        · rw [shortL]; exact ⟨h2, h4⟩
      · exfalso
        cases l with
        | nil => rw [countL] at h; omega
        | cons y l => rw [countL, if_pos (by omega)] at h; omega
end
/-- May as many be? -/
def smallE (x : Ex) (most : Int) : Bool := decide (0 ≤ countE x most)
theorem small_ok {x : Ex} {most : Int} (h : smallE x most = true) : (nodesE x : Int) ≤ most ∧ shortE x := by
  have := count_ok x most (by simpa [smallE] using h)
  have h2 : 0 ≤ countE x most := by simpa [smallE] using h
  exact ⟨by omega, this.2⟩
theorem short_kid : ∀ (l : List Ex) (i : Nat) (h : i < l.length), shortL l → shortE (l[i]'h) := by
  intro l
  induction l with
  | nil => intro i h; exact absurd h (Nat.not_lt_zero _)
  | cons x l ih =>
    intro i h hs
    rw [shortL] at hs
    cases i with
    | zero => exact hs.1
    | succ i => exact ih i (by simpa using h) hs.2
theorem right_kid : ∀ (l : List Ex) (d i : Nat) (h : i < l.length), rightL l d = true → rightE (l[i]'h) d = true := by
  intro l d
  induction l with
  | nil => intro i h; exact absurd h (Nat.not_lt_zero _)
  | cons x l ih =>
    intro i h hs
    rw [rightL, Bool.and_eq_true] at hs
    cases i with
    | zero => exact hs.1
    | succ i => exact ih i (by simpa using h) hs.2
theorem right_drop (l : List Ex) (d i : Nat) (h : i < l.length) : rightL (l.drop i) d = (rightE (l[i]'h) d && rightL (l.drop (i + 1)) d) := by
  rw [List.drop_eq_getElem_cons h, rightL]
abbrev I64 (n : Int) : Prop := -9223372036854775808 ≤ n ∧ n ≤ 9223372036854775807
theorem res_i64 (n : Int) : I64 (resP n).1 := by unfold resP I64; split <;> simp_all
theorem bit_i64 (b : Bool) : I64 (bitP b) := by unfold bitP I64; split <;> omega
theorem i64_zero : I64 0 := by unfold I64; omega
theorem fmod_neg_lt (a : Int) {b : Int} (h : b < 0) : b < a.fmod b ∧ a.fmod b ≤ 0 := by
  have e := Int.neg_fmod_neg a b
  have m0 := Int.fmod_nonneg_of_pos (-a) (b := -b) (by omega)
  have m1 := Int.fmod_lt_of_pos (-a) (b := -b) (by omega)
  omega
theorem fmod_i64 {a b : Int} (ha : I64 a) (hb : I64 b) (h0 : b ≠ 0) : I64 (a.fmod b) := by
  unfold I64 at *
  rcases Int.lt_or_lt_of_ne h0 with h | h
  · have h1 := fmod_neg_lt a h
    omega
  · have h1 := Int.fmod_nonneg_of_pos a h
    have h2 := Int.fmod_lt_of_pos a h
    omega
theorem op_i64 {op : List UInt8} {a b : Int} (ha : I64 a) (hb : I64 b) : I64 (opP op a b).1 := by
  unfold opP
  repeat' split
  all_goals first
    | exact res_i64 _
    | exact bit_i64 _
    | exact fmod_i64 ha hb (by assumption)
    | exact i64_zero
theorem num_i64 (l : List UInt8) : I64 (numP l).1 := by unfold numP; split; exact res_i64 _; exact i64_zero
theorem numV_i64 (l : List Vr) (cuts : List ByteArray) (nm : ByteArray) : I64 (numV l cuts nm).1 := by
  unfold numV
  split
  · exact i64_zero
  · split
    · exact i64_zero
    · exact num_i64 _
theorem comb_i64 {V : ByteArray → Int × Int} (hV : ∀ s, I64 (V s).1) {k n : Int} (hn : I64 n) (nm op : ByteArray) {rs : List (Int × Int)} (hr : ∀ p ∈ rs, I64 p.1) : I64 (combP V k n nm op rs).1 := by
  unfold combP
  split
  · exact hn
  split
  · exact hV nm
  match rs, hr with
  | [], _ => exact i64_zero
  | (a, f) :: rest, hr =>
    have ha : I64 a := hr (a, f) (List.mem_cons_self ..)
    simp only
    split
    · exact i64_zero
    split
    · exact res_i64 _
    split
    · exact bit_i64 _
    split
    · exact i64_zero
    split
    · show I64 1; unfold I64; omega
    match rest, hr with
    | [], _ => exact i64_zero
    | (b, g) :: _, hr =>
      have hb : I64 b := hr (b, g) (List.mem_cons_of_mem _ (List.mem_cons_self ..))
      simp only
      split
      · exact i64_zero
      split
      · exact bit_i64 _
      · exact op_i64 ha hb
mutual
/-- All its numbers are of 64 bits. -/
def fitE : Ex → Prop
  | .mk _ n _ _ kids => I64 n ∧ fitL kids
def fitL : List Ex → Prop
  | [] => True
  | x :: l => fitE x ∧ fitL l
end
mutual
theorem eval_i64 {V : ByteArray → Int × Int} (hV : ∀ s, I64 (V s).1) : ∀ (x : Ex), fitE x → I64 (evalE V x).1
  | .mk k n nm op kids => by
    intro h
    rw [fitE] at h
    rw [evalE]
    exact comb_i64 hV h.1 nm op (evalL_i64 hV kids h.2)
theorem evalL_i64 {V : ByteArray → Int × Int} (hV : ∀ s, I64 (V s).1) : ∀ (l : List Ex), fitL l → ∀ p ∈ evalL V l, I64 p.1
  | [] => by intro _ p hp; rw [evalL] at hp; cases hp
  | x :: l => by
    intro h p hp
    rw [fitL] at h
    rw [evalL] at hp
    rcases List.mem_cons.1 hp with rfl | hp
    · exact eval_i64 hV x h.1
    · exact evalL_i64 hV l h.2 p hp
end
theorem fitL_of : ∀ (l : List Ex), (∀ i (h : i < l.length), fitE (l[i]'h)) → fitL l := by
  intro l
  induction l with
  | nil => intro _; rw [fitL]; trivial
  | cons x l ih => intro h; rw [fitL]; exact ⟨h 0 (by simp), ih fun i hi => h (i + 1) (by simpa using hi)⟩
end CalP
namespace CalW
open CalP
theorem et_fit {w : World} {K : Nat → Prop} {r : Ex} {cs : List Value} (h : Et w K r cs) : fitE r := by
  induction h with
  | mk kind n nm op kids A c css h0 h1 h2 h3 h4 hk hA ih =>
    rw [fitE]
    exact ⟨h1, fitL_of kids ih⟩
end CalW
end Go.Proofs.YtchceoclkdofhaaGreatDoor
