/- The parser of regular expressions goes on. No program. No condition. -/
import Derived.Test.YtpdmjegbjcefjaaDoorEreP
namespace Go.Proofs.YtpdmjegbjcefjaaDoor
set_option linter.unusedVariables false
set_option linter.unusedSimpArgs false
open Go.RowKit
namespace EreP
theorem item_len {l r : Bs} {c : UInt8} (h : itemP l = .ok (c, r)) : r.length < l.length := by
  cases l with
  | nil => cases h
  | cons d l =>
    rw [itemP.eq_def] at h
    simp only at h
    split at h
    · cases h
    · split at h
      · cases l with
        | nil => cases h
        | cons e l => simp only at h; injection h with h; injection h with _ h; subst h; simp; omega
      · injection h with h; injection h with _ h; subst h; simp
theorem span_len {l r : Bs} {p : UInt8 × UInt8} (h : spanP l = .ok (p, r)) : r.length < l.length := by
  unfold spanP at h
  split at h
  · cases h
  · next low r1 e =>
    have h1 := item_len e
    cases r1 with
    | nil => simp only at h; injection h with h; injection h with _ h; subst h; exact h1
    | cons c r1 =>
      simp only at h
      split at h
      · split at h
        · cases h
        · next high r2 e2 =>
          have h2 := item_len e2
          split at h
          · cases h
          · injection h with h; injection h with _ h; subst h; simp at h1; omega
      · injection h with h; injection h with _ h; subst h; exact h1
theorem items_len : ∀ (fuel : Nat) (first : Bool) (acc : Nat) (l : Bs) {s : Nat} {r : Bs}, itemsP fuel first acc l = .ok (s, r) → r.length < l.length := by
  intro fuel
  induction fuel with
  | zero => intro first acc l s r h; cases h
  | succ fuel ih =>
    intro first acc l s r h
    rw [itemsP] at h
    split at h
    · next hc =>
      injection h with h; injection h with _ h; subst h
      cases l with
      | nil => simp at hc
      | cons c l => simp
    · split at h
      · cases h
      · next a b r1 e =>
        have h1 := span_len e
        have h2 := ih _ _ _ h
        omega
theorem class_len {l r : Bs} {s : Nat} (h : classP l = .ok (s, r)) : r.length < l.length := by
  unfold classP at h
  split at h
  · split at h
    · cases h
    · next s1 r1 e =>
      have h1 := items_len _ _ _ _ e
      injection h with h; injection h with _ h; subst h
      rw [List.length_tail] at h1; omega
  · exact items_len _ _ _ _ h
theorem digit_len {k : Nat} {l r : Bs} {d : Nat} (h : digitP k l = .ok (d, r)) : r.length < l.length := by
  cases l with
  | nil => cases h
  | cons c l =>
    rw [digitP] at h
    split at h
    · injection h with h; injection h with _ h; subst h; simp
    · cases h
theorem need_len {x : UInt8} {α : Type} {v v' : α} {l r : Bs} (h : needP x v l = .ok (v', r)) : r.length < l.length := by
  cases l with
  | nil => cases h
  | cons c l =>
    rw [needP] at h
    split at h
    · injection h with h; injection h with _ h; subst h; simp
    · cases h
theorem times_len {l r : Bs} {p : Int × Int} (h : timesP l = .ok (p, r)) : r.length < l.length := by
  unfold timesP at h
  split at h
  · cases h
  · next a r1 e =>
    have h1 := digit_len e
    split at h
    · next hc =>
      have ht : r1.tail.length < r1.length := by cases r1 with
        | nil => simp at hc
        | cons => simp
      split at h
      · injection h with h; injection h with _ h; subst h
        rw [List.length_tail]; omega
      · split at h
        · cases h
        · next b r2 e2 =>
          have h2 := digit_len e2
          have h3 := need_len h
          omega
    · have h3 := need_len h
      omega
def GLen (G : Grp) : Prop := ∀ f, G = some f → ∀ r g x r' g', f r g = .ok (x, r', g') → r'.length ≤ r.length
theorem atom_len {G : Grp} (hG : GLen G) {l r : Bs} {g g' : Nat} {x : Re} (h : atomP G l g = .ok (x, r, g')) : r.length < l.length := by
  cases l with
  | nil => cases h
  | cons c l =>
    rw [atomP.eq_def] at h
    simp only at h
    split at h
    · cases h
    · split at h
      · split at h
        · cases h
        · next f => have := hG f rfl _ _ _ _ _ h; simp; omega
      · split at h
        · split at h
          · cases h
          · next s r' e => have := class_len e; injection h with h; injection h with _ h; injection h with h _; subst h; simp; omega
        · split at h
          · injection h with h; injection h with _ h; injection h with h _; subst h; simp
          · split at h
            · injection h with h; injection h with _ h; injection h with h _; subst h; simp
            · split at h
              · injection h with h; injection h with _ h; injection h with h _; subst h; simp
              · split at h
                · cases l with
                  | nil => cases h
                  | cons d l => simp only at h; injection h with h; injection h with _ h; injection h with h _; subst h; simp; omega
                · injection h with h; injection h with _ h; injection h with h _; subst h; simp
theorem piece_len {G : Grp} (hG : GLen G) {l r : Bs} {g g' : Nat} {x : Re} (h : pieceP G l g = .ok (x, r, g')) : r.length < l.length := by
  unfold pieceP at h
  split at h
  · cases h
  · next x1 r1 g1 e =>
    have h1 := atom_len hG e
    cases r1 with
    | nil => simp only at h; injection h with h; injection h with _ h; injection h with h _; subst h; exact h1
    | cons c r1 =>
      simp only at h
      split at h
      · injection h with h; injection h with _ h; injection h with h _; subst h; exact h1
      · split at h
        · cases h
        · split at h
          · injection h with h; injection h with _ h; injection h with h _; subst h; simp at h1; omega
          · split at h
            · injection h with h; injection h with _ h; injection h with h _; subst h; simp at h1; omega
            · split at h
              · split at h
                · cases h
                · next a b r2 e2 => have := times_len e2; injection h with h; injection h with _ h; injection h with h _; subst h; simp at h1; omega
              · injection h with h; injection h with _ h; injection h with h _; subst h; simp at h1; omega
theorem row_len {G : Grp} (hG : GLen G) : ∀ (fuel : Nat) (acc : List Re) (l : Bs) (g : Nat) {x : Re} {r : Bs} {g' : Nat}, rowP G fuel acc l g = .ok (x, r, g') → r.length ≤ l.length := by
  intro fuel
  induction fuel with
  | zero => intro acc l g x r g' h; cases h
  | succ fuel ih =>
    intro acc l g x r g' h
    rw [rowP] at h
    split at h
    · injection h with h; injection h with _ h; injection h with h _; subst h; exact Nat.le_refl _
    · split at h
      · cases h
      · next x1 r1 g1 e =>
        have h1 := piece_len hG e
        have h2 := ih _ _ _ h
        omega
theorem alt_len {G : Grp} (hG : GLen G) : ∀ (fuel : Nat) (acc : List Re) (l : Bs) (g : Nat) {x : Re} {r : Bs} {g' : Nat}, altP G fuel acc l g = .ok (x, r, g') → r.length ≤ l.length := by
  intro fuel
  induction fuel with
  | zero => intro acc l g x r g' h; cases h
  | succ fuel ih =>
    intro acc l g x r g' h
    rw [altP] at h
    split at h
    · cases h
    · next x1 r1 g1 e =>
      have h1 := row_len hG _ _ _ _ e
      split at h
      · have h2 := ih _ _ _ h
        rw [List.length_tail] at h2; omega
      · injection h with h; injection h with _ h; injection h with h _; subst h; exact h1
theorem grp_len : ∀ D, GLen (grpP D) := by
  intro D
  induction D with
  | zero => intro f h; cases h
  | succ D ih =>
    intro f h r g x r' g' e
    rw [grpP] at h
    injection h with h; subst h
    simp only at e
    split at e
    · cases e
    · next x1 r1 g1 e1 =>
      have h1 := alt_len ih _ _ _ _ e1
      cases r1 with
      | nil => cases e
      | cons c r1 =>
        simp only at e
        split at e
        · injection e with e; injection e with _ e; injection e with e _; subst e; simp at h1; omega
        · cases e
/-- More fuel than bytes gives the same. -/
theorem items_fuel : ∀ (n m : Nat) (first : Bool) (acc : Nat) (l : Bs), l.length < n → l.length < m → itemsP n first acc l = itemsP m first acc l := by
  intro n
  induction n with
  | zero => intro m first acc l h; omega
  | succ n ih =>
    intro m first acc l h1 h2
    cases m with
    | zero => omega
    | succ m =>
      rw [itemsP, itemsP]
      split
      · rfl
      · split
        · rfl
        · next a b r e => have := span_len e; exact ih _ _ _ _ (by omega) (by omega)
theorem row_fuel {G : Grp} (hG : GLen G) : ∀ (n m : Nat) (acc : List Re) (l : Bs) (g : Nat), l.length < n → l.length < m → rowP G n acc l g = rowP G m acc l g := by
  intro n
  induction n with
  | zero => intro m acc l g h; omega
  | succ n ih =>
    intro m acc l g h1 h2
    cases m with
    | zero => omega
    | succ m =>
      rw [rowP, rowP]
      split
      · rfl
      · split
        · rfl
        · next x r g' e => have := piece_len hG e; exact ih _ _ _ _ (by omega) (by omega)
theorem alt_fuel {G : Grp} (hG : GLen G) : ∀ (n m : Nat) (acc : List Re) (l : Bs) (g : Nat), l.length < n → l.length < m → altP G n acc l g = altP G m acc l g := by
  intro n
  induction n with
  | zero => intro m acc l g h; omega
  | succ n ih =>
    intro m acc l g h1 h2
    cases m with
    | zero => omega
    | succ m =>
      rw [altP, altP]
      split
      · rfl
      · next x r g' e =>
        have := row_len hG _ _ _ _ e
        split
        · next hc =>
          have ht : r.tail.length < r.length := by cases r with
            | nil => simp at hc
            | cons => simp
          exact ih _ _ _ _ (by omega) (by omega)
        · rfl
end EreP
end Go.Proofs.YtpdmjegbjcefjaaDoor
