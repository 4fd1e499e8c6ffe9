/- The parser of regular expressions never goes back, and counts no more groups than bytes. No program. No condition. -/
import Derived.Test.YtpdmjegbjcefjaaDoorEreQ
namespace Go.Proofs.YtpdmjegbjcefjaaDoor
set_option linter.unusedVariables false
set_option linter.unusedSimpArgs false
open Go.RowKit
namespace EreP
theorem item_err {l r : Bs} {e : Nat} (h : itemP l = .error (r, e)) : r.length ≤ l.length := by
  cases l with
  | nil => cases h; exact Nat.le_refl _
  | cons d l =>
    rw [itemP.eq_def] at h
    simp only at h
    split at h
    · injection h with h; injection h with h _; subst h; exact Nat.le_refl _
    · split at h
      · cases l with
        | nil => simp only at h; injection h with h; injection h with h _; subst h; simp
        | cons e l => cases h
      · cases h
theorem span_err_len {l r : Bs} {e : Nat} (h : spanP l = .error (r, e)) : r.length ≤ l.length := by
  unfold spanP at h
  split at h
  · next e1 => injection h with h; subst h; exact item_err e1
  · next low r1 e1 =>
    have h1 := item_len e1
    cases r1 with
    | nil => cases h
    | cons c r1 =>
      simp only at h
      split at h
      · split at h
        · next e2 => injection h with h; subst h; have := item_err e2; simp at h1; omega
        · next high r2 e2 =>
          have := item_len e2
          split at h
          · injection h with h; injection h with h _; subst h; simp at h1 ⊢; omega
          · cases h
      · cases h
theorem items_err : ∀ (fuel : Nat) (first : Bool) (acc : Nat) (l : Bs) {r : Bs} {e : Nat}, itemsP fuel first acc l = .error (r, e) → r.length ≤ l.length := by
  intro fuel
  induction fuel with
  | zero => intro first acc l r e h; rw [itemsP] at h; injection h with h; injection h with h _; subst h; exact Nat.le_refl _
  | succ fuel ih =>
    intro first acc l r e h
    rw [itemsP] at h
    split at h
    · cases h
    · split at h
      · next e1 => injection h with h; subst h; exact span_err_len e1
      · next a b r1 e1 => have h1 := span_len e1; have h2 := ih _ _ _ h; omega
theorem class_err {l r : Bs} {e : Nat} (h : classP l = .error (r, e)) : r.length ≤ l.length := by
  unfold classP at h
  split at h
  · split at h
    · next e1 => injection h with h; subst h; have := items_err _ _ _ _ e1; rw [List.length_tail] at this; omega
    · cases h
  · exact items_err _ _ _ _ h
theorem digit_err {k : Nat} {l r : Bs} {e : Nat} (h : digitP k l = .error (r, e)) : r.length ≤ l.length := by
  cases l with
  | nil => cases h; exact Nat.le_refl _
  | cons c l =>
    rw [digitP] at h
    split at h
    · cases h
    · injection h with h; injection h with h _; subst h; exact Nat.le_refl _
theorem need_err {x : UInt8} {α : Type} {v : α} {l r : Bs} {e : Nat} (h : needP x v l = .error (r, e)) : r.length ≤ l.length := by
  cases l with
  | nil => cases h; exact Nat.le_refl _
  | cons c l =>
    rw [needP] at h
    split at h
    · cases h
    · injection h with h; injection h with h _; subst h; exact Nat.le_refl _
theorem times_err {l r : Bs} {e : Nat} (h : timesP l = .error (r, e)) : r.length ≤ l.length := by
  unfold timesP at h
  split at h
  · next e1 => injection h with h; subst h; exact digit_err e1
  · next a r1 e1 =>
    have h1 := digit_len e1
    split at h
    · split at h
      · cases h
      · split at h
        · next e2 => injection h with h; subst h; have := digit_err e2; rw [List.length_tail] at this; omega
        · next b r2 e2 => have h2 := digit_len e2; have h3 := need_err h; rw [List.length_tail] at h2; omega
    · have h3 := need_err h; omega
/-- It doesn't go back; groups are no more than bytes. -/
def Mono (l : Bs) (g : Nat) : R3 Re → Prop
  | .ok (_, r, g') => g' + r.length ≤ g + l.length
  | .error (r, _) => r.length ≤ l.length
def GMono (G : Grp) : Prop := ∀ f, G = some f → ∀ r g, Mono r g (f r g)
theorem atom_mono {G : Grp} (hG : GMono G) (l : Bs) (g : Nat) : Mono l g (atomP G l g) := by
  cases l with
  | nil => exact Nat.le_refl _
  | cons c l =>
    rw [atomP.eq_def]
    simp only
    split
    · exact Nat.le_refl _
    · split
      · split
        · exact Nat.le_refl _
        · next f =>
          have := hG f rfl l g
          cases e : f l g with
          | ok p => rw [e] at this; obtain ⟨x, r, g'⟩ := p; simp only [Mono] at this ⊢; simp; omega
          | error p => rw [e] at this; obtain ⟨r, k⟩ := p; simp only [Mono] at this ⊢; simp; omega
      · split
        · split
          · next e1 => obtain ⟨r, k⟩ := ‹Bs × Nat›; have := class_err e1; simp only [Mono]; simp; omega
          · next s r e1 => have := class_len e1; simp only [Mono]; simp; omega
        · split
          · simp only [Mono]; simp
          · split
            · simp only [Mono]; simp
            · split
              · simp only [Mono]; simp
              · split
                · cases l with
                  | nil => simp [Mono]
                  | cons d l => simp only [Mono]; simp; omega
                · simp only [Mono]; simp
theorem piece_mono {G : Grp} (hL : GLen G) (hG : GMono G) (l : Bs) (g : Nat) : Mono l g (pieceP G l g) := by
  have h1 := atom_mono hG l g
  unfold pieceP
  cases e : atomP G l g with
  | error p => rw [e] at h1; exact h1
  | ok p =>
    rw [e] at h1
    obtain ⟨x, r, g'⟩ := p
    have hl := atom_len hL e
    simp only [Mono] at h1
    simp only
    cases r with
    | nil => exact h1
    | cons c r =>
      simp only
      rw [List.length_cons] at h1 hl
      split
      · simp only [Mono]; simp; omega
      · split
        · simp only [Mono]; simp; omega
        · split
          · simp only [Mono]; omega
          · split
            · simp only [Mono]; omega
            · split
              · split
                · next e2 => obtain ⟨r2, k⟩ := ‹Bs × Nat›; have := times_err e2; simp only [Mono]; omega
                · next a b r2 e2 => have := times_len e2; simp only [Mono]; omega
              · simp only [Mono]; omega
theorem row_mono {G : Grp} (hL : GLen G) (hG : GMono G) : ∀ (fuel : Nat) (acc : List Re) (l : Bs) (g : Nat), Mono l g (rowP G fuel acc l g) := by
  intro fuel
  induction fuel with
  | zero => intro acc l g; exact Nat.le_refl _
  | succ fuel ih =>
    intro acc l g
    rw [rowP]
    split
    · exact Nat.le_refl _
    · have h1 := piece_mono hL hG l g
      split
      · next e1 => rw [e1] at h1; exact h1
      · next x r g' e1 =>
        rw [e1] at h1
        have h2 := ih (acc ++ [x]) r g'
        have hl := piece_len hL e1
        simp only [Mono] at h1
        cases e : rowP G fuel (acc ++ [x]) r g' with
        | ok p => rw [e] at h2; obtain ⟨y, r2, g2⟩ := p; simp only [Mono] at h2 ⊢; omega
        | error p => rw [e] at h2; obtain ⟨r2, k⟩ := p; simp only [Mono] at h2 ⊢; omega
theorem alt_mono {G : Grp} (hL : GLen G) (hG : GMono G) : ∀ (fuel : Nat) (acc : List Re) (l : Bs) (g : Nat), Mono l g (altP G fuel acc l g) := by
  intro fuel
  induction fuel with
  | zero => intro acc l g; exact Nat.le_refl _
  | succ fuel ih =>
    intro acc l g
    rw [altP]
    have h1 := row_mono hL hG (l.length + 1) [] l g
    split
    · next e1 => rw [e1] at h1; exact h1
    · next x r g' e1 =>
      rw [e1] at h1
      have hl := row_len hL _ _ _ _ e1
      simp only [Mono] at h1
      split
      · have h2 := ih (acc ++ [x]) r.tail g'
        have ht : r.tail.length ≤ r.length := by rw [List.length_tail]; omega
        cases e : altP G fuel (acc ++ [x]) r.tail g' with
        | ok p => rw [e] at h2; obtain ⟨y, r2, g2⟩ := p; simp only [Mono] at h2 ⊢; omega
        | error p => rw [e] at h2; obtain ⟨r2, k⟩ := p; simp only [Mono] at h2 ⊢; omega
      · exact h1
theorem grp_mono : ∀ D, GMono (grpP D) := by
  intro D
  induction D with
  | zero => intro f h; cases h
  | succ D ih =>
    intro f h r g
    rw [grpP] at h
    injection h with h; subst h
    have h1 := alt_mono (grp_len D) ih (r.length + 1) [] r (g + 1)
    simp only
    split
    · next e1 => rw [e1] at h1; exact h1
    · next x r1 g1 e1 =>
      rw [e1] at h1
      have hl := alt_len (grp_len D) _ _ _ _ e1
      simp only [Mono] at h1
      cases r1 with
      | nil => simp [Mono]
      | cons c r1 =>
        simp only
        rw [List.length_cons] at h1 hl
        split
        · simp only [Mono]; omega
        · simp only [Mono]; simp; omega
end EreP
end Go.Proofs.YtpdmjegbjcefjaaDoor
