/- Regular expressions in plain words: trees, sets of bytes, and the parser. No program. No condition. -/
import Derived.Test.YtpdmjegbjcefjaaDoorMem
import Derived.Laws.BitsAllLaws
namespace Go.Proofs.YtpdmjegbjcefjaaDoor
open Go.RowKit
namespace EreP
abbrev Bs := List UInt8
/-- An expression: its kind, its set's bits, its kids, two counts, a number. -/
inductive Re where
  | mk (kind : Int) (set : Nat) (kids : List Re) (lo hi n : Int)
namespace Re
def kind : Re → Int | mk k _ _ _ _ _ => k
def set : Re → Nat | mk _ s _ _ _ _ => s
def kids : Re → List Re | mk _ _ l _ _ _ => l
def lo : Re → Int | mk _ _ _ a _ _ => a
def hi : Re → Int | mk _ _ _ _ b _ => b
def n : Re → Int | mk _ _ _ _ _ n => n
end Re
/-- What is parsed, what is left, and how many groups; or what is left, and an error. -/
abbrev R3 (α : Type) := Except (Bs × Nat) (α × Bs × Nat)
def isRep (c : UInt8) : Bool := c == 42 || c == 43 || c == 63 || c == 123
/-! Sets of bytes. -/
def oneS (c : Nat) : Nat := 1 <<< c
def fromS (low c : Nat) : Nat := (List.range c).foldl (fun s k => if low ≤ k then s ||| oneS k else s) 0
def rangeS (low high : Nat) : Nat := fromS low (high + 1)
def allS : Nat := 2 ^ 256 - 1
def notS (s : Nat) : Nat := allS ^^^ s
def word (s k : Nat) : Nat := (s >>> (64 * k)) % 18446744073709551616
/-- A byte of an item. -/
def itemP : Bs → Except (Bs × Nat) (UInt8 × Bs)
  | [] => .error ([], 1)
  | c :: r => if c == 93 || c == 45 then .error (c :: r, 1) else if c == 92 then (match r with | [] => .error ([], 1) | d :: r' => .ok (d, r')) else .ok (c, r)
/-- A byte, or a range of them. -/
def spanP (l : Bs) : Except (Bs × Nat) ((UInt8 × UInt8) × Bs) :=
  match itemP l with
  | .error e => .error e
  | .ok (low, r) => match r with
    | [] => .ok ((low, low), [])
    | c :: r1 => if c == 45 then (match itemP r1 with
        | .error e => .error e
        | .ok (high, r2) => if high < low then .error (high :: r2, 1) else .ok ((low, high), r2)) else .ok ((low, low), c :: r1)
/-- Items up to ]; the bytes so far. -/
def itemsP : Nat → Bool → Nat → Bs → Except (Bs × Nat) (Nat × Bs)
  | 0, _, _, l => .error (l, 1)
  | fuel + 1, first, acc, l =>
    if !first && l.head? == some 93 then .ok (acc, l.tail)
    else match spanP l with
      | .error e => .error e
      | .ok ((a, b), r) => itemsP fuel false (acc ||| rangeS a.toNat b.toNat) r
/-- Behind [. -/
def classP (l : Bs) : Except (Bs × Nat) (Nat × Bs) :=
  if l.head? == some 94 then (match itemsP (l.tail.length + 1) true 0 l.tail with
    | .error e => .error e
    | .ok (s, r) => .ok (notS s, r)) else itemsP (l.length + 1) true 0 l
def digitP (least : Nat) : Bs → Except (Bs × Nat) (Nat × Bs)
  | [] => .error ([], 1)
  | c :: r => if 48 + least ≤ c.toNat ∧ c.toNat ≤ 56 then .ok (c.toNat - 48, r) else .error (c :: r, 1)
def needP (x : UInt8) {α : Type} (v : α) : Bs → Except (Bs × Nat) (α × Bs)
  | [] => .error ([], 1)
  | c :: r => if c == x then .ok (v, r) else .error (c :: r, 1)
/-- Behind {. -/
def timesP (l : Bs) : Except (Bs × Nat) ((Int × Int) × Bs) :=
  match digitP 0 l with
  | .error e => .error e
  | .ok (a, r) =>
    if r.head? == some 44 then
      (if r.tail.head? == some 125 then .ok (((a : Int), -1), r.tail.tail) else match digitP a r.tail with
        | .error e => .error e
        | .ok (b, r2) => needP 125 ((a : Int), (b : Int)) r2)
    else needP 125 ((a : Int), (a : Int)) r
abbrev Grp := Option (Bs → Nat → R3 Re)
/-- What isn't repeated. -/
def atomP (G : Grp) (l : Bs) (g : Nat) : R3 Re :=
  match l with
  | [] => .error ([], 1)
  | c :: r =>
    if isRep c then .error (c :: r, 1)
    else if c == 40 then (match G with | none => .error (c :: r, 8) | some f => f r g)
    else if c == 91 then (match classP r with | .error e => .error e | .ok (s, r') => .ok (.mk 1 s [] 0 0 0, r', g))
    else if c == 46 then .ok (.mk 1 allS [] 0 0 0, r, g)
    else if c == 94 then .ok (.mk 2 0 [] 0 0 0, r, g)
    else if c == 36 then .ok (.mk 3 0 [] 0 0 0, r, g)
    else if c == 92 then (match r with | [] => .error ([], 1) | d :: r' => .ok (.mk 1 (oneS d.toNat) [] 0 0 0, r', g))
    else .ok (.mk 1 (oneS c.toNat) [] 0 0 0, r, g)
/-- An atom, perhaps repeated. -/
def pieceP (G : Grp) (l : Bs) (g : Nat) : R3 Re :=
  match atomP G l g with
  | .error e => .error e
  | .ok (x, r, g') => match r with
    | [] => .ok (x, [], g')
    | c :: r' =>
      if !isRep c then .ok (x, c :: r', g')
      else if x.kind = 2 ∨ x.kind = 3 then .error (c :: r', 1)
      else if c == 43 then .ok (.mk 6 0 [x] 1 (-1) 0, r', g')
      else if c == 63 then .ok (.mk 6 0 [x] 0 1 0, r', g')
      else if c == 123 then (match timesP r' with | .error e => .error e | .ok ((a, b), r2) => .ok (.mk 6 0 [x] a b 0, r2, g'))
      else .ok (.mk 6 0 [x] 0 (-1) 0, r', g')
def several (kind : Int) : List Re → Re
  | [] => .mk 0 0 [] 0 0 0
  | [x] => x
  | l => .mk kind 0 l 0 0 0
def rowEnd (l : Bs) : Bool := l.head? == none || l.head? == some 124 || l.head? == some 41
/-- Pieces. -/
def rowP (G : Grp) : Nat → List Re → Bs → Nat → R3 Re
  | 0, _, l, _ => .error (l, 1)
  | fuel + 1, acc, l, g =>
    if rowEnd l then .ok (several 4 acc, l, g)
    else match pieceP G l g with
      | .error e => .error e
      | .ok (x, r, g') => rowP G fuel (acc ++ [x]) r g'
/-- Rows. -/
def altP (G : Grp) : Nat → List Re → Bs → Nat → R3 Re
  | 0, _, l, _ => .error (l, 1)
  | fuel + 1, acc, l, g =>
    match rowP G (l.length + 1) [] l g with
    | .error e => .error e
    | .ok (x, r, g') => if r.head? == some 124 then altP G fuel (acc ++ [x]) r.tail g' else .ok (several 5 (acc ++ [x]), r, g')
def numG (g : Nat) : Int := if 9 < g + 1 then 0 else ((g + 1 : Nat) : Int)
/-- Groups, so deep at most. -/
def grpP : Nat → Grp
  | 0 => none
  | D + 1 => some fun r g =>
    match altP (grpP D) (r.length + 1) [] r (g + 1) with
    | .error e => .error e
    | .ok (x, r', g') => match r' with
      | [] => .error ([], 1)
      | c :: r2 => if c == 41 then .ok (.mk 7 0 [x] 0 0 (numG g), r2, g') else .error (c :: r2, 1)
/-- The expression; or the place, and an error. -/
def parseP (s : Bs) : Except (Nat × Nat) Re :=
  if 200 < s.length then .error (200, 2)
  else match altP (grpP 64) (s.length + 1) [] s 0 with
    | .error (r, e) => .error (s.length - r.length, e)
    | .ok (x, r, _) => if r.isEmpty then .ok x else .error (s.length - r.length, 1)
end EreP
end Go.Proofs.YtpdmjegbjcefjaaDoor
namespace Go.Proofs.YtpdmjegbjcefjaaDoor
set_option linter.unusedVariables false
set_option linter.unusedSimpArgs false
open Go.RowKit
namespace EreP
theorem item_len {l r : Bs} {c : UInt8} (h : itemP l = .ok (c, r)) : r.length < l.length := by
  cases l with
  | nil => cases h
  | cons d l =>
    rw [itemP.eq_def] at h
    simp only at h
    split at h
    · cases h
    · split at h
      · cases l with
        | nil => cases h
        | cons e l => simp only at h; injection h with h; injection h with _ h; subst h; simp; omega
      · injection h with h; injection h with _ h; subst h; simp
theorem span_len {l r : Bs} {p : UInt8 × UInt8} (h : spanP l = .ok (p, r)) : r.length < l.length := by
  unfold spanP at h
  split at h
  · cases h
  · next low r1 e =>
    have h1 := item_len e
    cases r1 with
    | nil => simp only at h; injection h with h; injection h with _ h; subst h; exact h1
    | cons c r1 =>
      simp only at h
      split at h
      · split at h
        · cases h
        · next high r2 e2 =>
          have h2 := item_len e2
          split at h
          · cases h
          · injection h with h; injection h with _ h; subst h; simp at h1; omega
      · injection h with h; injection h with _ h; subst h; exact h1
theorem items_len : ∀ (fuel : Nat) (first : Bool) (acc : Nat) (l : Bs) {s : Nat} {r : Bs}, itemsP fuel first acc l = .ok (s, r) → r.length < l.length := by
  intro fuel
  induction fuel with
  | zero => intro first acc l s r h; cases h
  | succ fuel ih =>
    intro first acc l s r h
    rw [itemsP] at h
    split at h
    · next hc =>
      injection h with h; injection h with _ h; subst h
      cases l with
      | nil => simp at hc
      | cons c l => simp
    · split at h
      · cases h
      · next a b r1 e =>
        have h1 := span_len e
        have h2 := ih _ _ _ h
        omega
theorem class_len {l r : Bs} {s : Nat} (h : classP l = .ok (s, r)) : r.length < l.length := by
  unfold classP at h
  split at h
  · split at h
    · cases h
    · next s1 r1 e =>
      have h1 := items_len _ _ _ _ e
      injection h with h; injection h with _ h; subst h
      rw [List.length_tail] at h1; omega
  · exact items_len _ _ _ _ h
theorem digit_len {k : Nat} {l r : Bs} {d : Nat} (h : digitP k l = .ok (d, r)) : r.length < l.length := by
  cases l with
  | nil => cases h
  | cons c l =>
    rw [digitP] at h
    split at h
    · injection h with h; injection h with _ h; subst h; simp
    · cases h
theorem need_len {x : UInt8} {α : Type} {v v' : α} {l r : Bs} (h : needP x v l = .ok (v', r)) : r.length < l.length := by
  cases l with
  | nil => cases h
  | cons c l =>
    rw [needP] at h
    split at h
    · injection h with h; injection h with _ h; subst h; simp
    · cases h
theorem times_len {l r : Bs} {p : Int × Int} (h : timesP l = .ok (p, r)) : r.length < l.length := by
  unfold timesP at h
  split at h
  · cases h
  · next a r1 e =>
    have h1 := digit_len e
    split at h
    · next hc =>
      have ht : r1.tail.length < r1.length := by cases r1 with
        | nil => simp at hc
        | cons => simp
      split at h
      · injection h with h; injection h with _ h; subst h
        rw [List.length_tail]; omega
      · split at h
        · cases h
        · next b r2 e2 =>
          have h2 := digit_len e2
          have h3 := need_len h
          omega
    · have h3 := need_len h
      omega
def GLen (G : Grp) : Prop := ∀ f, G = some f → ∀ r g x r' g', f r g = .ok (x, r', g') → r'.length ≤ r.length
theorem atom_len {G : Grp} (hG : GLen G) {l r : Bs} {g g' : Nat} {x : Re} (h : atomP G l g = .ok (x, r, g')) : r.length < l.length := by
  cases l with
  | nil => cases h
  | cons c l =>
    rw [atomP.eq_def] at h
    simp only at h
    split at h
    · cases h
    · split at h
      · split at h
        · cases h
        · next f => have := hG f rfl _ _ _ _ _ h; simp; omega
      · split at h
        · split at h
          · cases h
          · next s r' e => have := class_len e; injection h with h; injection h with _ h; injection h with h _; subst h; simp; omega
        · split at h
          · injection h with h; injection h with _ h; injection h with h _; subst h; simp
          · split at h
            · injection h with h; injection h with _ h; injection h with h _; subst h; simp
            · split at h
              · injection h with h; injection h with _ h; injection h with h _; subst h; simp
              · split at h
                · cases l with
                  | nil => cases h
                  | cons d l => simp only at h; injection h with h; injection h with _ h; injection h with h _; subst h; simp; omega
                · injection h with h; injection h with _ h; injection h with h _; subst h; simp
theorem piece_len {G : Grp} (hG : GLen G) {l r : Bs} {g g' : Nat} {x : Re} (h : pieceP G l g = .ok (x, r, g')) : r.length < l.length := by
  unfold pieceP at h
  split at h
  · cases h
  · next x1 r1 g1 e =>
    have h1 := atom_len hG e
    cases r1 with
    | nil => simp only at h; injection h with h; injection h with _ h; injection h with h _; subst h; exact h1
    | cons c r1 =>
      simp only at h
      split at h
      · injection h with h; injection h with _ h; injection h with h _; subst h; exact h1
      · split at h
        · cases h
        · split at h
          · injection h with h; injection h with _ h; injection h with h _; subst h; simp at h1; omega
          · split at h
            · injection h with h; injection h with _ h; injection h with h _; subst h; simp at h1; omega
            · split at h
              · split at h
                · cases h
                · next a b r2 e2 => have := times_len e2; injection h with h; injection h with _ h; injection h with h _; subst h; simp at h1; omega
              · injection h with h; injection h with _ h; injection h with h _; subst h; simp at h1; omega
theorem row_len {G : Grp} (hG : GLen G) : ∀ (fuel : Nat) (acc : List Re) (l : Bs) (g : Nat) {x : Re} {r : Bs} {g' : Nat}, rowP G fuel acc l g = .ok (x, r, g') → r.length ≤ l.length := by
  intro fuel
  induction fuel with
  | zero => intro acc l g x r g' h; cases h
  | succ fuel ih =>
    intro acc l g x r g' h
    rw [rowP] at h
    split at h
    · injection h with h; injection h with _ h; injection h with h _; subst h; exact Nat.le_refl _
    · split at h
      · cases h
      · next x1 r1 g1 e =>
        have h1 := piece_len hG e
        have h2 := ih _ _ _ h
        omega
theorem alt_len {G : Grp} (hG : GLen G) : ∀ (fuel : Nat) (acc : List Re) (l : Bs) (g : Nat) {x : Re} {r : Bs} {g' : Nat}, altP G fuel acc l g = .ok (x, r, g') → r.length ≤ l.length := by
  intro fuel
  induction fuel with
  | zero => intro acc l g x r g' h; cases h
  | succ fuel ih =>
    intro acc l g x r g' h
    rw [altP] at h
    split at h
    · cases h
    · next x1 r1 g1 e =>
      have h1 := row_len hG _ _ _ _ e
      split at h
      · have h2 := ih _ _ _ h
        rw [List.length_tail] at h2; omega
      · injection h with h; injection h with _ h; injection h with h _; subst h; exact h1
theorem grp_len : ∀ D, GLen (grpP D) := by
  intro D
  induction D with
  | zero => intro f h; cases h
  | succ D ih =>
    intro f h r g x r' g' e
    rw [grpP] at h
    injection h with h; subst h
    simp only at e
    split at e
    · cases e
    · next x1 r1 g1 e1 =>
      have h1 := alt_len ih _ _ _ _ e1
      cases r1 with
      | nil => cases e
      | cons c r1 =>
        simp only at e
        split at e
        · injection e with e; injection e with _ e; injection e with e _; subst e; simp at h1; omega
        · cases e
/-- More fuel than bytes gives the same. -/
theorem items_fuel : ∀ (n m : Nat) (first : Bool) (acc : Nat) (l : Bs), l.length < n → l.length < m → itemsP n first acc l = itemsP m first acc l := by
  intro n
  induction n with
  | zero => intro m first acc l h; omega
  | succ n ih =>
    intro m first acc l h1 h2
    cases m with
    | zero => omega
    | succ m =>
      rw [itemsP, itemsP]
      split
      · rfl
      · split
        · rfl
        · next a b r e => have := span_len e; exact ih _ _ _ _ (by omega) (by omega)
theorem row_fuel {G : Grp} (hG : GLen G) : ∀ (n m : Nat) (acc : List Re) (l : Bs) (g : Nat), l.length < n → l.length < m → rowP G n acc l g = rowP G m acc l g := by
  intro n
  induction n with
  | zero => intro m acc l g h; omega
  | succ n ih =>
    intro m acc l g h1 h2
    cases m with
    | zero => omega
    | succ m =>
      rw [rowP, rowP]
      split
      · rfl
      · split
        · rfl
        · next x r g' e => have := piece_len hG e; exact ih _ _ _ _ (by omega) (by omega)
theorem alt_fuel {G : Grp} (hG : GLen G) : ∀ (n m : Nat) (acc : List Re) (l : Bs) (g : Nat), l.length < n → l.length < m → altP G n acc l g = altP G m acc l g := by
  intro n
  induction n with
  | zero => intro m acc l g h; omega
  | succ n ih =>
    intro m acc l g h1 h2
    cases m with
    | zero => omega
    | succ m =>
      rw [altP, altP]
      split
      · rfl
      · next x r g' e =>
        have := row_len hG _ _ _ _ e
        split
        · next hc =>
          have ht : r.tail.length < r.length := by cases r with
            | nil => simp at hc
            | cons => simp
          exact ih _ _ _ _ (by omega) (by omega)
        · rfl
end EreP
end Go.Proofs.YtpdmjegbjcefjaaDoor
namespace Go.Proofs.YtpdmjegbjcefjaaDoor
set_option linter.unusedVariables false
set_option linter.unusedSimpArgs false
open Go.RowKit
namespace EreP
theorem item_err {l r : Bs} {e : Nat} (h : itemP l = .error (r, e)) : r.length ≤ l.length := by
  cases l with
  | nil => cases h; exact Nat.le_refl _
  | cons d l =>
    rw [itemP.eq_def] at h
    simp only at h
    split at h
    · injection h with h; injection h with h _; subst h; exact Nat.le_refl _
    · split at h
      · cases l with
        | nil => simp only at h; injection h with h; injection h with h _; subst h; simp
        | cons e l => cases h
      · cases h
theorem span_err_len {l r : Bs} {e : Nat} (h : spanP l = .error (r, e)) : r.length ≤ l.length := by
  unfold spanP at h
  split at h
  · next e1 => injection h with h; subst h; exact item_err e1
  · next low r1 e1 =>
    have h1 := item_len e1
    cases r1 with
    | nil => cases h
    | cons c r1 =>
      simp only at h
      split at h
      · split at h
        · next e2 => injection h with h; subst h; have := item_err e2; simp at h1; omega
        · next high r2 e2 =>
          have := item_len e2
          split at h
          · injection h with h; injection h with h _; subst h; simp at h1 ⊢; omega
          · cases h
      · cases h
theorem items_err : ∀ (fuel : Nat) (first : Bool) (acc : Nat) (l : Bs) {r : Bs} {e : Nat}, itemsP fuel first acc l = .error (r, e) → r.length ≤ l.length := by
  intro fuel
  induction fuel with
  | zero => intro first acc l r e h; rw [itemsP] at h; injection h with h; injection h with h _; subst h; exact Nat.le_refl _
  | succ fuel ih =>
    intro first acc l r e h
    rw [itemsP] at h
    split at h
    · cases h
    · split at h
      · next e1 => injection h with h; subst h; exact span_err_len e1
      · next a b r1 e1 => have h1 := span_len e1; have h2 := ih _ _ _ h; omega
theorem class_err {l r : Bs} {e : Nat} (h : classP l = .error (r, e)) : r.length ≤ l.length := by
  unfold classP at h
  split at h
  · split at h
    · next e1 => injection h with h; subst h; have := items_err _ _ _ _ e1; rw [List.length_tail] at this; omega
    · cases h
  · exact items_err _ _ _ _ h
theorem digit_err {k : Nat} {l r : Bs} {e : Nat} (h : digitP k l = .error (r, e)) : r.length ≤ l.length := by
  cases l with
  | nil => cases h; exact Nat.le_refl _
  | cons c l =>
    rw [digitP] at h
    split at h
    · cases h
    · injection h with h; injection h with h _; subst h; exact Nat.le_refl _
theorem need_err {x : UInt8} {α : Type} {v : α} {l r : Bs} {e : Nat} (h : needP x v l = .error (r, e)) : r.length ≤ l.length := by
  cases l with
  | nil => cases h; exact Nat.le_refl _
  | cons c l =>
    rw [needP] at h
    split at h
    · cases h
    · injection h with h; injection h with h _; subst h; exact Nat.le_refl _
theorem times_err {l r : Bs} {e : Nat} (h : timesP l = .error (r, e)) : r.length ≤ l.length := by
  unfold timesP at h
  split at h
  · next e1 => injection h with h; subst h; exact digit_err e1
  · next a r1 e1 =>
    have h1 := digit_len e1
    split at h
    · split at h
      · cases h
      · split at h
        · next e2 => injection h with h; subst h; have := digit_err e2; rw [List.length_tail] at this; omega
        · next b r2 e2 => have h2 := digit_len e2; have h3 := need_err h; rw [List.length_tail] at h2; omega
    · have h3 := need_err h; omega
/-- It doesn't go back; groups are no more than bytes. -/
def Mono (l : Bs) (g : Nat) : R3 Re → Prop
  | .ok (_, r, g') => g' + r.length ≤ g + l.length
  | .error (r, _) => r.length ≤ l.length
def GMono (G : Grp) : Prop := ∀ f, G = some f → ∀ r g, Mono r g (f r g)
theorem atom_mono {G : Grp} (hG : GMono G) (l : Bs) (g : Nat) : Mono l g (atomP G l g) := by
  cases l with
  | nil => exact Nat.le_refl _
  | cons c l =>
    rw [atomP.eq_def]
    simp only
    split
    · exact Nat.le_refl _
    · split
      · split
        · exact Nat.le_refl _
        · next f =>
          have := hG f rfl l g
          cases e : f l g with
          | ok p => rw [e] at this; obtain ⟨x, r, g'⟩ := p; simp only [Mono] at this ⊢; simp; omega
          | error p => rw [e] at this; obtain ⟨r, k⟩ := p; simp only [Mono] at this ⊢; simp; omega
      · split
        · split
          · next e1 => obtain ⟨r, k⟩ := ‹Bs × Nat›; have := class_err e1; simp only [Mono]; simp; omega
          · next s r e1 => have := class_len e1; simp only [Mono]; simp; omega
        · split
          · simp only [Mono]; simp
          · split
            · simp only [Mono]; simp
            · split
              · simp only [Mono]; simp
              · split
                · cases l with
                  | nil => simp [Mono]
                  | cons d l => simp only [Mono]; simp; omega
                · simp only [Mono]; simp
theorem piece_mono {G : Grp} (hL : GLen G) (hG : GMono G) (l : Bs) (g : Nat) : Mono l g (pieceP G l g) := by
  have h1 := atom_mono hG l g
  unfold pieceP
  cases e : atomP G l g with
  | error p => rw [e] at h1; exact h1
  | ok p =>
    rw [e] at h1
    obtain ⟨x, r, g'⟩ := p
    have hl := atom_len hL e
    simp only [Mono] at h1
    simp only
    cases r with
    | nil => exact h1
    | cons c r =>
      simp only
      rw [List.length_cons] at h1 hl
      split
      · simp only [Mono]; simp; omega
      · split
        · simp only [Mono]; simp; omega
        · split
          · simp only [Mono]; omega
          · split
            · simp only [Mono]; omega
            · split
              · split
                · next e2 => obtain ⟨r2, k⟩ := ‹Bs × Nat›; have := times_err e2; simp only [Mono]; omega
                · next a b r2 e2 => have := times_len e2; simp only [Mono]; omega
              · simp only [Mono]; omega
theorem row_mono {G : Grp} (hL : GLen G) (hG : GMono G) : ∀ (fuel : Nat) (acc : List Re) (l : Bs) (g : Nat), Mono l g (rowP G fuel acc l g) := by
  intro fuel
  induction fuel with
  | zero => intro acc l g; exact Nat.le_refl _
  | succ fuel ih =>
    intro acc l g
    rw [rowP]
    split
    · exact Nat.le_refl _
    · have h1 := piece_mono hL hG l g
      split
      · next e1 => rw [e1] at h1; exact h1
      · next x r g' e1 =>
        rw [e1] at h1
        have h2 := ih (acc ++ [x]) r g'
        have hl := piece_len hL e1
        simp only [Mono] at h1
        cases e : rowP G fuel (acc ++ [x]) r g' with
        | ok p => rw [e] at h2; obtain ⟨y, r2, g2⟩ := p; simp only [Mono] at h2 ⊢; omega
        | error p => rw [e] at h2; obtain ⟨r2, k⟩ := p; simp only [Mono] at h2 ⊢; omega
theorem alt_mono {G : Grp} (hL : GLen G) (hG : GMono G) : ∀ (fuel : Nat) (acc : List Re) (l : Bs) (g : Nat), Mono l g (altP G fuel acc l g) := by
  intro fuel
  induction fuel with
  | zero => intro acc l g; exact Nat.le_refl _
  | succ fuel ih =>
    intro acc l g
    rw [altP]
    have h1 := row_mono hL hG (l.length + 1) [] l g
    split
    · next e1 => rw [e1] at h1; exact h1
    · next x r g' e1 =>
      rw [e1] at h1
      have hl := row_len hL _ _ _ _ e1
      simp only [Mono] at h1
      split
      · have h2 := ih (acc ++ [x]) r.tail g'
        have ht : r.tail.length ≤ r.length := by rw [List.length_tail]; omega
        cases e : altP G fuel (acc ++ [x]) r.tail g' with
        | ok p => rw [e] at h2; obtain ⟨y, r2, g2⟩ := p; simp only [Mono] at h2 ⊢; omega
        | error p => rw [e] at h2; obtain ⟨r2, k⟩ := p; simp only [Mono] at h2 ⊢; omega
      · exact h1
theorem grp_mono : ∀ D, GMono (grpP D) := by
  intro D
  induction D with
  | zero => intro f h; cases h
  | succ D ih =>
    intro f h r g
    rw [grpP] at h
    injection h with h; subst h
    have h1 := alt_mono (grp_len D) ih (r.length + 1) [] r (g + 1)
    simp only
    split
    · next e1 => rw [e1] at h1; exact h1
    · next x r1 g1 e1 =>
      rw [e1] at h1
      have hl := alt_len (grp_len D) _ _ _ _ e1
      simp only [Mono] at h1
      cases r1 with
      | nil => simp [Mono]
      | cons c r1 =>
        simp only
        rw [List.length_cons] at h1 hl
        split
        · simp only [Mono]; omega
        · simp only [Mono]; simp; omega
end EreP
end Go.Proofs.YtpdmjegbjcefjaaDoor
namespace Go.Proofs.YtpdmjegbjcefjaaDoor
open Go.RowKit
namespace EreP
theorem one_bit (c k : Nat) : (oneS c).testBit k = decide (c = k) := by
  unfold oneS; rw [Nat.one_shiftLeft, Nat.testBit_two_pow]
theorem from_succ (low c : Nat) : fromS low (c + 1) = if low ≤ c then fromS low c ||| oneS c else fromS low c := by
  unfold fromS; rw [List.range_succ, List.foldl_append]; rfl
theorem from_le (low : Nat) : ∀ c, c ≤ low → fromS low c = 0 := by
  intro c
  induction c with
  | zero => intro _; rfl
  | succ c ih => intro h; rw [from_succ, if_neg (by omega), ih (by omega)]
theorem from_bit (low k : Nat) : ∀ c, (fromS low c).testBit k = (decide (low ≤ k) && decide (k < c)) := by
  intro c
  induction c with
  | zero => show (0 : Nat).testBit k = _; simp
  | succ c ih =>
    rw [from_succ]
    split
    · rw [Nat.testBit_or, ih, one_bit, Bool.eq_iff_iff]; simp; omega
    · rw [ih, Bool.eq_iff_iff]; simp; omega
theorem range_bit (low high k : Nat) : (rangeS low high).testBit k = (decide (low ≤ k) && decide (k ≤ high)) := by
  unfold rangeS; rw [from_bit, Bool.eq_iff_iff]; simp; omega
theorem all_bit (k : Nat) : allS.testBit k = decide (k < 256) := by
  unfold allS; rw [Nat.testBit_two_pow_sub_one]
theorem not_bit (s k : Nat) : (notS s).testBit k = (decide (k < 256) != s.testBit k) := by
  unfold notS; rw [Nat.testBit_xor, all_bit]
theorem word_bit (s j i : Nat) : (word s j).testBit i = (decide (i < 64) && s.testBit (64 * j + i)) := by
  unfold word
  rw [show (18446744073709551616 : Nat) = 2 ^ 64 from rfl, Nat.testBit_mod_two_pow, Nat.testBit_shiftRight]
theorem word_lt (s j : Nat) : word s j < 18446744073709551616 := Nat.mod_lt _ (by decide)
theorem word_or (s t j : Nat) : word (s ||| t) j = word s j ||| word t j := by
  apply Nat.eq_of_testBit_eq; intro i
  rw [Nat.testBit_or, word_bit, word_bit, word_bit, Nat.testBit_or]
  cases decide (i < 64) <;> simp
theorem word_one (c j : Nat) : word (oneS c) j = if c / 64 = j then 1 <<< (c % 64) else 0 := by
  apply Nat.eq_of_testBit_eq; intro i
  rw [word_bit, one_bit]
  split
  · rw [Nat.one_shiftLeft, Nat.testBit_two_pow, Bool.eq_iff_iff]; simp; omega
  · rw [Nat.zero_testBit, Bool.eq_false_iff]; simp; try omega
theorem word_not (s j : Nat) (h : j < 4) : word (notS s) j = 18446744073709551615 - word s j := by
  apply Nat.eq_of_testBit_eq; intro i
  have hw := word_lt s j
  rw [word_bit, not_bit, show 18446744073709551615 - word s j = 2 ^ 64 - (word s j + 1) by omega, Nat.testBit_two_pow_sub_succ (by omega), word_bit, Bool.eq_iff_iff]
  by_cases hi : i < 64
  · have : 64 * j + i < 256 := by omega
    simp [hi, this]
  · simp [hi]
/-- Sets are the same just if their words are. -/
theorem set_ext {s t : Nat} (hs : s < 2 ^ 256) (ht : t < 2 ^ 256) (h : ∀ j, j < 4 → word s j = word t j) : s = t := by
  apply Nat.eq_of_testBit_eq; intro i
  by_cases hi : i < 256
  · have h1 := congrArg (fun n => n.testBit (i % 64)) (h (i / 64) (by omega))
    simp only [word_bit] at h1
    rw [show 64 * (i / 64) + i % 64 = i by omega] at h1
    have : i % 64 < 64 := Nat.mod_lt _ (by decide)
    simpa [this] using h1
  · rw [Nat.testBit_lt_two_pow (Nat.lt_of_lt_of_le hs (Nat.pow_le_pow_right (by decide) (by omega))), Nat.testBit_lt_two_pow (Nat.lt_of_lt_of_le ht (Nat.pow_le_pow_right (by decide) (by omega)))]
theorem bits_lt {s : Nat} (h : ∀ i, 256 ≤ i → s.testBit i = false) : s < 2 ^ 256 := Nat.lt_pow_two_of_testBit s h
theorem one_lt {c : Nat} (h : c < 256) : oneS c < 2 ^ 256 := bits_lt (fun i hi => by rw [one_bit]; simp; omega)
theorem range_lt {a b : Nat} (h : b < 256) : rangeS a b < 2 ^ 256 := bits_lt (fun i hi => by rw [range_bit]; simp; omega)
theorem all_lt : allS < 2 ^ 256 := bits_lt (fun i hi => by rw [all_bit]; simp; omega)
theorem bit_out {s i : Nat} (hs : s < 2 ^ 256) (hi : 256 ≤ i) : s.testBit i = false := Nat.testBit_lt_two_pow (Nat.lt_of_lt_of_le hs (Nat.pow_le_pow_right (by decide) hi))
theorem not_lt {s : Nat} (hs : s < 2 ^ 256) : notS s < 2 ^ 256 := bits_lt (fun i hi => by rw [not_bit, bit_out hs hi]; simp; omega)
theorem or_lt {s t : Nat} (hs : s < 2 ^ 256) (ht : t < 2 ^ 256) : s ||| t < 2 ^ 256 := Nat.or_lt_two_pow hs ht
theorem w64 {x i : Nat} (h : x < 18446744073709551616) (hi : 64 ≤ i) : x.testBit i = false :=
  Nat.testBit_lt_two_pow (Nat.lt_of_lt_of_le (show x < 2 ^ 64 from h) (Nat.pow_le_pow_right (by decide) hi))
/-- Four words as a set. -/
def ofWords (a b c d : Nat) : Nat := a ||| b <<< 64 ||| c <<< 128 ||| d <<< 192
theorem of_words (a b c d : Nat) (ha : a < 18446744073709551616) (hb : b < 18446744073709551616) (hc : c < 18446744073709551616) (hd : d < 18446744073709551616) :
    ofWords a b c d < 2 ^ 256 ∧ word (ofWords a b c d) 0 = a ∧ word (ofWords a b c d) 1 = b ∧ word (ofWords a b c d) 2 = c ∧ word (ofWords a b c d) 3 = d := by
  have ta : ∀ i, 64 ≤ i → a.testBit i = false := fun i hi => w64 ha hi
  have tb : ∀ i, 64 ≤ i → b.testBit i = false := fun i hi => w64 hb hi
  have tc : ∀ i, 64 ≤ i → c.testBit i = false := fun i hi => w64 hc hi
  have td : ∀ i, 64 ≤ i → d.testBit i = false := fun i hi => w64 hd hi
  have tw : ∀ i, (ofWords a b c d).testBit i = (a.testBit i || (decide (64 ≤ i) && b.testBit (i - 64)) || (decide (128 ≤ i) && c.testBit (i - 128)) || (decide (192 ≤ i) && d.testBit (i - 192))) := by
    intro i; unfold ofWords; simp only [Nat.testBit_or, Nat.testBit_shiftLeft]
  refine ⟨bits_lt (fun i hi => by rw [tw, ta i (by omega), tb _ (by omega), tc _ (by omega), td _ (by omega)]; simp), ?_, ?_, ?_, ?_⟩
  all_goals
    apply Nat.eq_of_testBit_eq; intro i
    rw [word_bit, tw]
    by_cases hi : i < 64
  · simp [hi, show ¬ 64 ≤ i by omega, show ¬ 128 ≤ i by omega, show ¬ 192 ≤ i by omega]
  · rw [ta i (by omega)]; simp [hi]
  · rw [ta _ (by omega), show 64 * 1 + i - 64 = i by omega]; simp [hi, show ¬ 128 ≤ 64 + i by omega, show ¬ 192 ≤ 64 + i by omega]
  · rw [tb i (by omega)]; simp [hi]
  · rw [ta _ (by omega), tb _ (by omega), show 64 * 2 + i - 128 = i by omega]; simp [hi, show ¬ 192 ≤ 128 + i by omega]
  · rw [tc i (by omega)]; simp [hi]
  · rw [ta _ (by omega), tb _ (by omega), tc _ (by omega), show 64 * 3 + i - 192 = i by omega]; simp [hi]
  · rw [td i (by omega)]; simp [hi]
end EreP
end Go.Proofs.YtpdmjegbjcefjaaDoor
