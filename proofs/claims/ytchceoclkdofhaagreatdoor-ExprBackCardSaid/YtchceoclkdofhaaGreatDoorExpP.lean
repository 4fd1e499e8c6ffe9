/- Tokens, how a text is cut into them, and how an expression is read from them: in plain words. No program. No condition. -/
import Derived.Test.YtchceoclkdofhaaGreatDoorCalTM
import Derived.Test.YtchceoclkdofhaaGreatDoorNumM
namespace Go.Proofs.YtchceoclkdofhaaGreatDoor
set_option linter.unusedVariables false
set_option linter.unusedSimpArgs false
open Go.RowKit
namespace ExpP
open QuoP CalP
open NumP (pv formB)
/-- A token: its kind, its word, its number. -/
structure Tk where
  kind : Int
  word : ByteArray
  n : Int
abbrev noB : ByteArray := ⟨#[]⟩
/-- The sign that is there; none: empty. -/
def signS (l : List Tk) (i : Nat) : ByteArray := match l[i]? with
  | some t => if t.kind = 4 then t.word else noB
  | none => noB
/-- What is read, and the place behind it; or the place and the error. -/
abbrev Res := Except (Nat × Int) (Ex × Nat)
structure Par where
  one : Nat → Res
  some : Nat → Nat → Res
def mkOne (l : List Tk) (o : Option Par) (i : Nat) : Res :=
  if (signS l i).data.toList = [45] ∨ (signS l i).data.toList = [33] then
    match o with
    | none => .error (i, 8)
    | some p => match p.one (i + 1) with
      | .error e => .error e
      | .ok (x, k) => .ok (.mk (if (signS l i).data.toList = [33] then 3 else 2) 0 noB noB [x], k)
  else if (signS l i).data.toList = [40] then
    match o with
    | none => .error (i, 8)
    | some p => match p.some 1 (i + 1) with
      | .error e => .error e
      | .ok (x, k) => if (signS l k).data.toList = [41] then .ok (x, k + 1) else .error (k, 1)
  else match l[i]? with
    | none => .error (i, 1)
    | some t => if t.kind = 2 then .ok (.mk 0 t.n noB noB [], i + 1) else if t.kind = 6 then .ok (.mk 1 0 t.word noB [], i + 1) else .error (i, 1)
def loopS (l : List Tk) (o : Option Par) (strong : Nat) : Nat → Ex → Nat → Res
  | 0, x, i => .ok (x, i)
  | f + 1, x, i =>
    if strong ≤ strength (signS l i) then
      match o with
      | none => .error (i, 8)
      | some p => match p.some (strength (signS l i) + 1) (i + 1) with
        | .error e => .error e
        | .ok (y, k) => loopS l o strong f (.mk 4 0 noB (signS l i) [x, y]) k
    else .ok (x, i)
theorem loop_0 (l : List Tk) (o : Option Par) (s : Nat) (x : Ex) (i : Nat) : loopS l o s 0 x i = .ok (x, i) := rfl
theorem loop_s (l : List Tk) (o : Option Par) (s f : Nat) (x : Ex) (i : Nat) : loopS l o s (f + 1) x i = if s ≤ strength (signS l i) then
      match o with
      | none => .error (i, 8)
      | some p => match p.some (strength (signS l i) + 1) (i + 1) with
        | .error e => .error e
        | .ok (y, k) => loopS l o s f (.mk 4 0 noB (signS l i) [x, y]) k
    else .ok (x, i) := rfl
def mkSome (l : List Tk) (o : Option Par) (strong i : Nat) : Res := match mkOne l o i with
  | .error e => .error e
  | .ok (x, k) => loopS l o strong (l.length + 1) x k
def mkPar (l : List Tk) (o : Option Par) : Par := ⟨mkOne l o, mkSome l o⟩
/-- What may stand within so many levels more. -/
def lv (l : List Tk) : Nat → Par
  | 0 => mkPar l none
  | n + 1 => mkPar l (some (lv l n))
def up (l : List Tk) : Nat → Option Par
  | 0 => none
  | n + 1 => some (lv l n)
theorem lv_mk (l : List Tk) (n : Nat) : lv l n = mkPar l (up l n) := by cases n <;> rfl
theorem one_mk (l : List Tk) (n i : Nat) : (lv l n).one i = mkOne l (up l n) i := by rw [lv_mk]; rfl
theorem some_mk (l : List Tk) (n k i : Nat) : (lv l n).some k i = mkSome l (up l n) k i := by rw [lv_mk]; rfl
abbrev zEx : Ex := .mk 0 0 noB noB []
def parseX (l : List Tk) (i : Int) : Ex × Nat × Int :=
  if 0 ≤ i ∧ i ≤ l.length then match (lv l 64).some 1 i.toNat with
    | .error (k, e) => (zEx, k, e)
    | .ok (x, k) => (x, k, 0)
  else (zEx, 0, 1)
theorem sign_lt {l : List Tk} {i : Nat} (h : (signS l i).data.toList ≠ []) : i < l.length := by
  unfold signS at h
  cases hi : l[i]? with
  | none => rw [hi] at h; exact absurd rfl h
  | some t => exact (List.getElem?_eq_some_iff.1 hi).1
theorem strength_no {s : ByteArray} (h : s.data.toList = []) : strength s = 0 := by unfold strength; rw [h]; rfl
theorem strength_lt {l : List Tk} {i k : Nat} (hk : 1 ≤ k) (h : k ≤ strength (signS l i)) : i < l.length := by
  refine sign_lt (fun e => ?_)
  rw [strength_no e] at h; omega
/-- What is read lies behind the place, and within the text. -/
def Fwd (l : List Tk) (i : Nat) (r : Res) : Prop := ∀ x k, r = .ok (x, k) → i < k ∧ k ≤ l.length
def FwdP (l : List Tk) (o : Option Par) : Prop := ∀ p, o = some p → (∀ i, Fwd l i (p.one i)) ∧ (∀ k i, 1 ≤ k → Fwd l i (p.some k i))
theorem one_fwd {l : List Tk} {o : Option Par} (ho : FwdP l o) (i : Nat) : Fwd l i (mkOne l o i) := by
  intro x k h
  unfold mkOne at h
  split at h
  · next h1 =>
    have hl : i < l.length := sign_lt (by rcases h1 with h1 | h1 <;> rw [h1] <;> simp)
    cases o with
    | none => cases h
    | some p =>
      dsimp only at h
      cases hp : p.one (i + 1) with
      | error e => rw [hp] at h; cases h
      | ok r =>
        obtain ⟨y, j⟩ := r
        rw [hp] at h
        have := (ho p rfl).1 (i + 1) y j hp
        injection h with h; injection h with h1 h2
        omega
  · split at h
    · next h1 =>
      cases o with
      | none => cases h
      | some p =>
        dsimp only at h
        cases hp : p.some 1 (i + 1) with
        | error e => rw [hp] at h; cases h
        | ok r =>
          obtain ⟨y, j⟩ := r
          rw [hp] at h
          dsimp only at h
          split at h
          · next h2 =>
            have hj : j < l.length := sign_lt (by rw [h2]; simp)
            have := (ho p rfl).2 1 (i + 1) (Nat.le_refl _) y j hp
            injection h with h; injection h with h1 h2
            omega
          · cases h
    · cases hi : l[i]? with
      | none => rw [hi] at h; cases h
      | some t =>
        rw [hi] at h
        dsimp only at h
        have hl := (List.getElem?_eq_some_iff.1 hi).1
        split at h
        · injection h with h; injection h with h1 h2; omega
        · split at h
          · injection h with h; injection h with h1 h2; omega
          · cases h
theorem loop_fwd {l : List Tk} {o : Option Par} (ho : FwdP l o) {s : Nat} (hs : 1 ≤ s) : ∀ (f : Nat) (x : Ex) (i : Nat), i ≤ l.length → ∀ y k, loopS l o s f x i = .ok (y, k) → i ≤ k ∧ k ≤ l.length
  | 0, x, i, hi => by intro y k h; rw [loop_0] at h; injection h with h; injection h with h1 h2; omega
  | f + 1, x, i, hi => by
    intro y k h
    rw [loop_s] at h
    split at h
    · cases o with
      | none => cases h
      | some p =>
        dsimp only at h
        cases hp : p.some (strength (signS l i) + 1) (i + 1) with
        | error e => rw [hp] at h; cases h
        | ok r =>
          obtain ⟨z, j⟩ := r
          rw [hp] at h
          have h1 := (ho p rfl).2 _ (i + 1) (by omega) z j hp
          have h2 := loop_fwd ho hs f _ j h1.2 y k h
          omega
    · injection h with h; injection h with h1 h2; omega
theorem some_fwd {l : List Tk} {o : Option Par} (ho : FwdP l o) {s : Nat} (hs : 1 ≤ s) (i : Nat) : Fwd l i (mkSome l o s i) := by
  intro x k h
  unfold mkSome at h
  cases hp : mkOne l o i with
  | error e => rw [hp] at h; cases h
  | ok r =>
    obtain ⟨y, j⟩ := r
    rw [hp] at h
    have h1 := one_fwd ho i y j hp
    have h2 := loop_fwd ho hs _ _ j h1.2 x k h
    omega
theorem up_fwd (l : List Tk) : ∀ n, FwdP l (up l n)
  | 0 => fun p h => by cases h
  | n + 1 => fun p h => by
    injection h with h; subst h
    exact ⟨fun i => by rw [one_mk]; exact one_fwd (up_fwd l n) i, fun k i hk => by rw [some_mk]; exact some_fwd (up_fwd l n) hk i⟩
/-! A text cut into tokens. -/
def isBlank (c : UInt8) : Bool := c == 32 || c == 9 || c == 10
def signL : List Bs := [[60, 61], [62, 61], [61, 61], [33, 61], [38, 38], [124, 124], [123], [125], [40], [41], [43], [45], [42], [47], [37], [60], [62], [33]]
def flagB (l : Bs) : Bool := l == [105] || l == [101, 120] || l == [103, 108] || l == [114, 101]
def baS (l : Bs) : ByteArray := ⟨l.toArray⟩
/-- The token that a text begins with, and how long it is. -/
def tokS : Bs → Option (Tk × Nat)
  | [] => none
  | c :: t =>
    if letterB c then
      let m := (t.takeWhile withB).length + 1
      if 14 < m then none else some (⟨1, baS ((c :: t).take m), 0⟩, m)
    else if digB c then
      let m := (t.takeWhile digB).length + 1
      if pv ((c :: t).take m) ≤ 9223372036854775807 ∧ formB ((c :: t).take m) = true then some (⟨2, noB, pv ((c :: t).take m)⟩, m) else none
    else if c = 34 then match parse (c :: t) with
      | .bad _ => none
      | .ok _ r => some (⟨3, noB, 0⟩, t.length + 1 - r.length)
    else if c = 36 then
      let m := (t.takeWhile withB).length
      if nameB (t.take m) then some (⟨6, baS (t.take m), 0⟩, m + 1) else none
    else if c = 45 ∧ 0 < (t.takeWhile letterB).length then
      let m := (t.takeWhile letterB).length
      if flagB (t.take m) then some (⟨5, baS (t.take m), 0⟩, m + 1) else none
    else match signL.find? (fun w => List.isPrefixOf w (c :: t)) with
      | some w => some (⟨4, baS w, 0⟩, w.length)
      | none => none
def scanF : Nat → Bs → Option (List Tk)
  | 0, _ => some []
  | _ + 1, [] => some []
  | f + 1, c :: t =>
    if isBlank c then scanF f t
    else if c = 35 then scanF f (t.dropWhile (· != 10))
    else match tokS (c :: t) with
      | none => none
      | some (x, m) => match scanF f ((c :: t).drop m) with
        | none => none
        | some l => some (x :: l)
def scanS (s : Bs) : Option (List Tk) := if 2000 < s.length then none else scanF (s.length + 1) s
end ExpP
end Go.Proofs.YtchceoclkdofhaaGreatDoor
