/- For which ways an expression stands in a text: in plain words. No program. No condition. -/
import Derived.Test.YtpdmjegbjcefjaaDoorEreRa
namespace Go.Proofs.YtpdmjegbjcefjaaDoor
set_option linter.unusedVariables false
set_option linter.unusedSimpArgs false
open Go.RowKit
namespace GrpP
open EreP EreX
/-- So many ways, one behind the other. -/
def pw (P : Nat → Nat → Prop) : Nat → Nat → Nat → Prop
  | 0, i, j => i = j
  | t + 1, i, j => ∃ m, P i m ∧ pw P t m j
theorem pw_add {P : Nat → Nat → Prop} : ∀ (s t i j : Nat), pw P (s + t) i j ↔ ∃ m, pw P s i m ∧ pw P t m j
  | 0, t, i, j => by
    rw [Nat.zero_add]
    exact ⟨fun h => ⟨i, rfl, h⟩, fun ⟨m, h1, h2⟩ => by have e : i = m := h1; rw [e]; exact h2⟩
  | s + 1, t, i, j => by
    rw [show s + 1 + t = (s + t) + 1 by omega]
    constructor
    · rintro ⟨m, h1, h2⟩
      obtain ⟨k, h3, h4⟩ := (pw_add s t m j).1 h2
      exact ⟨k, ⟨m, h1, h3⟩, h4⟩
    · rintro ⟨k, ⟨m, h1, h3⟩, h4⟩
      exact ⟨m, h1, (pw_add s t m j).2 ⟨k, h3, h4⟩⟩
theorem pw_one {P : Nat → Nat → Prop} (i j : Nat) : pw P 1 i j ↔ P i j := ⟨fun ⟨m, h1, h2⟩ => by have e : m = j := h2; rw [← e]; exact h1, fun h => ⟨j, h, rfl⟩⟩
theorem pw_last {P : Nat → Nat → Prop} (t i j : Nat) : pw P (t + 1) i j ↔ ∃ m, pw P t i m ∧ P m j := by
  rw [pw_add t 1 i j]
  exact ⟨fun ⟨m, h1, h2⟩ => ⟨m, h1, (pw_one m j).1 h2⟩, fun ⟨m, h1, h2⟩ => ⟨m, h1, (pw_one m j).2 h2⟩⟩
theorem pw_mono {P : Nat → Nat → Prop} (hP : ∀ i j, P i j → i ≤ j) : ∀ (t i j : Nat), pw P t i j → i ≤ j
  | 0, i, j, h => by have e : i = j := h; omega
  | t + 1, i, j, ⟨m, h1, h2⟩ => by have := hP i m h1; have := pw_mono hP t m j h2; omega
theorem pw_in {P : Nat → Nat → Prop} {n : Nat} (hP : ∀ i j, P i j → i ≤ n → j ≤ n) : ∀ (t i j : Nat), pw P t i j → i ≤ n → j ≤ n
  | 0, i, j, h, hi => by have e : i = j := h; omega
  | t + 1, i, j, ⟨m, h1, h2⟩, hi => pw_in hP t m j h2 (hP i m h1 hi)
/-- So often on, from some places. -/
def it (n : Nat) (Q : Nat → Nat → Prop) (f : Nat → Prop) : Nat → Nat → Prop
  | 0, i => f i
  | t + 1, i => ∃ k, k ≤ n ∧ it n Q f t k ∧ Q i k
theorem it_closed {n : Nat} {Q : Nat → Nat → Prop} {f : Nat → Prop} {c : Nat} (h : ∀ i, i ≤ n → it n Q f c i → ∃ t, t < c ∧ it n Q f t i) : ∀ (t i : Nat), i ≤ n → it n Q f t i → ∃ t', t' < c ∧ it n Q f t' i
  | 0, i => by
    intro hi h0
    by_cases hc : 0 < c
    · exact ⟨0, hc, h0⟩
    · have : c = 0 := by omega
      subst this
      exact h i hi h0
  | t + 1, i => by
    rintro hi ⟨k, hk, h1, h2⟩
    obtain ⟨t', ht, h3⟩ := it_closed h t k hk h1
    by_cases hc : t' + 1 < c
    · exact ⟨t' + 1, hc, k, hk, h3, h2⟩
    · have : t' + 1 = c := by omega
      exact h i hi (by rw [← this]; exact ⟨k, hk, h3, h2⟩)
theorem it_still {n : Nat} {Q : Nat → Nat → Prop} {f : Nat → Prop} {t : Nat} (h : ∀ i, i ≤ n → (it n Q f t i ↔ it n Q f (t + 1) i)) : ∀ (s i : Nat), i ≤ n → (it n Q f (t + s) i ↔ it n Q f t i)
  | 0, i, _ => Iff.rfl
  | s + 1, i, hi => by
    rw [h i hi, show t + (s + 1) = (t + s) + 1 by omega]
    constructor
    · rintro ⟨k, hk, h1, h2⟩; exact ⟨k, hk, (it_still h s k hk).1 h1, h2⟩
    · rintro ⟨k, hk, h1, h2⟩; exact ⟨k, hk, (it_still h s k hk).2 h1, h2⟩
theorem it_back {n : Nat} {P : Nat → Nat → Prop} (hP : ∀ i j, P i j → i ≤ n → j ≤ n) {f : Nat → Prop} : ∀ (t i : Nat), i ≤ n → (it n P f t i ↔ ∃ k, k ≤ n ∧ f k ∧ pw P t i k)
  | 0, i, hi => ⟨fun h => ⟨i, hi, h, rfl⟩, fun ⟨k, _, h1, h2⟩ => by have e : i = k := h2; rw [e]; exact h1⟩
  | t + 1, i, hi => by
    constructor
    · rintro ⟨k, hk, h1, h2⟩
      obtain ⟨m, hm, h3, h4⟩ := (it_back hP t k hk).1 h1
      exact ⟨m, hm, h3, k, h2, h4⟩
    · rintro ⟨m, hm, h3, k, h2, h4⟩
      have hk := hP i k h2 hi
      exact ⟨k, hk, (it_back hP t k hk).2 ⟨m, hm, h3, h4⟩, h2⟩
theorem it_over {n : Nat} {P : Nat → Nat → Prop} (hP : ∀ i j, P i j → i ≤ n → j ≤ n) {f : Nat → Prop} : ∀ (t k : Nat), k ≤ n → (it n (fun k i => P i k) f t k ↔ ∃ i, i ≤ n ∧ f i ∧ pw P t i k)
  | 0, k, hk => ⟨fun h => ⟨k, hk, h, rfl⟩, fun ⟨i, _, h1, h2⟩ => by have e : i = k := h2; rw [← e]; exact h1⟩
  | t + 1, k, hk => by
    constructor
    · rintro ⟨m, hm, h1, h2⟩
      obtain ⟨i, hi, h3, h4⟩ := (it_over hP t m hm).1 h1
      exact ⟨i, hi, h3, (pw_last t i k).2 ⟨m, h4, h2⟩⟩
    · rintro ⟨i, hi, h3, h4⟩
      obtain ⟨m, h5, h6⟩ := (pw_last t i k).1 h4
      have hm : m ≤ n := pw_in hP t i m h5 hi
      exact ⟨m, hm, (it_over hP t m hm).2 ⟨i, hi, h3, h5⟩, h6⟩
section
variable (l : Bs) (bg en : Bool)
mutual
/-- Does it stand for the way from one place to another? -/
def rel : Re → Nat → Nat → Prop
  | .mk k S kids lo hi _ => fun i j =>
    if k = 0 then i = j
    else if k = 1 then j = i + 1 ∧ ∃ c, l[i]? = some c ∧ S.testBit c.toNat = true
    else if k = 2 then i = 0 ∧ j = 0 ∧ bg = true
    else if k = 3 then i = l.length ∧ j = l.length ∧ en = true
    else if k = 4 then catR kids i j
    else if k = 5 then altR kids i j
    else if k = 6 then ∃ t : Nat, lo ≤ t ∧ (hi < 0 ∨ (t : Int) ≤ hi) ∧ pw (headR kids) t i j
    else if k = 7 then headR kids i j
    else False
def catR : List Re → Nat → Nat → Prop
  | [] => fun i j => i = j
  | x :: r => fun i j => ∃ m, rel x i m ∧ catR r m j
def altR : List Re → Nat → Nat → Prop
  | [] => fun _ _ => False
  | x :: r => fun i j => rel x i j ∨ altR r i j
def headR : List Re → Nat → Nat → Prop
  | [] => fun _ _ => False
  | x :: _ => rel x
end
mutual
theorem rel_le : ∀ (r : Re) (i j : Nat), rel l bg en r i j → i ≤ j ∧ (i ≤ l.length → j ≤ l.length)
  | .mk k S kids lo hi n, i, j => by
    intro h
    rw [rel] at h
    split at h
    · subst h; exact ⟨Nat.le_refl _, id⟩
    split at h
    · obtain ⟨rfl, c, hc, _⟩ := h
      have := (List.getElem?_eq_some_iff.1 hc).1
      exact ⟨by omega, fun _ => by omega⟩
    split at h
    · obtain ⟨rfl, rfl, _⟩ := h; exact ⟨Nat.le_refl _, id⟩
    split at h
    · obtain ⟨rfl, rfl, _⟩ := h; exact ⟨Nat.le_refl _, id⟩
    split at h
    · exact cat_le kids i j h
    split at h
    · exact alt_le kids i j h
    split at h
    · obtain ⟨t, _, _, ht⟩ := h
      exact ⟨pw_mono (fun a b hab => (head_le kids a b hab).1) t i j ht, pw_in (fun a b hab => (head_le kids a b hab).2) t i j ht⟩
    split at h
    · exact head_le kids i j h
    · exact h.elim
theorem cat_le : ∀ (r : List Re) (i j : Nat), catR l bg en r i j → i ≤ j ∧ (i ≤ l.length → j ≤ l.length)
  | [], i, j => by intro h; rw [catR] at h; subst h; exact ⟨Nat.le_refl _, id⟩
  | x :: r, i, j => by
    intro h
    rw [catR] at h
    obtain ⟨m, h1, h2⟩ := h
    have a := rel_le x i m h1
    have b := cat_le r m j h2
    exact ⟨by omega, fun hi => b.2 (a.2 hi)⟩
theorem alt_le : ∀ (r : List Re) (i j : Nat), altR l bg en r i j → i ≤ j ∧ (i ≤ l.length → j ≤ l.length)
  | [], i, j => by intro h; rw [altR] at h; exact h.elim
  | x :: r, i, j => by
    intro h
    rw [altR] at h
    rcases h with h | h
    · exact rel_le x i j h
    · exact alt_le r i j h
theorem head_le : ∀ (r : List Re) (i j : Nat), headR l bg en r i j → i ≤ j ∧ (i ≤ l.length → j ≤ l.length)
  | [], i, j => by intro h; rw [headR] at h; exact h.elim
  | x :: r, i, j => by intro h; rw [headR] at h; exact rel_le x i j h
end
theorem cat_app : ∀ (a b : List Re) (i j : Nat), catR l bg en (a ++ b) i j ↔ ∃ m, catR l bg en a i m ∧ catR l bg en b m j
  | [], b, i, j => by
    simp only [List.nil_append, catR]
    exact ⟨fun h => ⟨i, rfl, h⟩, fun ⟨m, h1, h2⟩ => by rw [h1]; exact h2⟩
  | x :: a, b, i, j => by
    simp only [List.cons_append, catR]
    constructor
    · rintro ⟨m, h1, h2⟩
      obtain ⟨k, h3, h4⟩ := (cat_app a b m j).1 h2
      exact ⟨k, ⟨m, h1, h3⟩, h4⟩
    · rintro ⟨k, ⟨m, h1, h3⟩, h4⟩
      exact ⟨m, h1, (cat_app a b m j).2 ⟨k, h3, h4⟩⟩
theorem alt_iff : ∀ (a : List Re) (i j : Nat), altR l bg en a i j ↔ ∃ x ∈ a, rel l bg en x i j
  | [], i, j => by simp [altR]
  | x :: a, i, j => by simp [altR, alt_iff a i j]
/-- The places from which it stands for the way to one of some. -/
def Back (r : Re) (f : Nat → Prop) (i : Nat) : Prop := ∃ k, k ≤ l.length ∧ f k ∧ rel l bg en r i k
/-- The places to which it stands for the way from one of some. -/
def Over (r : Re) (f : Nat → Prop) (k : Nat) : Prop := ∃ i, i ≤ l.length ∧ f i ∧ rel l bg en r i k
end
end GrpP
end Go.Proofs.YtpdmjegbjcefjaaDoor
namespace Go.Proofs.YtpdmjegbjcefjaaDoor
set_option linter.unusedVariables false
set_option linter.unusedSimpArgs false
open Go.RowKit
namespace GrpS
open EreP EreX GrpP
abbrev On (m : List Bool) (i : Nat) : Prop := m[i]? = some true
def noneS (n : Nat) : List Bool := List.replicate (n + 1) false
def orS (m o : List Bool) : List Bool := List.zipWith (fun a b => a || b) m o
def freshS : List Bool → List Bool → Bool
  | a :: m, b :: o => (b && !a) || freshS m o
  | _, _ => false
def upS (g : List Bool → List Bool) (hi : Int) : Nat → Int → List Bool → List Bool → List Bool
  | 0, _, out, now => orS out now
  | f + 1, i, out, now => if (freshS out now && (decide (hi < 0) || decide (i < hi))) = true then upS g hi f (i + 1) (orS out now) (g now) else orS out now
def itS (g : List Bool → List Bool) : Nat → List Bool → List Bool
  | 0, x => x
  | k + 1, x => itS g k (g x)
def timesS (g : List Bool → List Bool) (n : Nat) (lo hi : Int) (to : List Bool) : List Bool := itS g lo.toNat (upS g hi (n + 2) lo (noneS n) to)
def setS (l : Bs) (S : Nat) (to : List Bool) : List Bool := (List.range (l.length + 1)).map fun i => match l[i]? with | some c => to.getD (i + 1) false && S.testBit c.toNat | none => false
mutual
def backS (l : Bs) : Re → List Bool → List Bool
  | .mk k S kids lo hi _ => fun to =>
    if k = 0 then to
    else if k = 1 then setS l S to
    else if k = 2 then (noneS l.length).set 0 (to.getD 0 false)
    else if k = 3 then (noneS l.length).set l.length (to.getD l.length false)
    else if k = 4 then catS l kids to
    else if k = 5 then altS l kids to
    else if k = 6 then timesS (headS l kids) l.length lo hi to
    else if k = 7 then headS l kids to
    else noneS l.length
def catS (l : Bs) : List Re → List Bool → List Bool
  | [] => fun to => to
  | x :: r => fun to => backS l x (catS l r to)
def altS (l : Bs) : List Re → List Bool → List Bool
  | [] => fun _ => noneS l.length
  | x :: r => fun to => orS (backS l x to) (altS l r to)
def headS (l : Bs) : List Re → List Bool → List Bool
  | [] => fun _ => noneS l.length
  | x :: _ => fun to => backS l x to
end
theorem none_len (n : Nat) : (noneS n).length = n + 1 := by simp [noneS]
theorem or_len {m o : List Bool} (h : m.length = o.length) : (orS m o).length = m.length := by simp [orS, h]
theorem none_on {n i : Nat} : ¬ On (noneS n) i := by
  unfold noneS; rw [On, List.getElem?_replicate]; split <;> simp
theorem or_on {m o : List Bool} (h : m.length = o.length) (i : Nat) : On (orS m o) i ↔ On m i ∨ On o i := by
  unfold orS On
  rw [List.getElem?_zipWith]
  by_cases hi : i < m.length
  · rw [List.getElem?_eq_getElem hi, List.getElem?_eq_getElem (h ▸ hi)]; simp
  · rw [List.getElem?_eq_none (by omega), List.getElem?_eq_none (by omega)]; simp
theorem fresh_iff : ∀ {m o : List Bool}, m.length = o.length → (freshS m o = true ↔ ∃ i, On o i ∧ ¬ On m i)
  | [], [], _ => by simp [freshS, On]
  | a :: m, b :: o, h => by
    have ih := fresh_iff (m := m) (o := o) (by simpa using h)
    rw [freshS, Bool.or_eq_true, ih]
    constructor
    · rintro (h1 | ⟨i, h1, h2⟩)
      · simp at h1; exact ⟨0, by simp [On, h1.1], by simp [On, h1.2]⟩
      · exact ⟨i + 1, by simpa [On] using h1, by simpa [On] using h2⟩
    · rintro ⟨i, h1, h2⟩
      cases i with
      | zero => left; simp [On] at h1 h2; simp [h1, h2]
      | succ i => right; exact ⟨i, by simpa [On] using h1, by simpa [On] using h2⟩
  | [], _ :: _, h => by simp at h
  | _ :: _, [], h => by simp at h
theorem or_none {n : Nat} {to : List Bool} (h : to.length = n + 1) : orS (noneS n) to = to := by
  unfold orS noneS
  apply List.ext_getElem
  · simp [h]
  · intro i h1 h2; simp
theorem or_count {m o : List Bool} (h : m.length = o.length) (hf : freshS m o = true) : m.count true + 1 ≤ (orS m o).count true := by
  induction m generalizing o with
  | nil => cases o <;> simp [freshS] at hf
  | cons a m ih =>
    cases o with
    | nil => simp at h
    | cons b o =>
      have h' : m.length = o.length := by simpa using h
      have hle : ∀ (x y : List Bool), x.length = y.length → x.count true ≤ (orS x y).count true := by
        intro x
        induction x with
        | nil => intro y _; simp
        | cons c x ihx =>
          intro y hy
          cases y with
          | nil => simp at hy
          | cons d y =>
            have := ihx y (by simpa using hy)
            cases c <;> cases d <;> simp [orS] at this ⊢ <;> omega
      rw [freshS, Bool.or_eq_true] at hf
      rcases hf with hf | hf
      · simp at hf
        obtain ⟨rfl, rfl⟩ := hf
        have := hle m o h'
        simp [orS] at this ⊢; omega
      · have := ih h' hf
        cases a <;> cases b <;> simp [orS] at this ⊢ <;> omega
/-- What a step back leads by. -/
structure Step (n : Nat) (g : List Bool → List Bool) (P : Nat → Nat → Prop) : Prop where
  len : ∀ x, x.length = n + 1 → (g x).length = n + 1
  on : ∀ x, x.length = n + 1 → ∀ i, i ≤ n → (On (g x) i ↔ ∃ k, k ≤ n ∧ On x k ∧ P i k)
theorem on_le {m : List Bool} {n i : Nat} (h : m.length = n + 1) (hi : On m i) : i ≤ n := by
  have := (List.getElem?_eq_some_iff.1 hi).1; omega
theorem it_len {n : Nat} {g : List Bool → List Bool} {P : Nat → Nat → Prop} (hg : Step n g P) : ∀ (k : Nat) (x : List Bool), x.length = n + 1 → (itS g k x).length = n + 1
  | 0, x, h => h
  | k + 1, x, h => it_len hg k (g x) (hg.len x h)
theorem it_on {n : Nat} {g : List Bool → List Bool} {P : Nat → Nat → Prop} (hg : Step n g P) (hP : ∀ i j, P i j → i ≤ n → j ≤ n) : ∀ (t : Nat) (x : List Bool), x.length = n + 1 → ∀ i, i ≤ n → (On (itS g t x) i ↔ ∃ k, k ≤ n ∧ On x k ∧ pw P t i k)
  | 0, x, h, i, hi => ⟨fun h => ⟨i, hi, h, rfl⟩, fun ⟨k, _, h1, h2⟩ => by have e : i = k := h2; rw [e]; exact h1⟩
  | t + 1, x, h, i, hi => by
    rw [itS, it_on hg hP t (g x) (hg.len x h) i hi]
    constructor
    · rintro ⟨k, hk, h1, h2⟩
      obtain ⟨m, hm, h3, h4⟩ := (hg.on x h k hk).1 h1
      exact ⟨m, hm, h3, (pw_last t i m).2 ⟨k, h2, h4⟩⟩
    · rintro ⟨m, hm, h3, h4⟩
      obtain ⟨k, h5, h6⟩ := (pw_last t i m).1 h4
      have hk := pw_in hP t i k h5 hi
      exact ⟨k, hk, (hg.on x h k hk).2 ⟨m, hm, h3, h6⟩, h5⟩
theorem up_len {n : Nat} {g : List Bool → List Bool} {P : Nat → Nat → Prop} (hg : Step n g P) (hi : Int) : ∀ (f : Nat) (i : Int) (out now : List Bool), out.length = n + 1 → now.length = n + 1 → (upS g hi f i out now).length = n + 1
  | 0, i, out, now, h1, h2 => by rw [upS, or_len (by omega)]; exact h1
  | f + 1, i, out, now, h1, h2 => by
    rw [upS]
    split
    · exact up_len hg hi f (i + 1) _ _ (by rw [or_len (by omega)]; exact h1) (hg.len now h2)
    · rw [or_len (by omega)]; exact h1
/-- On from some places: what is reached in any allowed number of steps. -/
theorem up_on {n : Nat} {g : List Bool → List Bool} {P : Nat → Nat → Prop} (hg : Step n g P) (hP : ∀ i j, P i j → i ≤ n → j ≤ n) (lo hi : Int) (to : List Bool) (hto : to.length = n + 1) :
    ∀ (f c : Nat) (out now : List Bool), out.length = n + 1 → now.length = n + 1 → n + 2 ≤ f + out.count true → (hi < 0 ∨ lo + c ≤ hi) →
      (∀ i, i ≤ n → (On now i ↔ it n P (On to) c i)) → (∀ i, i ≤ n → (On out i ↔ ∃ t, t < c ∧ it n P (On to) t i)) →
      ∀ i, i ≤ n → (On (upS g hi f (lo + c) out now) i ↔ ∃ t : Nat, (hi < 0 ∨ lo + t ≤ hi) ∧ it n P (On to) t i)
  | 0, c, out, now, h1, h2, hf, hb, hn, ho, i, hi' => by
    have : out.count true ≤ n + 1 := by rw [← h1]; exact List.count_le_length
    omega
  | f + 1, c, out, now, h1, h2, hf, hb, hn, ho, i, hi' => by
    rw [upS]
    split
    · next hc =>
      rw [Bool.and_eq_true, Bool.or_eq_true, decide_eq_true_eq, decide_eq_true_eq] at hc
      have hcount := or_count (h1.trans h2.symm) hc.1
      have hol := or_len (h1.trans h2.symm)
      have := up_on hg hP lo hi to hto f (c + 1) (orS out now) (g now) (by rw [hol]; exact h1) (hg.len now h2) (by omega) (by rcases hc.2 with h | h <;> omega)
        (by
          intro j hj
          rw [hg.on now h2 j hj]
          constructor
          · rintro ⟨k, hk, a, b⟩; exact ⟨k, hk, (hn k hk).1 a, b⟩
          · rintro ⟨k, hk, a, b⟩; exact ⟨k, hk, (hn k hk).2 a, b⟩)
        (by
          intro j hj
          rw [or_on (h1.trans h2.symm), ho j hj, hn j hj]
          constructor
          · rintro (⟨t, ht, a⟩ | a)
            · exact ⟨t, by omega, a⟩
            · exact ⟨c, by omega, a⟩
          · rintro ⟨t, ht, a⟩
            by_cases e : t = c
            · subst e; exact .inr a
            · exact .inl ⟨t, by omega, a⟩) i hi'
      rw [show lo + ((c + 1 : Nat) : Int) = lo + c + 1 by omega] at this
      exact this
    · next hc =>
      rw [or_on (h1.trans h2.symm), ho i hi', hn i hi']
      constructor
      · rintro (⟨t, ht, a⟩ | a)
        · exact ⟨t, by omega, a⟩
        · exact ⟨c, hb, a⟩
      · rintro ⟨t, ht, a⟩
        by_cases hfr : freshS out now = true
        · rw [hfr, Bool.true_and, Bool.or_eq_true, decide_eq_true_eq, decide_eq_true_eq] at hc
          by_cases e : t = c
          · subst e; exact .inr a
          · exact .inl ⟨t, by omega, a⟩
        · have hcl : ∀ j, j ≤ n → it n P (On to) c j → ∃ t, t < c ∧ it n P (On to) t j := by
            intro j hj hcj
            by_cases hoj : On out j
            · exact (ho j hj).1 hoj
            · exact absurd ((fresh_iff (h1.trans h2.symm)).2 ⟨j, (hn j hj).2 hcj, hoj⟩) hfr
          obtain ⟨t', h3, h4⟩ := it_closed hcl t i hi' a
          exact .inl ⟨t', h3, h4⟩
theorem times_len {n : Nat} {g : List Bool → List Bool} {P : Nat → Nat → Prop} (hg : Step n g P) (lo hi : Int) (to : List Bool) (hto : to.length = n + 1) : (timesS g n lo hi to).length = n + 1 :=
  it_len hg _ _ (up_len hg hi _ _ _ _ (none_len n) hto)
theorem times_on {n : Nat} {g : List Bool → List Bool} {P : Nat → Nat → Prop} (hg : Step n g P) (hP : ∀ i j, P i j → i ≤ n → j ≤ n) (lo hi : Int) (h0 : 0 ≤ lo) (hlh : hi < 0 ∨ lo ≤ hi) (to : List Bool) (hto : to.length = n + 1) (i : Nat) (hi' : i ≤ n) :
    On (timesS g n lo hi to) i ↔ ∃ k, k ≤ n ∧ On to k ∧ ∃ t : Nat, lo ≤ t ∧ (hi < 0 ∨ (t : Int) ≤ hi) ∧ pw P t i k := by
  have hu := up_on hg hP lo hi to hto (n + 2) 0 (noneS n) to (none_len n) hto (by omega) (by simpa using hlh) (fun _ _ => Iff.rfl)
    (fun j _ => ⟨fun h => absurd h none_on, fun ⟨t, ht, _⟩ => absurd ht (Nat.not_lt_zero _)⟩)
  simp only [Int.natCast_zero, Int.add_zero] at hu
  unfold timesS
  rw [it_on hg hP _ _ (up_len hg hi _ _ _ _ (none_len n) hto) i hi']
  constructor
  · rintro ⟨k, hk, h1, h2⟩
    obtain ⟨t, ht, h3⟩ := (hu k hk).1 h1
    obtain ⟨m, hm, h4, h5⟩ := (it_back hP t k hk).1 h3
    exact ⟨m, hm, h4, lo.toNat + t, by omega, by omega, (pw_add lo.toNat t i m).2 ⟨k, h2, h5⟩⟩
  · rintro ⟨m, hm, h4, t', h1, h2, h3⟩
    rw [show t' = lo.toNat + (t' - lo.toNat) by omega] at h3
    obtain ⟨k, h5, h6⟩ := (pw_add lo.toNat _ i m).1 h3
    have hk := pw_in hP _ i k h5 hi'
    exact ⟨k, hk, (hu k hk).2 ⟨t' - lo.toNat, by omega, (it_back hP _ k hk).2 ⟨m, hm, h4, h6⟩⟩, h5⟩
theorem set_len (l : Bs) (S : Nat) (to : List Bool) : (setS l S to).length = l.length + 1 := by simp [setS]
theorem set_on (l : Bs) (S : Nat) (to : List Bool) (i : Nat) (hi : i ≤ l.length) : On (setS l S to) i ↔ ∃ c, l[i]? = some c ∧ S.testBit c.toNat = true ∧ On to (i + 1) := by
  unfold setS On
  rw [List.getElem?_map, List.getElem?_range (by omega)]
  simp only [Option.map_some, Option.some.injEq]
  cases h : l[i]? with
  | none => simp
  | some c => simp [and_comm, List.getD_eq_getElem?_getD]; intro _; cases to[i + 1]? with
    | none => simp
    | some b => cases b <;> simp
mutual
/-- What may be walked: a kid where one is needed, numbers in order. -/
def wfR : Re → Prop
  | .mk k _ kids lo hi n => (k = 6 → kids.length = 1 ∧ 0 ≤ lo ∧ lo ≤ 8 ∧ hi ≤ 8 ∧ (hi = -1 ∨ lo ≤ hi)) ∧ (k = 7 → kids.length = 1 ∧ 0 ≤ n ∧ n ≤ 9) ∧ wfL kids
def wfL : List Re → Prop
  | [] => True
  | x :: r => wfR x ∧ wfL r
end
theorem wfL_mem : ∀ {l : List Re}, wfL l → ∀ x ∈ l, wfR x
  | [], _, _, h => by cases h
  | y :: l, h, x, hx => by
    rw [wfL] at h
    rcases List.mem_cons.1 hx with rfl | hx
    · exact h.1
    · exact wfL_mem h.2 x hx
variable (l : Bs)
mutual
theorem back_step : ∀ (r : Re), wfR r → Step l.length (backS l r) (rel l true true r)
  | .mk k S kids lo hi nn, hw => by
    rw [wfR] at hw
    obtain ⟨h6, h7, hk⟩ := hw
    refine ⟨fun x hx => ?_, fun x hx i hi' => ?_⟩
    · rw [backS]
      split
      · exact hx
      split
      · exact set_len l S x
      split
      · simp [none_len]
      split
      · simp [none_len]
      split
      · exact (cat_step kids hk).len x hx
      split
      · exact (alt_step kids hk).len x hx
      split
      · next h => exact times_len (head_step kids hk (by rw [(h6 h).1]; decide)) lo hi x hx
      split
      · next h => exact (head_step kids hk (by rw [(h7 h).1]; decide)).len x hx
      · exact none_len _
    · rw [backS, rel]
      split
      · exact ⟨fun h => ⟨i, hi', h, rfl⟩, fun ⟨k, _, h1, h2⟩ => by subst h2; exact h1⟩
      split
      · rw [set_on l S x i hi']
        constructor
        · rintro ⟨c, h1, h2, h3⟩; exact ⟨i + 1, on_le hx h3, h3, rfl, c, h1, h2⟩
        · rintro ⟨k, _, h1, rfl, c, h2, h3⟩; exact ⟨c, h2, h3, h1⟩
      split
      · rw [On, List.getElem?_set]
        constructor
        · intro h
          split at h
          · next e =>
            rw [if_pos (by rw [none_len]; omega)] at h
            subst e
            refine ⟨0, by omega, ?_, rfl, rfl, rfl⟩
            rw [List.getD_eq_getElem?_getD] at h
            cases hx0 : x[0]? with
            | none => rw [hx0] at h; simp at h
            | some b => rw [hx0] at h; rw [On, hx0]; simpa using h
          · exact absurd h none_on
        · rintro ⟨k, _, h1, rfl, rfl, _⟩
          rw [if_pos rfl, if_pos (by rw [none_len]; omega)]
          rw [List.getD_eq_getElem?_getD, h1]; rfl
      split
      · rw [On, List.getElem?_set]
        constructor
        · intro h
          split at h
          · next e =>
            rw [if_pos (by rw [none_len]; omega)] at h
            refine ⟨l.length, by omega, ?_, e.symm, rfl, rfl⟩
            rw [List.getD_eq_getElem?_getD] at h
            cases hx0 : x[l.length]? with
            | none => rw [hx0] at h; simp at h
            | some b => rw [hx0] at h; rw [On, hx0]; simpa using h
          · exact absurd h none_on
        · rintro ⟨k, _, h1, e1, e2, _⟩
          subst e2
          rw [if_pos e1.symm, if_pos (by rw [none_len]; omega)]
          rw [List.getD_eq_getElem?_getD, h1]; rfl
      split
      · exact (cat_step kids hk).on x hx i hi'
      split
      · exact (alt_step kids hk).on x hx i hi'
      split
      · next h =>
        obtain ⟨e1, e2, e3, e4, e5⟩ := h6 h
        exact times_on (head_step kids hk (by rw [e1]; decide)) (fun a b hab => (head_le l true true kids a b hab).2) lo hi e2 (by omega) x hx i hi'
      split
      · next h => exact (head_step kids hk (by rw [(h7 h).1]; decide)).on x hx i hi'
      · exact ⟨fun h => absurd h none_on, fun ⟨_, _, _, h⟩ => h.elim⟩
theorem cat_step : ∀ (kids : List Re), wfL kids → Step l.length (catS l kids) (catR l true true kids)
  | [], _ => ⟨fun x hx => by rw [catS]; exact hx, fun x hx i hi => by
      rw [catS, catR]; exact ⟨fun h => ⟨i, hi, h, rfl⟩, fun ⟨k, _, h1, h2⟩ => by subst h2; exact h1⟩⟩
  | y :: r, hw => by
    rw [wfL] at hw
    have h1 := back_step y hw.1
    have h2 := cat_step r hw.2
    refine ⟨fun x hx => by rw [catS]; exact h1.len _ (h2.len x hx), fun x hx i hi => ?_⟩
    rw [catS, catR, h1.on _ (h2.len x hx) i hi]
    constructor
    · rintro ⟨k, hk, a, b⟩
      obtain ⟨m, hm, c, d⟩ := (h2.on x hx k hk).1 a
      exact ⟨m, hm, c, k, b, d⟩
    · rintro ⟨m, hm, c, k, b, d⟩
      have hk := (rel_le l true true y i k b).2 hi
      exact ⟨k, hk, (h2.on x hx k hk).2 ⟨m, hm, c, d⟩, b⟩
theorem alt_step : ∀ (kids : List Re), wfL kids → Step l.length (altS l kids) (altR l true true kids)
  | [], _ => ⟨fun x hx => by rw [altS]; exact none_len _, fun x hx i hi => by
      rw [altS, altR]; exact ⟨fun h => absurd h none_on, fun ⟨_, _, _, h⟩ => h.elim⟩⟩
  | y :: r, hw => by
    rw [wfL] at hw
    have h1 := back_step y hw.1
    have h2 := alt_step r hw.2
    refine ⟨fun x hx => by rw [altS, or_len (by rw [h1.len x hx, h2.len x hx])]; exact h1.len x hx, fun x hx i hi => ?_⟩
    rw [altS, altR, or_on (by rw [h1.len x hx, h2.len x hx]), h1.on x hx i hi, h2.on x hx i hi]
    constructor
    · rintro (⟨k, hk, a, b⟩ | ⟨k, hk, a, b⟩)
      · exact ⟨k, hk, a, .inl b⟩
      · exact ⟨k, hk, a, .inr b⟩
    · rintro ⟨k, hk, a, b | b⟩
      · exact .inl ⟨k, hk, a, b⟩
      · exact .inr ⟨k, hk, a, b⟩
theorem head_step : ∀ (kids : List Re), wfL kids → 0 < kids.length → Step l.length (headS l kids) (headR l true true kids)
  | [], _, h => by cases h
  | y :: r, hw, _ => by
    rw [wfL] at hw
    have h1 := back_step y hw.1
    exact ⟨fun x hx => by rw [headS]; exact h1.len x hx, fun x hx i hi => by rw [headS, headR]; exact h1.on x hx i hi⟩
end
end GrpS
end Go.Proofs.YtpdmjegbjcefjaaDoor
namespace Go.Proofs.YtpdmjegbjcefjaaDoor
set_option linter.unusedVariables false
set_option linter.unusedSimpArgs false
open Go.RowKit
namespace GrpS
open EreP EreX GrpP
abbrev Cuts := List (Int × Int)
/-- A repeat goes on as long as it may. g: back over its kid; f: the first way over it. -/
def againS (g : List Bool → List Bool) (f : Nat → List Bool → Cuts → Nat × Cuts) (n : Nat) : Nat → Int → Int → Nat → List Bool → Cuts → Nat × Cuts
  | 0, _, _, at', _, cs => (at', cs)
  | F + 1, lo, hi, at', to, cs =>
    if hi = 0 then (at', cs)
    else
      let lo' := max (lo - 1) 0
      let hi' := if 0 < hi then hi - 1 else hi
      let next := timesS g n lo' hi' to
      let next' := if 0 < lo then next else next.set at' false
      if (g next').getD at' false = true then againS g f n F lo' hi' (f at' next' cs).1 to (f at' next' cs).2 else (at', cs)
mutual
def firstS (l : Bs) : Re → Nat → List Bool → Cuts → Nat × Cuts
  | .mk k _ kids lo hi nn => fun at' to cs =>
    if k = 1 then (at' + 1, cs)
    else if k = 4 then fcatS l kids at' to cs
    else if k = 5 then faltS l kids at' to cs
    else if k = 6 then againS (headS l kids) (fheadS l kids) l.length (l.length + 10) lo hi at' to cs
    else if k = 7 then ((fheadS l kids at' to cs).1, if 0 < nn then (fheadS l kids at' to cs).2.set nn.toNat (at', (fheadS l kids at' to cs).1) else (fheadS l kids at' to cs).2)
    else (at', cs)
def fcatS (l : Bs) : List Re → Nat → List Bool → Cuts → Nat × Cuts
  | [] => fun at' _ cs => (at', cs)
  | x :: r => fun at' to cs => fcatS l r (firstS l x at' (catS l r to) cs).1 to (firstS l x at' (catS l r to) cs).2
def faltS (l : Bs) : List Re → Nat → List Bool → Cuts → Nat × Cuts
  | [] => fun at' _ cs => (at', cs)
  | x :: r => fun at' to cs => if (backS l x to).getD at' false = true then firstS l x at' to cs else faltS l r at' to cs
def fheadS (l : Bs) : List Re → Nat → List Bool → Cuts → Nat × Cuts
  | [] => fun at' _ cs => (at', cs)
  | x :: _ => fun at' to cs => firstS l x at' to cs
end
def hdK (n : Nat) : List Re → List (Nat × Re)
  | [] => []
  | x :: _ => [(n, x)]
mutual
/-- The groups that have numbers, with their kids. -/
def gk : Re → List (Nat × Re)
  | .mk k _ kids _ _ nn => (if k = 7 ∧ 0 < nn then hdK nn.toNat kids else []) ++ gkL kids
def gkL : List Re → List (Nat × Re)
  | [] => []
  | x :: r => gk x ++ gkL r
end
/-- What the first way is. -/
structure Good (l : Bs) (G : List (Nat × Re)) (R : Nat → Nat → Prop) (to : List Bool) (at' : Nat) (cs : Cuts) (e : Nat) (cs' : Cuts) : Prop where
  le : at' ≤ e
  en : e ≤ l.length
  on : On to e
  rel : R at' e
  len : cs'.length = cs.length
  cut : ∀ m : Nat, cs'[m]? = cs[m]? ∨ ∃ (a b : Nat) (kid : Re), cs'[m]? = some ((a : Int), (b : Int)) ∧ (m, kid) ∈ G ∧ at' ≤ a ∧ a ≤ b ∧ b ≤ e ∧ GrpP.rel l true true kid a b
theorem getD_on {m : List Bool} {i : Nat} : m.getD i false = true ↔ On m i := by
  rw [List.getD_eq_getElem?_getD, On]
  cases m[i]? with
  | none => simp
  | some b => cases b <;> simp
theorem set_off {m : List Bool} {a i : Nat} : On (m.set a false) i ↔ i ≠ a ∧ On m i := by
  rw [On, List.getElem?_set]
  by_cases h : a = i
  · subst h
    rw [if_pos rfl]
    split <;> simp
  · rw [if_neg h]; exact ⟨fun hh => ⟨fun e => h e.symm, hh⟩, fun hh => hh.2⟩
/-- The last time that a way stands where it began. -/
theorem pw_leave {P : Nat → Nat → Prop} {a k : Nat} (hk : k ≠ a) : ∀ t, pw P t a k → ∃ m t', t' < t ∧ m ≠ a ∧ P a m ∧ pw P t' m k
  | 0, h => absurd (show a = k from h).symm hk
  | t + 1, ⟨m, h1, h2⟩ => by
    by_cases e : m = a
    · subst e
      obtain ⟨m', t', h3, h4, h5, h6⟩ := pw_leave hk t h2
      exact ⟨m', t', by omega, h4, h5, h6⟩
    · exact ⟨m, t, by omega, e, h1, h2⟩
theorem again_ok {l : Bs} {G : List (Nat × Re)} {P : Nat → Nat → Prop} {g : List Bool → List Bool} {f : Nat → List Bool → Cuts → Nat × Cuts} (hg : Step l.length g P) (hP : ∀ i j, P i j → i ≤ j ∧ (i ≤ l.length → j ≤ l.length))
    (hf : ∀ (at' : Nat) (to : List Bool) (cs : Cuts), at' ≤ l.length → to.length = l.length + 1 → On (g to) at' → Good l G P to at' cs (f at' to cs).1 (f at' to cs).2) (to : List Bool) (hto : to.length = l.length + 1) :
    ∀ (F : Nat) (lo hi : Int) (at' : Nat) (cs : Cuts), 0 ≤ lo → (hi < 0 ∨ lo ≤ hi) → lo.toNat + (l.length - at') < F → at' ≤ l.length → On (timesS g l.length lo hi to) at' →
      Good l G (fun i k => ∃ t : Nat, lo ≤ t ∧ (hi < 0 ∨ (t : Int) ≤ hi) ∧ pw P t i k) to at' cs (againS g f l.length F lo hi at' to cs).1 (againS g f l.length F lo hi at' to cs).2
  | 0, lo, hi, at', cs, h0, hlh, hF, hat, hon => by omega
  | F + 1, lo, hi, at', cs, h0, hlh, hF, hat, hon => by
    have hP2 : ∀ i j, P i j → i ≤ l.length → j ≤ l.length := fun i j h => (hP i j h).2
    have stay : On to at' → lo = 0 → Good l G (fun i k => ∃ t : Nat, lo ≤ t ∧ (hi < 0 ∨ (t : Int) ≤ hi) ∧ pw P t i k) to at' cs at' cs := fun h1 h2 =>
      ⟨Nat.le_refl _, hat, h1, ⟨0, by omega, by omega, rfl⟩, rfl, fun m => .inl rfl⟩
    obtain ⟨k, hk, hok, t, ht1, ht2, hpw⟩ := (times_on hg hP2 lo hi h0 hlh to hto at' hat).1 hon
    rw [againS]
    split
    · next hz =>
      have : t = 0 := by omega
      subst this
      have e : at' = k := hpw
      exact stay (by rw [e]; exact hok) (by omega)
    · next hz =>
      obtain ⟨lo', hlo'⟩ : ∃ lo', max (lo - 1) 0 = lo' := ⟨_, rfl⟩
      obtain ⟨hi', hhi'⟩ : ∃ hi', (if 0 < hi then hi - 1 else hi) = hi' := ⟨_, rfl⟩
      simp only [hlo', hhi']
      have h0' : 0 ≤ lo' := by omega
      have hhi2 : (hi < 0 ∧ hi' < 0) ∨ (0 < hi ∧ hi' = hi - 1) := by
        by_cases h : 0 < hi
        · right; rw [if_pos h] at hhi'; omega
        · left; rw [if_neg h] at hhi'; omega
      have hlh' : hi' < 0 ∨ lo' ≤ hi' := by omega
      have hnl := times_len hg lo' hi' to hto
      have hno := times_on hg hP2 lo' hi' h0' hlh' to hto
      obtain ⟨nx, hnx⟩ : ∃ nx, timesS g l.length lo' hi' to = nx := ⟨_, rfl⟩
      rw [hnx] at hnl hno ⊢
      obtain ⟨nx', hnx'⟩ : ∃ nx', (if 0 < lo then nx else nx.set at' false) = nx' := ⟨_, rfl⟩
      rw [hnx']
      have hnl' : nx'.length = l.length + 1 := by rw [← hnx']; split <;> simp [hnl]
      have hnon : ∀ i, On nx' i ↔ On nx i ∧ (0 < lo ∨ i ≠ at') := by
        intro i
        rw [← hnx']
        by_cases h : 0 < lo
        · rw [if_pos h]; exact ⟨fun hh => ⟨hh, .inl h⟩, fun hh => hh.1⟩
        · rw [if_neg h, set_off]
          exact ⟨fun hh => ⟨hh.2, .inr hh.1⟩, fun hh => ⟨hh.2.resolve_left h, hh.1⟩⟩
      split
      · next hgo =>
        have hgo2 := getD_on.1 hgo
        have h1 := hf at' nx' cs hat hnl' hgo2
        obtain ⟨e1, he1⟩ : ∃ e1, (f at' nx' cs).1 = e1 := ⟨_, rfl⟩
        obtain ⟨c1, hc1⟩ : ∃ c1, (f at' nx' cs).2 = c1 := ⟨_, rfl⟩
        rw [he1, hc1] at h1
        rw [he1, hc1]
        have hon1 := (hnon e1).1 h1.on
        have hlt : lo'.toNat + (l.length - e1) < F := by
          have := h1.le
          have := h1.en
          rcases hon1.2 with h | h <;> omega
        have h2 := again_ok hg hP hf to hto F lo' hi' e1 c1 h0' hlh' hlt h1.en (by rw [hnx]; exact hon1.1)
        obtain ⟨t', h3, h4, h5⟩ := h2.rel
        refine ⟨Nat.le_trans h1.le h2.le, h2.en, h2.on, ⟨t' + 1, by omega, by omega, e1, h1.rel, h5⟩, h2.len.trans h1.len, fun m => ?_⟩
        rcases h2.cut m with h | ⟨a, b, kid, x1, x2, x3, x4, x5, x6⟩
        · rcases h1.cut m with h' | ⟨a, b, kid, x1, x2, x3, x4, x5, x6⟩
          · exact .inl (h.trans h')
          · exact .inr ⟨a, b, kid, h.trans x1, x2, x3, x4, Nat.le_trans x5 h2.le, x6⟩
        · exact .inr ⟨a, b, kid, x1, x2, Nat.le_trans h1.le x3, x4, x5, x6⟩
      · next hgo =>
        have hgo2 : ¬ On (g nx') at' := fun h => hgo (getD_on.2 h)
        have reach : ∀ m t', P at' m → pw P t' m k → lo' ≤ t' → (hi' < 0 ∨ (t' : Int) ≤ hi') → (0 < lo ∨ m ≠ at') → False := by
          intro m t' hp hw a b c
          have hm := hP2 at' m hp hat
          exact hgo2 ((hg.on nx' hnl' at' hat).2 ⟨m, hm, (hnon m).2 ⟨(hno m hm).2 ⟨k, hk, hok, t', a, b, hw⟩, c⟩, hp⟩)
        by_cases hl : 0 < lo
        · exfalso
          cases t with
          | zero => omega
          | succ t =>
            obtain ⟨m, hp, hw⟩ := hpw
            exact reach m t hp hw (by omega) (by omega) (.inl hl)
        · by_cases hka : k = at'
          · rw [hka] at hok
            exact stay hok (by omega)
          · exfalso
            obtain ⟨m, t', h3, h4, h5, h6⟩ := pw_leave hka t hpw
            exact reach m t' h5 h6 (by omega) (by omega) (.inr h4)
variable (l : Bs)
theorem Good.more {l : Bs} {G G' : List (Nat × Re)} {R : Nat → Nat → Prop} {to : List Bool} {at' : Nat} {cs : Cuts} {e : Nat} {cs' : Cuts} (h : Good l G R to at' cs e cs') (hG : ∀ x, x ∈ G → x ∈ G') : Good l G' R to at' cs e cs' :=
  ⟨h.le, h.en, h.on, h.rel, h.len, fun m => (h.cut m).imp id (fun ⟨a, b, kid, x1, x2, x3⟩ => ⟨a, b, kid, x1, hG _ x2, x3⟩)⟩
theorem Good.self {l : Bs} {G : List (Nat × Re)} {R : Nat → Nat → Prop} {to : List Bool} {at' : Nat} {cs : Cuts} (h1 : at' ≤ l.length) (h2 : On to at') (h3 : R at' at') : Good l G R to at' cs at' cs :=
  ⟨Nat.le_refl _, h1, h2, h3, rfl, fun _ => .inl rfl⟩
section
variable (S : Nat) (kids : List Re) (lo hi nn : Int) (bg en : Bool) (i j : Nat) (to : List Bool)
theorem rel_1 : rel l bg en (.mk 1 S kids lo hi nn) i j ↔ (j = i + 1 ∧ ∃ c, l[i]? = some c ∧ S.testBit c.toNat = true) := by simp [rel]
theorem rel_4 : rel l bg en (.mk 4 S kids lo hi nn) i j ↔ catR l bg en kids i j := by simp [rel]
theorem rel_5 : rel l bg en (.mk 5 S kids lo hi nn) i j ↔ altR l bg en kids i j := by simp [rel]
theorem rel_6 : rel l bg en (.mk 6 S kids lo hi nn) i j ↔ ∃ t : Nat, lo ≤ t ∧ (hi < 0 ∨ (t : Int) ≤ hi) ∧ pw (headR l bg en kids) t i j := by simp [rel]
theorem rel_7 : rel l bg en (.mk 7 S kids lo hi nn) i j ↔ headR l bg en kids i j := by simp [rel]
theorem back_1 : backS l (.mk 1 S kids lo hi nn) to = setS l S to := by simp [backS]
theorem back_4 : backS l (.mk 4 S kids lo hi nn) to = catS l kids to := by simp [backS]
theorem back_5 : backS l (.mk 5 S kids lo hi nn) to = altS l kids to := by simp [backS]
theorem back_6 : backS l (.mk 6 S kids lo hi nn) to = timesS (headS l kids) l.length lo hi to := by simp [backS]
theorem back_7 : backS l (.mk 7 S kids lo hi nn) to = headS l kids to := by simp [backS]
end
mutual
theorem first_ok : ∀ (r : Re), wfR r → ∀ (at' : Nat) (to : List Bool) (cs : Cuts), at' ≤ l.length → to.length = l.length + 1 → On (backS l r to) at' →
    Good l (gk r) (rel l true true r) to at' cs (firstS l r at' to cs).1 (firstS l r at' to cs).2
  | .mk k S kids lo hi nn, hw, at', to, cs, hat, hto, hon => by
    have hw0 := hw
    rw [wfR] at hw
    obtain ⟨h6, h7, hk⟩ := hw
    have hgk : ∀ x, x ∈ gkL kids → x ∈ gk (.mk k S kids lo hi nn) := fun x hx => by rw [gk]; exact List.mem_append.2 (.inr hx)
    obtain ⟨e0, he0, hoe, hre⟩ := ((back_step l _ hw0).on to hto at' hat).1 hon
    rw [firstS]
    dsimp only
    have hR : rel l true true (.mk k S kids lo hi nn) = fun i j => rel l true true (.mk k S kids lo hi nn) i j := rfl
    by_cases k1 : k = 1
    · subst k1
      rw [if_pos rfl]
      obtain ⟨rfl, c, hc, hs⟩ := (rel_1 l _ _ _ _ _ _ _ _ _).1 hre
      refine ⟨by omega, he0, hoe, ?_, rfl, fun _ => .inl rfl⟩
      exact (rel_1 l _ _ _ _ _ _ _ _ _).2 ⟨rfl, c, hc, hs⟩
    rw [if_neg k1]
    by_cases k4 : k = 4
    · subst k4
      rw [if_pos rfl]
      rw [back_4] at hon
      have h := (fcat_ok kids hk at' to cs hat hto hon).more hgk
      refine ⟨h.le, h.en, h.on, ?_, h.len, h.cut⟩
      exact (rel_4 l _ _ _ _ _ _ _ _ _).2 h.rel
    rw [if_neg k4]
    by_cases k5 : k = 5
    · subst k5
      rw [if_pos rfl]
      rw [back_5] at hon
      have h := (falt_ok kids hk at' to cs hat hto hon).more hgk
      refine ⟨h.le, h.en, h.on, ?_, h.len, h.cut⟩
      exact (rel_5 l _ _ _ _ _ _ _ _ _).2 h.rel
    rw [if_neg k5]
    by_cases k6 : k = 6
    · subst k6
      rw [if_pos rfl]
      rw [back_6] at hon
      obtain ⟨e1, e2, e3, e4, e5⟩ := h6 rfl
      have hkl : 0 < kids.length := by rw [e1]; decide
      have h := (again_ok (f := fheadS l kids) (head_step l kids hk hkl) (fun i j h => head_le l true true kids i j h) (fun a t c ha ht ho => fhead_ok kids hk hkl a t c ha ht ho) to hto (l.length + 10) lo hi at' cs e2 (by omega) (by omega) hat hon).more hgk
      refine ⟨h.le, h.en, h.on, ?_, h.len, h.cut⟩
      exact (rel_6 l _ _ _ _ _ _ _ _ _).2 h.rel
    rw [if_neg k6]
    by_cases k7 : k = 7
    · subst k7
      rw [if_pos rfl]
      rw [back_7] at hon
      obtain ⟨e1, e2, e3⟩ := h7 rfl
      have hkl : 0 < kids.length := by rw [e1]; decide
      have h := fhead_ok kids hk hkl at' to cs hat hto hon
      have hrl : rel l true true (.mk 7 S kids lo hi nn) at' (fheadS l kids at' to cs).1 := by
        exact (rel_7 l _ _ _ _ _ _ _ _ _).2 h.rel
      by_cases hn : 0 < nn
      · rw [if_pos hn]
        refine ⟨h.le, h.en, h.on, hrl, by rw [List.length_set]; exact h.len, fun m => ?_⟩
        by_cases hm : nn.toNat = m
        · subst hm
          by_cases hl : nn.toNat < (fheadS l kids at' to cs).2.length
          · right
            cases kids with
            | nil => cases hkl
            | cons x r =>
              refine ⟨at', (fheadS l (x :: r) at' to cs).1, x, List.getElem?_set_self hl, ?_, Nat.le_refl _, h.le, Nat.le_refl _, ?_⟩
              · rw [gk, if_pos ⟨rfl, hn⟩]; exact List.mem_append.2 (.inl (by simp [hdK]))
              · have := h.rel; rw [headR] at this; exact this
          · left
            rw [List.getElem?_eq_none (by rw [List.length_set]; omega), List.getElem?_eq_none (by rw [← h.len]; omega)]
        · rw [List.getElem?_set_ne hm]
          exact (h.more hgk).cut m
      · rw [if_neg hn]
        have h' := h.more hgk
        exact ⟨h.le, h.en, h.on, hrl, h.len, h'.cut⟩
    rw [if_neg k7]
    -- what is left stands for the way over nothing
    have : e0 = at' := by
      rw [rel] at hre
      simp only [k1, k4, k5, k6, k7, if_false] at hre
      split at hre
      · exact hre.symm
      split at hre
      · obtain ⟨h1, h2, _⟩ := hre; omega
      split at hre
      · obtain ⟨h1, h2, _⟩ := hre; omega
      · exact hre.elim
    subst this
    exact Good.self hat hoe hre
theorem fcat_ok : ∀ (kids : List Re), wfL kids → ∀ (at' : Nat) (to : List Bool) (cs : Cuts), at' ≤ l.length → to.length = l.length + 1 → On (catS l kids to) at' →
    Good l (gkL kids) (catR l true true kids) to at' cs (fcatS l kids at' to cs).1 (fcatS l kids at' to cs).2
  | [], _, at', to, cs, hat, hto, hon => by
    rw [catS] at hon
    rw [fcatS]
    dsimp only
    exact Good.self hat hon (by rw [catR])
  | x :: r, hw, at', to, cs, hat, hto, hon => by
    rw [wfL] at hw
    rw [catS] at hon
    rw [fcatS]
    dsimp only
    have h1 := first_ok x hw.1 at' (catS l r to) cs hat ((cat_step l r hw.2).len to hto) hon
    have h2 := fcat_ok r hw.2 _ to (firstS l x at' (catS l r to) cs).2 h1.en hto h1.on
    refine ⟨Nat.le_trans h1.le h2.le, h2.en, h2.on, by rw [catR]; exact ⟨_, h1.rel, h2.rel⟩, h2.len.trans h1.len, fun m => ?_⟩
    rcases h2.cut m with h | ⟨a, b, kid, x1, x2, x3, x4, x5, x6⟩
    · rcases h1.cut m with h' | ⟨a, b, kid, x1, x2, x3, x4, x5, x6⟩
      · exact .inl (h.trans h')
      · exact .inr ⟨a, b, kid, h.trans x1, by rw [gkL]; exact List.mem_append.2 (.inl x2), x3, x4, Nat.le_trans x5 h2.le, x6⟩
    · exact .inr ⟨a, b, kid, x1, by rw [gkL]; exact List.mem_append.2 (.inr x2), Nat.le_trans h1.le x3, x4, x5, x6⟩
theorem falt_ok : ∀ (kids : List Re), wfL kids → ∀ (at' : Nat) (to : List Bool) (cs : Cuts), at' ≤ l.length → to.length = l.length + 1 → On (altS l kids to) at' →
    Good l (gkL kids) (altR l true true kids) to at' cs (faltS l kids at' to cs).1 (faltS l kids at' to cs).2
  | [], _, at', to, cs, hat, hto, hon => by
    rw [altS] at hon
    exact absurd hon none_on
  | x :: r, hw, at', to, cs, hat, hto, hon => by
    rw [wfL] at hw
    rw [altS, or_on (by rw [(back_step l x hw.1).len to hto, (alt_step l r hw.2).len to hto])] at hon
    rw [faltS]
    dsimp only
    split
    · next h =>
      have h1 := first_ok x hw.1 at' to cs hat hto (getD_on.1 h)
      have h1' := h1.more (G' := gkL (x :: r)) (fun y hy => by rw [gkL]; exact List.mem_append.2 (.inl hy))
      exact ⟨h1.le, h1.en, h1.on, by rw [altR]; exact .inl h1.rel, h1.len, h1'.cut⟩
    · next h =>
      have hb : On (altS l r to) at' := by
        rcases hon with h' | h'
        · exact absurd (getD_on.2 h') h
        · exact h'
      have h1 := falt_ok r hw.2 at' to cs hat hto hb
      have h1' := h1.more (G' := gkL (x :: r)) (fun y hy => by rw [gkL]; exact List.mem_append.2 (.inr hy))
      exact ⟨h1.le, h1.en, h1.on, by rw [altR]; exact .inr h1.rel, h1.len, h1'.cut⟩
theorem fhead_ok : ∀ (kids : List Re), wfL kids → 0 < kids.length → ∀ (at' : Nat) (to : List Bool) (cs : Cuts), at' ≤ l.length → to.length = l.length + 1 → On (headS l kids to) at' →
    Good l (gkL kids) (headR l true true kids) to at' cs (fheadS l kids at' to cs).1 (fheadS l kids at' to cs).2
  | [], _, h, _, _, _, _, _, _ => by cases h
  | x :: r, hw, _, at', to, cs, hat, hto, hon => by
    rw [wfL] at hw
    rw [headS] at hon
    rw [fheadS]
    dsimp only
    have h1 := first_ok x hw.1 at' to cs hat hto hon
    have h1' := h1.more (G' := gkL (x :: r)) (fun y hy => by rw [gkL]; exact List.mem_append.2 (.inl hy))
    exact ⟨h1.le, h1.en, h1.on, by rw [headR]; exact h1.rel, h1.len, h1'.cut⟩
end
end GrpS
end Go.Proofs.YtpdmjegbjcefjaaDoor
