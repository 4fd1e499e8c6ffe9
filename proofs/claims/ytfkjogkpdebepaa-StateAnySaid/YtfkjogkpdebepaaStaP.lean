/- Nodes as bytes in plain words: numbers, texts, lists, ages by runs; what is written is read again, what was read was written. No program. No condition. -/
namespace Go.Proofs.Ytfkjogkpdebepaa
namespace StaP
abbrev Bs := List UInt8
abbrev Er := Bs × Nat
abbrev Pr (α : Type) := Bs → Except Er (α × Bs)
def count (m : Nat) : Bs := if h : m < 128 then [UInt8.ofNat m] else UInt8.ofNat (m % 128 + 128) :: count (m / 128)
termination_by m
decreasing_by omega
def numB (n : Int) : Bs := if n < 0 then 1 :: count (-1 - n).toNat else 0 :: count n.toNat
def digs : Nat → Nat → Pr Nat
  | _, _, [] => .error ([], 1)
  | k, n, b :: r => if (k ≠ 0 ∧ b = 0) ∨ k = 9 then .error (b :: r, 1) else if b.toNat < 128 then .ok (n + b.toNat % 128 * 128 ^ k, r) else digs (k + 1) (n + b.toNat % 128 * 128 ^ k) r
def numP : Pr Int
  | [] => .error ([], 1)
  | c :: r => if 1 < c.toNat then .error (c :: r, 1) else match digs 0 0 r with
    | .error e => .error e
    | .ok (n, r') => .ok (if c.toNat = 1 then -1 - (n : Int) else n, r')
theorem digs_nil (k n : Nat) : digs k n [] = .error ([], 1) := rfl
theorem digs_cons (k n : Nat) (b : UInt8) (r : Bs) : digs k n (b :: r) = if (k ≠ 0 ∧ b = 0) ∨ k = 9 then .error (b :: r, 1) else if b.toNat < 128 then .ok (n + b.toNat % 128 * 128 ^ k, r) else digs (k + 1) (n + b.toNat % 128 * 128 ^ k) r := rfl
theorem count_small {m : Nat} (h : m < 128) : count m = [UInt8.ofNat m] := by rw [count, dif_pos h]
theorem count_big {m : Nat} (h : ¬ m < 128) : count m = UInt8.ofNat (m % 128 + 128) :: count (m / 128) := by rw [count, dif_neg h]
theorem ofNat_toNat {m : Nat} (h : m < 256) : (UInt8.ofNat m).toNat = m := by rw [UInt8.toNat_ofNat']; omega
/-- A number's digits are read again: so many places are left. -/
theorem digs_count : ∀ (j m k n : Nat) (z : Bs), m < 128 ^ (j + 1) → k + j = 8 → (k = 0 ∨ 0 < m) → digs k n (count m ++ z) = .ok (n + m * 128 ^ k, z) := by
  intro j
  induction j with
  | zero =>
    intro m k n z hm hk h0
    have hm' : m < 128 := by simpa using hm
    have ht := ofNat_toNat (m := m) (by omega)
    rw [count_small hm', List.singleton_append, digs_cons, if_neg, if_pos (by rw [ht]; exact hm'), ht, Nat.mod_eq_of_lt hm']
    rintro (⟨_, h⟩ | h)
    · have := congrArg UInt8.toNat h; rw [ht] at this; have : m = 0 := this; omega
    · omega
  | succ j ih =>
    intro m k n z hm hk h0
    by_cases h : m < 128
    · have ht := ofNat_toNat (m := m) (by omega)
      rw [count_small h, List.singleton_append, digs_cons, if_neg, if_pos (by rw [ht]; exact h), ht, Nat.mod_eq_of_lt h]
      rintro (⟨_, h⟩ | h)
      · have := congrArg UInt8.toNat h; rw [ht] at this; have : m = 0 := this; omega
      · omega
    · have ht := ofNat_toNat (m := m % 128 + 128) (by omega)
      rw [count_big h, List.cons_append, digs_cons, if_neg, if_neg (by rw [ht]; omega), ht]
      · rw [ih (m / 128) (k + 1) _ z (by rw [Nat.pow_succ] at hm; omega) (by omega) (Or.inr (by omega))]
        congr 2
        have e : (m % 128 + 128) % 128 = m % 128 := by omega
        have e2 : m = m % 128 + 128 * (m / 128) := (Nat.mod_add_div m 128).symm
        rw [e, Nat.pow_succ, Nat.add_assoc, Nat.add_left_cancel_iff]
        conv => rhs; rw [e2]
        rw [Nat.add_mul, Nat.mul_comm 128 (m / 128), Nat.mul_assoc, Nat.mul_comm 128 (128 ^ k)]
      · rintro (⟨_, h⟩ | h)
        · have := congrArg UInt8.toNat h; rw [ht] at this; have : m % 128 + 128 = 0 := this; omega
        · omega
/-- What was read are a number's digits. -/
theorem count_digs : ∀ (l : Bs) (k n v : Nat) (z : Bs), k ≤ 9 → digs k n l = .ok (v, z) → ∃ m, l = count m ++ z ∧ v = n + m * 128 ^ k ∧ m < 128 ^ (9 - k) ∧ (k = 0 ∨ 0 < m) := by
  intro l
  induction l with
  | nil => intro k n v z _ h; cases h
  | cons b r ih =>
    intro k n v z hk h
    rw [digs_cons] at h
    split at h
    · cases h
    · next hn =>
      have hn1 : k ≠ 9 := fun e => hn (Or.inr e)
      have hn2 : k = 0 ∨ b ≠ 0 := by
        by_cases e : k = 0
        · exact Or.inl e
        · exact Or.inr (fun x => hn (Or.inl ⟨e, x⟩))
      have hb := b.toNat_lt
      split at h
      · next hs =>
        injection h with h; injection h with h1 h2
        subst h2
        refine ⟨b.toNat, ?_, ?_, ?_, ?_⟩
        · rw [count_small hs, UInt8.ofNat_toNat]; rfl
        · rw [← h1, Nat.mod_eq_of_lt hs]
        · have : 128 ^ 1 ≤ 128 ^ (9 - k) := Nat.pow_le_pow_right (by omega) (by omega)
          omega
        · rcases hn2 with e | e
          · exact Or.inl e
          · right
            rcases Nat.eq_zero_or_pos b.toNat with h0 | h0
            · exact absurd (UInt8.toNat_inj.1 (by rw [h0]; rfl)) e
            · exact h0
      · next hs =>
        obtain ⟨m, h1, h2, h3, h4⟩ := ih _ _ _ _ (by omega) h
        have hm0 : 0 < m := by rcases h4 with h4 | h4; omega; exact h4
        have hc : count (b.toNat % 128 + m * 128) = b :: count m := by
          rw [count_big (by omega)]
          congr 1
          · rw [show (b.toNat % 128 + m * 128) % 128 + 128 = b.toNat by omega, UInt8.ofNat_toNat]
          · congr 1; omega
        refine ⟨b.toNat % 128 + m * 128, by rw [hc, h1]; rfl, ?_, ?_, Or.inr (by omega)⟩
        · rw [h2, Nat.pow_succ, Nat.add_mul, Nat.add_assoc, Nat.mul_assoc, Nat.mul_comm 128 (128 ^ k)]
        · have e : 9 - k = (9 - (k + 1)) + 1 := by omega
          rw [e, Nat.pow_succ]; omega
theorem num_num {n : Int} (h0 : -9223372036854775808 ≤ n) (h1 : n ≤ 9223372036854775807) (z : Bs) : numP (numB n ++ z) = .ok (n, z) := by
  have hp : (128 : Nat) ^ (8 + 1) = 9223372036854775808 := by rfl
  rw [numB]
  split
  · rw [List.cons_append, numP, if_neg (by decide), digs_count 8 _ 0 0 z (by rw [hp]; omega) rfl (Or.inl rfl)]
    simp; omega
  · rw [List.cons_append, numP, if_neg (by decide), digs_count 8 _ 0 0 z (by rw [hp]; omega) rfl (Or.inl rfl)]
    simp; omega
theorem num_back {l z : Bs} {n : Int} (h : numP l = .ok (n, z)) : l = numB n ++ z ∧ -9223372036854775808 ≤ n ∧ n ≤ 9223372036854775807 := by
  have hp : (128 : Nat) ^ (9 - 0) = 9223372036854775808 := by rfl
  cases l with
  | nil => cases h
  | cons c r =>
    rw [numP] at h
    split at h
    · cases h
    · next hc =>
      cases hd : digs 0 0 r with
      | error e => rw [hd] at h; cases h
      | ok v =>
        obtain ⟨v, r'⟩ := v
        rw [hd] at h
        injection h with h; injection h with h1 h2
        subst h2
        obtain ⟨m, e1, e2, e3, _⟩ := count_digs _ _ _ _ _ (by omega) hd
        rw [hp] at e3
        have ev : v = m := by simpa using e2
        subst ev
        by_cases c1 : c.toNat = 1
        · rw [if_pos c1] at h1
          have hc : c = 1 := UInt8.toNat_inj.1 c1
          subst h1
          refine ⟨?_, by omega, by omega⟩
          rw [numB, if_pos (by omega), show (-1 - (-1 - (v : Int))).toNat = v by omega, hc, e1]; rfl
        · rw [if_neg c1] at h1
          have hc : c = 0 := UInt8.toNat_inj.1 (show c.toNat = 0 by omega)
          subst h1
          refine ⟨?_, by omega, by omega⟩
          rw [numB, if_neg (by omega), show ((v : Int)).toNat = v by omega, hc, e1]; rfl
/-- How many there are, from a number on up to another one. -/
def manyP (lo hi : Int) : Pr Nat := fun l => match numP l with
  | .error e => .error e
  | .ok (n, r) => if n < lo then .error (l, 1) else if hi < n then .error (l, 2) else .ok (n.toNat, r)
def textP : Pr Bs := fun l => match manyP 0 65536 l with
  | .error e => .error e
  | .ok (n, r) => if r.length < n then .error ([], 1) else .ok (r.take n, r.drop n)
def textB (t : Bs) : Bs := numB t.length ++ t
def repP {α : Type} (p : Pr α) : Nat → Pr (List α)
  | 0 => fun l => .ok ([], l)
  | n + 1 => fun l => match p l with
    | .error e => .error e
    | .ok (x, r) => match repP p n r with
      | .error e => .error e
      | .ok (xs, r') => .ok (x :: xs, r')
theorem repP_succ {α : Type} (p : Pr α) (n : Nat) (l : Bs) : repP p (n + 1) l = match p l with
    | .error e => .error e
    | .ok (x, r) => match repP p n r with
      | .error e => .error e
      | .ok (xs, r') => .ok (x :: xs, r') := rfl
def listP {α : Type} (p : Pr α) : Pr (List α) := fun l => match manyP 0 65536 l with
  | .error e => .error e
  | .ok (n, r) => repP p n r
def listB {α : Type} (f : α → Bs) (xs : List α) : Bs := numB xs.length ++ xs.flatMap f
/-- A parser and a writer fit: what fits is read again, and what was read was written. -/
structure Fit {α : Type} (p : Pr α) (f : α → Bs) (ok : α → Prop) : Prop where
  there : ∀ x z, ok x → p (f x ++ z) = .ok (x, z)
  back : ∀ l x z, p l = .ok (x, z) → l = f x ++ z ∧ ok x
theorem fit_num : Fit numP numB (fun n => -9223372036854775808 ≤ n ∧ n ≤ 9223372036854775807) :=
  ⟨fun _ z h => num_num h.1 h.2 z, fun _ _ _ h => num_back h⟩
theorem fit_many (lo hi : Nat) (hh : hi ≤ 9223372036854775807) : Fit (manyP lo hi) (fun n => numB (n : Int)) (fun n => lo ≤ n ∧ n ≤ hi) := by
  refine ⟨fun n z h => ?_, fun l n z h => ?_⟩
  · rw [manyP, num_num (by omega) (by omega) z]
    simp only
    rw [if_neg (by omega), if_neg (by omega)]; rfl
  · rw [manyP] at h
    cases hn : numP l with
    | error e => rw [hn] at h; cases h
    | ok v =>
      obtain ⟨v, r⟩ := v
      rw [hn] at h
      simp only at h
      split at h
      · cases h
      split at h
      · cases h
      injection h with h; injection h with h1 h2
      subst h2
      obtain ⟨e, _, _⟩ := num_back hn
      have : ((v.toNat : Nat) : Int) = v := by omega
      rw [← h1]
      exact ⟨by rw [this]; exact e, by omega, by omega⟩
theorem fit_text : Fit textP textB (fun t => t.length ≤ 65536) := by
  have hm := fit_many 0 65536 (by omega)
  refine ⟨fun t z h => ?_, fun l t z h => ?_⟩
  · have e := hm.there t.length (t ++ z) ⟨Nat.zero_le _, h⟩
    rw [textB, List.append_assoc, textP]
    rw [show ((0 : Nat) : Int) = 0 from rfl, show ((65536 : Nat) : Int) = 65536 from rfl] at e
    rw [e]
    simp only
    rw [if_neg (by simp)]; simp
  · rw [textP] at h
    cases hn : manyP 0 65536 l with
    | error e => rw [hn] at h; cases h
    | ok v =>
      obtain ⟨n, r⟩ := v
      rw [hn] at h
      simp only at h
      split at h
      · cases h
      · next hl =>
        injection h with h; injection h with h1 h2
        obtain ⟨e, _, h4⟩ := hm.back l n r hn
        have hlen : t.length = n := by rw [← h1, List.length_take]; omega
        refine ⟨?_, by omega⟩
        rw [textB, hlen, e, List.append_assoc, ← h1, ← h2, List.take_append_drop]
theorem fit_rep {α : Type} {p : Pr α} {f : α → Bs} {ok : α → Prop} (h : Fit p f ok) : ∀ (xs : List α) (z : Bs), (∀ x ∈ xs, ok x) → repP p xs.length (xs.flatMap f ++ z) = .ok (xs, z) := by
  intro xs
  induction xs with
  | nil => intro z _; rfl
  | cons x xs ih =>
    intro z hx
    rw [List.flatMap_cons, List.append_assoc, List.length_cons, repP_succ, h.there x _ (hx x (List.mem_cons_self ..))]
    simp only
    rw [ih z (fun y hy => hx y (List.mem_cons_of_mem _ hy))]
theorem rep_back {α : Type} {p : Pr α} {f : α → Bs} {ok : α → Prop} (h : Fit p f ok) : ∀ (n : Nat) (l : Bs) (xs : List α) (z : Bs), repP p n l = .ok (xs, z) → l = xs.flatMap f ++ z ∧ xs.length = n ∧ ∀ x ∈ xs, ok x := by
  intro n
  induction n with
  | zero => intro l xs z e; injection e with e; injection e with e1 e2; subst e1; subst e2; exact ⟨rfl, rfl, fun _ h => by cases h⟩
  | succ n ih =>
    intro l xs z e
    rw [repP_succ] at e
    cases hp : p l with
    | error e' => rw [hp] at e; cases e
    | ok v =>
      obtain ⟨x, r⟩ := v
      rw [hp] at e
      simp only at e
      cases hr : repP p n r with
      | error e' => rw [hr] at e; cases e
      | ok v =>
        obtain ⟨ys, r'⟩ := v
        rw [hr] at e
        injection e with e; injection e with e1 e2
        subst e1; subst e2
        obtain ⟨a1, a2⟩ := h.back _ _ _ hp
        obtain ⟨b1, b2, b3⟩ := ih _ _ _ hr
        refine ⟨by rw [a1, b1, List.flatMap_cons, List.append_assoc], by simp [b2], fun y hy => ?_⟩
        rcases List.mem_cons.1 hy with rfl | hy
        · exact a2
        · exact b3 y hy
theorem fit_list {α : Type} {p : Pr α} {f : α → Bs} {ok : α → Prop} (h : Fit p f ok) : Fit (listP p) (listB f) (fun xs => xs.length ≤ 65536 ∧ ∀ x ∈ xs, ok x) := by
  have hm := fit_many 0 65536 (by omega)
  refine ⟨fun xs z hx => ?_, fun l xs z e => ?_⟩
  · have e := hm.there xs.length (xs.flatMap f ++ z) ⟨Nat.zero_le _, hx.1⟩
    rw [listB, List.append_assoc, listP]
    rw [show ((0 : Nat) : Int) = 0 from rfl, show ((65536 : Nat) : Int) = 65536 from rfl] at e
    rw [e]
    exact fit_rep h xs z hx.2
  · rw [listP] at e
    cases hn : manyP 0 65536 l with
    | error e' => rw [hn] at e; cases e
    | ok v =>
      obtain ⟨n, r⟩ := v
      rw [hn] at e
      obtain ⟨e1, _, h4⟩ := hm.back l n r hn
      obtain ⟨b1, b2, b3⟩ := rep_back h n r xs z e
      refine ⟨by rw [listB, b2, List.append_assoc, ← b1, e1], by omega, b3⟩
/-! Ages by runs. -/
abbrev Rn := Nat × Int
def ageP : Nat → List Int → Pr (List Int)
  | 0, out => fun l => .ok (out, l)
  | n + 1, out => fun l => match manyP 1 (65536 - (out.length : Int)) l with
    | .error e => .error e
    | .ok (k, r) => match numP r with
      | .error e => .error e
      | .ok (a, r') => if out.getLast? = some a then .error (r, 1) else ageP n (out ++ List.replicate k a) r'
def agesP : Pr (List Int) := fun l => match manyP 0 65536 l with
  | .error e => .error e
  | .ok (n, r) => ageP n [] r
def runs : List Int → List Rn
  | [] => []
  | a :: l => match runs l with
    | [] => [(1, a)]
    | (k, b) :: rs => if a = b then (k + 1, b) :: rs else (1, a) :: (k, b) :: rs
def runB (r : Rn) : Bs := numB r.1 ++ numB r.2
def agesB (l : List Int) : Bs := numB (runs l).length ++ (runs l).flatMap runB
def expand (rs : List Rn) : List Int := rs.flatMap fun r => List.replicate r.1 r.2
def Proper : Option Int → List Rn → Prop
  | _, [] => True
  | p, (k, a) :: rs => 1 ≤ k ∧ p ≠ some a ∧ Proper (some a) rs
theorem runs_cons (a : Int) (l : List Int) : runs (a :: l) = match runs l with
    | [] => [(1, a)]
    | (k, b) :: rs => if a = b then (k + 1, b) :: rs else (1, a) :: (k, b) :: rs := rfl
theorem proper_any {p q : Option Int} {k : Nat} {a : Int} {rs : List Rn} (h : Proper p ((k, a) :: rs)) (hq : q ≠ some a) : Proper q ((k, a) :: rs) := ⟨h.1, hq, h.2.2⟩
theorem runs_ok : ∀ l : List Int, Proper none (runs l) ∧ expand (runs l) = l := by
  intro l
  induction l with
  | nil => exact ⟨trivial, rfl⟩
  | cons a l ih =>
    rw [runs_cons]
    cases hr : runs l with
    | nil => rw [hr] at ih; exact ⟨⟨Nat.le_refl _, by simp, trivial⟩, by rw [← ih.2]; rfl⟩
    | cons r rs =>
      obtain ⟨k, b⟩ := r
      rw [hr] at ih
      simp only
      split
      · next e =>
        subst e
        refine ⟨⟨by omega, by simp, ih.1.2.2⟩, ?_⟩
        rw [← ih.2]; simp [expand, List.replicate_succ]
      · next e =>
        refine ⟨⟨Nat.le_refl _, by simp, proper_any ih.1 (by simp; exact e)⟩, ?_⟩
        rw [← ih.2]; simp [expand]
theorem runs_rep (a : Int) : ∀ (k : Nat) (l : List Int), 1 ≤ k → l.head? ≠ some a → runs (List.replicate k a ++ l) = (k, a) :: runs l := by
  intro k
  induction k with
  | zero => intro l h; omega
  | succ k ih =>
    intro l _ hl
    rw [List.replicate_succ, List.cons_append, runs_cons]
    cases k with
    | zero =>
      rw [List.replicate_zero, List.nil_append]
      cases l with
      | nil => rfl
      | cons b l =>
        have hb : a ≠ b := by intro e; exact hl (by rw [e]; rfl)
        have : ∃ k rs, runs (b :: l) = (k, b) :: rs := by
          rw [runs_cons]
          cases runs l with
          | nil => exact ⟨_, _, rfl⟩
          | cons r rs =>
            obtain ⟨k, c⟩ := r
            simp only
            split
            · next e => subst e; exact ⟨_, _, rfl⟩
            · exact ⟨_, _, rfl⟩
        obtain ⟨k, rs, e⟩ := this
        rw [e]; simp only; rw [if_neg hb]
    | succ k => rw [ih l (by omega) hl]; simp
theorem expand_head {p : Option Int} {rs : List Rn} (h : Proper p rs) (x : Int) (hx : (expand rs).head? = some x) : p ≠ some x := by
  cases rs with
  | nil => cases hx
  | cons r rs =>
    obtain ⟨k, a⟩ := r
    obtain ⟨h1, h2, _⟩ := h
    obtain ⟨k, rfl⟩ : ∃ j, k = j + 1 := ⟨k - 1, by omega⟩
    simp [expand, List.replicate_succ] at hx
    rw [← hx]; exact h2
theorem runs_expand : ∀ (rs : List Rn) (p : Option Int), Proper p rs → runs (expand rs) = rs := by
  intro rs
  induction rs with
  | nil => intro _ _; rfl
  | cons r rs ih =>
    intro p h
    obtain ⟨k, a⟩ := r
    obtain ⟨h1, _, h3⟩ := h
    have e : expand ((k, a) :: rs) = List.replicate k a ++ expand rs := rfl
    rw [e, runs_rep a k _ h1 (fun hx => expand_head h3 a hx rfl), ih _ h3]
theorem last_rep (out : List Int) (k : Nat) (a : Int) (h : 1 ≤ k) : (out ++ List.replicate k a).getLast? = some a := by
  obtain ⟨j, rfl⟩ : ∃ j, k = j + 1 := ⟨k - 1, by omega⟩
  rw [List.replicate_succ', ← List.append_assoc, List.getLast?_concat]
def I64 (n : Int) : Prop := -9223372036854775808 ≤ n ∧ n ≤ 9223372036854775807
theorem ageP_succ (n : Nat) (out : List Int) (l : Bs) : ageP (n + 1) out l = match manyP 1 (65536 - (out.length : Int)) l with
    | .error e => .error e
    | .ok (k, r) => match numP r with
      | .error e => .error e
      | .ok (a, r') => if out.getLast? = some a then .error (r, 1) else ageP n (out ++ List.replicate k a) r' := rfl
theorem expand_cons (k : Nat) (a : Int) (rs : List Rn) : expand ((k, a) :: rs) = List.replicate k a ++ expand rs := rfl
theorem ages_there : ∀ (rs : List Rn) (out : List Int) (z : Bs), Proper out.getLast? rs → out.length + (expand rs).length ≤ 65536 → (∀ r ∈ rs, I64 r.2) → ageP rs.length out (rs.flatMap runB ++ z) = .ok (out ++ expand rs, z) := by
  intro rs
  induction rs with
  | nil => intro out z _ _ _; show Except.ok (out, z) = _; rw [show expand [] = [] from rfl, List.append_nil]
  | cons r rs ih =>
    intro out z h hl hi
    obtain ⟨k, a⟩ := r
    obtain ⟨h1, h2, h3⟩ := h
    rw [expand_cons, List.length_append, List.length_replicate] at hl
    have ha := hi (k, a) (List.mem_cons_self ..)
    have hc : (65536 : Int) - (out.length : Int) = ((65536 - out.length : Nat) : Int) := by omega
    have em := (fit_many 1 (65536 - out.length) (by omega)).there k (numB a ++ (rs.flatMap runB ++ z)) ⟨h1, by omega⟩
    rw [List.flatMap_cons, runB, List.append_assoc, List.append_assoc, List.length_cons, ageP_succ, hc]
    rw [show ((1 : Nat) : Int) = 1 from rfl] at em
    rw [em]
    simp only
    rw [num_num ha.1 ha.2]
    simp only
    rw [if_neg h2, ih _ z (by rw [last_rep _ _ _ h1]; exact h3) (by rw [List.length_append, List.length_replicate]; omega) (fun r hr => hi r (List.mem_cons_of_mem _ hr)), expand_cons, List.append_assoc]
theorem ages_back : ∀ (n : Nat) (out : List Int) (l : Bs) (ys : List Int) (z : Bs), out.length ≤ 65536 → ageP n out l = .ok (ys, z) →
    ∃ rs, rs.length = n ∧ Proper out.getLast? rs ∧ ys = out ++ expand rs ∧ l = rs.flatMap runB ++ z ∧ ys.length ≤ 65536 ∧ ∀ r ∈ rs, I64 r.2 := by
  intro n
  induction n with
  | zero => intro out l ys z ho h; injection h with h; injection h with h1 h2; subst h1; subst h2; exact ⟨[], rfl, trivial, by simp [expand], rfl, ho, fun r hr => by cases hr⟩
  | succ n ih =>
    intro out l ys z ho h
    rw [ageP_succ] at h
    have hc : (65536 : Int) - (out.length : Int) = ((65536 - out.length : Nat) : Int) := by omega
    rw [hc, show (1 : Int) = ((1 : Nat) : Int) from rfl] at h
    cases hm : manyP ((1 : Nat) : Int) ((65536 - out.length : Nat) : Int) l with
    | error e => rw [hm] at h; cases h
    | ok v =>
      obtain ⟨k, r⟩ := v
      rw [hm] at h
      simp only at h
      cases hn : numP r with
      | error e => rw [hn] at h; cases h
      | ok v =>
        obtain ⟨a, r'⟩ := v
        rw [hn] at h
        simp only at h
        split at h
        · cases h
        · next hla =>
          obtain ⟨e1, k1, k2⟩ := (fit_many 1 (65536 - out.length) (by omega)).back l k r hm
          obtain ⟨e2, a1, a2⟩ := num_back hn
          obtain ⟨rs, q1, q2, q3, q4, q5, q6⟩ := ih _ _ _ _ (by rw [List.length_append, List.length_replicate]; omega) h
          rw [last_rep _ _ _ k1] at q2
          refine ⟨(k, a) :: rs, by simp [q1], ⟨k1, hla, q2⟩, by rw [q3, expand_cons, List.append_assoc], ?_, q5, fun r hr => ?_⟩
          · rw [e1, e2, q4, List.flatMap_cons, runB]; simp only [List.append_assoc]
          · rcases List.mem_cons.1 hr with rfl | hr
            · exact ⟨a1, a2⟩
            · exact q6 r hr
theorem runs_len : ∀ rs : List Rn, (∃ p, Proper p rs) → rs.length ≤ (expand rs).length := by
  intro rs
  induction rs with
  | nil => intro _; simp
  | cons r rs ih =>
    rintro ⟨p, h⟩
    obtain ⟨k, a⟩ := r
    have := ih ⟨_, h.2.2⟩
    have h1 := h.1
    rw [expand_cons, List.length_append, List.length_replicate, List.length_cons]; omega
theorem mem_expand {rs : List Rn} {p : Option Int} (h : Proper p rs) {r : Rn} (hr : r ∈ rs) : r.2 ∈ expand rs := by
  rw [expand, List.mem_flatMap]
  refine ⟨r, hr, ?_⟩
  have : ∀ (rs : List Rn) (p : Option Int), Proper p rs → r ∈ rs → 1 ≤ r.1 := by
    intro rs
    induction rs with
    | nil => intro _ _ h; cases h
    | cons q rs ih =>
      intro p h hm
      obtain ⟨k, a⟩ := q
      rcases List.mem_cons.1 hm with rfl | hm
      · exact h.1
      · exact ih _ h.2.2 hm
  have := this rs p h hr
  rw [List.mem_replicate]; exact ⟨by omega, rfl⟩
theorem fit_ages : Fit agesP agesB (fun l => l.length ≤ 65536 ∧ ∀ x ∈ l, I64 x) := by
  have hm := fit_many 0 65536 (by omega)
  refine ⟨fun l z h => ?_, fun l x z h => ?_⟩
  · obtain ⟨r1, r2⟩ := runs_ok l
    have hlen := runs_len _ ⟨_, r1⟩
    rw [r2] at hlen
    have e := hm.there (runs l).length ((runs l).flatMap runB ++ z) ⟨Nat.zero_le _, by omega⟩
    rw [show ((0 : Nat) : Int) = 0 from rfl, show ((65536 : Nat) : Int) = 65536 from rfl] at e
    rw [agesB, List.append_assoc, agesP, e]
    simp only
    rw [ages_there (runs l) [] z r1 (by rw [r2]; simpa using h.1) (fun r hr => h.2 _ (by have := mem_expand r1 hr; rwa [r2] at this)), r2]; rfl
  · rw [agesP] at h
    cases hn : manyP 0 65536 l with
    | error e => rw [hn] at h; cases h
    | ok v =>
      obtain ⟨n, r⟩ := v
      rw [hn] at h
      obtain ⟨e1, _, _⟩ := hm.back l n r hn
      obtain ⟨rs, q1, q2, q3, q4, q5, q6⟩ := ages_back n [] r x z (by simp) h
      rw [List.nil_append] at q3
      have hr : runs x = rs := by rw [q3]; exact runs_expand rs _ q2
      refine ⟨by rw [agesB, hr, q1, List.append_assoc, ← q4, e1], q5, fun y hy => ?_⟩
      rw [q3, expand, List.mem_flatMap] at hy
      obtain ⟨r, hr, hy⟩ := hy
      rw [List.mem_replicate] at hy
      rw [hy.2]; exact q6 r hr
end StaP
end Go.Proofs.Ytfkjogkpdebepaa
