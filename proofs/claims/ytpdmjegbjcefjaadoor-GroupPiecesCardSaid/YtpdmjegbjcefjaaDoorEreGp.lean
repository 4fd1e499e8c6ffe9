/- The place of an error does not hang on what is behind it. No program. No condition. -/
import Derived.Test.YtpdmjegbjcefjaaDoorEreB
namespace Go.Proofs.YtpdmjegbjcefjaaDoor
set_option linter.unusedVariables false
set_option linter.unusedSimpArgs false
open Go.RowKit
namespace EreP
/-- Two texts that part behind one byte, and what is left of them from that byte on. -/
def Ext (l r l' r' : Bs) : Prop := ∃ pre c t t', l = pre ++ c :: t ∧ r = c :: t ∧ l' = pre ++ c :: t' ∧ r' = c :: t'
theorem Ext.split {l r l' r' m : Bs} (h : Ext l r l' r') (h1 : r <:+ m) (h2 : m <:+ l) : ∃ m', Ext l m l' m' ∧ Ext m r m' r' := by
  obtain ⟨pre, c, t, t', rfl, rfl, rfl, rfl⟩ := h
  obtain ⟨q, rfl⟩ := h1
  obtain ⟨p, hp⟩ := h2
  have e : p ++ q = pre := by
    have : (p ++ q) ++ c :: t = pre ++ c :: t := by rw [← hp, List.append_assoc]
    exact List.append_cancel_right this
  subst e
  refine ⟨q ++ c :: t', ?_, q, c, t, t', rfl, rfl, rfl, rfl⟩
  cases q with
  | nil => exact ⟨p, c, t, t', by simp, rfl, by simp, rfl⟩
  | cons d q => exact ⟨p, d, q ++ c :: t, q ++ c :: t', by simp, rfl, by simp, rfl⟩
theorem Ext.tail {c : UInt8} {l r l' r' : Bs} (h : Ext (c :: l) r l' r') (h1 : r <:+ l) : ∃ m', l' = c :: m' ∧ Ext l r m' r' := by
  obtain ⟨pre, d, t, t', e1, rfl, rfl, rfl⟩ := h
  cases pre with
  | nil =>
    injection e1 with e2 e3
    subst e3
    have := h1.length_le
    simp at this
    omega
  | cons x pre =>
    injection e1 with e2 e3
    subst e2
    exact ⟨pre ++ d :: t', rfl, pre, d, t, t', e3, rfl, rfl, rfl⟩
theorem Ext.whole {l l' r' : Bs} (h : Ext l l l' r') : l' = r' ∧ ∃ c t t', l = c :: t ∧ l' = c :: t' := by
  obtain ⟨pre, c, t, t', e, e2, rfl, rfl⟩ := h
  have : pre = [] := by
    have h1 : (pre ++ c :: t).length = (c :: t).length := by rw [← e, ← e2]
    rw [List.length_append] at h1
    exact List.length_eq_zero_iff.1 (by omega)
  subst this
  exact ⟨rfl, c, t, t', e, rfl⟩
/-- What a parser tells at texts of less than n bytes hangs on no byte behind the one at which it stood still. -/
structure LocN {β : Type} (π : β → Bs) (ρ : β → Bs → β) (n : Nat) (p : Bs → Except (Bs × Nat) β) : Prop where
  sok : ∀ l b, l.length < n → p l = .ok b → π b <:+ l
  ser : ∀ l r e, l.length < n → p l = .error (r, e) → r <:+ l ∧ (r = [] → e = 1)
  ok : ∀ l b l' r', l.length < n → p l = .ok b → Ext l (π b) l' r' → p l' = .ok (ρ b r')
  er : ∀ l r e l' r', l.length < n → p l = .error (r, e) → Ext l r l' r' → p l' = .error (r', e)
theorem LocN.less {β : Type} {π : β → Bs} {ρ : β → Bs → β} {n m : Nat} {p : Bs → Except (Bs × Nat) β} (h : LocN π ρ n p) (hm : m ≤ n) : LocN π ρ m p :=
  ⟨fun l b hl => h.sok l b (by omega), fun l r e hl => h.ser l r e (by omega), fun l b l' r' hl => h.ok l b l' r' (by omega), fun l r e l' r' hl => h.er l r e l' r' (by omega)⟩
theorem LocN.bind {β γ : Type} {π : β → Bs} {ρ : β → Bs → β} {π2 : γ → Bs} {ρ2 : γ → Bs → γ} {n n' : Nat} {p : Bs → Except (Bs × Nat) β} {f : Bs → Except (Bs × Nat) γ} (k : β → Except (Bs × Nat) γ)
    (hl : ∀ b, ρ b (π b) = b) (hp : LocN π ρ n p) (hk : ∀ b, LocN π2 ρ2 n' (fun m => k (ρ b m))) (hlt : ∀ l b, l.length < n → p l = .ok b → (π b).length < n')
    (he : ∀ l e, p l = .error e → f l = .error e) (ho : ∀ l b, p l = .ok b → f l = k b) : LocN π2 ρ2 n f where
  sok := by
    intro l b2 hn h
    cases hp1 : p l with
    | error e => rw [he l e hp1] at h; cases h
    | ok b =>
      rw [ho l b hp1, ← hl b] at h
      exact ((hk b).sok _ _ (hlt l b hn hp1) h).trans (hp.sok l b hn hp1)
  ser := by
    intro l r e hn h
    cases hp1 : p l with
    | error e1 =>
      rw [he l e1 hp1] at h
      injection h with h
      subst h
      exact hp.ser l r e hn hp1
    | ok b =>
      rw [ho l b hp1, ← hl b] at h
      obtain ⟨h1, h2⟩ := (hk b).ser _ _ _ (hlt l b hn hp1) h
      exact ⟨h1.trans (hp.sok l b hn hp1), h2⟩
  ok := by
    intro l b2 l' r' hn h hx
    cases hp1 : p l with
    | error e => rw [he l e hp1] at h; cases h
    | ok b =>
      rw [ho l b hp1, ← hl b] at h
      obtain ⟨m', h1, h2⟩ := hx.split ((hk b).sok _ _ (hlt l b hn hp1) h) (hp.sok l b hn hp1)
      rw [ho l' _ (hp.ok l b l' m' hn hp1 h1)]
      exact (hk b).ok _ _ _ _ (hlt l b hn hp1) h h2
  er := by
    intro l r e l' r' hn h hx
    cases hp1 : p l with
    | error e1 =>
      rw [he l e1 hp1] at h
      injection h with h
      subst h
      exact he l' _ (hp.er l r e l' r' hn hp1 hx)
    | ok b =>
      rw [ho l b hp1, ← hl b] at h
      obtain ⟨h3, _⟩ := (hk b).ser _ _ _ (hlt l b hn hp1) h
      obtain ⟨m', h1, h2⟩ := hx.split h3 (hp.sok l b hn hp1)
      rw [ho l' _ (hp.ok l b l' m' hn hp1 h1)]
      exact (hk b).er _ _ _ _ _ (hlt l b hn hp1) h h2
/-- What stands behind a first byte c. -/
def LocC {β : Type} (π : β → Bs) (ρ : β → Bs → β) (n : Nat) (c : UInt8) (f : Bs → Except (Bs × Nat) β) : Prop :=
  (∃ e, ∀ r, f (c :: r) = .error (c :: r, e)) ∨ (∃ b, ∀ r, f (c :: r) = .ok (ρ b (c :: r))) ∨ (∃ k, LocN π ρ (n - 1) k ∧ ∀ r, f (c :: r) = k r) ∨ (∃ k, LocN π ρ n k ∧ ∀ r, f (c :: r) = k (c :: r))
theorem LocN.head {β : Type} {π : β → Bs} {ρ : β → Bs → β} {n : Nat} {f : Bs → Except (Bs × Nat) β} (h1 : ∀ b m, π (ρ b m) = m) (h2 : ∀ b m m', ρ (ρ b m) m' = ρ b m')
    (h0 : f [] = .error ([], 1) ∨ ∃ b, f [] = .ok b ∧ π b = []) (hc : ∀ c, LocC π ρ n c f) : LocN π ρ n f where
  sok := by
    intro l b hn h
    cases l with
    | nil =>
      rcases h0 with h0 | ⟨b2, h0, e⟩
      · rw [h0] at h; cases h
      · rw [h0] at h; injection h with h; subst h; rw [e]; exact List.suffix_refl _
    | cons c l =>
      rcases hc c with ⟨e, h3⟩ | ⟨b2, h3⟩ | ⟨k, hk, h3⟩ | ⟨k, hk, h3⟩
      · rw [h3] at h; cases h
      · rw [h3] at h; injection h with h; subst h; rw [h1]; exact List.suffix_refl _
      · rw [h3 l] at h; exact (hk.sok l b (by simp at hn; omega) h).trans (List.suffix_cons _ _)
      · rw [h3] at h; exact hk.sok _ b hn h
  ser := by
    intro l r e hn h
    cases l with
    | nil =>
      rcases h0 with h0 | ⟨b2, h0, e⟩
      · rw [h0] at h; injection h with h; injection h with h h3; subst h; subst h3; exact ⟨List.suffix_refl _, fun _ => rfl⟩
      · rw [h0] at h; cases h
    | cons c l =>
      rcases hc c with ⟨e, h3⟩ | ⟨b2, h3⟩ | ⟨k, hk, h3⟩ | ⟨k, hk, h3⟩
      · rw [h3] at h; injection h with h; injection h with h h3; subst h; exact ⟨List.suffix_refl _, fun e => by cases e⟩
      · rw [h3] at h; cases h
      · rw [h3 l] at h
        obtain ⟨h4, h5⟩ := hk.ser l _ _ (by simp at hn; omega) h
        exact ⟨h4.trans (List.suffix_cons _ _), h5⟩
      · rw [h3] at h; exact hk.ser _ _ _ hn h
  ok := by
    intro l b l' r' hn h hx
    cases l with
    | nil =>
      obtain ⟨pre, d, t, t', e, _⟩ := hx
      simp at e
    | cons c l =>
      rcases hc c with ⟨e, h3⟩ | ⟨b2, h3⟩ | ⟨k, hk, h3⟩ | ⟨k, hk, h3⟩
      · rw [h3] at h; cases h
      · rw [h3] at h; injection h with h; subst h
        rw [h1] at hx
        obtain ⟨e1, c2, t, t', e2, e3⟩ := hx.whole
        injection e2 with e2 _
        subst e2
        rw [h2, ← e1, e3, h3]
      · rw [h3 l] at h
        obtain ⟨m', e1, hx2⟩ := hx.tail (hk.sok l b (by simp at hn; omega) h)
        subst e1
        rw [h3 m']
        exact hk.ok l b m' r' (by simp at hn; omega) h hx2
      · rw [h3] at h
        have h5 := hk.ok _ b l' r' hn h hx
        obtain ⟨pre, d, t, t', e1, e2, e3, e4⟩ := hx
        have hh : ∃ t2, l' = c :: t2 := by
          cases pre with
          | nil => injection e1 with e1 _; subst e1; exact ⟨t', e3⟩
          | cons x pre => injection e1 with e1 _; subst e1; exact ⟨_, e3⟩
        obtain ⟨t2, rfl⟩ := hh
        rw [h3]; exact h5
  er := by
    intro l r e l' r' hn h hx
    cases l with
    | nil =>
      obtain ⟨pre, d, t, t', e, _⟩ := hx
      simp at e
    | cons c l =>
      rcases hc c with ⟨e, h3⟩ | ⟨b2, h3⟩ | ⟨k, hk, h3⟩ | ⟨k, hk, h3⟩
      · rw [h3] at h; injection h with h; injection h with h h4; subst h; subst h4
        obtain ⟨e1, c2, t, t', e2, e3⟩ := hx.whole
        injection e2 with e2 _
        subst e2
        rw [← e1, e3, h3]
      · rw [h3] at h; cases h
      · rw [h3 l] at h
        obtain ⟨m', e1, hx2⟩ := hx.tail (hk.ser l _ _ (by simp at hn; omega) h).1
        subst e1
        rw [h3 m']
        exact hk.er l _ _ m' r' (by simp at hn; omega) h hx2
      · rw [h3] at h
        have h5 := hk.er _ _ _ l' r' hn h hx
        obtain ⟨pre, d, t, t', e1, e2, e3, e4⟩ := hx
        have hh : ∃ t2, l' = c :: t2 := by
          cases pre with
          | nil => injection e1 with e1 _; subst e1; exact ⟨t', e3⟩
          | cons x pre => injection e1 with e1 _; subst e1; exact ⟨_, e3⟩
        obtain ⟨t2, rfl⟩ := hh
        rw [h3]; exact h5
/-- Pairs; triples. -/
abbrev L2 {α : Type} (n : Nat) (p : Bs → Except (Bs × Nat) (α × Bs)) : Prop := LocN (fun b : α × Bs => b.2) (fun b m => (b.1, m)) n p
abbrev L3 {α : Type} (n : Nat) (p : Bs → Except (Bs × Nat) (α × Bs × Nat)) : Prop := LocN (fun b : α × Bs × Nat => b.2.1) (fun b m => (b.1, m, b.2.2)) n p
theorem pure2 {α : Type} (n : Nat) (x : α) : L2 n (fun l => .ok (x, l)) where
  sok := by intro l b _ h; injection h with h; subst h; exact List.suffix_refl _
  ser := by intro l r e _ h; cases h
  ok := by intro l b l' r' _ h hx; injection h with h; subst h; rw [hx.whole.1]
  er := by intro l r e l' r' _ h; cases h
theorem pure3 {α : Type} (n : Nat) (x : α) (g : Nat) : L3 n (fun l => .ok (x, l, g)) where
  sok := by intro l b _ h; injection h with h; subst h; exact List.suffix_refl _
  ser := by intro l r e _ h; cases h
  ok := by intro l b l' r' _ h hx; injection h with h; subst h; rw [hx.whole.1]
  er := by intro l r e l' r' _ h; cases h
theorem head2 {α : Type} {n : Nat} {f : Bs → Except (Bs × Nat) (α × Bs)} (h0 : f [] = .error ([], 1) ∨ ∃ b, f [] = .ok b ∧ b.2 = [])
    (hc : ∀ c, (∃ e, ∀ r, f (c :: r) = .error (c :: r, e)) ∨ (∃ x, ∀ r, f (c :: r) = .ok (x, c :: r)) ∨ (∃ k, L2 (n - 1) k ∧ ∀ r, f (c :: r) = k r) ∨ (∃ k, L2 n k ∧ ∀ r, f (c :: r) = k (c :: r))) : L2 n f :=
  LocN.head (fun _ _ => rfl) (fun _ _ _ => rfl) h0 (fun c => by
    rcases hc c with h | ⟨x, h⟩ | h | h
    · exact Or.inl h
    · exact Or.inr (Or.inl ⟨(x, []), h⟩)
    · exact Or.inr (Or.inr (Or.inl h))
    · exact Or.inr (Or.inr (Or.inr h)))
theorem head3 {α : Type} {n : Nat} {f : Bs → Except (Bs × Nat) (α × Bs × Nat)} (h0 : f [] = .error ([], 1) ∨ ∃ b, f [] = .ok b ∧ b.2.1 = [])
    (hc : ∀ c, (∃ e, ∀ r, f (c :: r) = .error (c :: r, e)) ∨ (∃ x g, ∀ r, f (c :: r) = .ok (x, c :: r, g)) ∨ (∃ k, L3 (n - 1) k ∧ ∀ r, f (c :: r) = k r) ∨ (∃ k, L3 n k ∧ ∀ r, f (c :: r) = k (c :: r))) : L3 n f :=
  LocN.head (fun _ _ => rfl) (fun _ _ _ => rfl) h0 (fun c => by
    rcases hc c with h | ⟨x, g, h⟩ | h | h
    · exact Or.inl h
    · exact Or.inr (Or.inl ⟨(x, [], g), h⟩)
    · exact Or.inr (Or.inr (Or.inl h))
    · exact Or.inr (Or.inr (Or.inr h)))
theorem item_loc (n : Nat) : L2 n itemP := by
  refine head2 (Or.inl rfl) (fun c => ?_)
  by_cases h1 : (c == 93 || c == 45) = true
  · exact Or.inl ⟨1, fun r => by rw [itemP.eq_def]; simp only [if_pos h1]⟩
  refine Or.inr (Or.inr (Or.inl ?_))
  by_cases h2 : (c == 92) = true
  · refine ⟨fun r => match r with | [] => .error ([], 1) | d :: r' => .ok (d, r'), head2 (Or.inl rfl) (fun d => Or.inr (Or.inr (Or.inl ⟨_, pure2 _ d, fun r => rfl⟩))), fun r => ?_⟩
    rw [itemP.eq_def]; simp only [if_neg h1, if_pos h2]
    cases r <;> rfl
  · exact ⟨_, pure2 _ c, fun r => by rw [itemP.eq_def]; simp only [if_neg h1, if_neg h2]⟩
/-- An item ends at the byte that it tells. -/
theorem item_last {l r : Bs} {d : UInt8} (h : itemP l = .ok (d, r)) : ∃ pre, l = pre ++ d :: r ∧ ∀ t, itemP (pre ++ d :: t) = .ok (d, t) := by
  cases l with
  | nil => cases h
  | cons c l =>
    rw [itemP.eq_def] at h
    simp only at h
    split at h
    · cases h
    · next h1 =>
      split at h
      · next h2 =>
        cases l with
        | nil => cases h
        | cons x l =>
          injection h with h; injection h with e1 e2; subst e1; subst e2
          refine ⟨[c], rfl, fun t => ?_⟩
          rw [itemP.eq_def]; simp only [List.cons_append, List.nil_append, if_neg h1, if_pos h2]
      · next h2 =>
        injection h with h; injection h with e1 e2; subst e1; subst e2
        refine ⟨[], rfl, fun t => ?_⟩
        rw [itemP.eq_def]; simp only [List.nil_append, if_neg h1, if_neg h2]
/-- Behind -. -/
def upP (low : UInt8) (r1 : Bs) : Except (Bs × Nat) ((UInt8 × UInt8) × Bs) := match itemP r1 with
  | .error e => .error e
  | .ok (high, r2) => if high < low then .error (high :: r2, 1) else .ok ((low, high), r2)
theorem up_loc (n : Nat) (low : UInt8) : L2 n (upP low) where
  sok := by
    intro l b hn h
    unfold upP at h
    split at h
    · cases h
    · next high r2 e =>
      split at h
      · cases h
      · injection h with h; subst h
        exact (item_loc n).sok l _ hn e
  ser := by
    intro l r e hn h
    unfold upP at h
    split at h
    · next e1 he => injection h with h; subst h; exact (item_loc n).ser l r e hn he
    · next high r2 e1 =>
      split at h
      · injection h with h; injection h with h h2; subst h
        obtain ⟨pre, e2, _⟩ := item_last e1
        exact ⟨⟨pre, e2.symm⟩, fun e => by cases e⟩
      · cases h
  ok := by
    intro l b l' r' hn h hx
    unfold upP at h
    split at h
    · cases h
    · next high r2 e =>
      split at h
      · cases h
      · next hlt =>
        injection h with h; subst h
        have := (item_loc n).ok l _ l' r' hn e hx
        unfold upP
        rw [this]
        simp only [if_neg hlt]
  er := by
    intro l r e l' r' hn h hx
    unfold upP at h
    split at h
    · next e1 he =>
      injection h with h; subst h
      have := (item_loc n).er l r e l' r' hn he hx
      unfold upP
      rw [this]
    · next high r2 e1 =>
      split at h
      · next hlt =>
        injection h with h; injection h with h h2; subst h; subst h2
        obtain ⟨pre, e2, h3⟩ := item_last e1
        obtain ⟨pre2, d, t, t', e3, e4, e5, e6⟩ := hx
        injection e4 with e4 e7
        subst e4; subst e7
        have : pre2 = pre := List.append_cancel_right (e3.symm.trans e2)
        subst this
        subst e5
        subst e6
        unfold upP
        rw [h3 t']
        simp only [if_pos hlt]
      · cases h
theorem span_loc (n : Nat) : L2 n spanP := by
  refine LocN.bind (fun b : UInt8 × Bs => match b.2 with | [] => .ok ((b.1, b.1), []) | c :: r1 => if c == 45 then upP b.1 r1 else .ok ((b.1, b.1), c :: r1)) (fun b => rfl) (item_loc n) (n' := n) (fun b => ?_) (fun l b hn h => by have := item_len h; omega) (fun l e h => by unfold spanP; rw [h]) (fun l b h => by unfold spanP; rw [h]; rfl)
  refine head2 (Or.inr ⟨_, rfl, rfl⟩) (fun c => ?_)
  by_cases h : (c == 45) = true
  · exact Or.inr (Or.inr (Or.inl ⟨_, up_loc _ b.1, fun r => by simp only [if_pos h]⟩))
  · exact Or.inr (Or.inl ⟨(b.1, b.1), fun r => by simp only [if_neg h]⟩)
theorem items_loc : ∀ (n : Nat) (first : Bool) (acc : Nat), L2 n (fun l => itemsP (l.length + 1) first acc l) := by
  intro n
  induction n with
  | zero => intro first acc; exact ⟨fun l b h => absurd h (Nat.not_lt_zero _), fun l r e h => absurd h (Nat.not_lt_zero _), fun l b l' r' h => absurd h (Nat.not_lt_zero _), fun l r e l' r' h => absurd h (Nat.not_lt_zero _)⟩
  | succ n ih =>
    intro first acc
    refine head2 (Or.inl (by rw [itemsP]; simp [spanP, itemP])) (fun c => ?_)
    by_cases h : (!first && c == 93) = true
    · exact Or.inr (Or.inr (Or.inl ⟨_, pure2 _ acc, fun r => by show itemsP _ _ _ _ = _; rw [itemsP, if_pos (by simpa using h)]; rfl⟩))
    · refine Or.inr (Or.inr (Or.inr ⟨fun l => match spanP l with | .error e => .error e | .ok ((a, b), r) => itemsP (r.length + 1) false (acc ||| rangeS a.toNat b.toNat) r, ?_, fun r => ?_⟩))
      · exact LocN.bind (fun b : (UInt8 × UInt8) × Bs => itemsP (b.2.length + 1) false (acc ||| rangeS b.1.1.toNat b.1.2.toNat) b.2) (fun b => rfl) (span_loc (n + 1)) (n' := n) (fun b => ih false (acc ||| rangeS b.1.1.toNat b.1.2.toNat)) (fun l b hn h => by have := span_len h; omega) (fun l e h => by rw [h]) (fun l b h => by rw [h])
      · show itemsP ((c :: r).length + 1) first acc (c :: r) = match spanP (c :: r) with | .error e => .error e | .ok ((a, b), r) => itemsP (r.length + 1) false (acc ||| rangeS a.toNat b.toNat) r
        rw [itemsP, if_neg (by simpa using h)]
        cases he : spanP (c :: r) with
        | error e => rfl
        | ok b =>
          obtain ⟨⟨a, b⟩, r1⟩ := b
          have := span_len he
          exact items_fuel _ _ _ _ _ (by simpa using this) (by omega)
theorem class_loc (n : Nat) : L2 n classP := by
  refine head2 (Or.inl (by unfold classP; simp [itemsP, spanP, itemP])) (fun c => ?_)
  by_cases h : c = 94
  · subst h
    refine Or.inr (Or.inr (Or.inl ⟨fun l => match itemsP (l.length + 1) true 0 l with | .error e => .error e | .ok (s, r) => .ok (notS s, r), ?_, fun r => ?_⟩))
    · exact LocN.bind (fun b : Nat × Bs => .ok (notS b.1, b.2)) (fun b => rfl) (items_loc _ true 0) (n' := n) (fun b => pure2 _ (notS b.1)) (fun l b hn h => by have := items_len _ _ _ _ h; omega) (fun l e h => by rw [h]) (fun l b h => by rw [h])
    · unfold classP
      rw [if_pos (by simp)]
      rfl
  · refine Or.inr (Or.inr (Or.inr ⟨_, items_loc n true 0, fun r => ?_⟩))
    unfold classP
    rw [if_neg (by simpa using h)]
theorem digit_loc (n k : Nat) : L2 n (digitP k) := by
  refine head2 (Or.inl rfl) (fun c => ?_)
  by_cases h : 48 + k ≤ c.toNat ∧ c.toNat ≤ 56
  · exact Or.inr (Or.inr (Or.inl ⟨_, pure2 _ (c.toNat - 48), fun r => by rw [digitP, if_pos h]⟩))
  · exact Or.inl ⟨1, fun r => by rw [digitP, if_neg h]⟩
theorem need_loc {α : Type} (n : Nat) (x : UInt8) (v : α) : L2 n (needP x v) := by
  refine head2 (Or.inl rfl) (fun c => ?_)
  by_cases h : (c == x) = true
  · exact Or.inr (Or.inr (Or.inl ⟨_, pure2 _ v, fun r => by rw [needP, if_pos h]⟩))
  · exact Or.inl ⟨1, fun r => by rw [needP, if_neg h]⟩
theorem times_loc (n : Nat) : L2 n timesP := by
  refine LocN.bind (fun b : Nat × Bs => if b.2.head? == some 44 then
      (if b.2.tail.head? == some 125 then .ok (((b.1 : Int), -1), b.2.tail.tail) else match digitP b.1 b.2.tail with
        | .error e => .error e
        | .ok (c, r2) => needP 125 ((b.1 : Int), (c : Int)) r2)
    else needP 125 ((b.1 : Int), (b.1 : Int)) b.2) (fun b => rfl) (digit_loc n 0) (n' := n) (fun b => ?_) (fun l b hn h => by have := digit_len h; omega) (fun l e h => by unfold timesP; rw [h]) (fun l b h => by unfold timesP; rw [h]; rfl)
  refine head2 (Or.inl rfl) (fun c => ?_)
  by_cases h : c = 44
  · subst h
    refine Or.inr (Or.inr (Or.inl ⟨fun l => if l.head? == some 125 then .ok (((b.1 : Int), -1), l.tail) else match digitP b.1 l with
        | .error e => .error e
        | .ok (c, r2) => needP 125 ((b.1 : Int), (c : Int)) r2, ?_, fun r => ?_⟩))
    · refine head2 (Or.inl rfl) (fun c => ?_)
      by_cases h : c = 125
      · subst h
        exact Or.inr (Or.inr (Or.inl ⟨_, pure2 _ ((b.1 : Int), -1), fun r => by simp⟩))
      · refine Or.inr (Or.inr (Or.inr ⟨fun l => match digitP b.1 l with
          | .error e => .error e
          | .ok (c, r2) => needP 125 ((b.1 : Int), (c : Int)) r2, ?_, fun r => by simp [h]⟩))
        exact LocN.bind (fun q : Nat × Bs => needP 125 ((b.1 : Int), (q.1 : Int)) q.2) (fun b => rfl) (digit_loc _ b.1) (n' := n) (fun q => need_loc _ 125 ((b.1 : Int), (q.1 : Int))) (fun l b hn h => by have := digit_len h; omega) (fun l e h => by rw [h]) (fun l b h => by rw [h])
    · simp
  · refine Or.inr (Or.inr (Or.inr ⟨_, need_loc n 125 ((b.1 : Int), (b.1 : Int)), fun r => ?_⟩))
    simp [h]
def GLoc (G : Grp) : Prop := ∀ f, G = some f → ∀ n g, L3 n (fun l => f l g)
theorem atom_loc {G : Grp} (hG : GLoc G) (n g : Nat) : L3 n (fun l => atomP G l g) := by
  refine head3 (Or.inl rfl) (fun c => ?_)
  by_cases h1 : isRep c = true
  · exact Or.inl ⟨1, fun r => by show atomP _ _ _ = _; rw [atomP.eq_def]; simp only [if_pos h1]⟩
  by_cases h2 : (c == 40) = true
  · cases hG2 : G with
    | none => exact Or.inl ⟨8, fun r => by show atomP _ _ _ = _; rw [atomP.eq_def]; simp only [if_neg h1, if_pos h2]⟩
    | some f => exact Or.inr (Or.inr (Or.inl ⟨_, hG f hG2 _ g, fun r => by show atomP _ _ _ = _; rw [atomP.eq_def]; simp only [if_neg h1, if_pos h2]⟩))
  refine Or.inr (Or.inr (Or.inl ?_))
  by_cases h3 : (c == 91) = true
  · refine ⟨fun r => match classP r with | .error e => .error e | .ok (s, r') => .ok (.mk 1 s [] 0 0 0, r', g), ?_, fun r => ?_⟩
    · exact LocN.bind (fun b : Nat × Bs => .ok (.mk 1 b.1 [] 0 0 0, b.2, g)) (fun b => rfl) (class_loc _) (n' := n) (fun b => pure3 _ (Re.mk 1 b.1 [] 0 0 0) g) (fun l b hn h => by have := class_len h; omega) (fun l e h => by rw [h]) (fun l b h => by rw [h])
    · show atomP _ _ _ = _; rw [atomP.eq_def]; simp only [if_neg h1, if_neg h2, if_pos h3]; rfl
  by_cases h4 : (c == 46) = true
  · exact ⟨_, pure3 _ (.mk 1 allS [] 0 0 0) g, fun r => by show atomP _ _ _ = _; rw [atomP.eq_def]; simp only [if_neg h1, if_neg h2, if_neg h3, if_pos h4]⟩
  by_cases h5 : (c == 94) = true
  · exact ⟨_, pure3 _ (.mk 2 0 [] 0 0 0) g, fun r => by show atomP _ _ _ = _; rw [atomP.eq_def]; simp only [if_neg h1, if_neg h2, if_neg h3, if_neg h4, if_pos h5]⟩
  by_cases h6 : (c == 36) = true
  · exact ⟨_, pure3 _ (.mk 3 0 [] 0 0 0) g, fun r => by show atomP _ _ _ = _; rw [atomP.eq_def]; simp only [if_neg h1, if_neg h2, if_neg h3, if_neg h4, if_neg h5, if_pos h6]⟩
  by_cases h7 : (c == 92) = true
  · refine ⟨fun r => match r with | [] => .error ([], 1) | d :: r' => .ok (.mk 1 (oneS d.toNat) [] 0 0 0, r', g), head3 (Or.inl rfl) (fun d => Or.inr (Or.inr (Or.inl ⟨_, pure3 _ (.mk 1 (oneS d.toNat) [] 0 0 0) g, fun r => rfl⟩))), fun r => ?_⟩
    show atomP _ _ _ = _; rw [atomP.eq_def]; simp only [if_neg h1, if_neg h2, if_neg h3, if_neg h4, if_neg h5, if_neg h6, if_pos h7]
    cases r <;> rfl
  · exact ⟨_, pure3 _ (.mk 1 (oneS c.toNat) [] 0 0 0) g, fun r => by show atomP _ _ _ = _; rw [atomP.eq_def]; simp only [if_neg h1, if_neg h2, if_neg h3, if_neg h4, if_neg h5, if_neg h6, if_neg h7]⟩
/-- Behind an atom. -/
def repP (b : Re × Bs × Nat) : R3 Re := match b.2.1 with
  | [] => .ok (b.1, [], b.2.2)
  | c :: r' =>
    if !isRep c then .ok (b.1, c :: r', b.2.2)
    else if b.1.kind = 2 ∨ b.1.kind = 3 then .error (c :: r', 1)
    else if c == 43 then .ok (.mk 6 0 [b.1] 1 (-1) 0, r', b.2.2)
    else if c == 63 then .ok (.mk 6 0 [b.1] 0 1 0, r', b.2.2)
    else if c == 123 then (match timesP r' with | .error e => .error e | .ok ((a, d), r2) => .ok (.mk 6 0 [b.1] a d 0, r2, b.2.2))
    else .ok (.mk 6 0 [b.1] 0 (-1) 0, r', b.2.2)
theorem piece_loc {G : Grp} (hL : GLen G) (hG : GLoc G) (n g : Nat) : L3 n (fun l => pieceP G l g) := by
  refine LocN.bind repP (fun b => rfl) (atom_loc hG n g) (n' := n) (fun b => ?_) (fun l b hn h => by have : b.2.1.length < l.length := atom_len hL (x := b.1) (r := b.2.1) (g' := b.2.2) h; exact Nat.lt_trans this hn) (fun l e h => by show pieceP _ _ _ = _; unfold pieceP; rw [h]) (fun l b h => by show pieceP _ _ _ = _; unfold pieceP; rw [h]; rfl)
  refine head3 (Or.inr ⟨_, rfl, rfl⟩) (fun c => ?_)
  by_cases h1 : (!isRep c) = true
  · exact Or.inr (Or.inl ⟨b.1, b.2.2, fun r => by simp only [repP]; rw [if_pos h1]⟩)
  by_cases h2 : b.1.kind = 2 ∨ b.1.kind = 3
  · exact Or.inl ⟨1, fun r => by simp only [repP]; rw [if_neg h1, if_pos h2]⟩
  refine Or.inr (Or.inr (Or.inl ?_))
  by_cases h3 : (c == 43) = true
  · exact ⟨_, pure3 _ (.mk 6 0 [b.1] 1 (-1) 0) b.2.2, fun r => by simp only [repP]; rw [if_neg h1, if_neg h2, if_pos h3]⟩
  by_cases h4 : (c == 63) = true
  · exact ⟨_, pure3 _ (.mk 6 0 [b.1] 0 1 0) b.2.2, fun r => by simp only [repP]; rw [if_neg h1, if_neg h2, if_neg h3, if_pos h4]⟩
  by_cases h5 : (c == 123) = true
  · refine ⟨fun r' => match timesP r' with | .error e => .error e | .ok ((a, d), r2) => .ok (.mk 6 0 [b.1] a d 0, r2, b.2.2), ?_, fun r => by simp only [repP]; rw [if_neg h1, if_neg h2, if_neg h3, if_neg h4, if_pos h5]⟩
    exact LocN.bind (fun q : (Int × Int) × Bs => .ok (.mk 6 0 [b.1] q.1.1 q.1.2 0, q.2, b.2.2)) (fun b => rfl) (times_loc _) (n' := n) (fun q => pure3 _ (Re.mk 6 0 [b.1] q.1.1 q.1.2 0) b.2.2) (fun l b hn h => by have := times_len h; omega) (fun l e h => by rw [h]) (fun l b h => by rw [h])
  · exact ⟨_, pure3 _ (.mk 6 0 [b.1] 0 (-1) 0) b.2.2, fun r => by simp only [repP]; rw [if_neg h1, if_neg h2, if_neg h3, if_neg h4, if_neg h5]⟩
theorem zero3 {α : Type} (p : Bs → Except (Bs × Nat) (α × Bs × Nat)) : L3 0 p := ⟨fun l b h => absurd h (Nat.not_lt_zero _), fun l r e h => absurd h (Nat.not_lt_zero _), fun l b l' r' h => absurd h (Nat.not_lt_zero _), fun l r e l' r' h => absurd h (Nat.not_lt_zero _)⟩
theorem row_loc {G : Grp} (hL : GLen G) (hG : GLoc G) : ∀ (n : Nat) (acc : List Re) (g : Nat), L3 n (fun l => rowP G (l.length + 1) acc l g) := by
  intro n
  induction n with
  | zero => intro acc g; exact zero3 _
  | succ n ih =>
    intro acc g
    refine head3 (Or.inr ⟨(several 4 acc, [], g), rfl, rfl⟩) (fun c => ?_)
    have hre : ∀ r, rowEnd (c :: r) = (c == 124 || c == 41) := fun r => by simp [rowEnd]
    by_cases h : (c == 124 || c == 41) = true
    · exact Or.inr (Or.inl ⟨several 4 acc, g, fun r => by show rowP _ _ _ _ _ = _; rw [rowP, if_pos (by rw [hre]; exact h)]⟩)
    · refine Or.inr (Or.inr (Or.inr ⟨fun l => match pieceP G l g with | .error e => .error e | .ok (x, r, g') => rowP G (r.length + 1) (acc ++ [x]) r g', ?_, fun r => ?_⟩))
      · exact LocN.bind (fun b : Re × Bs × Nat => rowP G (b.2.1.length + 1) (acc ++ [b.1]) b.2.1 b.2.2) (fun b => rfl) (piece_loc hL hG (n + 1) g) (n' := n) (fun b => ih (acc ++ [b.1]) b.2.2) (fun l b hn h => by have : b.2.1.length < l.length := piece_len hL (x := b.1) (r := b.2.1) (g' := b.2.2) h; exact Nat.lt_of_lt_of_le this (Nat.le_of_lt_succ hn)) (fun l e h => by rw [h]) (fun l b h => by rw [h])
      · show rowP G ((c :: r).length + 1) acc (c :: r) g = match pieceP G (c :: r) g with | .error e => .error e | .ok (x, r, g') => rowP G (r.length + 1) (acc ++ [x]) r g'
        rw [rowP, if_neg (by rw [hre]; exact h)]
        cases he : pieceP G (c :: r) g with
        | error e => rfl
        | ok b =>
          obtain ⟨x, r1, g1⟩ := b
          have := piece_len hL he
          exact row_fuel hL _ _ _ _ _ (by simpa using this) (by omega)
theorem alt_loc {G : Grp} (hL : GLen G) (hG : GLoc G) : ∀ (n : Nat) (acc : List Re) (g : Nat), L3 n (fun l => altP G (l.length + 1) acc l g) := by
  intro n
  induction n with
  | zero => intro acc g; exact zero3 _
  | succ n ih =>
    intro acc g
    refine LocN.bind (fun b : Re × Bs × Nat => if b.2.1.head? == some 124 then altP G (b.2.1.tail.length + 1) (acc ++ [b.1]) b.2.1.tail b.2.2 else .ok (several 5 (acc ++ [b.1]), b.2.1, b.2.2)) (fun b => rfl) (row_loc hL hG (n + 1) [] g) (n' := n + 1) (fun b => ?_) (fun l b hn h => by have : b.2.1.length ≤ l.length := row_len hL _ _ _ _ (x := b.1) (r := b.2.1) (g' := b.2.2) h; exact Nat.lt_of_le_of_lt this hn) (fun l e h => by
        show altP _ _ _ _ _ = _
        rw [altP, h]) (fun l b h => by
        show altP _ _ _ _ _ = _
        obtain ⟨x, r, g1⟩ := b
        rw [altP, h]
        have h1 := row_len hL _ _ _ _ h
        show (if _ then _ else _) = (if _ then _ else _)
        split
        · next hc =>
          have ht : r.tail.length < r.length := by cases r with
            | nil => simp at hc
            | cons => simp
          exact alt_fuel hL _ _ _ _ _ (by omega) (Nat.lt_succ_self _)
        · rfl)
    refine head3 (Or.inr ⟨(several 5 (acc ++ [b.1]), [], b.2.2), rfl, rfl⟩) (fun c => ?_)
    by_cases h : c = 124
    · subst h
      exact Or.inr (Or.inr (Or.inl ⟨_, ih (acc ++ [b.1]) b.2.2, fun r => by simp⟩))
    · exact Or.inr (Or.inl ⟨several 5 (acc ++ [b.1]), b.2.2, fun r => by simp [h]⟩)
theorem grp_loc : ∀ D, GLoc (grpP D) := by
  intro D
  induction D with
  | zero => intro f h; cases h
  | succ D ih =>
    intro f h n g
    rw [grpP] at h
    injection h with h; subst h
    refine LocN.bind (fun b : Re × Bs × Nat => match b.2.1 with
      | [] => .error ([], 1)
      | c :: r2 => if c == 41 then .ok (.mk 7 0 [b.1] 0 0 (numG g), r2, b.2.2) else .error (c :: r2, 1)) (fun b => rfl) (alt_loc (grp_len D) ih n [] (g + 1)) (n' := n) (fun b => ?_) (fun l b hn h => by have : b.2.1.length ≤ l.length := alt_len (grp_len D) _ _ _ _ (x := b.1) (r := b.2.1) (g' := b.2.2) h; exact Nat.lt_of_le_of_lt this hn) (fun l e h => by simp only at h ⊢; rw [h]) (fun l b h => by simp only at h ⊢; rw [h]; rfl)
    refine head3 (Or.inl rfl) (fun c => ?_)
    by_cases h : (c == 41) = true
    · exact Or.inr (Or.inr (Or.inl ⟨_, pure3 _ (.mk 7 0 [b.1] 0 0 (numG g)) b.2.2, fun r => by simp only [if_pos h]⟩))
    · exact Or.inl ⟨1, fun r => by simp only [if_neg h]⟩
/-- What is told of the first place with which a text can't go on doesn't hang on what is behind it. -/
theorem parse_goes (s more : Bs) (hs : s.length ≤ 100) (hm : more.length ≤ 40) :
    (∃ r, parseP s = .ok r) ∨ parseP s = .error (s.length, 1) ∨ ∃ n e, n < s.length ∧ parseP s = .error (n, e) ∧ parseP (s ++ more) = .error (n, e) ∧ parseP (s.take (n + 1)) = .error (n, e) := by
  have hL := alt_loc (grp_len 64) (grp_loc 64) (s.length + 1) [] 0
  have key : ∀ s' : Bs, s'.length ≤ 200 → parseP s' = match altP (grpP 64) (s'.length + 1) [] s' 0 with
    | .error (r, e) => .error (s'.length - r.length, e)
    | .ok (x, r, _) => if r.isEmpty then .ok x else .error (s'.length - r.length, 1) := fun s' h => by unfold parseP; rw [if_neg (by omega)]; rfl
  have fin : ∀ (pre : Bs) (c : UInt8) (t : Bs), s = pre ++ c :: t → (∃ e, (∀ t', altP (grpP 64) ((pre ++ c :: t').length + 1) [] (pre ++ c :: t') 0 = .error (c :: t', e)) ∨ ∃ x g, e = 1 ∧ ∀ t', altP (grpP 64) ((pre ++ c :: t').length + 1) [] (pre ++ c :: t') 0 = .ok (x, c :: t', g)) →
      ∃ n e, n < s.length ∧ parseP s = .error (n, e) ∧ parseP (s ++ more) = .error (n, e) ∧ parseP (s.take (n + 1)) = .error (n, e) := by
    rintro pre c t rfl ⟨e, h⟩
    have all : ∀ t', (pre ++ c :: t').length ≤ 200 → parseP (pre ++ c :: t') = .error (pre.length, e) := by
      intro t' hl
      rw [key _ hl]
      rcases h with h | ⟨x, g, rfl, h⟩
      · rw [h t']
        show Except.error ((pre ++ c :: t').length - (c :: t').length, e) = _
        rw [List.length_append, Nat.add_sub_cancel]
      · rw [h t']
        show (if _ then _ else Except.error ((pre ++ c :: t').length - (c :: t').length, 1)) = _
        rw [if_neg (by simp), List.length_append, Nat.add_sub_cancel]
    have e1 : (pre ++ c :: t).length = pre.length + (t.length + 1) := by simp
    refine ⟨pre.length, e, by omega, all t (by omega), ?_, ?_⟩
    · rw [List.append_assoc, List.cons_append]
      refine all (t ++ more) ?_
      simp at hs ⊢; omega
    · have : (pre ++ c :: t).take (pre.length + 1) = pre ++ c :: [] := by
        rw [show pre ++ c :: t = (pre ++ [c]) ++ t by simp, List.take_append_of_le_length (by simp)]
        exact List.take_of_length_le (by simp)
      rw [this]
      refine all [] ?_
      simp at hs ⊢; omega
  cases ha : altP (grpP 64) (s.length + 1) [] s 0 with
  | error p =>
    obtain ⟨r, e⟩ := p
    obtain ⟨h1, h2⟩ := hL.ser s r e (by omega) ha
    cases r with
    | nil =>
      right; left
      rw [key s (by omega), ha, h2 rfl]
      rfl
    | cons c t =>
      right; right
      obtain ⟨pre, rfl⟩ := h1
      exact fin pre c t rfl ⟨e, Or.inl (fun t' => hL.er _ _ _ _ _ (by omega) ha ⟨pre, c, t, t', rfl, rfl, rfl, rfl⟩)⟩
  | ok b =>
    obtain ⟨x, r, g⟩ := b
    have h1 := hL.sok s _ (by omega) ha
    cases r with
    | nil =>
      left
      refine ⟨x, ?_⟩
      rw [key s (by omega), ha]
      rfl
    | cons c t =>
      right; right
      obtain ⟨pre, rfl⟩ := h1
      exact fin pre c t rfl ⟨1, Or.inr ⟨x, g, rfl, fun t' => hL.ok _ _ _ _ (by omega) ha ⟨pre, c, t, t', rfl, rfl, rfl, rfl⟩⟩⟩
end EreP
end Go.Proofs.YtpdmjegbjcefjaaDoor
