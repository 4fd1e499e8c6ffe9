/- Texts with gaps in plain words: a reader that goes byte by byte, the text of parts, and how they hang together. No program. No condition. -/
namespace Go.Proofs.YtledgkplddeghaaDoor
set_option linter.unusedVariables false
set_option linter.unusedSimpArgs false
namespace QuoP
abbrev Bs := List UInt8
abbrev Pt := Bs × Bs
def letterB (c : UInt8) : Bool := 97 ≤ c.toNat && c.toNat ≤ 122
def digB (c : UInt8) : Bool := 48 ≤ c.toNat && c.toNat ≤ 57
def withB (c : UInt8) : Bool := letterB c || digB c || c.toNat == 95
def hexB (c : UInt8) : Bool := digB c || (97 ≤ c.toNat && c.toNat ≤ 102)
def hexN (c : UInt8) : Nat := if digB c then c.toNat - 48 else c.toNat - 87
def textB (c : UInt8) : Bool := 32 ≤ c.toNat && c.toNat ≤ 126
def nameB (l : Bs) : Bool := match l with
  | [] => false
  | [c] => letterB c || digB c
  | c :: d :: r => letterB c && (withB d && r.all withB) && decide ((c :: d :: r).length ≤ 8)
inductive St where
  | start | text | esc | hex1 | hex2 (h : UInt8) | dollar | brace | nam (a : Bs)
inductive Out where
  | bad (r : Bs) | ok (o : List Pt) (r : Bs)
inductive Step where
  | no | go (s : St) (o : List Pt) (t : Bs) | fin (o : List Pt)
def flush (o : List Pt) (t : Bs) : List Pt := if t = [] then o else o ++ [([], t)]
def step (s : St) (o : List Pt) (t : Bs) (c : UInt8) : Step := match s with
  | .start => if c = 34 then .go .text o t else .no
  | .text => if textB c = false then .no else if c = 34 then .fin (flush o t) else if c = 36 then .go .dollar (flush o t) [] else if c = 92 then .go .esc o t else .go .text o (t ++ [c])
  | .esc => if c = 110 then .go .text o (t ++ [10]) else if c = 114 then .go .text o (t ++ [13]) else if c = 116 then .go .text o (t ++ [9]) else if c = 120 then .go .hex1 o t
      else if c = 34 ∨ c = 92 ∨ c = 36 then .go .text o (t ++ [c]) else .no
  | .hex1 => if hexB c then .go (.hex2 c) o t else .no
  | .hex2 h => if hexB c then .go .text o (t ++ [UInt8.ofNat (hexN h * 16 + hexN c)]) else .no
  | .dollar => if c = 123 then .go .brace o t else .no
  | .brace => if letterB c || digB c then .go (.nam [c]) o t else .no
  | .nam a => if c = 125 then .go .text (o ++ [(a, [])]) t else if a.head?.any letterB && decide (a.length < 8) && withB c then .go (.nam (a ++ [c])) o t else .no
def run (s : St) (o : List Pt) (t : Bs) : Bs → Out
  | [] => .bad []
  | c :: r => match step s o t c with
    | .no => .bad (c :: r)
    | .go s o t => run s o t r
    | .fin o => .ok o r
def parse (l : Bs) : Out := run .start [] [] l
theorem run_nil (s : St) (o : List Pt) (t : Bs) : run s o t [] = .bad [] := rfl
theorem run_cons (s : St) (o : List Pt) (t : Bs) (c : UInt8) (r : Bs) : run s o t (c :: r) = match step s o t c with
    | .no => .bad (c :: r)
    | .go s o t => run s o t r
    | .fin o => .ok o r := rfl
theorem run_no {s : St} {o : List Pt} {t : Bs} {c : UInt8} (r : Bs) (h : step s o t c = .no) : run s o t (c :: r) = .bad (c :: r) := by rw [run_cons, h]
theorem run_go {s s' : St} {o o' : List Pt} {t t' : Bs} {c : UInt8} (r : Bs) (h : step s o t c = .go s' o' t') : run s o t (c :: r) = run s' o' t' r := by rw [run_cons, h]
theorem run_fin {s : St} {o o' : List Pt} {t : Bs} {c : UInt8} (r : Bs) (h : step s o t c = .fin o') : run s o t (c :: r) = .ok o' r := by rw [run_cons, h]
/-- Where it can't go on is behind what was read; what follows does not matter. -/
theorem run_bad : ∀ (l : Bs) (s : St) (o : List Pt) (t : Bs) (r : Bs), run s o t l = .bad r →
    ∃ (p : Bs) (s' : St) (o' : List Pt) (t' : Bs), l = p ++ r ∧ (∀ z, run s o t (p ++ z) = run s' o' t' z) ∧ (∀ c r', r = c :: r' → step s' o' t' c = .no) := by
  intro l
  induction l with
  | nil => intro s o t r h; cases h; exact ⟨[], s, o, t, rfl, fun _ => rfl, fun _ _ h => by cases h⟩
  | cons c l ih =>
    intro s o t r h
    cases e : step s o t c with
    | no => rw [run_no l e] at h; cases h; exact ⟨[], s, o, t, rfl, fun _ => rfl, fun c' r' h => by cases h; exact e⟩
    | fin o' => rw [run_fin l e] at h; cases h
    | go s1 o1 t1 =>
      rw [run_go l e] at h
      obtain ⟨p, s', o', t', h1, h2, h3⟩ := ih _ _ _ _ h
      refine ⟨c :: p, s', o', t', by rw [h1]; rfl, fun z => ?_, h3⟩
      rw [List.cons_append, run_go (p ++ z) e, h2 z]
theorem run_ok : ∀ (l : Bs) (s : St) (o : List Pt) (t : Bs) (o2 : List Pt) (r : Bs), run s o t l = .ok o2 r → ∃ p, l = p ++ 34 :: r := by
  intro l
  induction l with
  | nil => intro s o t o2 r h; cases h
  | cons c l ih =>
    intro s o t o2 r h
    cases e : step s o t c with
    | no => rw [run_no l e] at h; cases h
    | go s1 o1 t1 =>
      rw [run_go l e] at h
      obtain ⟨p, hp⟩ := ih _ _ _ _ _ h
      exact ⟨c :: p, by rw [hp]; rfl⟩
    | fin o' =>
      rw [run_fin l e] at h
      cases h
      have : c = 34 := by
        cases s <;> simp only [step] at e <;> (repeat' split at e) <;> first | assumption | cases e
      exact ⟨[], by rw [this]; rfl⟩
theorem more_same {l m : Bs} {c : UInt8} {r : Bs} (h : parse l = .bad (c :: r)) : parse (l ++ m) = .bad (c :: r ++ m) := by
  obtain ⟨p, s', o', t', h1, h2, h3⟩ := run_bad _ _ _ _ _ h
  rw [h1, List.append_assoc]
  exact (h2 _).trans (run_no _ (h3 c r rfl))
/-- Each state can be gone on from. -/
def ends : List Bs := [[34], [110, 34], [48, 48, 34], [48, 34], [123, 97, 125, 34], [97, 125, 34], [125, 34], [34, 34]]
theorem can_end (s : St) (o : List Pt) (t : Bs) : ∃ (e : Bs) (o' : List Pt), e ∈ ends ∧ run s o t e = .ok o' [] := by
  cases s with
  | start => exact ⟨[34, 34], flush o t, by simp [ends], by simp [run, step, textB]⟩
  | text => exact ⟨[34], flush o t, by simp [ends], by simp [run, step, textB]⟩
  | esc => exact ⟨[110, 34], _, by simp [ends], by simp [run, step, textB]; rfl⟩
  | hex1 => exact ⟨[48, 48, 34], _, by simp [ends], by simp [run, step, textB, hexB, digB]; rfl⟩
  | hex2 h => exact ⟨[48, 34], _, by simp [ends], by simp [run, step, textB, hexB, digB]; rfl⟩
  | dollar => exact ⟨[123, 97, 125, 34], _, by simp [ends], by simp [run, step, textB, letterB]; rfl⟩
  | brace => exact ⟨[97, 125, 34], _, by simp [ends], by simp [run, step, textB, letterB]; rfl⟩
  | nam a => exact ⟨[125, 34], _, by simp [ends], by simp [run, step, textB]; rfl⟩
theorem goes {l r : Bs} (h : parse l = .bad r) : ∃ p e o, l = p ++ r ∧ e ∈ ends ∧ parse (p ++ e) = .ok o [] := by
  obtain ⟨p, s', o', t', h1, h2, _⟩ := run_bad _ _ _ _ _ h
  obtain ⟨e, o2, he, h3⟩ := can_end s' o' t'
  exact ⟨p, e, o2, h1, he, (h2 e).trans h3⟩
/-- May parts be? none: no; some b: yes, and b: the last is a text. -/
def mstep (m : Option Bool) (p : Pt) : Option Bool := match m with
  | none => none
  | some b => if p.1 = [] then (if p.2 = [] ∨ b = true then none else some true) else (if p.2 ≠ [] ∨ nameB p.1 = false then none else some false)
def mst (l : List Pt) : Option Bool := l.foldl mstep (some false)
def mayB (l : List Pt) : Bool := (mst l).isSome
theorem mst_snoc (l : List Pt) (p : Pt) : mst (l ++ [p]) = mstep (mst l) p := by rw [mst, List.foldl_append]; rfl
/-- What holds of what was read, by the state. -/
def Fine (s : St) (o : List Pt) (t : Bs) : Prop := match s with
  | .start => o = [] ∧ t = []
  | .text | .esc | .hex1 | .hex2 _ => mst o = some false
  | .dollar | .brace => t = [] ∧ ∃ b, mst o = some b
  | .nam a => t = [] ∧ (∃ b, mst o = some b) ∧ nameB a = true
theorem name_more {a : Bs} {c : UInt8} (h : nameB a = true) (hh : a.head?.any letterB = true) (hl : a.length < 8) (hc : withB c = true) : nameB (a ++ [c]) = true := by
  match a, h with
  | [d], h => simp only [List.head?_cons, Option.any_some] at hh; simp [nameB, hh, hc]
  | d :: e :: r, h =>
    simp only [nameB, Bool.and_eq_true, decide_eq_true_eq, List.length_cons] at h hl
    simp only [nameB, List.cons_append, List.all_append, List.length_cons, List.length_append, List.length_nil, Bool.and_eq_true, decide_eq_true_eq, List.all_cons, List.all_nil]
    exact ⟨⟨h.1.1, h.1.2.1, h.1.2.2, hc, trivial⟩, by omega⟩
theorem fine_flush {o : List Pt} {t : Bs} (h : mst o = some false) : ∃ b, mst (flush o t) = some b := by
  unfold flush; split
  · exact ⟨_, h⟩
  · next ht => exact ⟨true, by rw [mst_snoc, h]; simp [mstep, ht]⟩
theorem fine_step {s s' : St} {o o' : List Pt} {t t' : Bs} {c : UInt8} (h : Fine s o t) (e : step s o t c = .go s' o' t') : Fine s' o' t' := by
  cases s <;> simp only [step] at e <;> (repeat' split at e) <;> first | (cases e; done) | skip
  all_goals cases e
  all_goals try exact h
  · obtain ⟨rfl, rfl⟩ := h; rfl
  · exact ⟨rfl, fine_flush h⟩
  · next hc => exact ⟨h.1, h.2, by simpa [nameB] using hc⟩
  · obtain ⟨rfl, ⟨b, hb⟩, hn⟩ := h
    have hne : ∀ a : Bs, nameB a = true → a ≠ [] := fun a h e => by subst e; cases h
    show mst _ = _
    rw [mst_snoc, hb]; simp [mstep, hne _ hn, hn]
  · next hc =>
    simp only [Bool.and_eq_true, decide_eq_true_eq] at hc
    exact ⟨h.1, h.2.1, name_more h.2.2 hc.1.1 hc.1.2 hc.2⟩
theorem fine_fin {s : St} {o o' : List Pt} {t : Bs} {c : UInt8} (h : Fine s o t) (e : step s o t c = .fin o') : mayB o' = true := by
  cases s <;> simp only [step] at e <;> (repeat' split at e) <;> first | (cases e; done) | skip
  cases e
  obtain ⟨b, hb⟩ := fine_flush (t := t) h
  rw [mayB, hb]; rfl
theorem run_may : ∀ (l : Bs) (s : St) (o : List Pt) (t : Bs) (o2 : List Pt) (r : Bs), Fine s o t → run s o t l = .ok o2 r → mayB o2 = true := by
  intro l
  induction l with
  | nil => intro s o t o2 r _ h; cases h
  | cons c l ih =>
    intro s o t o2 r hf h
    cases e : step s o t c with
    | no => rw [run_no l e] at h; cases h
    | go s1 o1 t1 => rw [run_go l e] at h; exact ih _ _ _ _ _ (fine_step hf e) h
    | fin o' => rw [run_fin l e] at h; cases h; exact fine_fin hf e
theorem parse_may {l r : Bs} {o : List Pt} (h : parse l = .ok o r) : mayB o = true := run_may _ .start [] [] _ _ ⟨rfl, rfl⟩ h
/-- A byte, as it stands in a text. -/
def hexC (n : Nat) : UInt8 := if n < 10 then UInt8.ofNat (48 + n) else UInt8.ofNat (87 + n)
def one (c : UInt8) : Bs := if c = 10 then [92, 110] else if c = 13 then [92, 114] else if c = 9 then [92, 116] else if c = 34 ∨ c = 92 ∨ c = 36 then [92, c]
  else if c.toNat < 32 ∨ 126 < c.toNat then [92, 120, hexC (c.toNat / 16), hexC (c.toNat % 16)] else [c]
def partB (p : Pt) : Bs := (if p.1 = [] then [] else 36 :: 123 :: (p.1 ++ [125])) ++ p.2.flatMap one
def printB (l : List Pt) : Bs := 34 :: (l.flatMap partB ++ [34])
theorem hexC_ok : ∀ n : Fin 16, hexB (hexC n.val) = true ∧ hexN (hexC n.val) = n.val := by decide
theorem run_one (c : UInt8) (o : List Pt) (t z : Bs) : run .text o t (one c ++ z) = run .text o (t ++ [c]) z := by
  unfold one
  split
  · next h => subst h; simp [run, step, textB]
  split
  · next h => subst h; simp [run, step, textB]
  split
  · next h => subst h; simp [run, step, textB]
  split
  · next h => rcases h with h | h | h <;> (subst h; simp [run, step, textB])
  split
  · next h =>
    have a := hexC_ok ⟨c.toNat / 16, by have := c.toNat_lt; omega⟩
    have b := hexC_ok ⟨c.toNat % 16, by omega⟩
    simp only at a b
    have e : UInt8.ofNat (c.toNat / 16 * 16 + c.toNat % 16) = c := by
      rw [show c.toNat / 16 * 16 + c.toNat % 16 = c.toNat by omega, UInt8.ofNat_toNat]
    simp [run, step, textB, a.1, a.2, b.1, b.2, e]
  · next h1 h2 h3 h4 h5 =>
    have hx : textB c = true := by simp [textB]; omega
    simp only [not_or] at h4
    simp [run, step, hx, h4.1, h4.2.1, h4.2.2]
theorem run_ones : ∀ (l : Bs) (o : List Pt) (t z : Bs), run .text o t (l.flatMap one ++ z) = run .text o (t ++ l) z := by
  intro l
  induction l with
  | nil => intro o t z; simp
  | cons c l ih => intro o t z; rw [List.flatMap_cons, List.append_assoc, run_one, ih, List.append_assoc]; rfl
theorem with_not (c : UInt8) (h : withB c = true) : c ≠ 125 := by intro e; subst e; revert h; decide
theorem run_nam : ∀ (l a : Bs) (o : List Pt) (t z : Bs), a.head?.any letterB = true → a.length + l.length ≤ 8 → l.all withB = true → run (.nam a) o t (l ++ 125 :: z) = run .text (o ++ [(a ++ l, [])]) t z := by
  intro l
  induction l with
  | nil => intro a o t z _ _ _; simp [run, step]
  | cons c l ih =>
    intro a o t z h1 h2 h3
    simp only [List.all_cons, Bool.and_eq_true, List.length_cons] at h3 h2
    have hc := with_not c h3.1
    have : run (.nam a) o t (c :: l ++ 125 :: z) = run (.nam (a ++ [c])) o t (l ++ 125 :: z) := by
      rw [List.cons_append]
      refine run_go _ ?_
      simp only [step, if_neg hc, h1, h3.1, Bool.true_and, Bool.and_true]
      rw [if_pos (by simp; omega)]
    rw [this, ih _ _ _ _ ?_ (by simp; omega) h3.2]
    · simp
    · cases a with
      | nil => cases h1
      | cons d a => simpa using h1
theorem run_name (n : Bs) (hn : nameB n = true) (o : List Pt) (t z : Bs) : run .text o t (36 :: 123 :: (n ++ 125 :: z)) = run .text (flush o t ++ [(n, [])]) [] z := by
  have e : run .text o t (36 :: 123 :: (n ++ 125 :: z)) = run .brace (flush o t) [] (n ++ 125 :: z) := by simp [run, step, textB]
  rw [e]
  match n, hn with
  | [c], h =>
    have h' : (letterB c || digB c) = true := h
    simp [run, step, h']
  | c :: d :: r, h =>
    simp only [nameB, Bool.and_eq_true, decide_eq_true_eq] at h
    have : run .brace (flush o t) [] (c :: d :: r ++ 125 :: z) = run (.nam [c]) (flush o t) [] (d :: r ++ 125 :: z) := by
      rw [List.cons_append]
      refine run_go _ ?_
      simp [step, h.1.1]
    rw [this, run_nam (d :: r) [c] _ _ _ (by simpa using h.1.1) (by simp at h ⊢; omega) (by simp [h.1.2.1, h.1.2.2])]
    rfl
theorem flush_nil (o : List Pt) : flush o [] = o := by simp [flush]
theorem run_parts : ∀ (l : List Pt) (o : List Pt) (t : Bs) (b : Bool) (z : Bs), (t = [] ∨ b = true) → (l.foldl mstep (some b)).isSome = true →
    run .text o t (l.flatMap partB ++ 34 :: z) = .ok (flush o t ++ l) z := by
  intro l
  induction l with
  | nil => intro o t b z _ _; simp [run, step, textB]
  | cons p l ih =>
    intro o t b z hb hm
    rw [List.foldl_cons] at hm
    obtain ⟨n, x⟩ := p
    rw [List.flatMap_cons, List.append_assoc]
    cases n with
    | nil =>
      by_cases hx : x = [] ∨ b = true
      · rw [show mstep (some b) (([] : Bs), x) = none by simp [mstep, hx]] at hm
        have : ∀ l : List Pt, l.foldl mstep none = none := fun l => by induction l with | nil => rfl | cons _ _ ih => exact ih
        rw [this] at hm; cases hm
      · rw [show mstep (some b) (([] : Bs), x) = some true by simp [mstep, hx]] at hm
        have ht : t = [] := by rcases hb with h | h; exact h; exact absurd (Or.inr h) hx
        subst ht
        have hp : partB (([] : Bs), x) = x.flatMap one := by simp [partB]
        rw [hp, run_ones, ih o ([] ++ x) true z (Or.inr rfl) hm, flush_nil]
        simp only [not_or] at hx
        simp [flush, hx.1]
    | cons c n =>
      by_cases hx : x ≠ [] ∨ nameB (c :: n) = false
      · rw [show mstep (some b) ((c :: n : Bs), x) = none by simp [mstep]; exact fun h => by rcases hx with h' | h'; exact absurd h h'; exact h'] at hm
        have : ∀ l : List Pt, l.foldl mstep none = none := fun l => by induction l with | nil => rfl | cons _ _ ih => exact ih
        rw [this] at hm; cases hm
      · simp only [not_or, Decidable.not_not, Bool.not_eq_false] at hx
        obtain ⟨rfl, hn⟩ := hx
        rw [show mstep (some b) ((c :: n : Bs), ([] : Bs)) = some false by simp [mstep, hn]] at hm
        have hp : partB ((c :: n : Bs), ([] : Bs)) = 36 :: 123 :: ((c :: n) ++ [125]) := by simp [partB]
        rw [hp, show (36 :: 123 :: ((c :: n) ++ [125])) ++ (l.flatMap partB ++ 34 :: z) = 36 :: 123 :: ((c :: n) ++ 125 :: (l.flatMap partB ++ 34 :: z)) by simp]
        rw [run_name _ hn, ih _ _ false z (Or.inl rfl) hm, flush_nil]
        simp
theorem parse_print {l : List Pt} (h : mayB l = true) (z : Bs) : parse (printB l ++ z) = .ok l z := by
  rw [printB, parse, List.cons_append, List.append_assoc]
  have e : run .start [] [] (34 :: (l.flatMap partB ++ ([34] ++ z))) = run .text [] [] (l.flatMap partB ++ 34 :: z) := by simp [run, step]
  rw [e, run_parts l [] [] false z (Or.inl rfl) h, flush_nil, List.nil_append]
end QuoP
end Go.Proofs.YtledgkplddeghaaDoor
