/- Texts with gaps in plain words: a reader that goes byte by byte, the text of parts, and how they hang together. No program. No condition. -/
import Derived.Test.YtchceoclkdofhaaGreatDoorMem
import Derived.Lib.Bytealg
import Derived.Test.YtchceoclkdofhaaGreatDoorNumM
namespace Go.Proofs.YtchceoclkdofhaaGreatDoor
set_option linter.unusedVariables false
set_option linter.unusedSimpArgs false
namespace QuoP
abbrev Bs := List UInt8
abbrev Pt := Bs × Bs
def letterB (c : UInt8) : Bool := 97 ≤ c.toNat && c.toNat ≤ 122
def digB (c : UInt8) : Bool := 48 ≤ c.toNat && c.toNat ≤ 57
def withB (c : UInt8) : Bool := letterB c || digB c || c.toNat == 95
def hexB (c : UInt8) : Bool := digB c || (97 ≤ c.toNat && c.toNat ≤ 102)
def hexN (c : UInt8) : Nat := if digB c then c.toNat - 48 else c.toNat - 87
def textB (c : UInt8) : Bool := 32 ≤ c.toNat && c.toNat ≤ 126
def nameB (l : Bs) : Bool := match l with
  | [] => false
  | [c] => letterB c || digB c
  | c :: d :: r => letterB c && (withB d && r.all withB) && decide ((c :: d :: r).length ≤ 8)
inductive St where
  | start | text | esc | hex1 | hex2 (h : UInt8) | dollar | brace | nam (a : Bs)
inductive Out where
  | bad (r : Bs) | ok (o : List Pt) (r : Bs)
inductive Step where
  | no | go (s : St) (o : List Pt) (t : Bs) | fin (o : List Pt)
def flush (o : List Pt) (t : Bs) : List Pt := if t = [] then o else o ++ [([], t)]
def step (s : St) (o : List Pt) (t : Bs) (c : UInt8) : Step := match s with
  | .start => if c = 34 then .go .text o t else .no
  | .text => if textB c = false then .no else if c = 34 then .fin (flush o t) else if c = 36 then .go .dollar (flush o t) [] else if c = 92 then .go .esc o t else .go .text o (t ++ [c])
  | .esc => if c = 110 then .go .text o (t ++ [10]) else if c = 114 then .go .text o (t ++ [13]) else if c = 116 then .go .text o (t ++ [9]) else if c = 120 then .go .hex1 o t
      else if c = 34 ∨ c = 92 ∨ c = 36 then .go .text o (t ++ [c]) else .no
  | .hex1 => if hexB c then .go (.hex2 c) o t else .no
  | .hex2 h => if hexB c then .go .text o (t ++ [UInt8.ofNat (hexN h * 16 + hexN c)]) else .no
  | .dollar => if c = 123 then .go .brace o t else .no
  | .brace => if letterB c || digB c then .go (.nam [c]) o t else .no
  | .nam a => if c = 125 then .go .text (o ++ [(a, [])]) t else if a.head?.any letterB && decide (a.length < 8) && withB c then .go (.nam (a ++ [c])) o t else .no
def run (s : St) (o : List Pt) (t : Bs) : Bs → Out
  | [] => .bad []
  | c :: r => match step s o t c with
    | .no => .bad (c :: r)
    | .go s o t => run s o t r
    | .fin o => .ok o r
def parse (l : Bs) : Out := run .start [] [] l
theorem run_nil (s : St) (o : List Pt) (t : Bs) : run s o t [] = .bad [] := rfl
theorem run_cons (s : St) (o : List Pt) (t : Bs) (c : UInt8) (r : Bs) : run s o t (c :: r) = match step s o t c with
    | .no => .bad (c :: r)
    | .go s o t => run s o t r
    | .fin o => .ok o r := rfl
theorem run_no {s : St} {o : List Pt} {t : Bs} {c : UInt8} (r : Bs) (h : step s o t c = .no) : run s o t (c :: r) = .bad (c :: r) := by rw [run_cons, h]
theorem run_go {s s' : St} {o o' : List Pt} {t t' : Bs} {c : UInt8} (r : Bs) (h : step s o t c = .go s' o' t') : run s o t (c :: r) = run s' o' t' r := by rw [run_cons, h]
theorem run_fin {s : St} {o o' : List Pt} {t : Bs} {c : UInt8} (r : Bs) (h : step s o t c = .fin o') : run s o t (c :: r) = .ok o' r := by rw [run_cons, h]
/-- Where it can't go on is behind what was read; what follows does not matter. -/
theorem run_bad : ∀ (l : Bs) (s : St) (o : List Pt) (t : Bs) (r : Bs), run s o t l = .bad r →
    ∃ (p : Bs) (s' : St) (o' : List Pt) (t' : Bs), l = p ++ r ∧ (∀ z, run s o t (p ++ z) = run s' o' t' z) ∧ (∀ c r', r = c :: r' → step s' o' t' c = .no) := by
  intro l
  induction l with
  | nil => intro s o t r h; cases h; exact ⟨[], s, o, t, rfl, fun _ => rfl, fun _ _ h => by cases h⟩
  | cons c l ih =>
    intro s o t r h
    cases e : step s o t c with
    | no => rw [run_no l e] at h; cases h; exact ⟨[], s, o, t, rfl, fun _ => rfl, fun c' r' h => by cases h; exact e⟩
    | fin o' => rw [run_fin l e] at h; cases h
    | go s1 o1 t1 =>
      rw [run_go l e] at h
      obtain ⟨p, s', o', t', h1, h2, h3⟩ := ih _ _ _ _ h
      refine ⟨c :: p, s', o', t', by rw [h1]; rfl, fun z => ?_, h3⟩
      rw [List.cons_append, run_go (p ++ z) e, h2 z]
theorem run_ok : ∀ (l : Bs) (s : St) (o : List Pt) (t : Bs) (o2 : List Pt) (r : Bs), run s o t l = .ok o2 r → ∃ p, l = p ++ 34 :: r := by
  intro l
  induction l with
  | nil => intro s o t o2 r h; cases h
  | cons c l ih =>
    intro s o t o2 r h
    cases e : step s o t c with
    | no => rw [run_no l e] at h; cases h
    | go s1 o1 t1 =>
      rw [run_go l e] at h
      obtain ⟨p, hp⟩ := ih _ _ _ _ _ h
      exact ⟨c :: p, by rw [hp]; rfl⟩
    | fin o' =>
      rw [run_fin l e] at h
      cases h
      have : c = 34 := by
        cases s <;> simp only [step] at e <;> (repeat' split at e) <;> first | assumption | cases e
      exact ⟨[], by rw [this]; rfl⟩
theorem more_same {l m : Bs} {c : UInt8} {r : Bs} (h : parse l = .bad (c :: r)) : parse (l ++ m) = .bad (c :: r ++ m) := by
  obtain ⟨p, s', o', t', h1, h2, h3⟩ := run_bad _ _ _ _ _ h
  rw [h1, List.append_assoc]
  exact (h2 _).trans (run_no _ (h3 c r rfl))
/-- Each state can be gone on from. -/
def ends : List Bs := [[34], [110, 34], [48, 48, 34], [48, 34], [123, 97, 125, 34], [97, 125, 34], [125, 34], [34, 34]]
theorem can_end (s : St) (o : List Pt) (t : Bs) : ∃ (e : Bs) (o' : List Pt), e ∈ ends ∧ run s o t e = .ok o' [] := by
  cases s with
  | start => exact ⟨[34, 34], flush o t, by simp [ends], by simp [run, step, textB]⟩
  | text => exact ⟨[34], flush o t, by simp [ends], by simp [run, step, textB]⟩
  | esc => exact ⟨[110, 34], _, by simp [ends], by simp [run, step, textB]; rfl⟩
  | hex1 => exact ⟨[48, 48, 34], _, by simp [ends], by simp [run, step, textB, hexB, digB]; rfl⟩
  | hex2 h => exact ⟨[48, 34], _, by simp [ends], by simp [run, step, textB, hexB, digB]; rfl⟩
  | dollar => exact ⟨[123, 97, 125, 34], _, by simp [ends], by simp [run, step, textB, letterB]; rfl⟩
  | brace => exact ⟨[97, 125, 34], _, by simp [ends], by simp [run, step, textB, letterB]; rfl⟩
  | nam a => exact ⟨[125, 34], _, by simp [ends], by simp [run, step, textB]; rfl⟩
theorem goes {l r : Bs} (h : parse l = .bad r) : ∃ p e o, l = p ++ r ∧ e ∈ ends ∧ parse (p ++ e) = .ok o [] := by
  obtain ⟨p, s', o', t', h1, h2, _⟩ := run_bad _ _ _ _ _ h
  obtain ⟨e, o2, he, h3⟩ := can_end s' o' t'
  exact ⟨p, e, o2, h1, he, (h2 e).trans h3⟩
/-- May parts be? none: no; some b: yes, and b: the last is a text. -/
def mstep (m : Option Bool) (p : Pt) : Option Bool := match m with
  | none => none
  | some b => if p.1 = [] then (if p.2 = [] ∨ b = true then none else some true) else (if p.2 ≠ [] ∨ nameB p.1 = false then none else some false)
def mst (l : List Pt) : Option Bool := l.foldl mstep (some false)
def mayB (l : List Pt) : Bool := (mst l).isSome
theorem mst_snoc (l : List Pt) (p : Pt) : mst (l ++ [p]) = mstep (mst l) p := by rw [mst, List.foldl_append]; rfl
/-- What holds of what was read, by the state. -/
def Fine (s : St) (o : List Pt) (t : Bs) : Prop := match s with
  | .start => o = [] ∧ t = []
  | .text | .esc | .hex1 | .hex2 _ => mst o = some false
  | .dollar | .brace => t = [] ∧ ∃ b, mst o = some b
  | .nam a => t = [] ∧ (∃ b, mst o = some b) ∧ nameB a = true
theorem name_more {a : Bs} {c : UInt8} (h : nameB a = true) (hh : a.head?.any letterB = true) (hl : a.length < 8) (hc : withB c = true) : nameB (a ++ [c]) = true := by
  match a, h with
  | [d], h => simp only [List.head?_cons, Option.any_some] at hh; simp [nameB, hh, hc]
  | d :: e :: r, h =>
    simp only [nameB, Bool.and_eq_true, decide_eq_true_eq, List.length_cons] at h hl
    simp only [nameB, List.cons_append, List.all_append, List.length_cons, List.length_append, List.length_nil, Bool.and_eq_true, decide_eq_true_eq, List.all_cons, List.all_nil]
    exact ⟨⟨h.1.1, h.1.2.1, h.1.2.2, hc, trivial⟩, by omega⟩
theorem fine_flush {o : List Pt} {t : Bs} (h : mst o = some false) : ∃ b, mst (flush o t) = some b := by
  unfold flush; split
  · exact ⟨_, h⟩
  · next ht => exact ⟨true, by rw [mst_snoc, h]; simp [mstep, ht]⟩
theorem fine_step {s s' : St} {o o' : List Pt} {t t' : Bs} {c : UInt8} (h : Fine s o t) (e : step s o t c = .go s' o' t') : Fine s' o' t' := by
  cases s <;> simp only [step] at e <;> (repeat' split at e) <;> first | (cases e; done) | skip
  all_goals cases e
  all_goals try exact h
  · obtain ⟨rfl, rfl⟩ := h; rfl
  · exact ⟨rfl, fine_flush h⟩
  · next hc => exact ⟨h.1, h.2, by simpa [nameB] using hc⟩
  · obtain ⟨rfl, ⟨b, hb⟩, hn⟩ := h
    have hne : ∀ a : Bs, nameB a = true → a ≠ [] := fun a h e => by subst e; cases h
    show mst _ = _
    rw [mst_snoc, hb]; simp [mstep, hne _ hn, hn]
  · next hc =>
    simp only [Bool.and_eq_true, decide_eq_true_eq] at hc
    exact ⟨h.1, h.2.1, name_more h.2.2 hc.1.1 hc.1.2 hc.2⟩
theorem fine_fin {s : St} {o o' : List Pt} {t : Bs} {c : UInt8} (h : Fine s o t) (e : step s o t c = .fin o') : mayB o' = true := by
  cases s <;> simp only [step] at e <;> (repeat' split at e) <;> first | (cases e; done) | skip
  cases e
  obtain ⟨b, hb⟩ := fine_flush (t := t) h
  rw [mayB, hb]; rfl
theorem run_may : ∀ (l : Bs) (s : St) (o : List Pt) (t : Bs) (o2 : List Pt) (r : Bs), Fine s o t → run s o t l = .ok o2 r → mayB o2 = true := by
  intro l
  induction l with
  | nil => intro s o t o2 r _ h; cases h
  | cons c l ih =>
    intro s o t o2 r hf h
    cases e : step s o t c with
    | no => rw [run_no l e] at h; cases h
    | go s1 o1 t1 => rw [run_go l e] at h; exact ih _ _ _ _ _ (fine_step hf e) h
    | fin o' => rw [run_fin l e] at h; cases h; exact fine_fin hf e
theorem parse_may {l r : Bs} {o : List Pt} (h : parse l = .ok o r) : mayB o = true := run_may _ .start [] [] _ _ ⟨rfl, rfl⟩ h
/-- A byte, as it stands in a text. -/
def hexC (n : Nat) : UInt8 := if n < 10 then UInt8.ofNat (48 + n) else UInt8.ofNat (87 + n)
def one (c : UInt8) : Bs := if c = 10 then [92, 110] else if c = 13 then [92, 114] else if c = 9 then [92, 116] else if c = 34 ∨ c = 92 ∨ c = 36 then [92, c]
  else if c.toNat < 32 ∨ 126 < c.toNat then [92, 120, hexC (c.toNat / 16), hexC (c.toNat % 16)] else [c]
def partB (p : Pt) : Bs := (if p.1 = [] then [] else 36 :: 123 :: (p.1 ++ [125])) ++ p.2.flatMap one
def printB (l : List Pt) : Bs := 34 :: (l.flatMap partB ++ [34])
theorem hexC_ok : ∀ n : Fin 16, hexB (hexC n.val) = true ∧ hexN (hexC n.val) = n.val := by decide
theorem run_one (c : UInt8) (o : List Pt) (t z : Bs) : run .text o t (one c ++ z) = run .text o (t ++ [c]) z := by
  unfold one
  split
  · next h => subst h; simp [run, step, textB]
  split
  · next h => subst h; simp [run, step, textB]
  split
  · next h => subst h; simp [run, step, textB]
  split
  · next h => rcases h with h | h | h <;> (subst h; simp [run, step, textB])
  split
  · next h =>
    have a := hexC_ok ⟨c.toNat / 16, by have := c.toNat_lt; omega⟩
    have b := hexC_ok ⟨c.toNat % 16, by omega⟩
    simp only at a b
    have e : UInt8.ofNat (c.toNat / 16 * 16 + c.toNat % 16) = c := by
      rw [show c.toNat / 16 * 16 + c.toNat % 16 = c.toNat by omega, UInt8.ofNat_toNat]
    simp [run, step, textB, a.1, a.2, b.1, b.2, e]
  · next h1 h2 h3 h4 h5 =>
    have hx : textB c = true := by simp [textB]; omega
    simp only [not_or] at h4
    simp [run, step, hx, h4.1, h4.2.1, h4.2.2]
theorem run_ones : ∀ (l : Bs) (o : List Pt) (t z : Bs), run .text o t (l.flatMap one ++ z) = run .text o (t ++ l) z := by
  intro l
  induction l with
  | nil => intro o t z; simp
  | cons c l ih => intro o t z; rw [List.flatMap_cons, List.append_assoc, run_one, ih, List.append_assoc]; rfl
theorem with_not (c : UInt8) (h : withB c = true) : c ≠ 125 := by intro e; subst e; revert h; decide
theorem run_nam : ∀ (l a : Bs) (o : List Pt) (t z : Bs), a.head?.any letterB = true → a.length + l.length ≤ 8 → l.all withB = true → run (.nam a) o t (l ++ 125 :: z) = run .text (o ++ [(a ++ l, [])]) t z := by
  intro l
  induction l with
  | nil => intro a o t z _ _ _; simp [run, step]
  | cons c l ih =>
    intro a o t z h1 h2 h3
    simp only [List.all_cons, Bool.and_eq_true, List.length_cons] at h3 h2
    have hc := with_not c h3.1
    have : run (.nam a) o t (c :: l ++ 125 :: z) = run (.nam (a ++ [c])) o t (l ++ 125 :: z) := by
      rw [List.cons_append]
      refine run_go _ ?_
      simp only [step, if_neg hc, h1, h3.1, Bool.true_and, Bool.and_true]
      rw [if_pos (by simp; omega)]
    rw [this, ih _ _ _ _ ?_ (by simp; omega) h3.2]
    · simp
    · cases a with
      | nil => cases h1
      | cons d a => simpa using h1
theorem run_name (n : Bs) (hn : nameB n = true) (o : List Pt) (t z : Bs) : run .text o t (36 :: 123 :: (n ++ 125 :: z)) = run .text (flush o t ++ [(n, [])]) [] z := by
  have e : run .text o t (36 :: 123 :: (n ++ 125 :: z)) = run .brace (flush o t) [] (n ++ 125 :: z) := by simp [run, step, textB]
  rw [e]
  match n, hn with
  | [c], h =>
    have h' : (letterB c || digB c) = true := h
    simp [run, step, h']
  | c :: d :: r, h =>
    simp only [nameB, Bool.and_eq_true, decide_eq_true_eq] at h
    have : run .brace (flush o t) [] (c :: d :: r ++ 125 :: z) = run (.nam [c]) (flush o t) [] (d :: r ++ 125 :: z) := by
      rw [List.cons_append]
      refine run_go _ ?_
      simp [step, h.1.1]
    rw [this, run_nam (d :: r) [c] _ _ _ (by simpa using h.1.1) (by simp at h ⊢; omega) (by simp [h.1.2.1, h.1.2.2])]
    rfl
theorem flush_nil (o : List Pt) : flush o [] = o := by simp [flush]
theorem run_parts : ∀ (l : List Pt) (o : List Pt) (t : Bs) (b : Bool) (z : Bs), (t = [] ∨ b = true) → (l.foldl mstep (some b)).isSome = true →
    run .text o t (l.flatMap partB ++ 34 :: z) = .ok (flush o t ++ l) z := by
  intro l
  induction l with
  | nil => intro o t b z _ _; simp [run, step, textB]
  | cons p l ih =>
    intro o t b z hb hm
    rw [List.foldl_cons] at hm
    obtain ⟨n, x⟩ := p
    rw [List.flatMap_cons, List.append_assoc]
    cases n with
    | nil =>
      by_cases hx : x = [] ∨ b = true
      · rw [show mstep (some b) (([] : Bs), x) = none by simp [mstep, hx]] at hm
        have : ∀ l : List Pt, l.foldl mstep none = none := fun l => by induction l with | nil => rfl | cons _ _ ih => exact ih
        rw [this] at hm; cases hm
      · rw [show mstep (some b) (([] : Bs), x) = some true by simp [mstep, hx]] at hm
        have ht : t = [] := by rcases hb with h | h; exact h; exact absurd (Or.inr h) hx
        subst ht
        have hp : partB (([] : Bs), x) = x.flatMap one := by simp [partB]
        rw [hp, run_ones, ih o ([] ++ x) true z (Or.inr rfl) hm, flush_nil]
        simp only [not_or] at hx
        simp [flush, hx.1]
    | cons c n =>
      by_cases hx : x ≠ [] ∨ nameB (c :: n) = false
      · rw [show mstep (some b) ((c :: n : Bs), x) = none by simp [mstep]; exact fun h => by rcases hx with h' | h'; exact absurd h h'; exact h'] at hm
        have : ∀ l : List Pt, l.foldl mstep none = none := fun l => by induction l with | nil => rfl | cons _ _ ih => exact ih
        rw [this] at hm; cases hm
      · simp only [not_or, Decidable.not_not, Bool.not_eq_false] at hx
        obtain ⟨rfl, hn⟩ := hx
        rw [show mstep (some b) ((c :: n : Bs), ([] : Bs)) = some false by simp [mstep, hn]] at hm
        have hp : partB ((c :: n : Bs), ([] : Bs)) = 36 :: 123 :: ((c :: n) ++ [125]) := by simp [partB]
        rw [hp, show (36 :: 123 :: ((c :: n) ++ [125])) ++ (l.flatMap partB ++ 34 :: z) = 36 :: 123 :: ((c :: n) ++ 125 :: (l.flatMap partB ++ 34 :: z)) by simp]
        rw [run_name _ hn, ih _ _ false z (Or.inl rfl) hm, flush_nil]
        simp
theorem parse_print {l : List Pt} (h : mayB l = true) (z : Bs) : parse (printB l ++ z) = .ok l z := by
  rw [printB, parse, List.cons_append, List.append_assoc]
  have e : run .start [] [] (34 :: (l.flatMap partB ++ ([34] ++ z))) = run .text [] [] (l.flatMap partB ++ 34 :: z) := by simp [run, step]
  rw [e, run_parts l [] [] false z (Or.inl rfl) h, flush_nil, List.nil_append]
end QuoP
end Go.Proofs.YtchceoclkdofhaaGreatDoor
namespace Go.Proofs.YtchceoclkdofhaaGreatDoor
set_option linter.unusedVariables false
set_option linter.unusedSimpArgs false
open Go.RowKit
namespace MemP
open QuoP
/-- A text before another one. -/
abbrev bl (x y : List UInt8) : Bool := Op.bytesLess x y
theorem bl_irrefl : ∀ x : List UInt8, bl x x = false := by
  intro x; induction x with
  | nil => rfl
  | cons a x ih => simp [bl, Op.bytesLess] at ih ⊢; exact ih
theorem bl_trans : ∀ {x y z : List UInt8}, bl x y = true → bl y z = true → bl x z = true := by
  intro x
  induction x with
  | nil => intro y z h1 h2; cases z with
    | nil => cases y <;> simp [bl, Op.bytesLess] at h2
    | cons => rfl
  | cons a x ih =>
    intro y z h1 h2
    cases y with
    | nil => simp [bl, Op.bytesLess] at h1
    | cons b y =>
      cases z with
      | nil => simp [bl, Op.bytesLess] at h2
      | cons c z =>
        simp only [bl, Op.bytesLess, Bool.or_eq_true, Bool.and_eq_true, decide_eq_true_eq, beq_iff_eq] at h1 h2 ⊢
        rcases h1 with h1 | ⟨rfl, h1⟩ <;> rcases h2 with h2 | ⟨rfl, h2⟩
        · left; exact UInt8.lt_trans h1 h2
        · left; exact h1
        · left; exact h2
        · right; exact ⟨rfl, ih h1 h2⟩
theorem bl_total : ∀ (x y : List UInt8), bl x y = false → bl y x = false → x = y := by
  intro x
  induction x with
  | nil => intro y h1 h2; cases y with
    | nil => rfl
    | cons => simp [bl, Op.bytesLess] at h1
  | cons a x ih =>
    intro y h1 h2
    cases y with
    | nil => simp [bl, Op.bytesLess] at h2
    | cons b y =>
      simp only [bl, Op.bytesLess, Bool.or_eq_false_iff, decide_eq_false_iff_not, Bool.and_eq_false_iff, beq_eq_false_iff_ne] at h1 h2
      obtain ⟨h1, h3⟩ := h1
      obtain ⟨h2, h4⟩ := h2
      obtain rfl : a = b := UInt8.le_antisymm (UInt8.not_lt.1 h2) (UInt8.not_lt.1 h1)
      rcases h3 with h3 | h3
      · exact absurd rfl h3
      · rcases h4 with h4 | h4
        · exact absurd rfl h4
        · rw [ih y h3 h4]
theorem bl_asymm {x y : List UInt8} (h : bl x y = true) : bl y x = false := by
  cases e : bl y x
  · rfl
  · have := bl_trans h e; rw [bl_irrefl] at this; cases this
theorem bl_ne {x y : List UInt8} (h : bl x y = true) : x ≠ y := by
  intro e; subst e; rw [bl_irrefl] at h; cases h
/-- What strings.Compare tells. -/
theorem cmp_lt : ∀ (x y : List UInt8), decide (Lib.compareBytes x y < 0) = bl x y := by
  intro x
  induction x with
  | nil => intro y; cases y <;> simp [Lib.compareBytes, bl, Op.bytesLess]
  | cons a x ih =>
    intro y
    cases y with
    | nil => simp [Lib.compareBytes, bl, Op.bytesLess]
    | cons b y =>
      rw [Lib.compareBytes]
      by_cases h : a < b
      · simp [h, bl, Op.bytesLess]
      · by_cases h2 : b < a
        · have hne : a ≠ b := fun e => by subst e; exact h h2
          simp [h, h2, bl, Op.bytesLess, hne]
        · obtain rfl : a = b := UInt8.le_antisymm (UInt8.not_lt.1 h2) (UInt8.not_lt.1 h)
          rw [if_neg h, if_neg h]
          rw [ih y]; simp [bl, Op.bytesLess]
theorem cmp_eq : ∀ (x y : List UInt8), (Lib.compareBytes x y == 0) = (x == y) := by
  intro x
  induction x with
  | nil => intro y; cases y <;> simp [Lib.compareBytes]
  | cons a x ih =>
    intro y
    cases y with
    | nil => simp [Lib.compareBytes]
    | cons b y =>
      rw [Lib.compareBytes]
      by_cases h : a < b
      · have hne : a ≠ b := fun e => by subst e; exact (UInt8.lt_irrefl a) h
        simp [h, hne]
      · by_cases h2 : b < a
        · have hne : a ≠ b := fun e => by subst e; exact h h2
          simp [h, h2, hne]
        · obtain rfl : a = b := UInt8.le_antisymm (UInt8.not_lt.1 h2) (UInt8.not_lt.1 h)
          rw [if_neg h, if_neg h, ih y]; simp
/-- A variable: its name and its value. -/
abbrev Vr := ByteArray × ByteArray
abbrev lt (x y : ByteArray) : Bool := bl x.toList y.toList
abbrev eq (x y : ByteArray) : Bool := x.toList == y.toList
theorem eq_iff (x y : ByteArray) : eq x y = true ↔ x = y := by
  unfold eq; rw [beq_iff_eq, Lib.toList_data, Lib.toList_data]
  exact ⟨fun h => bytes_ext h, fun h => by rw [h]⟩
theorem eq_false (x y : ByteArray) : eq x y = false ↔ x ≠ y := by
  rw [← Bool.not_eq_true, eq_iff]
theorem lt_trans {x y z : ByteArray} (h : lt x y = true) (k : lt y z = true) : lt x z = true := bl_trans h k
theorem lt_ne {x y : ByteArray} (h : lt x y = true) : x ≠ y := fun e => by subst e; exact bl_ne h rfl
theorem lt_total {x y : ByteArray} (h : lt x y = false) (k : lt y x = false) : x = y := by
  have := bl_total _ _ h k
  rw [Lib.toList_data, Lib.toList_data] at this; exact bytes_ext this
/-- May a variable have this name? -/
def nmB (s : ByteArray) : Bool := nameB s.data.toList && (match s.data.toList with | [] => false | c :: _ => decide ((97 : Int) ≤ (c.toNat : Int)))
def goodB (p : Vr) : Bool := nmB p.1 && decide (p.2.size ≤ 32)
def okAt (l : List Vr) (i : Nat) : Bool := match l[i]? with
  | none => true
  | some p => goodB p && (match i with | 0 => true | j + 1 => match l[j]? with | none => true | some q => lt q.1 p.1)
def okTo (l : List Vr) (k : Nat) : Bool := (List.range k).all (okAt l)
def mayB (l : List Vr) : Bool := okTo l l.length && decide (l.length ≤ 16)
theorem okTo_succ (l : List Vr) (k : Nat) : okTo l (k + 1) = (okTo l k && okAt l k) := by
  unfold okTo; rw [List.range_succ, List.all_append]; simp
theorem okTo_le (l : List Vr) : ∀ (k m : Nat), k ≤ m → okTo l m = true → okTo l k = true := by
  intro k m h1 h2
  unfold okTo at *
  rw [List.all_eq_true] at *
  intro i hi
  exact h2 i (by simp at hi ⊢; omega)
theorem may_no {l : List Vr} {k : Nat} (hk : k < l.length) (h : okAt l k = false) : mayB l = false := by
  unfold mayB
  cases e : okTo l l.length
  · rfl
  · have := okTo_le l (k + 1) _ (by omega) e
    rw [okTo_succ, h] at this; simp at this
def Asc (l : List Vr) : Prop := l.Pairwise (fun p q => lt p.1 q.1 = true)
theorem okAt_good {l : List Vr} {i : Nat} {p : Vr} (hp : l[i]? = some p) (h : okAt l i = true) : goodB p = true := by
  unfold okAt at h; rw [hp] at h; simp at h; exact h.1
theorem asc_of : ∀ (l : List Vr), (∀ i, i < l.length → okAt l i = true) → Asc l := by
  intro l h
  unfold Asc
  rw [List.pairwise_iff_getElem]
  intro i j hi hj hij
  have step : ∀ k (hk : k + 1 < l.length), lt (l[k]'(by omega)).1 (l[k + 1]'hk).1 = true := by
    intro k hk
    have := h (k + 1) hk
    unfold okAt at this
    rw [List.getElem?_eq_getElem hk] at this
    simp only [List.getElem?_eq_getElem (show k < l.length by omega), Bool.and_eq_true] at this
    exact this.2
  obtain ⟨d, rfl⟩ : ∃ d, j = i + 1 + d := ⟨j - (i + 1), by omega⟩
  clear hij
  induction d with
  | zero => exact step i hj
  | succ d ih => exact lt_trans (ih (by omega) step) (step (i + 1 + d) hj)
structure May (l : List Vr) : Prop where
  good : ∀ p ∈ l, goodB p = true
  asc : Asc l
  len : l.length ≤ 16
theorem may_iff (l : List Vr) : mayB l = true ↔ May l := by
  unfold mayB okTo
  rw [Bool.and_eq_true, List.all_eq_true, decide_eq_true_eq]
  constructor
  · rintro ⟨h, hl⟩
    have h' : ∀ i, i < l.length → okAt l i = true := fun i hi => h i (by simpa using hi)
    refine ⟨fun p hp => ?_, asc_of l h', hl⟩
    obtain ⟨i, hi, rfl⟩ := List.getElem_of_mem hp
    exact okAt_good (List.getElem?_eq_getElem hi) (h' i hi)
  · rintro ⟨hg, ha, hl⟩
    refine ⟨fun i hi => ?_, hl⟩
    have hi : i < l.length := by simpa using hi
    unfold okAt
    rw [List.getElem?_eq_getElem hi]
    simp only [Bool.and_eq_true]
    refine ⟨hg _ (List.getElem_mem hi), ?_⟩
    cases i with
    | zero => rfl
    | succ j =>
      simp only [List.getElem?_eq_getElem (show j < l.length by omega)]
      unfold Asc at ha
      rw [List.pairwise_iff_getElem] at ha
      exact ha j (j + 1) (by omega) hi (by omega)
/-- The first one's value. -/
def getV (l : List Vr) (n : ByteArray) : Option ByteArray := match l with
  | [] => none
  | p :: r => if eq p.1 n = true then some p.2 else getV r n
def dropV (l : List Vr) (n : ByteArray) : List Vr := l.filter fun p => !eq p.1 n
def below (l : List Vr) (n : ByteArray) : List Vr := l.takeWhile fun p => lt p.1 n
def from_ (l : List Vr) (n : ByteArray) : List Vr := l.dropWhile fun p => lt p.1 n
def posV (l : List Vr) (n : ByteArray) : Nat := (below l n).length
/-- One among those of other names. -/
def putV (l : List Vr) (n v : ByteArray) : List Vr := below l n ++ (n, v) :: from_ l n
/-- What a list becomes, and 0 or an error's number. -/
def setV (l : List Vr) (n v : ByteArray) : List Vr × Nat :=
  if !(mayB l && nmB n) then ([], 5) else if 32 < v.size then ([], 2) else if (dropV l n).length = 16 then ([], 9) else (putV (dropV l n) n v, 0)
theorem below_from (l : List Vr) (n : ByteArray) : l = below l n ++ from_ l n := List.takeWhile_append_dropWhile.symm
theorem below_lt {l : List Vr} {n : ByteArray} {p : Vr} (h : p ∈ below l n) : lt p.1 n = true := by
  unfold below at h
  exact List.all_eq_true.1 List.all_takeWhile p h
theorem from_ge {l : List Vr} {n : ByteArray} (ha : Asc l) {p : Vr} (h : p ∈ from_ l n) : lt p.1 n = false := by
  have e := below_from l n
  cases hf : from_ l n with
  | nil => rw [hf] at h; cases h
  | cons q r =>
    have hq : lt q.1 n = false := by
      have := List.head_dropWhile_not (p := fun p : Vr => lt p.1 n) (l := l) (by show from_ l n ≠ []; rw [hf]; simp)
      have e2 : (List.dropWhile (fun p : Vr => lt p.1 n) l) = q :: r := hf
      simp only [e2, List.head_cons] at this
      exact this
    rw [hf] at h
    rcases List.mem_cons.1 h with rfl | h
    · exact hq
    · rw [e, hf] at ha
      unfold Asc at ha
      have h2 := (List.pairwise_append.1 ha).2.1
      have h3 := List.rel_of_pairwise_cons h2 h
      cases e : lt p.1 n
      · rfl
      · rw [lt_trans h3 e] at hq; cases hq
/-- A rising list: is one of that name there? -/
theorem from_cases {l : List Vr} {n : ByteArray} (ha : Asc l) : (∃ v r, from_ l n = (n, v) :: r ∧ (∀ p ∈ r, lt n p.1 = true) ∧ dropV l n = below l n ++ r) ∨ ((∀ p ∈ from_ l n, lt n p.1 = true) ∧ dropV l n = l) := by
  have e := below_from l n
  have hA : (below l n).filter (fun p => !eq p.1 n) = below l n := by
    rw [List.filter_eq_self]
    intro p hp
    have := (eq_false p.1 n).2 (lt_ne (below_lt hp))
    simp [this]
  have gt_of : ∀ p : Vr, lt p.1 n = false → p.1 ≠ n → lt n p.1 = true := by
    intro p h1 h2
    cases e : lt n p.1
    · exact absurd (lt_total h1 e) h2
    · rfl
  have hself : ∀ r : List Vr, (∀ p ∈ r, lt n p.1 = true) → r.filter (fun p => !eq p.1 n) = r := by
    intro r hr
    rw [List.filter_eq_self]
    intro p hp
    have := (eq_false p.1 n).2 (fun e => lt_ne (hr p hp) e.symm)
    simp [this]
  cases hf : from_ l n with
  | nil =>
    right
    refine ⟨(fun p hp => by cases hp), ?_⟩
    have e2 := e
    rw [hf, List.append_nil] at e2
    unfold dropV
    conv => lhs; rw [e2]
    rw [hA]; exact e2.symm
  | cons q r =>
    have hq : lt q.1 n = false := from_ge ha (by rw [hf]; exact List.mem_cons_self ..)
    have hr : ∀ p ∈ r, lt q.1 p.1 = true := by
      intro p hp
      rw [e, hf] at ha
      unfold Asc at ha
      exact List.rel_of_pairwise_cons (List.pairwise_append.1 ha).2.1 hp
    by_cases he : q.1 = n
    · left
      obtain ⟨a, v⟩ := q
      subst he
      refine ⟨v, r, rfl, hr, ?_⟩
      have e2 := e
      rw [hf] at e2
      unfold dropV
      conv => lhs; rw [e2]
      rw [List.filter_append, hA, List.filter_cons]
      rw [hself r hr]
      simp
    · right
      have hall : ∀ p ∈ q :: r, lt n p.1 = true := by
        intro p hp
        rcases List.mem_cons.1 hp with rfl | hp
        · exact gt_of _ hq he
        · exact lt_trans (gt_of _ hq he) (hr p hp)
      refine ⟨hall, ?_⟩
      have e2 := e
      rw [hf] at e2
      unfold dropV
      conv => lhs; rw [e2]
      rw [List.filter_append, hA, hself _ hall]
      exact e2.symm
theorem below_all {l : List Vr} {n : ByteArray} (a r : List Vr) (h1 : ∀ p ∈ a, lt p.1 n = true) (h2 : ∀ p ∈ r, lt p.1 n = false) (e : l = a ++ r) : below l n = a ∧ from_ l n = r := by
  subst e
  unfold below from_
  rw [List.takeWhile_append_of_pos h1, List.dropWhile_append_of_pos h1]
  cases r with
  | nil => simp
  | cons q r => simp [h2 q (List.mem_cons_self ..)]
theorem asymm {x y : ByteArray} (h : lt x y = true) : lt y x = false := bl_asymm h
theorem put_there {l : List Vr} {n v : ByteArray} {u : ByteArray} {r : List Vr} (h : from_ l n = (n, u) :: r) (hr : ∀ p ∈ r, lt n p.1 = true) (hd : dropV l n = below l n ++ r) : putV (dropV l n) n v = l.set (posV l n) (n, v) := by
  obtain ⟨h1, h2⟩ := below_all (n := n) (below l n) r (fun p hp => below_lt hp) (fun p hp => asymm (hr p hp)) hd
  unfold putV
  rw [h1, h2]
  have e := below_from l n
  rw [h] at e
  unfold posV
  generalize below l n = a at *
  subst e
  rw [List.set_append]
  simp
theorem put_new {l : List Vr} {n v : ByteArray} (hd : dropV l n = l) : putV (dropV l n) n v = l.take (posV l n) ++ (n, v) :: l.drop (posV l n) := by
  rw [hd]
  unfold putV posV
  have e := below_from l n
  generalize below l n = a at *
  generalize from_ l n = b at *
  subst e
  rw [List.take_left, List.drop_left]
theorem posV_le (l : List Vr) (n : ByteArray) : posV l n ≤ l.length := by
  have e := congrArg List.length (below_from l n)
  rw [List.length_append] at e; unfold posV; omega
theorem at_pos (l : List Vr) (n : ByteArray) : l[posV l n]? = (from_ l n)[0]? := by
  have e := below_from l n
  unfold posV
  generalize below l n = a at *
  generalize from_ l n = b at *
  subst e
  rw [List.getElem?_append_right (Nat.le_refl _)]; simp
/-- What binary search asks. -/
theorem lt_pos {l : List Vr} {n : ByteArray} (ha : Asc l) {i : Nat} {p : Vr} (hp : l[i]? = some p) : lt p.1 n = decide (i < posV l n) := by
  have e := below_from l n
  by_cases hi : i < posV l n
  · rw [decide_eq_true hi]
    have hp2 : (below l n)[i]? = some p := by
      rw [e, List.getElem?_append_left (by unfold posV at hi; exact hi)] at hp; exact hp
    exact below_lt (List.mem_of_getElem? hp2)
  · rw [decide_eq_false hi]
    have hp2 : (from_ l n)[i - posV l n]? = some p := by
      rw [e, List.getElem?_append_right (by unfold posV at hi; omega)] at hp; exact hp
    exact from_ge ha (List.mem_of_getElem? hp2)
/-- What is set may be again, and has what was set; the others have what they had. -/
theorem get_none : ∀ (l : List Vr) (n : ByteArray), (∀ p ∈ l, p.1 ≠ n) → getV l n = none := by
  intro l n
  induction l with
  | nil => intro _; rfl
  | cons p r ih =>
    intro h
    rw [getV, if_neg (by rw [eq_iff]; exact h p (List.mem_cons_self ..)), ih fun q hq => h q (List.mem_cons_of_mem _ hq)]
theorem get_app : ∀ (l r : List Vr) (n : ByteArray), getV (l ++ r) n = (getV l n).or (getV r n) := by
  intro l r n
  induction l with
  | nil => rfl
  | cons p l ih =>
    rw [List.cons_append, getV, getV]
    split
    · rfl
    · exact ih
theorem get_put (l : List Vr) (n v : ByteArray) : getV (putV (dropV l n) n v) n = some v := by
  unfold putV
  rw [get_app, get_none _ n (fun p hp => lt_ne (below_lt hp)), getV, if_pos ((eq_iff n n).2 rfl)]
  rfl
theorem get_mem : ∀ {l : List Vr}, Asc l → ∀ {p : Vr}, p ∈ l → getV l p.1 = some p.2 := by
  intro l ha
  induction l with
  | nil => intro p h; cases h
  | cons q r ih =>
    intro p h
    have hc := List.pairwise_cons.1 ha
    rcases List.mem_cons.1 h with rfl | h
    · rw [getV, if_pos ((eq_iff _ _).2 rfl)]
    · rw [getV, if_neg (by rw [eq_iff]; exact lt_ne (hc.1 p h))]
      exact ih hc.2 h
theorem asc_put {l : List Vr} {n v : ByteArray} (ha : Asc l) : Asc (putV (dropV l n) n v) := by
  have hd : Asc (dropV l n) := ha.filter _
  have hne : ∀ p ∈ dropV l n, p.1 ≠ n := by
    intro p hp
    unfold dropV at hp
    rw [List.mem_filter] at hp
    have := hp.2
    rw [Bool.not_eq_true'] at this
    exact (eq_false _ _).1 this
  generalize dropV l n = m at *
  unfold putV
  have e := below_from m n
  have hd' := hd
  rw [e] at hd'
  unfold Asc at *
  obtain ⟨h1, h2, h3⟩ := List.pairwise_append.1 hd'
  have hg : ∀ p ∈ from_ m n, lt n p.1 = true := by
    intro p hp
    have := from_ge hd hp
    cases ee : lt n p.1
    · exact absurd (lt_total this ee) (hne p (by rw [e]; exact List.mem_append_right _ hp))
    · rfl
  refine List.pairwise_append.2 ⟨h1, List.pairwise_cons.2 ⟨hg, h2⟩, ?_⟩
  intro p hp q hq
  rcases List.mem_cons.1 hq with rfl | hq
  · exact below_lt hp
  · exact h3 p hp q hq
theorem mem_put {l : List Vr} {n v : ByteArray} {p : Vr} : p ∈ putV (dropV l n) n v ↔ p = (n, v) ∨ (p ∈ l ∧ p.1 ≠ n) := by
  have e : p ∈ dropV l n ↔ p ∈ l ∧ p.1 ≠ n := by
    unfold dropV; rw [List.mem_filter, Bool.not_eq_true', eq_false]
  rw [← e]
  have e2 : p ∈ dropV l n ↔ p ∈ below (dropV l n) n ∨ p ∈ from_ (dropV l n) n := by
    conv => lhs; rw [below_from (dropV l n) n]
    exact List.mem_append
  unfold putV
  rw [e2, List.mem_append, List.mem_cons]
  constructor
  · rintro (h | h | h)
    · exact Or.inr (Or.inl h)
    · exact Or.inl h
    · exact Or.inr (Or.inr h)
  · rintro (h | h | h)
    · exact Or.inr (Or.inl h)
    · exact Or.inl h
    · exact Or.inr (Or.inr h)
theorem may_put {l : List Vr} {n v : ByteArray} (h : May l) (hn : nmB n = true) (hv : v.size ≤ 32) (h16 : (dropV l n).length ≠ 16) : May (putV (dropV l n) n v) := by
  refine ⟨?_, asc_put h.asc, ?_⟩
  · intro p hp
    rcases mem_put.1 hp with rfl | ⟨hp, _⟩
    · simp [goodB, hn, hv]
    · exact h.good p hp
  · have h1 : (dropV l n).length ≤ l.length := List.length_filter_le _ _
    have h2 := h.len
    unfold putV
    have e := congrArg List.length (below_from (dropV l n) n)
    rw [List.length_append] at e ⊢
    rw [List.length_cons]; omega
theorem get_other {l : List Vr} {n v : ByteArray} (h : Asc l) {p : Vr} (hp : p ∈ l) (hne : p.1 ≠ n) : getV (putV (dropV l n) n v) p.1 = some p.2 :=
  get_mem (asc_put h) (mem_put.2 (Or.inr ⟨hp, hne⟩))
end MemP
end Go.Proofs.YtchceoclkdofhaaGreatDoor
namespace Go.Proofs.YtchceoclkdofhaaGreatDoor
set_option linter.unusedVariables false
set_option linter.unusedSimpArgs false
open Go.RowKit
namespace CalP
open QuoP MemP
/-- An expression: its kind, its number, its name, its op, its kids. -/
inductive Ex where
  | mk (kind n : Int) (name op : ByteArray) (kids : List Ex)
namespace Ex
def kind : Ex → Int | mk k _ _ _ _ => k
def n : Ex → Int | mk _ n _ _ _ => n
def name : Ex → ByteArray | mk _ _ s _ _ => s
def op : Ex → ByteArray | mk _ _ _ s _ => s
def kids : Ex → List Ex | mk _ _ _ _ l => l
end Ex
mutual
def nodesE : Ex → Nat | .mk _ _ _ _ kids => 1 + nodesL kids
def nodesL : List Ex → Nat | [] => 0 | x :: l => nodesE x + nodesL l
end
/-- How tightly an op binds; 0: it is none. -/
def strengthL (l : List UInt8) : Nat :=
  if l = [124, 124] then 1
  else if l = [38, 38] then 2
  else if l = [61, 61] ∨ l = [33, 61] then 3
  else if l = [60] ∨ l = [62] ∨ l = [60, 61] ∨ l = [62, 61] then 4
  else if l = [43] ∨ l = [45] then 5
  else if l = [42] ∨ l = [47] ∨ l = [37] then 6
  else 0
def strength (op : ByteArray) : Nat := strengthL op.data.toList
def bareE (k n : Int) (nm op : ByteArray) : Bool := (n == 0 || k == 0) && (nm.data.toList == [] || k == 1) && (op.data.toList == [] || k == 4)
/-- What is told of a kind, without its kids. -/
def okE (k n : Int) (nm op : ByteArray) (d : Nat) : Bool :=
  if k = 0 then decide (0 ≤ n)
  else if k = 1 then nameB nm.data.toList
  else if k = 2 ∨ k = 3 then decide (d < 64)
  else if k = 4 then decide (d < 64) && decide (0 < strength op)
  else false
def kidsE (k : Int) : Nat := if k = 2 ∨ k = 3 then 1 else if k = 4 then 2 else 0
mutual
/-- May it be, so deep? -/
def rightE : Ex → Nat → Bool
  | .mk k n nm op kids, d => (okE k n nm op d && bareE k n nm op && decide (kids.length = kidsE k)) && rightL kids (d + 1)
def rightL : List Ex → Nat → Bool
  | [], _ => true
  | x :: l, d => rightE x d && rightL l d
end
/-! What it comes to. -/
def resP (n : Int) : Int × Int := if -9223372036854775808 ≤ n ∧ n ≤ 9223372036854775807 then (n, 0) else (0, 3)
def bitP (b : Bool) : Int := if b then 1 else 0
/-- An op of two numbers. -/
def opP (op : List UInt8) (a b : Int) : Int × Int :=
  if op = [43] then resP (a + b)
  else if op = [45] then resP (a - b)
  else if op = [42] then resP (a * b)
  else if op = [47] then (if b = 0 then (0, 4) else resP (a.fdiv b))
  else if op = [37] then (if b = 0 then (0, 4) else (a.fmod b, 0))
  else if op = [61, 61] then (bitP (a == b), 0)
  else if op = [33, 61] then (bitP (a != b), 0)
  else if op = [60] then (bitP (decide (a < b)), 0)
  else if op = [62] then (bitP (decide (b < a)), 0)
  else if op = [60, 61] then (bitP (decide (a ≤ b)), 0)
  else (bitP (decide (b ≤ a)), 0)
/-- A name's value; or an error. -/
def nameV (l : List Vr) (cuts : List ByteArray) (nm : ByteArray) : Except Int ByteArray :=
  match nm.data.toList with
  | [c] => if digB c then .ok (cuts.getD (c.toNat - 48) ByteArray.empty) else (match getV l nm with | none => .error 6 | some v => .ok v)
  | _ => match getV l nm with | none => .error 6 | some v => .ok v
/-- A text's number, and 0 or an error. -/
def numP (l : List UInt8) : Int × Int := if NumP.formB l = true then resP (NumP.pv l) else (0, 1)
/-- A name's number. -/
def numV (l : List Vr) (cuts : List ByteArray) (nm : ByteArray) : Int × Int :=
  match nameV l cuts nm with
  | .error e => (0, e)
  | .ok v => if (numP v.data.toList).2 = 1 then (0, 7) else numP v.data.toList
def combP (V : ByteArray → Int × Int) (k n : Int) (nm op : ByteArray) (rs : List (Int × Int)) : Int × Int :=
  if k = 0 then (n, 0) else if k = 1 then V nm else
  match rs with
  | [] => (0, 0)
  | (a, f) :: rest =>
    if f ≠ 0 then (0, f) else if k = 2 then resP (-a) else if k = 3 then (bitP (a == 0), 0)
    else if op.data.toList = [38, 38] ∧ a = 0 then (0, 0) else if op.data.toList = [124, 124] ∧ a ≠ 0 then (1, 0)
    else match rest with
      | [] => (0, 0)
      | (b, g) :: _ => if g ≠ 0 then (0, g) else if op.data.toList = [38, 38] ∨ op.data.toList = [124, 124] then (bitP (b != 0), 0) else opP op.data.toList a b
mutual
def evalE (V : ByteArray → Int × Int) : Ex → Int × Int
  | .mk k n nm op kids => combP V k n nm op (evalL V kids)
def evalL (V : ByteArray → Int × Int) : List Ex → List (Int × Int)
  | [] => []
  | x :: l => evalE V x :: evalL V l
end
end CalP
end Go.Proofs.YtchceoclkdofhaaGreatDoor
namespace Go.Proofs.YtchceoclkdofhaaGreatDoor
set_option linter.unusedVariables false
set_option linter.unusedSimpArgs false
open Go.RowKit
namespace CalW
open CalP
/-- An expression's cells. -/
abbrev exC (kind n : Int) (nm op : ByteArray) (A : Option Addr) (m c : Nat) : List Value := [.int .i64 kind, .int .i64 n, .string nm, .string op, .slice A m c]
/-- A number of 64 bits. -/
abbrev I64 (n : Int) : Prop := -9223372036854775808 ≤ n ∧ n ≤ 9223372036854775807
/-- These cells are this expression; what it leads to lies in blocks of K. -/
inductive Et (w : World) (K : Nat → Prop) : Ex → List Value → Prop where
  | mk (kind n : Int) (nm op : ByteArray) (kids : List Ex) (A : Option Addr) (c : Nat) (css : Nat → List Value) (hk0 : I64 kind) (hn : I64 n) (hnm : nm.size ≤ maxLen) (hop : op.size ≤ maxLen) (hlen : kids.length ≤ maxLen)
      (hk : ∀ (i : Nat) (h : i < kids.length), Et w K (kids[i]'h) (css i))
      (hA : 0 < kids.length → ∃ g o, A = some ⟨g, o, none⟩ ∧ K g ∧ ∀ i, i < kids.length → ∀ j u, (css i)[j]? = some u → w.cell? ⟨g, o + i * 5 + j, none⟩ = some u) :
      Et w K (.mk kind n nm op kids) (exC kind n nm op A kids.length c)
namespace Et
variable {w w' : World} {K K' : Nat → Prop} {r : Ex} {cs : List Value}
theorem len (h : Et w K r cs) : cs.length = 5 := by cases h; rfl
theorem keep (h : Et w K r cs) (hK : ∀ b, K b → K' b) (hk : ∀ b, K b → b < w.heap.size → w'.heap[b]? = w.heap[b]?) : Et w' K' r cs := by
  induction h with
  | mk kind n nm op kids A c css h0 h1 h2 h3 h4 _ hA ih =>
    refine .mk kind n nm op kids A c css h0 h1 h2 h3 h4 ih (fun hn => ?_)
    obtain ⟨g, o, e, hg, hc⟩ := hA hn
    refine ⟨g, o, e, hK g hg, fun i hi j u hu => ?_⟩
    have h1 := hc i hi j u hu
    have h2 : g < w.heap.size := World.block_lt_of_cell? w _ h1
    exact (World.cell?_of_block (a := ⟨g, o + i * 5 + j, none⟩) (hk g hg h2)).trans h1
theorem bel (h : Et w K r cs) (hb : Below w.heap.size w w') : Et w' K r cs := h.keep (fun _ hb => hb) (fun b _ hl => hb.block b hl)
theorem dn (h : Et w K r cs) (m : Nat) : Et (w.drewN m) K r cs := h.keep (fun _ hb => hb) (fun _ _ _ => rfl)
/-- Its cells by its parts. -/
theorem shape (h : Et w K r cs) : ∃ A c, cs = exC r.kind r.n r.name r.op A r.kids.length c := by
  cases h with
  | mk kind n nm op kids A c css => exact ⟨A, c, rfl⟩
theorem fits (h : Et w K r cs) : I64 r.kind ∧ I64 r.n ∧ r.name.size ≤ maxLen ∧ r.op.size ≤ maxLen ∧ r.kids.length ≤ maxLen := by
  cases h with
  | mk kind n nm op kids A c css h0 h1 h2 h3 h4 => exact ⟨h0, h1, h2, h3, h4⟩
/-- A kid's cells. -/
theorem kid (h : Et w K r cs) {i : Nat} (hi : i < r.kids.length) : ∃ g o c kc, cs = exC r.kind r.n r.name r.op (some ⟨g, o, none⟩) r.kids.length c ∧ Et w K (r.kids[i]'hi) kc ∧
    ∀ j u, kc[j]? = some u → w.cell? ⟨g, o + i * 5 + j, none⟩ = some u := by
  cases h with
  | mk kind n nm op kids A c css h0 h1 h2 h3 h4 hk hA =>
    obtain ⟨g, o, rfl, _, hc⟩ := hA (Nat.lt_of_le_of_lt (Nat.zero_le _) hi)
    exact ⟨g, o, c, css i, rfl, hk i hi, hc i hi⟩
theorem leaf (kind n : Int) (nm op : ByteArray) (c : Nat) (h0 : I64 kind) (h1 : I64 n) (h2 : nm.size ≤ maxLen) (h3 : op.size ≤ maxLen) : Et w K (.mk kind n nm op []) (exC kind n nm op none 0 c) :=
  .mk kind n nm op [] none c (fun _ => []) h0 h1 h2 h3 (Nat.zero_le _) (fun _ h => absurd h (Nat.not_lt_zero _)) (fun h => absurd h (Nat.not_lt_zero _))
end Et
theorem nodes_pos (x : Ex) : 1 ≤ nodesE x := by cases x; simp [nodesE]
theorem nodes_kid : ∀ (l : List Ex) (i : Nat) (h : i < l.length), nodesE (l[i]'h) ≤ nodesL l := by
  intro l
  induction l with
  | nil => intro i h; exact absurd h (Nat.not_lt_zero _)
  | cons x l ih =>
    intro i h
    cases i with
    | zero => simp [nodesL]
    | succ i => have := ih i (by simpa using h); simp [nodesL]; omega
end CalW
end Go.Proofs.YtchceoclkdofhaaGreatDoor
