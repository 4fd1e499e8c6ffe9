/- A set's text is parsed back. No program in the laws. No condition. -/
import Derived.Test.YtpdmjegbjcefjaaDoorEreTx
import Derived.Test.YtpdmjegbjcefjaaDoorEreRb
namespace Go.Proofs.YtpdmjegbjcefjaaDoor
set_option linter.unusedVariables false
set_option linter.unusedSimpArgs false
open Go.RowKit
namespace EreX
open EreP EreW
abbrev endsL : Bs := [93, 45, 92, 94]
abbrev specL : Bs := [92, 124, 40, 41, 42, 43, 63, 123, 46, 91, 94, 36]
theorem item_told (c : UInt8) (t : Bs) : itemP (toldB c endsL ++ t) = .ok (c, t) := by
  unfold toldB
  by_cases h : endsL.contains c = true
  · rw [if_pos h, itemP.eq_def]
    simp
  · rw [if_neg h]
    have h2 : ¬ c = 93 ∧ ¬ c = 45 ∧ ¬ c = 92 ∧ ¬ c = 94 := by simpa [endsL] using h
    rw [itemP.eq_def]
    simp [h2]
theorem told_first (c : UInt8) : ∃ d s, toldB c endsL = d :: s ∧ d ≠ 93 ∧ d ≠ 45 ∧ d ≠ 94 := by
  unfold toldB
  by_cases h : endsL.contains c = true
  · rw [if_pos h]; exact ⟨92, [c], rfl, by decide, by decide, by decide⟩
  · rw [if_neg h]
    have h2 : ¬ c = 93 ∧ ¬ c = 45 ∧ ¬ c = 92 ∧ ¬ c = 94 := by simpa [endsL] using h
    exact ⟨c, [], rfl, h2.1, h2.2.1, h2.2.2.2⟩
theorem span_first (p : Nat × Nat) : ∃ d s, spanB p = d :: s ∧ d ≠ 93 ∧ d ≠ 45 ∧ d ≠ 94 := by
  obtain ⟨d, s, e, h⟩ := told_first (UInt8.ofNat p.1)
  refine ⟨d, s ++ (if p.2 = p.1 then [] else 45 :: toldB (UInt8.ofNat p.2) endsL), ?_, h⟩
  show toldB _ endsL ++ _ = _
  rw [e]; rfl
theorem span_text (a b : Nat) (hab : a ≤ b) (hb : b < 256) (t : Bs) (ht : t.head? ≠ some 45) : spanP (spanB (a, b) ++ t) = .ok ((UInt8.ofNat a, UInt8.ofNat b), t) := by
  have e : spanB (a, b) ++ t = toldB (UInt8.ofNat a) endsL ++ ((if b = a then [] else 45 :: toldB (UInt8.ofNat b) endsL) ++ t) := by
    show (toldB _ endsL ++ _) ++ t = _
    rw [List.append_assoc]
  rw [e]
  unfold spanP
  rw [item_told]
  by_cases h : b = a
  · rw [if_pos h]
    subst h
    cases t with
    | nil => rfl
    | cons c t =>
      have hc : ¬ c = 45 := fun e => ht (by rw [e]; rfl)
      simp [hc]
  · rw [if_neg h]
    rw [List.cons_append]
    have hlt : ¬ UInt8.ofNat b < UInt8.ofNat a := by
      rw [UInt8.lt_iff_toNat_lt]
      simp
      omega
    simp [item_told, hlt]
theorem items_text : ∀ (l : List (Nat × Nat)) (fuel : Nat) (first : Bool) (acc : Nat) (t : Bs), (∀ p ∈ l, p.1 ≤ p.2 ∧ p.2 < 256) → (l = [] → first = false) → (l.flatMap spanB ++ 93 :: t).length < fuel →
    itemsP fuel first acc (l.flatMap spanB ++ 93 :: t) = .ok (l.foldl (fun s p => s ||| rangeS p.1 p.2) acc, t) := by
  intro l
  induction l with
  | nil =>
    intro fuel first acc t _ hf hn
    cases fuel with
    | zero => omega
    | succ fuel =>
      rw [itemsP, hf rfl]
      simp
  | cons p l ih =>
    intro fuel first acc t hl _ hn
    obtain ⟨a, b⟩ := p
    have hab := hl (a, b) (List.mem_cons_self ..)
    cases fuel with
    | zero => omega
    | succ fuel =>
      obtain ⟨d, s, e, h93, h45, h94⟩ := span_first (a, b)
      have hlen : (l.flatMap spanB ++ 93 :: t).length < fuel := by
        rw [List.flatMap_cons, e] at hn
        simp at hn ⊢
        omega
      have hhead : (l.flatMap spanB ++ 93 :: t).head? ≠ some 45 := by
        cases l with
        | nil => simp
        | cons q l =>
          obtain ⟨d2, s2, e2, _, h2, _⟩ := span_first q
          rw [List.flatMap_cons, e2]
          simp [h2]
      rw [List.flatMap_cons, List.append_assoc, itemsP, if_neg (by rw [e]; simp [h93]), span_text a b hab.1 hab.2 _ hhead]
      show itemsP fuel false (acc ||| rangeS (UInt8.ofNat a).toNat (UInt8.ofNat b).toNat) _ = _
      rw [show (UInt8.ofNat a).toNat = a by simp; omega, show (UInt8.ofNat b).toNat = b by simp; omega]
      exact ih fuel false _ t (fun p hp => hl p (List.mem_cons_of_mem _ hp)) (fun _ => rfl) hlen
/-! The runs of a set make the set. -/
theorem end_spec (s : Nat) : ∀ f c, c ≤ 256 → 256 - c ≤ f → (∀ k, c ≤ k → k < endS s f c → s.testBit k = true) ∧ (endS s f c < 256 → s.testBit (endS s f c) = false) := by
  intro f
  induction f with
  | zero =>
    intro c h1 h2
    have : c = 256 := by omega
    subst this
    exact ⟨fun k h h' => by unfold endS at h'; omega, fun h => by unfold endS at h; omega⟩
  | succ f ih =>
    intro c h1 h2
    unfold endS
    split
    · next hh =>
      obtain ⟨h3, h4⟩ := ih (c + 1) (by omega) (by omega)
      refine ⟨fun k hk hk2 => ?_, h4⟩
      by_cases e : k = c
      · subst e; exact hh.2
      · exact h3 k (by omega) hk2
    · next hh =>
      refine ⟨fun k hk hk2 => by omega, fun hc => ?_⟩
      have : ¬ hasS s c = true := fun e => hh ⟨hc, e⟩
      unfold hasS at this
      simpa using this
theorem spans_spec (s : Nat) : ∀ f c, c ≤ 257 → 257 - c ≤ f → (∀ p ∈ spansF s f c, p.1 ≤ p.2 ∧ p.2 < 256) ∧ ∀ k, k < 256 → ((∃ p ∈ spansF s f c, p.1 ≤ k ∧ k ≤ p.2) ↔ (c ≤ k ∧ s.testBit k = true)) := by
  intro f
  induction f with
  | zero =>
    intro c h1 h2
    have : c = 257 := by omega
    subst this
    refine ⟨fun p hp => (by cases hp), fun k hk => ⟨fun ⟨p, hp, _⟩ => (by cases hp), fun h => (by omega)⟩⟩
  | succ f ih =>
    intro c h1 h2
    unfold spansF
    by_cases hc : c < 256
    · rw [if_pos hc]
      obtain ⟨e1, e2⟩ := endS_le s (256 - c) c (by omega)
      obtain ⟨s1, s2⟩ := end_spec s (256 - c) c (by omega) (by omega)
      obtain ⟨i1, i2⟩ := ih (endS s (256 - c) c + 1) (by omega) (by omega)
      generalize hE : endS s (256 - c) c = E at *
      have key : ∀ k, k < 256 → (c ≤ k ∧ s.testBit k = true ↔ ((c ≤ k ∧ k < E) ∨ (E + 1 ≤ k ∧ s.testBit k = true))) := by
        intro k hk
        constructor
        · rintro ⟨h3, h4⟩
          by_cases h5 : k < E
          · exact Or.inl ⟨h3, h5⟩
          · by_cases h6 : k = E
            · subst h6; rw [s2 hk] at h4; cases h4
            · exact Or.inr ⟨by omega, h4⟩
        · rintro (⟨h3, h4⟩ | ⟨h3, h4⟩)
          · exact ⟨h3, s1 k h3 h4⟩
          · exact ⟨by omega, h4⟩
      by_cases hlt : c < E
      · rw [if_pos hlt]
        refine ⟨fun p hp => ?_, fun k hk => ?_⟩
        · rcases List.mem_append.1 hp with hp | hp
          · rw [List.mem_singleton] at hp; subst hp; exact ⟨by show c ≤ E - 1; omega, by show E - 1 < 256; omega⟩
          · exact i1 p hp
        · rw [key k hk, ← i2 k hk]
          constructor
          · rintro ⟨p, hp, h3⟩
            rcases List.mem_append.1 hp with hp | hp
            · rw [List.mem_singleton] at hp; subst hp
              have h4 : c ≤ k ∧ k ≤ E - 1 := h3
              exact Or.inl ⟨h4.1, by omega⟩
            · exact Or.inr ⟨p, hp, h3⟩
          · rintro (⟨h3, h4⟩ | ⟨p, hp, h3⟩)
            · exact ⟨(c, E - 1), List.mem_append_left _ (List.mem_singleton.2 rfl), h3, by show k ≤ E - 1; omega⟩
            · exact ⟨p, List.mem_append_right _ hp, h3⟩
      · rw [if_neg hlt, List.nil_append]
        refine ⟨i1, fun k hk => ?_⟩
        rw [key k hk, ← i2 k hk]
        constructor
        · exact fun h => Or.inr h
        · rintro (⟨h3, h4⟩ | h)
          · omega
          · exact h
    · rw [if_neg hc]
      exact ⟨fun p hp => (by cases hp), fun k hk => ⟨fun ⟨p, hp, _⟩ => (by cases hp), fun h => (by omega)⟩⟩
theorem fold_bit (k : Nat) : ∀ (l : List (Nat × Nat)) (acc : Nat), (l.foldl (fun s p => s ||| rangeS p.1 p.2) acc).testBit k = (acc.testBit k || decide (∃ p ∈ l, p.1 ≤ k ∧ k ≤ p.2)) := by
  intro l
  induction l with
  | nil => intro acc; simp
  | cons p l ih =>
    intro acc
    rw [List.foldl_cons, ih, Nat.testBit_or, range_bit, Bool.or_assoc]
    congr 1
    rw [Bool.eq_iff_iff]
    simp
theorem fold_spans (S : Nat) (hS : S < 2 ^ 256) : (spansS S).foldl (fun s p => s ||| rangeS p.1 p.2) 0 = S := by
  apply Nat.eq_of_testBit_eq
  intro k
  rw [fold_bit, Nat.zero_testBit, Bool.false_or]
  obtain ⟨h1, h2⟩ := spans_spec S 257 0 (by omega) (by omega)
  by_cases hk : k < 256
  · rw [Bool.eq_iff_iff, decide_eq_true_iff]
    exact (h2 k hk).trans ⟨fun h => h.2, fun h => ⟨Nat.zero_le _, h⟩⟩
  · rw [bit_out hS (by omega), decide_eq_false_iff_not]
    rintro ⟨p, hp, h3, h4⟩
    have := (h1 p hp).2
    omega
theorem one_range (a : Nat) : rangeS a a = oneS a := by
  apply Nat.eq_of_testBit_eq
  intro k
  rw [range_bit, one_bit, Bool.eq_iff_iff]
  simp
  omega
theorem class_text (l : List (Nat × Nat)) (h : ∀ p ∈ l, p.1 ≤ p.2 ∧ p.2 < 256) (hn : l ≠ []) (t : Bs) : classP (l.flatMap spanB ++ 93 :: t) = .ok (l.foldl (fun s p => s ||| rangeS p.1 p.2) 0, t) := by
  unfold classP
  rw [if_neg (by
    cases l with
    | nil => exact absurd rfl hn
    | cons q l =>
      obtain ⟨d2, s2, e2, _, _, h2⟩ := span_first q
      rw [List.flatMap_cons, e2]
      simp [h2])]
  exact items_text l _ true 0 t h (fun e => absurd e hn) (Nat.lt_succ_self _)
theorem class_not (l : List (Nat × Nat)) (h : ∀ p ∈ l, p.1 ≤ p.2 ∧ p.2 < 256) (hn : l ≠ []) (t : Bs) : classP (94 :: (l.flatMap spanB ++ 93 :: t)) = .ok (notS (l.foldl (fun s p => s ||| rangeS p.1 p.2) 0), t) := by
  unfold classP
  rw [if_pos (by simp), List.tail_cons, items_text l _ true 0 t h (fun e => absurd e hn) (Nat.lt_succ_self _)]
theorem not_all_range : notS (0 ||| rangeS 0 255) = 0 := by decide +kernel
theorem atom_told (G : Grp) (c : UInt8) (t : Bs) (g : Nat) : atomP G (toldB c specL ++ t) g = .ok (.mk 1 (oneS c.toNat) [] 0 0 0, t, g) := by
  unfold toldB
  by_cases h : specL.contains c = true
  · rw [if_pos h, atomP.eq_def]
    simp [isRep]
  · rw [if_neg h]
    have h2 : ¬ c = 92 ∧ ¬ c = 124 ∧ ¬ c = 40 ∧ ¬ c = 41 ∧ ¬ c = 42 ∧ ¬ c = 43 ∧ ¬ c = 63 ∧ ¬ c = 123 ∧ ¬ c = 46 ∧ ¬ c = 91 ∧ ¬ c = 94 ∧ ¬ c = 36 := by simpa [specL] using h
    rw [atomP.eq_def]
    simp [isRep, h2]
theorem told_spec (c : UInt8) : ∃ d s, toldB c specL = d :: s ∧ isRep d = false ∧ d ≠ 124 ∧ d ≠ 41 := by
  unfold toldB
  by_cases h : specL.contains c = true
  · rw [if_pos h]; exact ⟨92, [c], rfl, by decide, by decide, by decide⟩
  · rw [if_neg h]
    have h2 : ¬ c = 92 ∧ ¬ c = 124 ∧ ¬ c = 40 ∧ ¬ c = 41 ∧ ¬ c = 42 ∧ ¬ c = 43 ∧ ¬ c = 63 ∧ ¬ c = 123 ∧ ¬ c = 46 ∧ ¬ c = 91 ∧ ¬ c = 94 ∧ ¬ c = 36 := by simpa [specL] using h
    exact ⟨c, [], rfl, by simp [isRep, h2], h2.2.1, h2.2.2.2.1⟩
/-- A set's text: its four ways. -/
theorem set_ways (S : Nat) (hS : S < 2 ^ 256) : (S = 0 ∧ setB S = [91, 94, 0, 45, 255, 93]) ∨ (S = allS ∧ setB S = [46]) ∨ (∃ a, a < 256 ∧ S = oneS a ∧ setB S = toldB (UInt8.ofNat a) specL) ∨ (spansS S ≠ [] ∧ setB S = [91] ++ (spansS S).flatMap spanB ++ [93]) := by
  have hf := fold_spans S hS
  obtain ⟨h1, _⟩ := spans_spec S 257 0 (by omega) (by omega)
  unfold setB
  by_cases e : spansS S = []
  · left
    rw [e] at hf
    exact ⟨hf.symm, by rw [if_pos e]⟩
  rw [if_neg e]
  by_cases e2 : S = allS
  · right; left
    exact ⟨e2, by rw [if_pos e2]⟩
  rw [if_neg e2]
  right; right
  match hl : spansS S with
  | [] => exact absurd hl e
  | [(a, b)] =>
    by_cases hab : a = b
    · left
      subst hab
      rw [hl] at hf
      have := (h1 (a, a) (by show (a, a) ∈ spansS S; rw [hl]; exact List.mem_singleton.2 rfl)).2
      refine ⟨a, this, ?_, by simp⟩
      rw [← hf]
      show 0 ||| rangeS a a = _
      rw [Nat.zero_or, one_range]
    · right
      exact ⟨by simp, by simp [hab]⟩
  | p :: q :: l => exact Or.inr ⟨by simp, rfl⟩
theorem atom_set (G : Grp) (S : Nat) (hS : S < 2 ^ 256) (t : Bs) (g : Nat) : atomP G (setB S ++ t) g = .ok (.mk 1 S [] 0 0 0, t, g) := by
  rcases set_ways S hS with ⟨rfl, h⟩ | ⟨rfl, h⟩ | ⟨a, ha, rfl, h⟩ | ⟨hn, h⟩
  · rw [h]
    have hc := class_not [(0, 255)] (by simp) (by simp) t
    simp only [List.foldl_cons, List.foldl_nil] at hc
    rw [not_all_range] at hc
    have e : (94 :: ([(0, 255)].flatMap spanB ++ 93 :: t)) = 94 :: 0 :: 45 :: 255 :: 93 :: t := rfl
    rw [e] at hc
    show atomP G (91 :: 94 :: 0 :: 45 :: 255 :: 93 :: t) g = _
    rw [atomP.eq_def]
    simp only [isRep]
    rw [hc]
    rfl
  · rw [h, atomP.eq_def]
    simp [isRep]
  · rw [h, atom_told]
    rw [show (UInt8.ofNat a).toNat = a by simp; omega]
  · rw [h]
    have hc := class_text (spansS S) (spans_spec S 257 0 (by omega) (by omega)).1 hn t
    rw [fold_spans S hS] at hc
    show atomP G ((91 :: ((spansS S).flatMap spanB ++ [93])) ++ t) g = _
    rw [List.cons_append, List.append_assoc, List.cons_append, List.nil_append, atomP.eq_def]
    simp only [isRep]
    rw [hc]
    rfl
theorem set_first (S : Nat) (hS : S < 2 ^ 256) : ∃ d s, setB S = d :: s ∧ isRep d = false ∧ d ≠ 124 ∧ d ≠ 41 := by
  rcases set_ways S hS with ⟨rfl, h⟩ | ⟨rfl, h⟩ | ⟨a, ha, rfl, h⟩ | ⟨hn, h⟩
  · rw [h]; exact ⟨91, _, rfl, by decide, by decide, by decide⟩
  · rw [h]; exact ⟨46, _, rfl, by decide, by decide, by decide⟩
  · rw [h]; exact told_spec _
  · rw [h]; exact ⟨91, _, rfl, by decide, by decide, by decide⟩
end EreX
end Go.Proofs.YtpdmjegbjcefjaaDoor
namespace Go.Proofs.YtpdmjegbjcefjaaDoor
set_option linter.unusedVariables false
set_option linter.unusedSimpArgs false
open Go.RowKit
namespace EreX
open EreP EreW
/-- All sets are of bytes. -/
def SetsOk : Re → Prop | .mk _ s kids _ _ _ => s < 2 ^ 256 ∧ ∀ x ∈ kids, SetsOk x
def noRep (t : Bs) : Prop := ∀ c s, t = c :: s → isRep c = false
def rowStop (t : Bs) : Prop := rowEnd t = true
def altStop (t : Bs) : Prop := t = [] ∨ ∃ s, t = 41 :: s
theorem stop_row {t : Bs} (h : altStop t) : rowStop t := by
  rcases h with rfl | ⟨s, rfl⟩ <;> rfl
theorem stop_rep {t : Bs} (h : rowStop t) : noRep t := by
  rintro c s rfl
  have : (c == 124 || c == 41) = true := by simpa [rowStop, rowEnd] using h
  rw [Bool.or_eq_true, beq_iff_eq, beq_iff_eq] at this
  rcases this with rfl | rfl <;> rfl
theorem bar_row (s : Bs) : rowStop (124 :: s) := rfl
theorem right_bare {k : Int} {s : Nat} {kids : List Re} {lo hi n : Int} {lv d g q : Nat} (h : rightR (.mk k s kids lo hi n) lv d g = some q) : bareR k s lo hi n = true := by
  rw [rightR] at h
  split at h
  · cases h
  · next hb => simpa using hb
theorem bare_of {k : Int} {s : Nat} {lo hi n : Int} (h : bareR k s lo hi n = true) : (k = 1 ∨ s = 0) ∧ (k = 6 ∨ lo = 0 ∧ hi = 0) ∧ (k = 7 ∨ n = 0) := by
  unfold bareR at h
  simpa [and_assoc] using h
/-- What a tree at a level is. -/
theorem right_ways {k : Int} {s : Nat} {kids : List Re} {lo hi n : Int} {lv d g q : Nat} (h : rightR (.mk k s kids lo hi n) lv d g = some q) :
    (k = 0 ∧ lv ≤ 1 ∧ kids = [] ∧ s = 0 ∧ lo = 0 ∧ hi = 0 ∧ n = 0 ∧ q = g) ∨
    (k = 1 ∧ kids = [] ∧ lo = 0 ∧ hi = 0 ∧ n = 0 ∧ q = g) ∨
    ((k = 2 ∨ k = 3) ∧ lv ≤ 2 ∧ kids = [] ∧ s = 0 ∧ lo = 0 ∧ hi = 0 ∧ n = 0 ∧ q = g) ∨
    (k = 4 ∧ lv ≤ 1 ∧ 1 < kids.length ∧ s = 0 ∧ lo = 0 ∧ hi = 0 ∧ n = 0 ∧ rightL kids 2 d g = some q) ∨
    (k = 5 ∧ lv = 0 ∧ 1 < kids.length ∧ s = 0 ∧ lo = 0 ∧ hi = 0 ∧ n = 0 ∧ rightL kids 1 d g = some q) ∨
    (k = 6 ∧ lv ≤ 2 ∧ inR lo hi = true ∧ (∃ x, kids = [x] ∧ rightR x 3 d g = some q) ∧ s = 0 ∧ n = 0) ∨
    (k = 7 ∧ n = numG g ∧ d < 64 ∧ (∃ x, kids = [x] ∧ rightR x 0 (d + 1) (g + 1) = some q) ∧ s = 0 ∧ lo = 0 ∧ hi = 0) := by
  have hb := right_bare h
  obtain ⟨b1, b2, b3⟩ := bare_of hb
  have one : ∀ (lv' d' g' : Nat), kids.length = 1 → rightL kids lv' d' g' = some q → ∃ x, kids = [x] ∧ rightR x lv' d' g' = some q := by
    intro lv' d' g' hl hr
    obtain ⟨x, rfl⟩ := List.length_eq_one_iff.1 hl
    refine ⟨x, rfl, ?_⟩
    rw [rightL] at hr
    cases hx : rightR x lv' d' g' with
    | none => rw [hx] at hr; cases hr
    | some g2 => rw [hx] at hr; exact hr
  rw [rightR] at h
  rw [if_neg (by rw [hb]; decide)] at h
  by_cases k0 : k = 0
  · left
    rw [if_pos k0] at h
    split at h
    · next hc =>
      injection h with h
      have e := List.length_eq_zero_iff.1 hc.2
      refine ⟨k0, hc.1, e, ?_, ?_, ?_, ?_, h.symm⟩
      · rcases b1 with b | b
        · omega
        · exact b
      · rcases b2 with b | b
        · omega
        · exact b.1
      · rcases b2 with b | b
        · omega
        · exact b.2
      · rcases b3 with b | b
        · omega
        · exact b
    · cases h
  rw [if_neg k0] at h
  by_cases k1 : k = 1
  · right; left
    rw [if_pos k1] at h
    split at h
    · next hc =>
      injection h with h
      have e := List.length_eq_zero_iff.1 hc
      refine ⟨k1, e, ?_, ?_, ?_, h.symm⟩
      · rcases b2 with b | b
        · omega
        · exact b.1
      · rcases b2 with b | b
        · omega
        · exact b.2
      · rcases b3 with b | b
        · omega
        · exact b
    · cases h
  rw [if_neg k1] at h
  have s0 : s = 0 := by
    rcases b1 with b | b
    · exact absurd b k1
    · exact b
  by_cases k2 : k = 2 ∨ k = 3
  · right; right; left
    rw [if_pos k2] at h
    split at h
    · next hc =>
      injection h with h
      have e := List.length_eq_zero_iff.1 hc.2
      refine ⟨k2, hc.1, e, s0, ?_, ?_, ?_, h.symm⟩
      · rcases b2 with b | b
        · omega
        · exact b.1
      · rcases b2 with b | b
        · omega
        · exact b.2
      · rcases b3 with b | b
        · omega
        · exact b
    · cases h
  rw [if_neg k2] at h
  by_cases k4 : k = 4
  · right; right; right; left
    rw [if_pos k4] at h
    split at h
    · next hc =>
      refine ⟨k4, hc.1, hc.2, s0, ?_, ?_, ?_, h⟩
      · rcases b2 with b | b
        · omega
        · exact b.1
      · rcases b2 with b | b
        · omega
        · exact b.2
      · rcases b3 with b | b
        · omega
        · exact b
    · cases h
  rw [if_neg k4] at h
  by_cases k5 : k = 5
  · right; right; right; right; left
    rw [if_pos k5] at h
    split at h
    · next hc =>
      refine ⟨k5, hc.1, hc.2, s0, ?_, ?_, ?_, h⟩
      · rcases b2 with b | b
        · omega
        · exact b.1
      · rcases b2 with b | b
        · omega
        · exact b.2
      · rcases b3 with b | b
        · omega
        · exact b
    · cases h
  rw [if_neg k5] at h
  by_cases k6 : k = 6
  · right; right; right; right; right; left
    rw [if_pos k6] at h
    split at h
    · next hc =>
      refine ⟨k6, hc.1, hc.2.1, one _ _ _ hc.2.2 h, s0, ?_⟩
      rcases b3 with b | b
      · omega
      · exact b
    · cases h
  rw [if_neg k6] at h
  by_cases k7 : k = 7
  · right; right; right; right; right; right
    rw [if_pos k7] at h
    split at h
    · next hc =>
      refine ⟨k7, hc.1, hc.2.1, one _ _ _ hc.2.2 h, s0, ?_, ?_⟩
      · rcases b2 with b | b
        · omega
        · exact b.1
      · rcases b2 with b | b
        · omega
        · exact b.2
    · cases h
  rw [if_neg k7] at h
  cases h
theorem text_one (x : Re) (k : Int) : textL [x] k 0 = textR x := by
  rw [textL, textL]
  unfold sepT
  rw [if_neg (by omega)]
  simp
/-- A piece's first byte. -/
theorem first_piece : ∀ (N : Nat) (r : Re), nodesR r ≤ N → ∀ (lv d g q : Nat), SetsOk r → 2 ≤ lv → rightR r lv d g = some q → ∃ c s, textR r = c :: s ∧ isRep c = false ∧ c ≠ 124 ∧ c ≠ 41 := by
  intro N
  induction N with
  | zero => intro r h; cases r; simp [nodesR] at h
  | succ N ih =>
    intro r hN lv d g q hs hlv h
    obtain ⟨k, s, kids, lo, hi, n⟩ := r
    rw [SetsOk] at hs
    rcases right_ways h with ⟨rfl, h1, _⟩ | ⟨rfl, rfl, _⟩ | ⟨h1, _, rfl, _⟩ | ⟨rfl, h1, _⟩ | ⟨rfl, h1, _⟩ | ⟨rfl, _, _, ⟨x, rfl, hx⟩, _⟩ | ⟨rfl, _, _, ⟨x, rfl, hx⟩, _⟩
    · omega
    · obtain ⟨c, t, e, h2⟩ := set_first s hs.1
      refine ⟨c, t, ?_, h2⟩
      rw [textR]
      show setB s ++ ([] ++ []) = _
      rw [e]; simp
    · rcases h1 with rfl | rfl
      · exact ⟨94, [], rfl, by decide, by decide, by decide⟩
      · exact ⟨36, [], rfl, by decide, by decide, by decide⟩
    · omega
    · omega
    · obtain ⟨c, t, e, h2⟩ := ih x (by simp [nodesR, nodesL] at hN; omega) 3 d g q (hs.2 x (List.mem_singleton.2 rfl)) (by omega) hx
      refine ⟨c, t ++ tailT 6 lo hi, ?_, h2⟩
      rw [textR, text_one, e]
      rfl
    · exact ⟨40, _, rfl, by decide, by decide, by decide⟩
/-- The sign of a repeat is read back. -/
theorem dig_nat (a : Nat) (ha : a ≤ 8) : (UInt8.ofNat (48 + a)).toNat = 48 + a := by simp; omega
theorem digit_text (k a : Nat) (hk : k ≤ a) (ha : a ≤ 8) (t : Bs) : digitP k (UInt8.ofNat (48 + a) :: t) = .ok (a, t) := by
  rw [digitP, if_pos (by rw [dig_nat a ha]; omega), dig_nat a ha]
  congr 2
  omega
theorem rep_text (x : Re) (hx : ¬ (x.kind = 2 ∨ x.kind = 3)) (lo hi : Int) (h : inR lo hi = true) (t : Bs) (g : Nat) (G : Grp) (l : Bs) (g0 : Nat) (ha : atomP G l g0 = .ok (x, signB lo hi ++ t, g)) :
    pieceP G l g0 = .ok (.mk 6 0 [x] lo hi 0, t, g) := by
  have hb : 0 ≤ lo ∧ lo ≤ 8 ∧ (hi = -1 ∨ (lo ≤ hi ∧ hi ≤ 8)) := by
    unfold inR at h
    simp at h
    omega
  obtain ⟨a, rfl⟩ : ∃ a : Nat, lo = a := ⟨lo.toNat, by omega⟩
  have ha8 : a ≤ 8 := by omega
  unfold pieceP
  rw [ha]
  by_cases c1 : (a : Int) = 0 ∧ hi = -1
  · have e : signB a hi = [42] := by unfold signB; rw [if_pos c1]
    rw [e, c1.1, c1.2]
    simp [isRep, hx]
  by_cases c2 : (a : Int) = 1 ∧ hi = -1
  · have e : signB a hi = [43] := by unfold signB; rw [if_neg c1, if_pos c2]
    rw [e, c2.1, c2.2]
    simp [isRep, hx]
  by_cases c3 : (a : Int) = 0 ∧ hi = 1
  · have e : signB a hi = [63] := by unfold signB; rw [if_neg c1, if_neg c2, if_pos c3]
    rw [e, c3.1, c3.2]
    simp [isRep, hx]
  have key : ∀ u, signB a hi = 123 :: u → timesP (u ++ t) = .ok (((a : Int), hi), t) → (match (signB a hi ++ t : Bs) with
      | [] => (.ok (x, [], g) : R3 Re)
      | c :: r' =>
        if !isRep c then .ok (x, c :: r', g)
        else if x.kind = 2 ∨ x.kind = 3 then .error (c :: r', 1)
        else if c == 43 then .ok (.mk 6 0 [x] 1 (-1) 0, r', g)
        else if c == 63 then .ok (.mk 6 0 [x] 0 1 0, r', g)
        else if c == 123 then (match timesP r' with | .error e => .error e | .ok ((a, b), r2) => .ok (.mk 6 0 [x] a b 0, r2, g))
        else .ok (.mk 6 0 [x] 0 (-1) 0, r', g)) = .ok (.mk 6 0 [x] a hi 0, t, g) := by
    intro u e ht
    rw [e, List.cons_append]
    simp only [isRep]
    rw [ht]
    simp [hx]
  by_cases c4 : (a : Int) = hi
  · subst c4
    refine key (UInt8.ofNat (48 + a) :: [125]) ?_ ?_
    · unfold signB; rw [if_neg c1, if_neg c2, if_neg c3, if_pos rfl]; rfl
    · unfold timesP
      rw [List.cons_append, digit_text 0 a (Nat.zero_le _) ha8]
      simp [needP]
  by_cases c5 : hi = -1
  · subst c5
    refine key (UInt8.ofNat (48 + a) :: [44, 125]) ?_ ?_
    · unfold signB; rw [if_neg c1, if_neg c2, if_neg c3, if_neg c4, if_pos rfl]; rfl
    · unfold timesP
      rw [List.cons_append, digit_text 0 a (Nat.zero_le _) ha8]
      simp
  · obtain ⟨b, rfl⟩ : ∃ b : Nat, hi = b := ⟨hi.toNat, by omega⟩
    refine key (UInt8.ofNat (48 + a) :: 44 :: UInt8.ofNat (48 + b) :: [125]) ?_ ?_
    · unfold signB; rw [if_neg c1, if_neg c2, if_neg c3, if_neg c4, if_neg c5]; rfl
    · unfold timesP
      rw [List.cons_append, digit_text 0 a (Nat.zero_le _) ha8]
      have hd : digitP a (UInt8.ofNat (48 + b) :: 125 :: t) = .ok (b, 125 :: t) := digit_text a b (by omega) (by omega) _
      have hne : ¬ UInt8.ofNat (48 + b) = 125 := by
        intro e
        have := dig_nat b (by omega)
        rw [e] at this
        have : (125 : Nat) = 48 + b := this
        omega
      generalize UInt8.ofNat (48 + b) = y at *
      simp [hne, hd, needP]
/-- What is read back at each level. -/
def AtomOk (r : Re) (d : Nat) : Prop := ∀ g q t, rightR r 3 d g = some q → atomP (grpP (64 - d)) (textR r ++ t) g = .ok (r, t, q)
def PieceOk (r : Re) (d : Nat) : Prop := ∀ g q t, rightR r 2 d g = some q → noRep t → pieceP (grpP (64 - d)) (textR r ++ t) g = .ok (r, t, q)
def RowOk (r : Re) (d : Nat) : Prop := ∀ g q t n, rightR r 1 d g = some q → rowStop t → (textR r ++ t).length < n → rowP (grpP (64 - d)) n [] (textR r ++ t) g = .ok (r, t, q)
def AltOk (r : Re) (d : Nat) : Prop := ∀ g q t n, rightR r 0 d g = some q → altStop t → (textR r ++ t).length < n → altP (grpP (64 - d)) n [] (textR r ++ t) g = .ok (r, t, q)
theorem piece_stop {r : Re} {G : Grp} {l t : Bs} {g q : Nat} (ht : noRep t) (h : atomP G l g = .ok (r, t, q)) : pieceP G l g = .ok (r, t, q) := by
  unfold pieceP
  rw [h]
  cases t with
  | nil => rfl
  | cons c t =>
    have := ht c t rfl
    simp [this]
theorem text4 (l : List Re) (i : Nat) : textL l 4 i = l.flatMap textR := by
  induction l generalizing i with
  | nil => rfl
  | cons x l ih =>
    rw [textL, ih, List.flatMap_cons]
    unfold sepT
    rw [if_neg (by omega)]
    rfl
theorem row_list (d : Nat) : ∀ (l acc : List Re) (g q n : Nat) (t : Bs), (∀ x ∈ l, PieceOk x d) → (∀ x ∈ l, SetsOk x) → rightL l 2 d g = some q → rowStop t → (l.flatMap textR ++ t).length < n →
    rowP (grpP (64 - d)) n acc (l.flatMap textR ++ t) g = .ok (several 4 (acc ++ l), t, q) := by
  intro l
  induction l with
  | nil =>
    intro acc g q n t _ _ h ht hn
    rw [rightL] at h
    injection h with h
    subst h
    cases n with
    | zero => omega
    | succ n =>
      rw [rowP]
      have : rowEnd (([] : List Re).flatMap textR ++ t) = true := ht
      rw [if_pos this]
      simp
  | cons x l ih =>
    intro acc g q n t hp hs h ht hn
    rw [rightL] at h
    cases hx : rightR x 2 d g with
    | none => rw [hx] at h; cases h
    | some g1 =>
      rw [hx] at h
      have h : rightL l 2 d g1 = some q := h
      obtain ⟨c, s, e, h1, h2, h3⟩ := first_piece _ x (Nat.le_refl _) 2 d g g1 (hs x (List.mem_cons_self ..)) (by omega) hx
      have hnr : noRep (l.flatMap textR ++ t) := by
        cases l with
        | nil => exact stop_rep ht
        | cons y l =>
          rw [rightL] at h
          cases hy : rightR y 2 d g1 with
          | none => rw [hy] at h; cases h
          | some g2 =>
            obtain ⟨c2, s2, e2, h4, _, _⟩ := first_piece _ y (Nat.le_refl _) 2 d g1 g2 (hs y (List.mem_cons_of_mem _ (List.mem_cons_self ..))) (by omega) hy
            rintro c' s' e'
            rw [List.flatMap_cons, e2] at e'
            injection e' with e' _
            rw [← e']; exact h4
      cases n with
      | zero => omega
      | succ n =>
        rw [List.flatMap_cons, List.append_assoc] at hn ⊢
        have hpx := hp x (List.mem_cons_self ..) g g1 (l.flatMap textR ++ t) hx hnr
        rw [rowP, if_neg (by rw [e]; simp [rowEnd, h2, h3]), hpx]
        show rowP _ n (acc ++ [x]) _ g1 = _
        rw [ih (acc ++ [x]) g1 q n t (fun y hy => hp y (List.mem_cons_of_mem _ hy)) (fun y hy => hs y (List.mem_cons_of_mem _ hy)) h ht (by rw [e] at hn; simp at hn ⊢; omega)]
        simp
theorem alt_list (d : Nat) : ∀ (l : List Re) (x : Re) (i : Nat) (acc : List Re) (g q n : Nat) (t : Bs), (∀ y ∈ x :: l, RowOk y d) → rightL (x :: l) 1 d g = some q → altStop t → (textR x ++ textL l 5 (i + 1) ++ t).length < n →
    altP (grpP (64 - d)) n acc (textR x ++ textL l 5 (i + 1) ++ t) g = .ok (several 5 (acc ++ x :: l), t, q) := by
  intro l
  induction l with
  | nil =>
    intro x i acc g q n t hp h ht hn
    rw [rightL] at h
    cases hx : rightR x 1 d g with
    | none => rw [hx] at h; cases h
    | some g1 =>
      rw [hx] at h
      have h : some g1 = some q := h
      injection h with h
      subst h
      cases n with
      | zero => omega
      | succ n =>
        rw [textL, List.append_nil] at hn ⊢
        rw [altP, hp x (List.mem_cons_self ..) g g1 t _ hx (stop_row ht) (Nat.lt_succ_self _)]
        show (if t.head? == some 124 then _ else _) = _
        rw [if_neg (by rcases ht with rfl | ⟨s, rfl⟩ <;> simp)]
  | cons y l ih =>
    intro x i acc g q n t hp h ht hn
    rw [rightL] at h
    cases hx : rightR x 1 d g with
    | none => rw [hx] at h; cases h
    | some g1 =>
      rw [hx] at h
      have h : rightL (y :: l) 1 d g1 = some q := h
      have e : textR x ++ textL (y :: l) 5 (i + 1) ++ t = textR x ++ (124 :: (textR y ++ textL l 5 (i + 1 + 1) ++ t)) := by
        rw [textL]
        unfold sepT
        rw [if_pos ⟨by omega, rfl⟩]
        simp
      rw [e] at hn ⊢
      cases n with
      | zero => omega
      | succ n =>
        rw [altP, hp x (List.mem_cons_self ..) g g1 _ _ hx (bar_row _) (Nat.lt_succ_self _)]
        show (if (124 :: (textR y ++ textL l 5 (i + 1 + 1) ++ t) : Bs).head? == some 124 then _ else _) = _
        rw [if_pos (by simp)]
        show altP _ n (acc ++ [x]) (textR y ++ textL l 5 (i + 1 + 1) ++ t) g1 = _
        rw [ih y (i + 1) (acc ++ [x]) g1 q n t (fun z hz => hp z (List.mem_cons_of_mem _ hz)) h ht (by simp at hn ⊢; omega)]
        simp
theorem several_of (k : Int) (l : List Re) (h : 1 < l.length) : several k l = .mk k 0 l 0 0 0 := by
  match l, h with
  | _ :: _ :: _, _ => rfl
theorem right_up {r : Re} {lv lv' d g q : Nat} (h : rightR r lv d g = some q) (hl : lv' ≤ lv) : rightR r lv' d g = some q := by
  obtain ⟨k, s, kids, lo, hi, n⟩ := r
  have hb := right_bare h
  rw [rightR, if_neg (by rw [hb]; decide)] at h ⊢
  by_cases k0 : k = 0
  · rw [if_pos k0] at h ⊢
    split at h
    · next hc => rw [if_pos ⟨by omega, hc.2⟩]; exact h
    · cases h
  rw [if_neg k0] at h ⊢
  by_cases k1 : k = 1
  · rw [if_pos k1] at h ⊢; exact h
  rw [if_neg k1] at h ⊢
  by_cases k2 : k = 2 ∨ k = 3
  · rw [if_pos k2] at h ⊢
    split at h
    · next hc => rw [if_pos ⟨by omega, hc.2⟩]; exact h
    · cases h
  rw [if_neg k2] at h ⊢
  by_cases k4 : k = 4
  · rw [if_pos k4] at h ⊢
    split at h
    · next hc => rw [if_pos ⟨by omega, hc.2⟩]; exact h
    · cases h
  rw [if_neg k4] at h ⊢
  by_cases k5 : k = 5
  · rw [if_pos k5] at h ⊢
    split at h
    · next hc => rw [if_pos ⟨by omega, hc.2⟩]; exact h
    · cases h
  rw [if_neg k5] at h ⊢
  by_cases k6 : k = 6
  · rw [if_pos k6] at h ⊢
    split at h
    · next hc => rw [if_pos ⟨by omega, hc.2⟩]; exact h
    · cases h
  rw [if_neg k6] at h ⊢
  exact h
theorem all_ok : ∀ (N : Nat) (r : Re), nodesR r ≤ N → SetsOk r → ∀ d, d ≤ 64 → AtomOk r d ∧ PieceOk r d ∧ RowOk r d ∧ AltOk r d := by
  intro N
  induction N with
  | zero => intro r h; cases r; simp [nodesR] at h
  | succ N ih =>
    intro r hN hs d hd
    obtain ⟨k, s, kids, lo, hi, n⟩ := r
    rw [SetsOk] at hs
    have hN2 : nodesL kids ≤ N := by simp [nodesR] at hN; omega
    have hkid : ∀ x ∈ kids, nodesR x ≤ N := by
      intro x hx
      obtain ⟨i, hi, rfl⟩ := List.getElem_of_mem hx
      have := nodes_kid kids i hi
      omega
    have hA : AtomOk (.mk k s kids lo hi n) d := by
      intro g q t h
      rcases right_ways h with ⟨rfl, h1, _⟩ | ⟨rfl, rfl, rfl, rfl, rfl, rfl⟩ | ⟨_, h1, _⟩ | ⟨rfl, h1, _⟩ | ⟨rfl, h1, _⟩ | ⟨rfl, h1, _⟩ | ⟨rfl, hn, hd2, ⟨x, rfl, hx⟩, rfl, rfl, rfl⟩
      · omega
      · have e : textR (.mk 1 s [] 0 0 0) = setB s := by rw [textR, textL]; show setB s ++ ([] ++ []) = _; simp
        rw [e]
        exact atom_set _ s hs.1 t q
      · omega
      · omega
      · omega
      · omega
      · have e : textR (.mk 7 0 [x] 0 0 n) ++ t = 40 :: (textR x ++ 41 :: t) := by
          rw [textR, text_one]
          show ([40] ++ (textR x ++ [41])) ++ t = _
          simp
        rw [e]
        obtain ⟨D, hD⟩ : ∃ D, 64 - d = D + 1 := ⟨64 - d - 1, by omega⟩
        have hx2 := (ih x (hkid x (List.mem_singleton.2 rfl)) (hs.2 x (List.mem_singleton.2 rfl)) (d + 1) (by omega)).2.2.2 (g + 1) q (41 :: t) ((textR x ++ 41 :: t).length + 1) hx (Or.inr ⟨t, rfl⟩) (Nat.lt_succ_self _)
        rw [show 64 - (d + 1) = D by omega] at hx2
        rw [hD, atomP.eq_def]
        simp only [isRep]
        rw [grpP]
        show (match altP (grpP D) ((textR x ++ 41 :: t).length + 1) [] (textR x ++ 41 :: t) (g + 1) with
          | .error e => (.error e : R3 Re)
          | .ok (x, r', g') => match r' with
            | [] => .error ([], 1)
            | c :: r2 => if c == 41 then .ok (.mk 7 0 [x] 0 0 (numG g), r2, g') else .error (c :: r2, 1)) = _
        rw [hx2, hn]
        rfl
    have hP : PieceOk (.mk k s kids lo hi n) d := by
      intro g q t h ht
      rcases right_ways h with ⟨rfl, h1, _⟩ | ⟨rfl, rfl, rfl, rfl, rfl, rfl⟩ | ⟨hk, _, rfl, rfl, rfl, rfl, rfl, rfl⟩ | ⟨rfl, h1, _⟩ | ⟨rfl, h1, _⟩ | ⟨rfl, _, hin, ⟨x, rfl, hx⟩, rfl, rfl⟩ | ⟨rfl, hn, hd2, ⟨x, rfl, hx⟩, rfl, rfl, rfl⟩
      · omega
      · exact piece_stop ht (hA q q t (by rw [right_1 (by rfl)]; rfl))
      · refine piece_stop ht ?_
        rcases hk with rfl | rfl
        · show atomP _ (94 :: t) q = _
          rw [atomP.eq_def]; simp [isRep]
        · show atomP _ (36 :: t) q = _
          rw [atomP.eq_def]; simp [isRep]
      · omega
      · omega
      · have hx2 := (ih x (hkid x (List.mem_singleton.2 rfl)) (hs.2 x (List.mem_singleton.2 rfl)) d hd).1 g q (signB lo hi ++ t) hx
        have e : textR (.mk 6 0 [x] lo hi 0) ++ t = textR x ++ (signB lo hi ++ t) := by
          rw [textR, text_one]
          show ([] ++ (textR x ++ signB lo hi)) ++ t = _
          simp
        rw [e]
        refine rep_text x ?_ lo hi hin t q _ _ _ hx2
        obtain ⟨k', s', kids', lo', hi', n'⟩ := x
        show ¬ (k' = 2 ∨ k' = 3)
        rcases right_ways hx with ⟨rfl, _⟩ | ⟨rfl, _⟩ | ⟨_, h1, _⟩ | ⟨rfl, _⟩ | ⟨rfl, _⟩ | ⟨rfl, _⟩ | ⟨rfl, _⟩ <;> omega
      · exact piece_stop ht (hA g q t (by
          have hb := right_bare h
          rw [right_7 hb] at h ⊢
          exact h))
    have hW : RowOk (.mk k s kids lo hi n) d := by
      intro g q t m h ht hm
      have one : (∃ q', rightR (.mk k s kids lo hi n) 2 d g = some q') → rowP (grpP (64 - d)) m [] (textR (.mk k s kids lo hi n) ++ t) g = .ok (.mk k s kids lo hi n, t, q) := by
        rintro ⟨q', h2⟩
        have : q' = q := by
          have h3 := right_up h2 (show 1 ≤ 2 by omega)
          rw [h] at h3
          injection h3 with h3
          exact h3.symm
        subst this
        have := row_list d [.mk k s kids lo hi n] [] g q' m t (by intro x hx; rw [List.mem_singleton.1 hx]; exact hP) (by intro x hx; rw [List.mem_singleton.1 hx, SetsOk]; exact hs) (by rw [rightL, h2]; rfl) ht (by simpa using hm)
        rw [show [Re.mk k s kids lo hi n].flatMap textR = textR (.mk k s kids lo hi n) by simp, List.nil_append] at this
        exact this
      rcases right_ways h with ⟨rfl, h1, rfl, rfl, rfl, rfl, rfl, rfl⟩ | ⟨rfl, rfl, rfl, rfl, rfl, rfl⟩ | ⟨hk, _, rfl, rfl, rfl, rfl, rfl, rfl⟩ | ⟨rfl, h1, hl, rfl, rfl, rfl, rfl, hr⟩ | ⟨rfl, h1, _⟩ | ⟨rfl, _, hin, ⟨x, rfl, hx⟩, rfl, rfl⟩ | ⟨rfl, hn, hd2, ⟨x, rfl, hx⟩, rfl, rfl, rfl⟩
      · have := row_list d [] [] q q m t (by simp) (by simp) rfl ht hm
        exact this
      · exact one ⟨q, by rw [right_1 (by rfl)]; rfl⟩
      · rcases hk with rfl | rfl
        · exact one ⟨q, by rw [right_2 (by rfl)]; rfl⟩
        · exact one ⟨q, by rw [right_3 (by rfl)]; rfl⟩
      · have e : textR (.mk 4 0 kids 0 0 0) = kids.flatMap textR := by
          rw [textR, text4]
          show [] ++ (kids.flatMap textR ++ []) = _
          simp
        rw [e] at hm ⊢
        have := row_list d kids [] g q m t (fun x hx => (ih x (hkid x hx) (hs.2 x hx) d hd).2.1) hs.2 hr ht hm
        rw [this, List.nil_append, several_of 4 kids hl]
      · omega
      · exact one ⟨q, by
          have hb := right_bare h
          rw [right_6 hb, if_pos ⟨by omega, hin, rfl⟩, rightL, hx]; rfl⟩
      · exact one ⟨q, by
          have hb := right_bare h
          rw [right_7 hb] at h ⊢
          exact h⟩
    refine ⟨hA, hP, hW, ?_⟩
    intro g q t m h ht hm
    have one : (∃ q', rightR (.mk k s kids lo hi n) 1 d g = some q') → altP (grpP (64 - d)) m [] (textR (.mk k s kids lo hi n) ++ t) g = .ok (.mk k s kids lo hi n, t, q) := by
      rintro ⟨q', h2⟩
      have : q' = q := by
        have h3 := right_up h2 (show 0 ≤ 1 by omega)
        rw [h] at h3
        injection h3 with h3
        exact h3.symm
      subst this
      have := alt_list d [] (.mk k s kids lo hi n) 0 [] g q' m t (by intro x hx; rw [List.mem_singleton.1 hx]; exact hW) (by rw [rightL, h2]; rfl) ht (by rw [textL, List.append_nil]; exact hm)
      rw [textL, List.append_nil] at this
      exact this
    rcases right_ways h with ⟨rfl, h1, rfl, rfl, rfl, rfl, rfl, rfl⟩ | ⟨rfl, rfl, rfl, rfl, rfl, rfl⟩ | ⟨hk, _, rfl, rfl, rfl, rfl, rfl, rfl⟩ | ⟨rfl, h1, hl, rfl, rfl, rfl, rfl, hr⟩ | ⟨rfl, h1, hl, rfl, rfl, rfl, rfl, hr⟩ | ⟨rfl, _, hin, ⟨x, rfl, hx⟩, rfl, rfl⟩ | ⟨rfl, hn, hd2, ⟨x, rfl, hx⟩, rfl, rfl, rfl⟩
    · exact one ⟨q, by rw [right_0 (by rfl)]; rfl⟩
    · exact one ⟨q, by rw [right_1 (by rfl)]; rfl⟩
    · rcases hk with rfl | rfl
      · exact one ⟨q, by rw [right_2 (by rfl)]; rfl⟩
      · exact one ⟨q, by rw [right_3 (by rfl)]; rfl⟩
    · exact one ⟨q, by
        have hb := right_bare h
        rw [right_4 hb, if_pos ⟨by omega, hl⟩]; exact hr⟩
    · match kids, hl, hr with
      | x :: l, hl, hr =>
        have e : textR (.mk 5 0 (x :: l) 0 0 0) = textR x ++ textL l 5 (0 + 1) := by
          rw [textR, textL]
          unfold sepT
          rw [if_neg (by omega)]
          show [] ++ (([] ++ (textR x ++ textL l 5 (0 + 1))) ++ []) = _
          simp
        rw [e] at hm ⊢
        have := alt_list d l x 0 [] g q m t (fun y hy => (ih y (hkid y hy) (hs.2 y hy) d hd).2.2.1) hr ht hm
        rw [this, List.nil_append, several_of 5 _ hl]
    · exact one ⟨q, by
        have hb := right_bare h
        rw [right_6 hb, if_pos ⟨by omega, hin, rfl⟩, rightL, hx]; rfl⟩
    · exact one ⟨q, by
        have hb := right_bare h
        rw [right_7 hb] at h ⊢
        exact h⟩
/-- A printed tree is parsed back. -/
theorem parse_print (r : Re) (hs : SetsOk r) (q : Nat) (h : rightR r 0 0 0 = some q) (hl : (textR r).length ≤ 200) : parseP (textR r) = .ok r := by
  have h1 := (all_ok _ r (Nat.le_refl _) hs 0 (by omega)).2.2.2 0 q [] ((textR r).length + 1) h (Or.inl rfl) (by simp)
  rw [List.append_nil] at h1
  unfold parseP
  rw [if_neg (by omega)]
  have h1 : altP (grpP 64) ((textR r).length + 1) [] (textR r) 0 = .ok (r, [], q) := h1
  rw [h1]
  rfl
end EreX
end Go.Proofs.YtpdmjegbjcefjaaDoor
namespace Go.Proofs.YtpdmjegbjcefjaaDoor
set_option linter.unusedVariables false
set_option linter.unusedSimpArgs false
open Go.RowKit
namespace EreX
open EreP EreW
/-- The reference's level. -/
def lvF (lv : Nat) : Nat := if lv = 3 then 4 else lv
/-- What Form leaves. -/
def FPost (spec : Option Nat) (w : World) (x : Ending) (w' : World) : Prop := ∃ m : Nat, x = .returned (.tuple #[.bool spec.isSome, .int .i64 m]) ∧ (∀ q, spec = some q → m = q) ∧ Below w.heap.size w w'
theorem FPost.no {w w' : World} (m : Nat) (hb : Below w.heap.size w w') : FPost none w (.returned (.tuple #[.bool false, .int .i64 m])) w' := ⟨m, rfl, fun _ e => (by cases e), hb⟩
theorem FPost.yes {w w' : World} (m : Nat) (hb : Below w.heap.size w w') : FPost (some m) w (.returned (.tuple #[.bool true, .int .i64 m])) w' := ⟨m, rfl, fun q e => (by injection e), hb⟩
/-- What Form does, at such a list's kids. -/
def FormC (K : Nat → Prop) (l : List Re) : Prop := ∀ (i : Nat) (h : i < l.length) (w : World) (cs : List Value) (lv d g : Nat), Rt w K (l[i]'h) cs → d ≤ 64 → lv ≤ 3 → g + nodesR (l[i]'h) ≤ 4611686018427387904 →
  Calls Tryd.prog 49 #[.agg cs.toArray, .int .i64 (lvF lv : Nat), .int .i64 d, .int .i64 g] w (FPost (rightR (l[i]'h) lv d g) w)
end EreX
end Go.Proofs.YtpdmjegbjcefjaaDoor
