/- Where codes may go, in plain words: rising lists of numbers, what follows a place, what may be reached. No program. No condition. -/
import Derived.Lib.SlicesCompact
namespace Go.Proofs.Ytdgonjncoggfeaa
set_option linter.unusedVariables false
set_option linter.unusedSimpArgs false
namespace FloP
/-- Rising. -/
abbrev Inc (l : List Int) : Prop := l.Pairwise (· < ·)
theorem inc_ext : ∀ {a b : List Int}, Inc a → Inc b → (∀ x, x ∈ a ↔ x ∈ b) → a = b := by
  intro a
  induction a with
  | nil =>
    intro b _ _ h
    cases b with
    | nil => rfl
    | cons y b => exact absurd ((h y).2 (List.mem_cons_self ..)) (by simp)
  | cons x a ih =>
    intro b ha hb h
    cases b with
    | nil => exact absurd ((h x).1 (List.mem_cons_self ..)) (by simp)
    | cons y b =>
      obtain ⟨ha1, ha2⟩ := List.pairwise_cons.1 ha
      obtain ⟨hb1, hb2⟩ := List.pairwise_cons.1 hb
      have hxy : x = y := by
        have h1 := (h x).1 (List.mem_cons_self ..)
        have h2 := (h y).2 (List.mem_cons_self ..)
        rw [List.mem_cons] at h1 h2
        rcases h1 with h1 | h1
        · exact h1
        · rcases h2 with h2 | h2
          · exact h2.symm
          · have := hb1 x h1
            have := ha1 y h2
            omega
      subst hxy
      congr 1
      refine ih ha2 hb2 (fun z => ?_)
      have hz := h z
      rw [List.mem_cons, List.mem_cons] at hz
      constructor
      · intro hm
        have := ha1 z hm
        rcases hz.1 (.inr hm) with e | e
        · omega
        · exact e
      · intro hm
        have := hb1 z hm
        rcases hz.2 (.inr hm) with e | e
        · omega
        · exact e
/-- A number in its place, once. -/
def putS (n : Int) : List Int → List Int
  | [] => [n]
  | x :: l => if x < n then x :: putS n l else if x = n then x :: l else n :: x :: l
theorem mem_put (n x : Int) : ∀ l : List Int, x ∈ putS n l ↔ x = n ∨ x ∈ l := by
  intro l
  induction l with
  | nil => simp [putS]
  | cons y l ih =>
    rw [putS]
    split
    · rw [List.mem_cons, ih, List.mem_cons]
      constructor
      · rintro (h | h | h)
        · exact .inr (.inl h)
        · exact .inl h
        · exact .inr (.inr h)
      · rintro (h | h | h)
        · exact .inr (.inl h)
        · exact .inl h
        · exact .inr (.inr h)
    split
    · rename_i h
      subst h
      simp
    · simp
theorem inc_put (n : Int) : ∀ l : List Int, Inc l → Inc (putS n l) := by
  intro l
  induction l with
  | nil => intro _; simp [putS]
  | cons y l ih =>
    intro h
    obtain ⟨h1, h2⟩ := List.pairwise_cons.1 h
    rw [putS]
    split
    · refine List.pairwise_cons.2 ⟨fun z hz => ?_, ih h2⟩
      rcases (mem_put n z l).1 hz with rfl | hz
      · assumption
      · exact h1 z hz
    split
    · exact h
    · refine List.pairwise_cons.2 ⟨fun z hz => ?_, h⟩
      rcases List.mem_cons.1 hz with rfl | hz
      · omega
      · have := h1 z hz; omega
theorem put_len (n : Int) : ∀ l : List Int, (putS n l).length ≤ l.length + 1 := by
  intro l
  induction l with
  | nil => simp [putS]
  | cons y l ih =>
    rw [putS]
    split
    · simp; omega
    split <;> simp
/-- How the place is found. -/
theorem put_at (n : Int) : ∀ (l : List Int) (k : Nat), k ≤ l.length → (∀ j x, j < k → l[j]? = some x → x < n) → (∀ y, l[k]? = some y → ¬ y < n) →
    putS n l = if l[k]? = some n then l else l.take k ++ n :: l.drop k := by
  intro l
  induction l with
  | nil =>
    intro k hk _ _
    obtain rfl : k = 0 := by simpa using hk
    simp [putS]
  | cons x l ih =>
    intro k hk h1 h2
    cases k with
    | zero =>
      have hx : ¬ x < n := h2 x rfl
      rw [putS, if_neg hx]
      by_cases he : x = n
      · subst he; simp
      · rw [if_neg he, if_neg (by simpa using he)]; simp
    | succ k =>
      have hx : x < n := h1 0 x (by omega) rfl
      rw [putS, if_pos hx, ih k (by simpa using hk) (fun j y hj hy => h1 (j + 1) y (by omega) (by simpa using hy)) (fun y hy => h2 y (by simpa using hy))]
      rw [List.getElem?_cons_succ]
      split <;> simp
def putAll (l xs : List Int) : List Int := xs.foldl (fun l n => putS n l) l
theorem mem_putAll (x : Int) : ∀ (xs l : List Int), x ∈ putAll l xs ↔ x ∈ l ∨ x ∈ xs := by
  intro xs
  induction xs with
  | nil => intro l; simp [putAll]
  | cons y xs ih =>
    intro l
    have e : putAll l (y :: xs) = putAll (putS y l) xs := rfl
    rw [e, ih, mem_put, List.mem_cons]
    constructor
    · rintro ((h | h) | h)
      · exact .inr (.inl h)
      · exact .inl h
      · exact .inr (.inr h)
    · rintro (h | h | h)
      · exact .inl (.inr h)
      · exact .inl (.inl h)
      · exact .inr h
theorem inc_putAll : ∀ (xs l : List Int), Inc l → Inc (putAll l xs) := by
  intro xs
  induction xs with
  | nil => intro l h; exact h
  | cons y xs ih => intro l h; exact ih _ (inc_put y l h)
theorem putAll_len : ∀ (xs l : List Int), (putAll l xs).length ≤ l.length + xs.length := by
  intro xs
  induction xs with
  | nil => intro l; simp [putAll]
  | cons y xs ih =>
    intro l
    have e : putAll l (y :: xs) = putAll (putS y l) xs := rfl
    rw [e]
    have := ih (putS y l)
    have := put_len y l
    simp only [List.length_cons]; omega
theorem putAll_app (l xs ys : List Int) : putAll l (xs ++ ys) = putAll (putAll l xs) ys := by unfold putAll; rw [List.foldl_append]
/-! Sorted, and each once. -/
theorem compact_up {zs : List Int} (h : zs.Pairwise (· ≤ ·)) : ∀ m, m ≤ zs.length → Inc (Lib.compactUpTo zs.toArray m) ∧ (∀ x, x ∈ Lib.compactUpTo zs.toArray m ↔ x ∈ zs.take m) := by
  intro m
  induction m with
  | zero => intro _; simp [Lib.compactUpTo]
  | succ m ih =>
    intro hm
    obtain ⟨h1, h2⟩ := ih (by omega)
    have hg : ∀ (j : Nat) (hj : j < zs.length), (zs.toArray[j]! : Int) = zs[j]'hj := fun j hj => by
      rw [getElem!_pos zs.toArray j (by simpa using hj)]; simp
    have hle : ∀ (i j : Nat) (hi : i < zs.length) (hj : j < zs.length), i < j → zs[i]'hi ≤ zs[j]'hj := fun i j hi hj hij => List.pairwise_iff_getElem.1 h i j hi hj hij
    have ht : zs.take (m + 1) = zs.take m ++ [zs[m]'(by omega)] := by rw [List.take_succ_eq_append_getElem (by omega)]
    rw [Lib.compactUpTo_succ, hg m (by omega)]
    by_cases hk : Lib.keeps zs.toArray m = true
    · rw [if_pos hk, ht]
      unfold Lib.keeps at hk
      rw [decide_eq_true_iff] at hk
      refine ⟨?_, fun x => by rw [List.mem_append, List.mem_append, h2]⟩
      rw [Inc, List.pairwise_append]
      refine ⟨h1, by simp, fun a ha b hb => ?_⟩
      rw [List.mem_singleton] at hb
      subst hb
      rw [h2, List.mem_take_iff_getElem] at ha
      obtain ⟨i, hi, rfl⟩ := ha
      have him : i < m := by omega
      rcases hk with hk | hk
      · omega
      · rw [hg m (by omega), hg (m - 1) (by omega)] at hk
        have h3 : zs[m - 1]'(by omega) ≤ zs[m]'(by omega) := hle (m - 1) m (by omega) (by omega) (by omega)
        have h4 : zs[i]'(by omega) ≤ zs[m - 1]'(by omega) := by
          rcases Nat.lt_or_ge i (m - 1) with h | h
          · exact hle i (m - 1) (by omega) (by omega) h
          · have : i = m - 1 := by omega
            subst this; exact Int.le_refl _
        omega
    · rw [if_neg hk, List.append_nil, ht]
      unfold Lib.keeps at hk
      rw [decide_eq_true_iff, not_or] at hk
      have hm0 : 0 < m := by omega
      have he := hk.2
      rw [hg m (by omega), hg (m - 1) (by omega), Decidable.not_not] at he
      refine ⟨h1, fun x => ?_⟩
      rw [h2, List.mem_append, List.mem_singleton]
      constructor
      · exact .inl
      · rintro (h | rfl)
        · exact h
        · rw [he, List.mem_take_iff_getElem]
          exact ⟨m - 1, by omega, rfl⟩
def normL (zs : List Int) : List Int := Lib.compact (zs.mergeSort fun x y => decide (x ≤ y))
theorem sort_le (zs : List Int) : (zs.mergeSort fun x y => decide (x ≤ y)).Pairwise (· ≤ ·) := by
  have := List.pairwise_mergeSort (le := fun x y : Int => decide (x ≤ y)) (by intro a b c h1 h2; simp at *; omega) (by intro a b; simp; omega) zs
  exact this.imp (by intro a b h; simpa using h)
theorem norm_inc (zs : List Int) : Inc (normL zs) := (compact_up (sort_le zs) _ (Nat.le_refl _)).1
theorem norm_mem (zs : List Int) (x : Int) : x ∈ normL zs ↔ x ∈ zs := by
  unfold normL Lib.compact
  rw [(compact_up (sort_le zs) _ (Nat.le_refl _)).2, List.take_length, List.mem_mergeSort]
theorem norm_put (zs : List Int) : putAll [] zs = normL zs :=
  inc_ext (inc_putAll zs [] (by simp)) (norm_inc zs) (fun x => by rw [mem_putAll, norm_mem]; simp)
theorem norm_len (zs : List Int) : (normL zs).length ≤ zs.length := by
  rw [← norm_put]; have := putAll_len zs []; simpa using this
/-! What follows. -/
/-- An instruction: its op, where it goes, its list. -/
abbrev In := Int × Int × List Int
/-- A rule: where it goes on, and whether it is an expect's own one. -/
abbrev Wt := Int × Bool
def placesF (ops : List Int) (further : Int) (i : Nat) : List In → List Int
  | [] => []
  | x :: l => if x.1 ∈ ops then ((i : Int) + further) :: placesF ops further (i + 1) l else placesF ops further (i + 1) l
def listT (W : List Wt) (ks : List Int) : List Int := ks.filterMap (fun k : Int => if 0 ≤ k ∧ k < (W.length : Int) then (W[k.toNat]?).map (fun w => w.1) else none)
def openT (W : List Wt) : List Int := W.filterMap fun w => if w.2 = true then none else some w.1
/-- What follows a place, in the order in which the program comes to it. -/
def rawN (I : List In) (W : List Wt) (p : Int) : List Int :=
  if p < 0 ∨ I.length ≤ p then [] else match I[p.toNat]? with
  | none => []
  | some (op, a, ks) =>
    if op = 4 ∨ op = 6 then [a]
    else if op = 5 then [p + 1, a]
    else if op = 7 then placesF [6, 12] 1 0 I
    else if op = 15 then placesF [12] 0 0 I
    else if op = 12 then (p + 1) :: (listT W ks ++ openT W)
    else if op < 1 ∨ 16 ≤ op then [] else [p + 1]
def nextN (I : List In) (W : List Wt) (p : Int) : List Int := normL (rawN I W p)
theorem places_len (ops : List Int) (f : Int) : ∀ (l : List In) (i : Nat), (placesF ops f i l).length ≤ l.length := by
  intro l
  induction l with
  | nil => intro i; simp [placesF]
  | cons x l ih => intro i; rw [placesF]; have := ih (i + 1); split <;> simp <;> omega
theorem places_snoc (ops : List Int) (f : Int) (x : In) : ∀ (l : List In) (i : Nat), placesF ops f i (l ++ [x]) = placesF ops f i l ++ (if x.1 ∈ ops then [((i + l.length : Nat) : Int) + f] else []) := by
  intro l
  induction l with
  | nil => intro i; simp [placesF]
  | cons y l ih =>
    intro i
    rw [List.cons_append, placesF, placesF, ih (i + 1), List.length_cons, show i + 1 + l.length = i + (l.length + 1) by omega]
    split <;> simp
theorem filterMap_len {α β : Type} (f : α → Option β) (l : List α) : (l.filterMap f).length ≤ l.length := List.length_filterMap_le f l
theorem raw_len (I : List In) (W : List Wt) (p : Int) (h : ∀ x ∈ I, x.2.2.length ≤ 12) : (rawN I W p).length ≤ I.length + W.length + 14 := by
  unfold rawN
  split
  · simp
  split
  · simp
  · rename_i op a ks e
    have hk := h _ (List.mem_of_getElem? e)
    simp only at hk
    have h1 := places_len [6, 12] 1 I 0
    have h2 := places_len [12] 0 I 0
    have h3 : (listT W ks).length ≤ ks.length := filterMap_len _ _
    have h4 : (openT W).length ≤ W.length := filterMap_len _ _
    split
    · simp
    split
    · simp
    split
    · omega
    split
    · omega
    split
    · simp; omega
    split <;> simp
/-! What may be reached. -/
inductive Rch (I : List In) (W : List Wt) : Int → Prop where
  | start (h : 0 < I.length) : Rch I W 0
  | step {i j : Int} (h : Rch I W i) (hj : j ∈ nextN I W i) (h0 : 0 ≤ j) (h1 : j < I.length) : Rch I W j
/-- What a search keeps: what is marked, and what is to be looked at. -/
structure Srch (I : List In) (W : List Wt) (M : Int → Prop) (todo : List Int) : Prop where
  good : ∀ i, M i → Rch I W i
  from_ : ∀ t ∈ todo, t = 0 ∨ ∃ i, M i ∧ t ∈ nextN I W i
  closed : ∀ i, M i → ∀ j ∈ nextN I W i, (j < 0 ∨ (I.length : Int) ≤ j) ∨ M j ∨ j ∈ todo
  zero : (I.length : Int) ≤ 0 ∨ M 0 ∨ 0 ∈ todo
theorem Srch.init (I : List In) (W : List Wt) : Srch I W (fun _ => False) [0] :=
  ⟨fun i h => h.elim, fun t ht => .inl (by simpa using ht), fun i h => h.elim, .inr (.inr (by simp))⟩
theorem Srch.skip {I : List In} {W : List Wt} {M : Int → Prop} {todo todo' : List Int} {t : Int} (h : Srch I W M todo) (hm : ∀ x, x ∈ todo ↔ x = t ∨ x ∈ todo') (ht : (t < 0 ∨ (I.length : Int) ≤ t) ∨ M t) : Srch I W M todo' := by
  refine ⟨h.good, fun x hx => h.from_ x ((hm x).2 (.inr hx)), fun i hi j hj => ?_, ?_⟩
  · rcases h.closed i hi j hj with a | a | a
    · exact .inl a
    · exact .inr (.inl a)
    · rcases (hm j).1 a with rfl | a
      · rcases ht with b | b
        · exact .inl b
        · exact .inr (.inl b)
      · exact .inr (.inr a)
  · rcases h.zero with a | a | a
    · exact .inl a
    · exact .inr (.inl a)
    · rcases (hm 0).1 a with rfl | a
      · rcases ht with b | b
        · exact .inl (by omega)
        · exact .inr (.inl b)
      · exact .inr (.inr a)
theorem Srch.mark {I : List In} {W : List Wt} {M M' : Int → Prop} {todo todo' : List Int} {t : Int} (h : Srch I W M todo) (hm : ∀ x, x ∈ todo ↔ x = t ∨ x ∈ todo') (ht0 : 0 ≤ t) (ht1 : t < I.length) (hM : ∀ i, M' i ↔ i = t ∨ M i) {todo2 : List Int} (h2 : ∀ x, x ∈ todo2 ↔ x ∈ todo' ∨ x ∈ nextN I W t) : Srch I W M' todo2 := by
  have hgood : Rch I W t := by
    rcases h.from_ t ((hm t).2 (.inl rfl)) with e | ⟨i, hi, hj⟩
    · rw [e]; exact .start (by omega)
    · exact .step (h.good i hi) hj ht0 ht1
  refine ⟨fun i hi => ?_, fun x hx => ?_, fun i hi j hj => ?_, ?_⟩
  · rcases (hM i).1 hi with rfl | hi
    · exact hgood
    · exact h.good i hi
  · rcases (h2 x).1 hx with hx | hx
    · rcases h.from_ x ((hm x).2 (.inr hx)) with e | ⟨i, hi, hj⟩
      · exact .inl e
      · exact .inr ⟨i, (hM i).2 (.inr hi), hj⟩
    · exact .inr ⟨t, (hM t).2 (.inl rfl), hx⟩
  · rcases (hM i).1 hi with rfl | hi
    · exact .inr (.inr ((h2 j).2 (.inr hj)))
    · rcases h.closed i hi j hj with a | a | a
      · exact .inl a
      · exact .inr (.inl ((hM j).2 (.inr a)))
      · rcases (hm j).1 a with rfl | a
        · exact .inr (.inl ((hM j).2 (.inl rfl)))
        · exact .inr (.inr ((h2 j).2 (.inl a)))
  · rcases h.zero with a | a | a
    · exact .inl a
    · exact .inr (.inl ((hM 0).2 (.inr a)))
    · rcases (hm 0).1 a with rfl | a
      · exact .inr (.inl ((hM 0).2 (.inl rfl)))
      · exact .inr (.inr ((h2 0).2 (.inl a)))
theorem Srch.done {I : List In} {W : List Wt} {M : Int → Prop} (h : Srch I W M []) (i : Int) : M i ↔ Rch I W i := by
  refine ⟨h.good i, fun hr => ?_⟩
  induction hr with
  | start h0 =>
    rcases h.zero with a | a | a
    · omega
    · exact a
    · cases a
  | step _ hj h0 h1 ih =>
    rcases h.closed _ ih _ hj with (a | a) | a | a
    · omega
    · omega
    · exact a
    · cases a
theorem rch_in {I : List In} {W : List Wt} {i : Int} (h : Rch I W i) : 0 ≤ i ∧ i < I.length := by
  cases h with
  | start h => exact ⟨by omega, by omega⟩
  | step _ _ h0 h1 => exact ⟨h0, h1⟩
end FloP
end Go.Proofs.Ytdgonjncoggfeaa
