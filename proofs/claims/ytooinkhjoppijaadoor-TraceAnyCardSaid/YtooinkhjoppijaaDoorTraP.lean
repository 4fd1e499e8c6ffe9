/- Texts of traces in plain words: which choices and traces may be, their lines, and how they are read. No program. No condition. -/
import Derived.Test.YtooinkhjoppijaaDoorNumG
import Derived.Lib.Split
namespace Go.Proofs.YtooinkhjoppijaaDoor
set_option linter.unusedVariables false
set_option linter.unusedSimpArgs false
namespace TraP
open NumP
abbrev Bs := List UInt8
/-- A choice: its kind, its peer, its number. -/
abbrev Ch := Int × Int × Int
def inB (a b : Int) : Bool := decide (0 ≤ a) && decide (a ≤ b)
theorem inB_iff (a b : Int) : inB a b = true ↔ 0 ≤ a ∧ a ≤ b := by simp [inB]
def oneB (c : Ch) : Bool :=
  if c.1 = 1 ∨ c.1 = 2 ∨ c.1 = 6 then c.2.1 == 0 && c.2.2 == 0
  else if c.1 = 3 then inB c.2.1 7 && inB c.2.2 7
  else if c.1 = 4 then inB c.2.1 7 && c.2.2 == 0
  else c.1 == 5 && (inB c.2.1 7 && inB c.2.2 64)
def wSc : Bs := [115, 99, 114, 105, 112, 116]
def wTi : Bs := [116, 105, 99, 107]
def wTo : Bs := [116, 105, 109, 101, 111, 117, 116]
def wAr : Bs := [97, 114, 114, 105, 118, 101]
def wEd : Bs := [101, 100, 103, 101]
def wEn : Bs := [101, 110, 100]
def wRe : Bs := [114, 101, 97, 100]
def wWa : Bs := [119, 97, 108, 107]
def wFa : Bs := [102, 97, 117, 108, 116]
def wRu : Bs := [114, 117, 108, 101]
def lineL (c : Ch) : Bs :=
  if c.1 = 1 then wSc else if c.1 = 2 then wTi else if c.1 = 6 then wTo
  else if c.1 = 4 then wAr ++ 32 :: Lib.itoa c.2.1
  else if c.1 = 3 then wEd ++ 32 :: (Lib.itoa c.2.1 ++ 32 :: Lib.itoa c.2.2)
  else if c.2.2 = 0 then wEn ++ 32 :: Lib.itoa c.2.1
  else wRe ++ 32 :: (Lib.itoa c.2.1 ++ 32 :: Lib.itoa c.2.2)
/-! Cutting at a byte. -/
theorem index_at (b : UInt8) : ∀ (a t : Bs), b ∉ a → Lib.index (a ++ b :: t) [b] = a.length := by
  intro a t
  induction a with
  | nil => intro _; simp [Lib.index]
  | cons x a ih =>
    intro h
    have h1 : b ∉ a := fun e => h (List.mem_cons_of_mem _ e)
    have h2 : ¬ b = x := fun e => h (e ▸ List.mem_cons_self ..)
    rw [List.cons_append, Lib.index, ih h1]
    have : ([b].isPrefixOf (x :: (a ++ b :: t))) = false := by simp [List.isPrefixOf, h2]
    rw [this]
    have h3 : (((a.length : Int)) == -1) = false := by rw [beq_eq_false_iff_ne]; omega
    simp [h3]
theorem index_no (b : UInt8) : ∀ (s : Bs), b ∉ s → Lib.index s [b] = -1 := by
  intro s
  induction s with
  | nil => intro _; simp [Lib.index]
  | cons x a ih =>
    intro h
    have h1 : b ∉ a := fun e => h (List.mem_cons_of_mem _ e)
    have h2 : ¬ b = x := fun e => h (e ▸ List.mem_cons_self ..)
    rw [Lib.index, ih h1]
    have : ([b].isPrefixOf (x :: a)) = false := by simp [List.isPrefixOf, h2]
    rw [this]; simp
theorem cut_at (b : UInt8) (a t : Bs) (h : b ∉ a) : Lib.cut (a ++ b :: t) [b] = (a, t, true) := by
  unfold Lib.cut
  rw [index_at b a t h, if_pos (by omega)]
  simp
theorem cut_no (b : UInt8) (s : Bs) (h : b ∉ s) : Lib.cut s [b] = (s, [], false) := by
  unfold Lib.cut
  rw [index_no b s h, if_neg (by omega)]
theorem first_at {b : UInt8} {s : Bs} (h : b ∈ s) : ∃ a t, s = a ++ b :: t ∧ b ∉ a := by
  induction s with
  | nil => cases h
  | cons x s ih =>
    by_cases e : b = x
    · exact ⟨[], s, by rw [e]; rfl, by simp⟩
    · obtain ⟨a, t, h1, h2⟩ := ih (by simpa [e] using h)
      exact ⟨x :: a, t, by rw [h1]; rfl, by simp [e, h2]⟩
theorem cut_cases (b : UInt8) (s : Bs) : (b ∉ s ∧ Lib.cut s [b] = (s, [], false)) ∨ ∃ a t, s = a ++ b :: t ∧ b ∉ a ∧ Lib.cut s [b] = (a, t, true) := by
  by_cases h : b ∈ s
  · obtain ⟨a, t, rfl, h2⟩ := first_at h
    exact .inr ⟨a, t, rfl, h2, cut_at b a t h2⟩
  · exact .inl ⟨h, cut_no b s h⟩
/-- A text cut at its blanks. -/
def spl : Bs → List Bs
  | [] => [[]]
  | b :: l => if b = 32 then [] :: spl l else match spl l with
    | [] => [[b]]
    | p :: r => (b :: p) :: r
theorem spl_word : ∀ (a : Bs), (32 : UInt8) ∉ a → spl a = [a] := by
  intro a
  induction a with
  | nil => intro _; rfl
  | cons x a ih =>
    intro h
    rw [spl, if_neg (fun e => h (by simp [e])), ih (fun e => h (List.mem_cons_of_mem _ e))]
theorem spl_cat : ∀ (a s : Bs), (32 : UInt8) ∉ a → spl (a ++ 32 :: s) = a :: spl s := by
  intro a s
  induction a with
  | nil => intro _; simp [spl]
  | cons x a ih =>
    intro h
    rw [List.cons_append, spl, if_neg (fun e => h (by simp [e])), ih (fun e => h (List.mem_cons_of_mem _ e))]
theorem split_spl : ∀ (n : Nat) (s : Bs), s.length = n → ∀ k, Lib.count s [32] ≤ k → Lib.splitK [32] 0 k s = spl s := by
  intro n
  induction n using Nat.strongRecOn with
  | ind n ih =>
    intro s hn k hk
    by_cases h : (32 : UInt8) ∈ s
    · obtain ⟨a, t, rfl, h2⟩ := first_at h
      have hi := index_at 32 a t h2
      rw [Lib.count_hit (i := a.length) (by simp) hi] at hk
      cases k with
      | zero => omega
      | succ k =>
        have hd : (a ++ 32 :: t).drop (a.length + [(32 : UInt8)].length) = t := by
          rw [List.drop_append]; simp
        rw [hd] at hk
        rw [spl_cat _ _ h2, Lib.splitK, hi, if_neg (by rw [beq_iff_eq]; omega)]
        simp only [Int.toNat_natCast, Nat.add_zero, List.take_left]
        rw [hd, ih t.length (by rw [← hn]; simp; omega) t rfl k (by omega)]
    · rw [spl_word s h]
      cases k with
      | zero => rfl
      | succ k => rw [Lib.splitK, index_no 32 s h, if_pos (by rfl)]
theorem split_eq (s : Bs) : Lib.split s [32] = spl s := split_spl _ s rfl _ (Nat.le_refl _)
theorem spl_ne (s : Bs) : spl s ≠ [] := by
  cases s with
  | nil => simp [spl]
  | cons b l => rw [spl]; split; · simp
                split <;> simp
/-! A choice's line, read. -/
def wordK (w : Bs) : Int := if w = wSc then 1 else if w = wTi then 2 else if w = wEd then 3 else if w = wAr then 4 else if w = wRe ∨ w = wEn then 5 else if w = wTo then 6 else 0
def smallB (s : Bs) (most : Int) : Bool := formB s && inB (pv s) most
def candP : List Bs → Option Ch
  | [] => none
  | [w] => some (wordK w, 0, 0)
  | [w, p] => if smallB p 7 = true then some (wordK w, pv p, 0) else none
  | w :: p :: n :: _ => if smallB p 7 = true ∧ smallB n 64 = true then some (wordK w, pv p, pv n) else none
def choP (s : Bs) : Option Ch := match candP (spl s) with
  | none => none
  | some c => if oneB c = true ∧ lineL c = s then some c else none
theorem choP_some {s : Bs} {c : Ch} (h : choP s = some c) : oneB c = true ∧ lineL c = s := by
  unfold choP at h
  split at h
  · cases h
  · split at h
    · cases h; assumption
    · cases h
theorem nat_digits {n : Int} (h : 0 ≤ n) : Lib.itoa n = Lib.decDigits n.natAbs := by
  unfold Lib.itoa; rw [if_neg (by omega)]
  try (congr 1; omega)
theorem itoa_no {n : Int} (h : 0 ≤ n) {b : UInt8} (hb : digB b = false) : b ∉ Lib.itoa n := by
  rw [nat_digits h]
  intro hm
  have := List.all_eq_true.1 (dec_all n.natAbs) b hm
  rw [hb] at this; cases this
theorem small_itoa {n m : Int} (h : 0 ≤ n) (h2 : n ≤ m) : smallB (Lib.itoa n) m = true := by
  unfold smallB; rw [itoa_form, itoa_pv, (inB_iff _ _).2 ⟨h, h2⟩]; rfl
theorem one_cases {c : Ch} (h : oneB c = true) : (c = (1, 0, 0)) ∨ (c = (2, 0, 0)) ∨ (c = (6, 0, 0)) ∨
    (∃ p n, c = (3, p, n) ∧ 0 ≤ p ∧ p ≤ 7 ∧ 0 ≤ n ∧ n ≤ 7) ∨ (∃ p, c = (4, p, 0) ∧ 0 ≤ p ∧ p ≤ 7) ∨ (∃ p n, c = (5, p, n) ∧ 0 ≤ p ∧ p ≤ 7 ∧ 0 ≤ n ∧ n ≤ 64) := by
  obtain ⟨k, p, n⟩ := c
  unfold oneB at h
  simp only at h
  split at h
  · rename_i hk
    rw [Bool.and_eq_true, beq_iff_eq, beq_iff_eq] at h
    obtain ⟨rfl, rfl⟩ := h
    rcases hk with rfl | rfl | rfl
    · exact .inl rfl
    · exact .inr (.inl rfl)
    · exact .inr (.inr (.inl rfl))
  split at h
  · rename_i hk
    subst hk
    rw [Bool.and_eq_true, inB_iff, inB_iff] at h
    exact .inr (.inr (.inr (.inl ⟨p, n, rfl, h.1.1, h.1.2, h.2.1, h.2.2⟩)))
  split at h
  · rename_i hk
    subst hk
    rw [Bool.and_eq_true, inB_iff, beq_iff_eq] at h
    obtain ⟨h1, rfl⟩ := h
    exact .inr (.inr (.inr (.inr (.inl ⟨p, rfl, h1.1, h1.2⟩))))
  · rw [Bool.and_eq_true, Bool.and_eq_true, inB_iff, inB_iff, beq_iff_eq] at h
    obtain ⟨rfl, h1, h2⟩ := h
    exact .inr (.inr (.inr (.inr (.inr ⟨p, n, rfl, h1.1, h1.2, h2.1, h2.2⟩))))
theorem choP_of {s : Bs} {c : Ch} (h : candP (spl s) = some c) (h1 : oneB c = true) (h2 : lineL c = s) : choP s = some c := by
  unfold choP; rw [h]; simp only; rw [if_pos ⟨h1, h2⟩]
theorem choP_line {c : Ch} (h : oneB c = true) : choP (lineL c) = some c := by
  refine choP_of ?_ h rfl
  rcases one_cases h with rfl | rfl | rfl | ⟨p, n, rfl, a, b, d, e⟩ | ⟨p, rfl, a, b⟩ | ⟨p, n, rfl, a, b, d, e⟩
  · decide
  · decide
  · decide
  · rw [show lineL (3, p, n) = wEd ++ 32 :: (Lib.itoa p ++ 32 :: Lib.itoa n) from rfl, spl_cat _ _ (by decide), spl_cat _ _ (itoa_no a (by decide)), spl_word _ (itoa_no d (by decide)), candP, if_pos ⟨small_itoa a b, small_itoa d (by omega)⟩, itoa_pv, itoa_pv]; rfl
  · rw [show lineL (4, p, 0) = wAr ++ 32 :: Lib.itoa p from rfl, spl_cat _ _ (by decide), spl_word _ (itoa_no a (by decide)), candP, if_pos (small_itoa a b), itoa_pv]; rfl
  · by_cases h0 : n = 0
    · subst h0
      rw [show lineL (5, p, 0) = wEn ++ 32 :: Lib.itoa p from rfl, spl_cat _ _ (by decide), spl_word _ (itoa_no a (by decide)), candP, if_pos (small_itoa a b), itoa_pv]; rfl
    · rw [show lineL (5, p, n) = wRe ++ 32 :: (Lib.itoa p ++ 32 :: Lib.itoa n) by unfold lineL; simp [h0], spl_cat _ _ (by decide), spl_cat _ _ (itoa_no a (by decide)), spl_word _ (itoa_no d (by decide)), candP, if_pos ⟨small_itoa a b, small_itoa d e⟩, itoa_pv, itoa_pv]; rfl
theorem choP_zero {s : Bs} {c : Ch} (h : choP s = some c) : c.1 ≠ 0 := by
  have := (choP_some h).1
  intro e
  unfold oneB at this; simp [e] at this
/-- All choices that may be, as the document lists them. -/
def rowN (p : Nat) (n : Nat) : List Ch := (5, (p : Int), (n : Int)) :: (if n < 8 then [(3, (p : Int), (n : Int))] else [])
def rowP (p : Nat) (m : Nat) : List Ch := (4, (p : Int), 0) :: (List.range m).flatMap (rowN p)
def allC (m : Nat) : List Ch := [(1, 0, 0), (2, 0, 0), (6, 0, 0)] ++ (List.range m).flatMap (fun p => rowP p 65)
theorem rowP_succ (p m : Nat) : rowP p (m + 1) = rowP p m ++ rowN p m := by
  unfold rowP; rw [List.range_succ, List.flatMap_append]; simp
theorem allC_succ (m : Nat) : allC (m + 1) = allC m ++ rowP m 65 := by
  unfold allC; rw [List.range_succ, List.flatMap_append]; simp
theorem allC_one : ∀ c ∈ allC 8, oneB c = true := by
  intro c hc
  unfold allC at hc
  rw [List.mem_append] at hc
  rcases hc with hc | hc
  · simp only [List.mem_cons, List.not_mem_nil, or_false] at hc
    rcases hc with rfl | rfl | rfl <;> rfl
  · rw [List.mem_flatMap] at hc
    obtain ⟨p, hp, hc⟩ := hc
    rw [List.mem_range] at hp
    unfold rowP at hc
    rw [List.mem_cons] at hc
    rcases hc with rfl | hc
    · unfold oneB; simp [inB]; omega
    · rw [List.mem_flatMap] at hc
      obtain ⟨n, hn, hc⟩ := hc
      rw [List.mem_range] at hn
      unfold rowN at hc
      rw [List.mem_cons] at hc
      rcases hc with rfl | hc
      · unfold oneB; simp [inB]; omega
      · split at hc
        · rw [List.mem_singleton] at hc; subst hc
          unfold oneB; simp [inB]; omega
        · cases hc
theorem one_allC {c : Ch} (h : oneB c = true) : c ∈ allC 8 := by
  unfold allC
  rw [List.mem_append]
  rcases one_cases h with rfl | rfl | rfl | ⟨p, n, rfl, a, b, d, e⟩ | ⟨p, rfl, a, b⟩ | ⟨p, n, rfl, a, b, d, e⟩
  · left; simp
  · left; simp
  · left; simp
  · right
    obtain ⟨q, rfl⟩ : ∃ q : Nat, p = q := ⟨p.toNat, by omega⟩
    obtain ⟨m, rfl⟩ : ∃ q : Nat, n = q := ⟨n.toNat, by omega⟩
    refine List.mem_flatMap.2 ⟨q, List.mem_range.2 (by omega), List.mem_cons_of_mem _ (List.mem_flatMap.2 ⟨m, List.mem_range.2 (by omega), ?_⟩)⟩
    unfold rowN; rw [if_pos (by omega)]; simp
  · right
    obtain ⟨q, rfl⟩ : ∃ q : Nat, p = q := ⟨p.toNat, by omega⟩
    exact List.mem_flatMap.2 ⟨q, List.mem_range.2 (by omega), List.mem_cons_self ..⟩
  · right
    obtain ⟨q, rfl⟩ : ∃ q : Nat, p = q := ⟨p.toNat, by omega⟩
    obtain ⟨m, rfl⟩ : ∃ q : Nat, n = q := ⟨n.toNat, by omega⟩
    refine List.mem_flatMap.2 ⟨q, List.mem_range.2 (by omega), List.mem_cons_of_mem _ (List.mem_flatMap.2 ⟨m, List.mem_range.2 (by omega), ?_⟩)⟩
    unfold rowN; simp
/-- The last of some whose line is a text. -/
def lastM (s : Bs) (l : List Ch) : Ch := l.foldl (fun c x => if lineL x = s then x else c) (0, 0, 0)
theorem lastM_snoc (s : Bs) (l : List Ch) (x : Ch) : lastM s (l ++ [x]) = if lineL x = s then x else lastM s l := by
  unfold lastM; rw [List.foldl_append]; rfl
theorem lastM_no (s : Bs) (l : List Ch) (h : ∀ x ∈ l, lineL x ≠ s) : lastM s l = (0, 0, 0) := by
  unfold lastM
  induction l with
  | nil => rfl
  | cons x l ih =>
    rw [List.foldl_cons, if_neg (h x (List.mem_cons_self ..))]
    exact ih (fun y hy => h y (List.mem_cons_of_mem _ hy))
theorem fold_keep (s : Bs) (c : Ch) (l : List Ch) (h : ∀ x ∈ l, lineL x = s → x = c) : l.foldl (fun c x => if lineL x = s then x else c) c = c := by
  induction l with
  | nil => rfl
  | cons x l ih =>
    rw [List.foldl_cons]
    have : (if lineL x = s then x else c) = c := by
      split
      · exact h x (List.mem_cons_self ..) ‹_›
      · rfl
    rw [this]
    exact ih (fun y hy => h y (List.mem_cons_of_mem _ hy))
theorem lastM_is (s : Bs) (l : List Ch) (c : Ch) (hc : c ∈ l) (hl : lineL c = s) (h : ∀ x ∈ l, lineL x = s → x = c) : lastM s l = c := by
  obtain ⟨a, b, rfl⟩ := List.append_of_mem hc
  unfold lastM
  rw [List.foldl_append, List.foldl_cons, if_pos hl]
  exact fold_keep s c b (fun x hx => h x (by simp [hx]))
theorem lastM_all (s : Bs) : lastM s (allC 8) = (choP s).getD (0, 0, 0) := by
  cases e : choP s with
  | none =>
    refine lastM_no _ _ (fun x hx hl => ?_)
    have := choP_line (allC_one x hx)
    rw [hl, e] at this; cases this
  | some c =>
    have h := choP_some e
    refine lastM_is s _ c (one_allC h.1) h.2 (fun x hx hl => ?_)
    have := choP_line (allC_one x hx)
    rw [hl, e] at this
    exact (Option.some.inj this).symm
/-! A first line. -/
def headB (k n : Int) : Bool := if k = 0 then n == 0 else if k = 1 then decide (1 ≤ n) && decide (n ≤ 4) else k == 2 && inB n 59
def nameF (n : Int) : Bs := if n = 1 then [100, 101, 97, 100, 108, 111, 99, 107] else if n = 2 then [111, 117, 116, 112, 117, 116] else if n = 3 then [101, 111, 102] else [101, 114, 114, 111, 114]
def headL (k n : Int) : Bs := if k = 0 then wWa else if k = 1 then wFa ++ 32 :: nameF n else wRu ++ 32 :: Lib.itoa n
def purP (s : Bs) : Option (Int × Int) :=
  if (Lib.cut s [32]).1 = wWa then (if s = wWa then some (0, 0) else none)
  else if (Lib.cut s [32]).1 = wRu then (if smallB (Lib.cut s [32]).2.1 59 = true then some (2, pv (Lib.cut s [32]).2.1) else none)
  else if (Lib.cut s [32]).1 = wFa then
    (if nameF 1 = (Lib.cut s [32]).2.1 then some (1, 1) else if nameF 2 = (Lib.cut s [32]).2.1 then some (1, 2) else if nameF 3 = (Lib.cut s [32]).2.1 then some (1, 3) else if nameF 4 = (Lib.cut s [32]).2.1 then some (1, 4) else none)
  else none
theorem head_cases {k n : Int} (h : headB k n = true) : (k = 0 ∧ n = 0) ∨ (k = 1 ∧ (n = 1 ∨ n = 2 ∨ n = 3 ∨ n = 4)) ∨ (k = 2 ∧ 0 ≤ n ∧ n ≤ 59) := by
  unfold headB at h
  split at h
  · exact .inl ⟨‹_›, by simpa using h⟩
  split at h
  · refine .inr (.inl ⟨‹_›, ?_⟩)
    rw [Bool.and_eq_true, decide_eq_true_iff, decide_eq_true_iff] at h
    omega
  · rw [Bool.and_eq_true, beq_iff_eq, inB_iff] at h
    exact .inr (.inr h)
theorem purP_head {k n : Int} (h : headB k n = true) : purP (headL k n) = some (k, n) := by
  rcases head_cases h with ⟨rfl, rfl⟩ | ⟨rfl, rfl | rfl | rfl | rfl⟩ | ⟨rfl, h0, h1⟩
  · decide
  · decide
  · decide
  · decide
  · decide
  · unfold purP
    rw [show headL 2 n = wRu ++ 32 :: Lib.itoa n from rfl, cut_at _ _ _ (by decide)]
    simp only
    rw [if_neg (by decide)]
    simp [small_itoa h0 h1, itoa_pv]
theorem form_ne : formB [] = false := by decide
theorem purP_some {s : Bs} {k n : Int} (h : purP s = some (k, n)) : headB k n = true ∧ headL k n = s := by
  unfold purP at h
  rcases cut_cases 32 s with ⟨h0, hc⟩ | ⟨a, t, rfl, ha, hc⟩
  · rw [hc] at h
    simp only at h
    split at h
    · rename_i hs
      simp at h
      obtain ⟨rfl, rfl⟩ := h
      exact ⟨rfl, hs.symm⟩
    split at h
    · rw [if_neg (by unfold smallB; rw [form_ne]; simp)] at h
      cases h
    split at h
    · rw [if_neg (by decide), if_neg (by decide), if_neg (by decide), if_neg (by decide)] at h
      cases h
    · cases h
  · rw [hc] at h
    simp only at h
    split at h
    · rename_i hs
      subst hs
      rw [if_neg (by intro e; have := congrArg List.length e; simp at this)] at h
      cases h
    split at h
    · rename_i hs
      subst hs
      split at h
      · rename_i hm
        cases h
        unfold smallB at hm
        rw [Bool.and_eq_true] at hm
        refine ⟨by unfold headB; simp [hm.2], ?_⟩
        rw [show headL 2 (pv t) = wRu ++ 32 :: Lib.itoa (pv t) from rfl, form_itoa hm.1]
      · cases h
    split at h
    · rename_i hs
      subst hs
      split at h
      · cases h; exact ⟨rfl, by rw [← ‹nameF 1 = t›]; rfl⟩
      split at h
      · cases h; exact ⟨rfl, by rw [← ‹nameF 2 = t›]; rfl⟩
      split at h
      · cases h; exact ⟨rfl, by rw [← ‹nameF 3 = t›]; rfl⟩
      split at h
      · cases h; exact ⟨rfl, by rw [← ‹nameF 4 = t›]; rfl⟩
      · cases h
    · cases h
/-! Runs. -/
def seg (m : Nat) (c : Ch) : Bs := (Lib.itoa m ++ 32 :: lineL c) ++ [10]
def runG (c : Ch) : Nat → List Ch → Bs
  | m, [] => seg m c
  | m, d :: r => if d = c then runG c (m + 1) r else seg m c ++ runG d 1 r
def runsL : List Ch → Bs
  | [] => []
  | c :: r => runG c 1 r
/-- How many of a list's first ones are this one. -/
def lead (c : Ch) : List Ch → Nat
  | [] => 0
  | d :: r => if d = c then lead c r + 1 else 0
theorem lead_le (c : Ch) : ∀ r : List Ch, lead c r ≤ r.length := by
  intro r; induction r with
  | nil => simp [lead]
  | cons d r ih => rw [lead]; split <;> simp <;> omega
theorem runG_lead (c : Ch) : ∀ (r : List Ch) (m : Nat), runG c m r = seg (m + lead c r) c ++ runsL (r.drop (lead c r)) := by
  intro r
  induction r with
  | nil => intro m; simp [runG, lead, runsL]
  | cons d r ih =>
    intro m
    rw [runG, lead]
    split
    · rw [ih (m + 1), show m + 1 + lead c r = m + (lead c r + 1) by omega, List.drop_succ_cons]
    · simp [runsL]
theorem runs_lead (c : Ch) (r : List Ch) : runsL (c :: r) = seg (1 + lead c r) c ++ runsL (r.drop (lead c r)) := runG_lead c r 1
theorem lead_take (c : Ch) : ∀ r : List Ch, r = List.replicate (lead c r) c ++ r.drop (lead c r) := by
  intro r; induction r with
  | nil => simp [lead]
  | cons d r ih =>
    rw [lead]
    split
    · rename_i h; subst h
      rw [List.replicate_succ, List.cons_append, List.drop_succ_cons, ← ih]
    · simp
theorem lead_stop (c : Ch) : ∀ r : List Ch, (r.drop (lead c r)).head? ≠ some c := by
  intro r; induction r with
  | nil => simp [lead]
  | cons d r ih =>
    rw [lead]
    split
    · rw [List.drop_succ_cons]; exact ih
    · rename_i h; simp; exact h
theorem runG_rep (c : Ch) : ∀ (k m : Nat), runG c m (List.replicate k c) = seg (m + k) c := by
  intro k
  induction k with
  | zero => intro m; rfl
  | succ k ih => intro m; rw [List.replicate_succ, runG, if_pos rfl, ih, show m + 1 + k = m + (k + 1) by omega]
theorem runG_app (c : Ch) (k : Nat) (hk : 1 ≤ k) : ∀ (r : List Ch) (d : Ch) (m : Nat), (d :: r).getLast? ≠ some c → runG d m (r ++ List.replicate k c) = runG d m r ++ seg k c := by
  intro r
  induction r with
  | nil =>
    intro d m h
    obtain ⟨k, rfl⟩ : ∃ j, k = j + 1 := ⟨k - 1, by omega⟩
    have hd : ¬ c = d := fun e => h (by simp [e])
    rw [List.nil_append, List.replicate_succ]
    show (if c = d then runG d (m + 1) (List.replicate k c) else seg m d ++ runG c 1 (List.replicate k c)) = _
    rw [if_neg hd, runG_rep, show 1 + k = k + 1 by omega]; rfl
  | cons e r ih =>
    intro d m h
    have h2 : (e :: r).getLast? ≠ some c := by rwa [List.getLast?_cons_cons] at h
    rw [List.cons_append, runG, runG]
    split
    · rename_i he
      subst he
      exact ih e (m + 1) h2
    · rw [ih e 1 h2, List.append_assoc]
theorem runs_app (c : Ch) (k : Nat) (hk : 1 ≤ k) (l : List Ch) (h : l.getLast? ≠ some c) : runsL (l ++ List.replicate k c) = runsL l ++ seg k c := by
  cases l with
  | nil =>
    obtain ⟨k, rfl⟩ : ∃ j, k = j + 1 := ⟨k - 1, by omega⟩
    rw [List.nil_append, List.replicate_succ]
    show runG c 1 (List.replicate k c) = _
    rw [runG_rep, show 1 + k = k + 1 by omega]; rfl
  | cons d r => exact runG_app c k hk r d 1 h
/-! All lines behind the first. -/
def lineP (text : Bs) (acc : List Ch) : List Ch × Int :=
  match choP (Lib.cut text [32]).2.1 with
  | none => ([], 1)
  | some c =>
    if acc.getLast? = some c ∨ formB (Lib.cut text [32]).1 = false ∨ pv (Lib.cut text [32]).1 < 1 then ([], 1)
    else if 4000 - (acc.length : Int) < pv (Lib.cut text [32]).1 then ([], 2)
    else (acc ++ List.replicate (pv (Lib.cut text [32]).1).toNat c, 0)
theorem cut_short {s : Bs} (h : (10 : UInt8) ∈ s) : (Lib.cut s [10]).2.1.length < s.length := by
  obtain ⟨a, t, rfl, ha⟩ := first_at h
  rw [cut_at _ _ _ ha]; simp; omega
/-- So much is behind the first line; what comes of it, where, and why not. -/
def goF (tot : Int) : Nat → Bs → List Ch → List Ch × Int × Int
  | 0, _, acc => (acc, 0, 0)
  | f + 1, rest, acc =>
    if rest = [] then (acc, 0, 0)
    else if (10 : UInt8) ∉ rest then ([], tot - rest.length, 1)
    else if (lineP (Lib.cut rest [10]).1 acc).2 ≠ 0 then ([], tot - rest.length, (lineP (Lib.cut rest [10]).1 acc).2)
    else goF tot f (Lib.cut rest [10]).2.1 (lineP (Lib.cut rest [10]).1 acc).1
theorem goF_fuel (tot : Int) : ∀ (f : Nat) (rest : Bs) (acc : List Ch) (g : Nat), rest.length ≤ f → rest.length ≤ g → goF tot f rest acc = goF tot g rest acc := by
  intro f
  induction f with
  | zero =>
    intro rest acc g hf hg
    have : rest = [] := List.length_eq_zero_iff.1 (by omega)
    subst this
    cases g <;> simp [goF]
  | succ f ih =>
    intro rest acc g hf hg
    cases g with
    | zero =>
      have : rest = [] := List.length_eq_zero_iff.1 (by omega)
      subst this
      simp [goF]
    | succ g =>
      rw [goF, goF]
      split
      · rfl
      split
      · rfl
      rename_i h
      split
      · rfl
      · have := cut_short (Decidable.not_not.1 h)
        exact ih _ _ _ (by omega) (by omega)
def goP (tot : Int) (rest : Bs) (acc : List Ch) : List Ch × Int × Int := goF tot rest.length rest acc
theorem goP_end (tot : Int) (acc : List Ch) : goP tot [] acc = (acc, 0, 0) := rfl
theorem goP_eq (tot : Int) (rest : Bs) (acc : List Ch) (h : rest ≠ []) : goP tot rest acc =
    if (10 : UInt8) ∉ rest then ([], tot - rest.length, 1)
    else if (lineP (Lib.cut rest [10]).1 acc).2 ≠ 0 then ([], tot - rest.length, (lineP (Lib.cut rest [10]).1 acc).2)
    else goP tot (Lib.cut rest [10]).2.1 (lineP (Lib.cut rest [10]).1 acc).1 := by
  unfold goP
  obtain ⟨n, hn⟩ : ∃ n, rest.length = n + 1 := ⟨rest.length - 1, by have := List.length_pos_iff.2 h; omega⟩
  rw [hn, goF, if_neg h]
  split
  · rw [hn]
  split
  · rw [hn]
  · rename_i h1 h2
    have := cut_short (Decidable.not_not.1 h1)
    exact goF_fuel tot _ _ _ _ (by omega) (Nat.le_refl _)
theorem goP_no (tot : Int) (rest : Bs) (acc : List Ch) (h : rest ≠ []) (h1 : (10 : UInt8) ∉ rest) : goP tot rest acc = ([], tot - rest.length, 1) := by
  rw [goP_eq tot rest acc h, if_pos h1]
theorem goP_at (tot : Int) (text rest : Bs) (acc : List Ch) (h : (10 : UInt8) ∉ text) : goP tot (text ++ 10 :: rest) acc =
    if (lineP text acc).2 ≠ 0 then ([], tot - (text ++ 10 :: rest).length, (lineP text acc).2) else goP tot rest (lineP text acc).1 := by
  rw [goP_eq tot _ acc (by simp), if_neg (by simp), cut_at _ _ _ h]
/-- A trace: its kind, its number, its choices. -/
abbrev Tr := Int × Int × List Ch
def mayB (t : Tr) : Bool := headB t.1 t.2.1 && decide (t.2.2.length ≤ 4000) && t.2.2.all oneB
def encL (t : Tr) : Bs := headL t.1 t.2.1 ++ 10 :: runsL t.2.2
/-- The trace of a text, the place, and 0 or why there is none. -/
def decP (s : Bs) : Tr × Int × Int :=
  if (10 : UInt8) ∉ s then ((0, 0, []), 0, 1)
  else match purP (Lib.cut s [10]).1 with
    | none => ((0, 0, []), 0, 1)
    | some (k, n) =>
      if (goP s.length (Lib.cut s [10]).2.1 []).2.2 ≠ 0 then ((0, 0, []), (goP s.length (Lib.cut s [10]).2.1 []).2.1, (goP s.length (Lib.cut s [10]).2.1 []).2.2)
      else ((k, n, (goP s.length (Lib.cut s [10]).2.1 []).1), 0, 0)
theorem words_no10 {c : Ch} (h : oneB c = true) : (10 : UInt8) ∉ lineL c := by
  rcases one_cases h with rfl | rfl | rfl | ⟨p, n, rfl, a, b, d, e⟩ | ⟨p, rfl, a, b⟩ | ⟨p, n, rfl, a, b, d, e⟩
  · decide
  · decide
  · decide
  · have h1 := itoa_no a (b := 10) (by decide)
    have h2 := itoa_no d (b := 10) (by decide)
    rw [show lineL (3, p, n) = wEd ++ 32 :: (Lib.itoa p ++ 32 :: Lib.itoa n) from rfl]
    simp only [List.mem_append, List.mem_cons, not_or]
    exact ⟨by decide, by decide, h1, by decide, h2⟩
  · have h1 := itoa_no a (b := 10) (by decide)
    rw [show lineL (4, p, 0) = wAr ++ 32 :: Lib.itoa p from rfl]
    simp only [List.mem_append, List.mem_cons, not_or]
    exact ⟨by decide, by decide, h1⟩
  · have h1 := itoa_no a (b := 10) (by decide)
    have h2 := itoa_no d (b := 10) (by decide)
    by_cases h0 : n = 0
    · subst h0
      rw [show lineL (5, p, 0) = wEn ++ 32 :: Lib.itoa p from rfl]
      simp only [List.mem_append, List.mem_cons, not_or]
      exact ⟨by decide, by decide, h1⟩
    · rw [show lineL (5, p, n) = wRe ++ 32 :: (Lib.itoa p ++ 32 :: Lib.itoa n) by unfold lineL; simp [h0]]
      simp only [List.mem_append, List.mem_cons, not_or]
      exact ⟨by decide, by decide, h1, by decide, h2⟩
theorem text_no10 (m : Nat) {c : Ch} (h : oneB c = true) : (10 : UInt8) ∉ Lib.itoa m ++ 32 :: lineL c := by
  simp only [List.mem_append, List.mem_cons, not_or]
  exact ⟨itoa_no (by omega) (by decide), by decide, words_no10 h⟩
theorem lineP_seg (m : Nat) (c : Ch) (acc : List Ch) (h : oneB c = true) (hm : 1 ≤ m) (hl : acc.getLast? ≠ some c) (hn : acc.length + m ≤ 4000) : lineP (Lib.itoa m ++ 32 :: lineL c) acc = (acc ++ List.replicate m c, 0) := by
  unfold lineP
  rw [cut_at _ _ _ (itoa_no (by omega) (by decide))]
  simp only
  rw [choP_line h]
  simp only
  rw [if_neg (by
    rintro (e | e | e)
    · exact hl e
    · rw [itoa_form] at e; cases e
    · rw [itoa_pv] at e; omega), itoa_pv, if_neg (by omega)]
  simp
theorem getLast_rep (acc : List Ch) (m : Nat) (c : Ch) : (acc ++ List.replicate (1 + m) c).getLast? = some c := by
  rw [show 1 + m = m + 1 by omega, List.replicate_succ', ← List.append_assoc, List.getLast?_concat]
theorem go_runs (tot : Int) : ∀ (n : Nat) (l acc : List Ch), l.length = n → (∀ c, l.head? = some c → acc.getLast? ≠ some c) → l.all oneB = true → acc.length + l.length ≤ 4000 → goP tot (runsL l) acc = (acc ++ l, 0, 0) := by
  intro n
  induction n using Nat.strongRecOn with
  | ind n ih =>
    intro l acc hn hl ho hs
    cases l with
    | nil => rw [runsL, goP_end, List.append_nil]
    | cons c r =>
      have hc : oneB c = true := List.all_eq_true.1 ho c (List.mem_cons_self ..)
      have hle := lead_le c r
      simp only [List.length_cons] at hs hn
      rw [runs_lead, seg, List.append_assoc, show ([10] ++ runsL (r.drop (lead c r)) : Bs) = 10 :: runsL (r.drop (lead c r)) from rfl, goP_at _ _ _ _ (text_no10 _ hc), lineP_seg _ _ _ hc (by omega) (hl c rfl) (by omega)]
      simp only [ne_eq, not_true_eq_false, if_false]
      rw [ih (r.drop (lead c r)).length (by rw [List.length_drop]; omega) _ _ rfl ?_ ?_ ?_]
      · have := lead_take c r
        rw [List.append_assoc]
        congr 2
        rw [show 1 + lead c r = lead c r + 1 by omega, List.replicate_succ, List.cons_append, ← this]
      · intro d hd e
        rw [getLast_rep] at e
        cases e
        exact lead_stop c r hd
      · rw [List.all_eq_true] at ho ⊢
        intro x hx
        exact ho x (List.mem_cons_of_mem _ (List.mem_of_mem_drop hx))
      · rw [List.length_append, List.length_replicate, List.length_drop]; omega
theorem head_no10 {k n : Int} (h : headB k n = true) : (10 : UInt8) ∉ headL k n := by
  rcases head_cases h with ⟨rfl, rfl⟩ | ⟨rfl, rfl | rfl | rfl | rfl⟩ | ⟨rfl, h0, h1⟩
  · decide
  · decide
  · decide
  · decide
  · decide
  · rw [show headL 2 n = wRu ++ 32 :: Lib.itoa n from rfl]
    simp only [List.mem_append, List.mem_cons, not_or]
    exact ⟨by decide, by decide, itoa_no h0 (by decide)⟩
theorem may_parts {t : Tr} (h : mayB t = true) : headB t.1 t.2.1 = true ∧ t.2.2.length ≤ 4000 ∧ t.2.2.all oneB = true := by
  unfold mayB at h
  rw [Bool.and_eq_true, Bool.and_eq_true, decide_eq_true_iff] at h
  exact ⟨h.1.1, h.1.2, h.2⟩
theorem dec_enc {t : Tr} (h : mayB t = true) : decP (encL t) = (t, 0, 0) := by
  obtain ⟨k, n, l⟩ := t
  obtain ⟨h1, h2, h3⟩ := may_parts h
  simp only at h1 h2 h3
  unfold decP encL
  simp only
  rw [if_neg (by simp), cut_at _ _ _ (head_no10 h1)]
  simp only
  rw [purP_head h1]
  simp only
  rw [go_runs _ l.length l [] rfl (by simp) h3 (by simpa using h2)]
  simp
theorem lineP_ok {text : Bs} {acc : List Ch} (h : (lineP text acc).2 = 0) (ho : acc.all oneB = true) (hl : acc.length ≤ 4000) :
    (lineP text acc).1.all oneB = true ∧ (lineP text acc).1.length ≤ 4000 ∧ runsL (lineP text acc).1 = runsL acc ++ (text ++ [10]) := by
  unfold lineP at h ⊢
  cases e : choP (Lib.cut text [32]).2.1 with
  | none => rw [e] at h; cases h
  | some c =>
    rw [e] at h
    simp only at h ⊢
    split at h
    · cases h
    rename_i hx
    rw [if_neg hx]
    split at h
    · cases h
    rename_i hy
    rw [if_neg hy]
    simp only
    have hc := choP_some e
    obtain ⟨h1, h2⟩ := not_or.1 hx
    obtain ⟨h3, h4⟩ := not_or.1 h2
    rw [Bool.not_eq_false] at h3
    refine ⟨?_, ?_, ?_⟩
    · rw [List.all_append, ho, Bool.true_and, List.all_eq_true]
      intro x hx
      rw [(List.mem_replicate.1 hx).2]; exact hc.1
    · rw [List.length_append, List.length_replicate]; omega
    · rw [runs_app c _ (by omega) acc h1]
      congr 1
      rw [seg, show ((pv (Lib.cut text [32]).1).toNat : Int) = pv (Lib.cut text [32]).1 by omega, form_itoa h3, hc.2]
      congr 1
      rcases cut_cases 32 text with ⟨h0, hcc⟩ | ⟨a, t, rfl, ha, hcc⟩
      · exfalso
        rw [hcc] at e
        simp only at e
        have : choP [] = none := by decide
        rw [this] at e; cases e
      · rw [hcc]
theorem go_back (tot : Int) : ∀ (n : Nat) (rest : Bs) (acc : List Ch), rest.length = n → acc.all oneB = true → acc.length ≤ 4000 → (goP tot rest acc).2.2 = 0 →
    (goP tot rest acc).1.all oneB = true ∧ (goP tot rest acc).1.length ≤ 4000 ∧ runsL (goP tot rest acc).1 = runsL acc ++ rest := by
  intro n
  induction n using Nat.strongRecOn with
  | ind n ih =>
    intro rest acc hn ho hl h
    by_cases hr : rest = []
    · subst hr
      rw [goP_end]
      exact ⟨ho, hl, by simp⟩
    · by_cases h10 : (10 : UInt8) ∈ rest
      · obtain ⟨text, t, rfl, ha⟩ := first_at h10
        rw [goP_at _ _ _ _ ha] at h ⊢
        by_cases he : (lineP text acc).2 = 0
        · rw [if_neg (by simpa using he)] at h ⊢
          obtain ⟨a1, a2, a3⟩ := lineP_ok he ho hl
          obtain ⟨b1, b2, b3⟩ := ih t.length (by rw [← hn]; simp; omega) t _ rfl a1 a2 h
          exact ⟨b1, b2, by rw [b3, a3]; simp⟩
        · rw [if_pos he] at h
          exact absurd h he
      · rw [goP_no _ _ _ hr h10] at h
        cases h
theorem enc_dec {s : Bs} (h : (decP s).2.2 = 0) : mayB (decP s).1 = true ∧ encL (decP s).1 = s := by
  unfold decP at h ⊢
  by_cases h10 : (10 : UInt8) ∈ s
  · obtain ⟨a, t, hs, ha⟩ := first_at h10
    rw [if_neg (by simpa using h10)] at h ⊢
    have hc : Lib.cut s [10] = (a, t, true) := by rw [hs]; exact cut_at _ _ _ ha
    rw [hc] at h ⊢
    simp only at h ⊢
    cases e : purP a with
    | none => rw [e] at h; cases h
    | some kn =>
      obtain ⟨k, n⟩ := kn
      rw [e] at h
      simp only at h ⊢
      by_cases hg : (goP (s.length : Int) t []).2.2 = 0
      · rw [if_neg (by simpa using hg)]
        obtain ⟨b1, b2, b3⟩ := go_back (s.length : Int) t.length t [] rfl rfl (by simp) hg
        obtain ⟨p1, p2⟩ := purP_some e
        refine ⟨?_, ?_⟩
        · unfold mayB
          simp only
          rw [p1, b1]; simp [b2]
        · unfold encL
          simp only
          rw [p2, b3, hs]; rfl
      · rw [if_pos hg] at h
        exact absurd h hg
  · rw [if_pos (by simpa using h10)] at h
    cases h
end TraP
end Go.Proofs.YtooinkhjoppijaaDoor
