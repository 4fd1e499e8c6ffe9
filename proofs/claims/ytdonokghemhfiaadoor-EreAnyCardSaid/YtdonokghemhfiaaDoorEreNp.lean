/- What is parsed may be, and has few nodes. No program. No condition. -/
import Derived.Test.YtdonokghemhfiaaDoorEreR
import Derived.Test.YtdonokghemhfiaaDoorEreQ
namespace Go.Proofs.YtdonokghemhfiaaDoor
set_option linter.unusedVariables false
set_option linter.unusedSimpArgs false
open Go.RowKit
namespace EreX
open EreP EreW
theorem rightL_snoc : ∀ (l : List Re) (x : Re) (lv d g : Nat), rightL (l ++ [x]) lv d g = match rightL l lv d g with | none => none | some g' => rightR x lv d g'
  | [], x, lv, d, g => by
    show rightL [x] lv d g = rightR x lv d g
    rw [rightL]
    cases rightR x lv d g <;> rfl
  | y :: l, x, lv, d, g => by
    show rightL (y :: (l ++ [x])) lv d g = _
    rw [rightL, rightL]
    cases rightR y lv d g with
    | none => rfl
    | some g' => exact rightL_snoc l x lv d g'
theorem nodesL_snoc (l : List Re) (x : Re) : nodesL (l ++ [x]) = nodesL l + nodesR x := by
  induction l with
  | nil => simp [nodesL]
  | cons y l ih => show nodesR y + nodesL (l ++ [x]) = nodesR y + nodesL l + nodesR x; rw [ih]; omega
theorem right_lower {r : Re} {lv lv' d g q : Nat} (h : rightR r lv d g = some q) (hl : lv' ≤ lv) : rightR r lv' d g = some q := by
  cases r with
  | mk k s kids lo hi n =>
    unfold rightR at h ⊢
    repeat' split at h
    all_goals first
      | cases h; done
      | skip
    all_goals
      repeat' split
      all_goals first
        | exact h
        | (exfalso; simp_all; done)
        | (exfalso; omega)
        | (exfalso; simp_all; omega)
theorem digit_le {k : Nat} {l r : Bs} {a : Nat} (h : digitP k l = .ok (a, r)) : k ≤ a ∧ a ≤ 8 := by
  cases l with
  | nil => cases h
  | cons c l =>
    rw [digitP] at h
    split at h
    · injection h with h; injection h with h1 h2; omega
    · cases h
theorem need_val {x : UInt8} {α : Type} {v v' : α} {l r : Bs} (h : needP x v l = .ok (v', r)) : v' = v := by
  cases l with
  | nil => cases h
  | cons c l =>
    rw [needP] at h
    split at h
    · injection h with h; injection h with h1 h2; exact h1.symm
    · cases h
theorem times_in {l r : Bs} {a b : Int} (h : timesP l = .ok ((a, b), r)) : inR a b = true := by
  unfold timesP at h
  cases hd : digitP 0 l with
  | error e => rw [hd] at h; cases h
  | ok p =>
    obtain ⟨d, r1⟩ := p
    rw [hd] at h
    have h1 := digit_le hd
    simp only at h
    split at h
    · split at h
      · injection h with h; injection h with h2 h3; injection h2 with h4 h5
        rw [← h4, ← h5]; simp [inR]; omega
      · cases hd2 : digitP d r1.tail with
        | error e => rw [hd2] at h; cases h
        | ok p2 =>
          obtain ⟨d2, r2⟩ := p2
          rw [hd2] at h
          have h2 := digit_le hd2
          have h3 := need_val h
          injection h3 with h4 h5
          rw [h4, h5]; simp [inR]; omega
    · have h3 := need_val h
      injection h3 with h4 h5
      rw [h4, h5]; simp [inR]; omega
/-- What alt's answers are, so deep. -/
def AltR (d : Nat) : Prop := ∀ (l : Bs) (g : Nat) (x : Re) (r : Bs) (g' : Nat), altP (grpP (64 - d)) (l.length + 1) [] l g = .ok (x, r, g') → rightR x 0 d g = some g' ∧ nodesR x ≤ 4 * (l.length - r.length) + 1
theorem leaf_right (k : Int) (S : Nat) (d g lv : Nat) (h : k = 1 ∨ (k = 2 ∧ S = 0 ∧ lv ≤ 2) ∨ (k = 3 ∧ S = 0 ∧ lv ≤ 2)) : rightR (.mk k S [] 0 0 0) lv d g = some g := by
  rcases h with rfl | ⟨rfl, rfl, hl⟩ | ⟨rfl, rfl, hl⟩ <;> simp [rightR, bareR] <;> assumption
theorem atom_right {d : Nat} (hd : d ≤ 64) (hA : d < 64 → AltR (d + 1)) {l r : Bs} {g g' : Nat} {x : Re} (h : atomP (grpP (64 - d)) l g = .ok (x, r, g')) :
    rightR x 2 d g = some g' ∧ (x.kind ≠ 2 → x.kind ≠ 3 → rightR x 3 d g = some g') ∧ nodesR x + 2 ≤ 4 * (l.length - r.length) := by
  have hlen := atom_len (grp_len (64 - d)) h
  have leaf : ∀ (k : Int) (S : Nat), (k = 1 ∨ (k = 2 ∧ S = 0) ∨ (k = 3 ∧ S = 0)) → (.mk k S [] 0 0 0 : Re) = x → g = g' → rightR x 2 d g = some g' ∧ (x.kind ≠ 2 → x.kind ≠ 3 → rightR x 3 d g = some g') ∧ nodesR x + 2 ≤ 4 * (l.length - r.length) := by
    rintro k S hk rfl rfl
    refine ⟨leaf_right k S d g 2 ?_, fun n2 n3 => leaf_right k S d g 3 (Or.inl ?_), ?_⟩
    · rcases hk with h | ⟨h, h'⟩ | ⟨h, h'⟩
      · exact Or.inl h
      · exact Or.inr (Or.inl ⟨h, h', by omega⟩)
      · exact Or.inr (Or.inr ⟨h, h', by omega⟩)
    · rcases hk with h | ⟨h, h'⟩ | ⟨h, h'⟩
      · exact h
      · exact absurd h n2
      · exact absurd h n3
    · simp [nodesR, nodesL]; omega
  cases l with
  | nil => cases h
  | cons c l =>
    rw [atomP.eq_def] at h
    simp only at h
    split at h
    · cases h
    split at h
    · by_cases hd2 : d < 64
      · obtain ⟨D, hD⟩ : ∃ D, 64 - d = D + 1 := ⟨63 - d, by omega⟩
        have hA2 := hA hd2
        unfold AltR at hA2
        rw [show 64 - (d + 1) = D by omega] at hA2
        rw [hD] at h
        simp only [grpP] at h
        cases ha : altP (grpP D) (l.length + 1) [] l (g + 1) with
        | error e => rw [ha] at h; cases h
        | ok p =>
          obtain ⟨y, r1, g1⟩ := p
          rw [ha] at h
          simp only at h
          obtain ⟨h1, h2⟩ := hA2 l (g + 1) y r1 g1 ha
          have h3 := alt_len (grp_len D) _ _ _ _ ha
          cases r1 with
          | nil => cases h
          | cons c2 r2 =>
            simp only at h
            split at h
            · injection h with h; injection h with hx h; injection h with hr hg
              subst hx; subst hr; subst hg
              have key : ∀ lv, rightR (.mk 7 0 [y] 0 0 (numG g)) lv d g = some g1 := by
                intro lv
                simp [rightR, bareR, rightL, hd2, h1]
              refine ⟨key 2, fun _ _ => key 3, ?_⟩
              simp [nodesR, nodesL] at h2 h3 ⊢; omega
            · cases h
      · rw [show 64 - d = 0 by omega] at h
        cases h
    split at h
    · cases hc : classP l with
      | error e => rw [hc] at h; cases h
      | ok p =>
        obtain ⟨S, r1⟩ := p
        rw [hc] at h
        injection h with h; injection h with hx h; injection h with hr hg
        exact leaf 1 S (Or.inl rfl) hx hg
    split at h
    · injection h with h; injection h with hx h; injection h with hr hg
      exact leaf 1 _ (Or.inl rfl) hx hg
    split at h
    · injection h with h; injection h with hx h; injection h with hr hg
      exact leaf 2 _ (Or.inr (Or.inl ⟨rfl, rfl⟩)) hx hg
    split at h
    · injection h with h; injection h with hx h; injection h with hr hg
      exact leaf 3 _ (Or.inr (Or.inr ⟨rfl, rfl⟩)) hx hg
    split at h
    · cases l with
      | nil => cases h
      | cons c2 l2 =>
        injection h with h; injection h with hx h; injection h with hr hg
        exact leaf 1 _ (Or.inl rfl) hx hg
    · injection h with h; injection h with hx h; injection h with hr hg
      exact leaf 1 _ (Or.inl rfl) hx hg
theorem rep_right {x : Re} {d g g' : Nat} {a b : Int} (hx : rightR x 3 d g = some g') (hi : inR a b = true) : rightR (.mk 6 0 [x] a b 0) 2 d g = some g' := by
  simp [rightR, bareR, rightL, hi, hx]
theorem piece_right {d : Nat} (hd : d ≤ 64) (hA : d < 64 → AltR (d + 1)) {l r : Bs} {g g' : Nat} {x : Re} (h : pieceP (grpP (64 - d)) l g = .ok (x, r, g')) :
    rightR x 2 d g = some g' ∧ nodesR x + 2 ≤ 4 * (l.length - r.length) := by
  unfold pieceP at h
  cases ha : atomP (grpP (64 - d)) l g with
  | error e => rw [ha] at h; cases h
  | ok p =>
    obtain ⟨y, r1, g1⟩ := p
    rw [ha] at h
    obtain ⟨h1, h2, h3⟩ := atom_right hd hA ha
    simp only at h
    have rep : ∀ (a b : Int) (r2 : Bs), ¬ (y.kind = 2 ∨ y.kind = 3) → inR a b = true → (.mk 6 0 [y] a b 0 : Re) = x → r2 = r → r2.length < r1.length → g1 = g' → rightR x 2 d g = some g' ∧ nodesR x + 2 ≤ 4 * (l.length - r.length) := by
      rintro a b r2 hk hi rfl rfl hl rfl
      refine ⟨rep_right (h2 (fun e => hk (Or.inl e)) (fun e => hk (Or.inr e))) hi, ?_⟩
      simp [nodesR, nodesL] at h3 ⊢; omega
    cases r1 with
    | nil =>
      injection h with h; injection h with hx h; injection h with hr hg
      subst hx; subst hr; subst hg
      exact ⟨h1, h3⟩
    | cons c r1 =>
      simp only at h
      split at h
      · injection h with h; injection h with hx h; injection h with hr hg
        subst hx; subst hr; subst hg
        exact ⟨h1, h3⟩
      split at h
      · cases h
      rename_i hk
      split at h
      · injection h with h; injection h with hx h; injection h with hr hg
        exact rep 1 (-1) r1 hk (by decide) hx hr (by simp) hg
      split at h
      · injection h with h; injection h with hx h; injection h with hr hg
        exact rep 0 1 r1 hk (by decide) hx hr (by simp) hg
      split at h
      · cases ht : timesP r1 with
        | error e => rw [ht] at h; cases h
        | ok p =>
          obtain ⟨⟨a, b⟩, r2⟩ := p
          rw [ht] at h
          injection h with h; injection h with hx h; injection h with hr hg
          have := times_len ht
          exact rep a b r2 hk (times_in ht) hx hr (by simp; omega) hg
      · injection h with h; injection h with hx h; injection h with hr hg
        exact rep 0 (-1) r1 hk (by decide) hx hr (by simp) hg
theorem several_right {k : Int} {lv sub d g g' : Nat} (hk : (k = 4 ∧ lv = 1 ∧ sub = 2) ∨ (k = 5 ∧ lv = 0 ∧ sub = 1)) (acc : List Re) (h : rightL acc sub d g = some g') : rightR (several k acc) lv d g = some g' := by
  cases acc with
  | nil =>
    rw [rightL] at h
    rcases hk with ⟨rfl, rfl, rfl⟩ | ⟨rfl, rfl, rfl⟩ <;> simpa [several, rightR, bareR] using h
  | cons x l =>
    cases l with
    | nil =>
      have h2 : rightR x sub d g = some g' := by
        rw [rightL] at h
        cases hx : rightR x sub d g with
        | none => rw [hx] at h; cases h
        | some q => rw [hx] at h; exact h
      exact right_lower h2 (by rcases hk with ⟨_, rfl, rfl⟩ | ⟨_, rfl, rfl⟩ <;> omega)
    | cons y l =>
      rcases hk with ⟨rfl, rfl, rfl⟩ | ⟨rfl, rfl, rfl⟩ <;> simpa [several, rightR, bareR] using h
theorem several_nodes (k : Int) (acc : List Re) : nodesR (several k acc) ≤ nodesL acc + 1 ∧ (acc.length = 1 → nodesR (several k acc) = nodesL acc) := by
  match acc with
  | [] => simp [several, nodesR, nodesL]
  | [x] => simp [several, nodesL]
  | x :: y :: l => simp [several, nodesR, nodesL]; omega
theorem row_right {d : Nat} (hd : d ≤ 64) (hA : d < 64 → AltR (d + 1)) (g0 L0 : Nat) : ∀ (fuel : Nat) (acc : List Re) (l : Bs) (g : Nat) {x : Re} {r : Bs} {g' : Nat}, rowP (grpP (64 - d)) fuel acc l g = .ok (x, r, g') →
    rightL acc 2 d g0 = some g → nodesL acc + 2 * acc.length + 4 * l.length ≤ 4 * L0 → rightR x 1 d g0 = some g' ∧ nodesR x + 4 * r.length ≤ 4 * L0 + 1 := by
  intro fuel
  induction fuel with
  | zero => intro acc l g x r g' h; cases h
  | succ fuel ih =>
    intro acc l g x r g' h hr hn
    rw [rowP] at h
    split at h
    · injection h with h; injection h with hx h; injection h with hr2 hg
      subst hx; subst hr2; subst hg
      have := (several_nodes 4 acc).1
      exact ⟨several_right (Or.inl ⟨rfl, rfl, rfl⟩) acc hr, by omega⟩
    · cases hp : pieceP (grpP (64 - d)) l g with
      | error e => rw [hp] at h; cases h
      | ok p =>
        obtain ⟨y, r1, g1⟩ := p
        rw [hp] at h
        obtain ⟨h1, h2⟩ := piece_right hd hA hp
        have h3 := piece_len (grp_len (64 - d)) hp
        refine ih (acc ++ [y]) r1 g1 h ?_ ?_
        · rw [rightL_snoc, hr]; exact h1
        · rw [nodesL_snoc, List.length_append]; simp; omega
theorem alt_right {d : Nat} (hd : d ≤ 64) (hA : d < 64 → AltR (d + 1)) (g0 L0 : Nat) : ∀ (fuel : Nat) (acc : List Re) (l : Bs) (g : Nat) {x : Re} {r : Bs} {g' : Nat}, altP (grpP (64 - d)) fuel acc l g = .ok (x, r, g') →
    rightL acc 1 d g0 = some g → nodesL acc + 3 * acc.length + 4 * l.length ≤ 4 * L0 → rightR x 0 d g0 = some g' ∧ nodesR x + 4 * r.length ≤ 4 * L0 + 1 := by
  intro fuel
  induction fuel with
  | zero => intro acc l g x r g' h; cases h
  | succ fuel ih =>
    intro acc l g x r g' h hr hn
    rw [altP] at h
    cases hp : rowP (grpP (64 - d)) (l.length + 1) [] l g with
    | error e => rw [hp] at h; cases h
    | ok p =>
      obtain ⟨y, r1, g1⟩ := p
      rw [hp] at h
      simp only at h
      obtain ⟨h1, h2⟩ := row_right hd hA g l.length (l.length + 1) [] l g hp (by rw [rightL]) (by simp [nodesL])
      have h3 := row_len (grp_len (64 - d)) _ _ _ _ hp
      have h4 : rightL (acc ++ [y]) 1 d g0 = some g1 := by rw [rightL_snoc, hr]; exact h1
      split at h
      · rename_i hb
        have hne : 0 < r1.length := by
          cases r1 with
          | nil => simp at hb
          | cons c r1 => simp
        refine ih (acc ++ [y]) r1.tail g1 h h4 ?_
        rw [nodesL_snoc, List.length_append, List.length_tail]; simp; omega
      · injection h with h; injection h with hx h; injection h with hr2 hg
        subst hx; subst hr2; subst hg
        refine ⟨several_right (Or.inr ⟨rfl, rfl, rfl⟩) _ h4, ?_⟩
        obtain ⟨n1, n2⟩ := several_nodes 5 (acc ++ [y])
        rw [nodesL_snoc] at n1 n2
        by_cases ha : acc.length = 0
        · have := n2 (by simp [ha])
          have hz : acc = [] := List.eq_nil_of_length_eq_zero ha
          subst hz
          simp [nodesL] at this hn ⊢; omega
        · omega
theorem altR_all : ∀ n d, d + n = 64 → AltR d := by
  intro n
  induction n with
  | zero =>
    intro d hd l g x r g' h
    obtain ⟨h1, h2⟩ := alt_right (d := d) (by omega) (fun h => absurd h (by omega)) g l.length (l.length + 1) [] l g h (by rw [rightL]) (by simp [nodesL])
    exact ⟨h1, by omega⟩
  | succ n ih =>
    intro d hd l g x r g' h
    obtain ⟨h1, h2⟩ := alt_right (d := d) (by omega) (fun h => ih (d + 1) (by omega)) g l.length (l.length + 1) [] l g h (by rw [rightL]) (by simp [nodesL])
    exact ⟨h1, by omega⟩
/-- What is parsed may be, and has few nodes. -/
theorem parsed_right {s : Bs} {r : Re} (h : parseP s = .ok r) : (∃ q, rightR r 0 0 0 = some q) ∧ nodesR r ≤ 801 := by
  unfold parseP at h
  split at h
  · cases h
  rename_i hlen
  cases ha : altP (grpP 64) (s.length + 1) [] s 0 with
  | error e => rw [ha] at h; cases h
  | ok p =>
    obtain ⟨x, t, g⟩ := p
    rw [ha] at h
    simp only at h
    split at h
    · injection h with h
      subst h
      obtain ⟨h1, h2⟩ := altR_all 64 0 (by omega) s 0 x t g ha
      exact ⟨⟨g, h1⟩, by omega⟩
    · cases h
end EreX
end Go.Proofs.YtdonokghemhfiaaDoor
