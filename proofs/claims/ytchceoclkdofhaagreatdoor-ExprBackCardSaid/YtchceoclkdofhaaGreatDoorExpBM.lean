/- An expression in brackets is scanned and read as without them, in plain words. No program. No condition. -/
import Derived.Test.YtchceoclkdofhaaGreatDoorExpV
import Derived.Test.YtchceoclkdofhaaGreatDoorExpHM
import Derived.Test.YtchceoclkdofhaaGreatDoorExpP
namespace Go.Proofs.YtchceoclkdofhaaGreatDoor
set_option linter.unusedVariables false
set_option linter.unusedSimpArgs false
open Go.RowKit
namespace ExpT
open QuoP CalP CalW ExpP ExpW
open NumP (pv formB)
/-- The text in brackets. -/
def brk (s : ByteArray) : ByteArray := ⟨(40 :: s.data.toList ++ [10, 41]).toArray⟩
theorem brk_list (s : ByteArray) : (brk s).data.toList = 40 :: (s.data.toList ++ [10, 41]) := by simp [brk]
theorem brk_size (s : ByteArray) : (brk s).size = s.size + 3 := by rw [Lib.size_eq, brk_list, List.length_cons, List.length_append, ← Lib.size_eq]; rfl
theorem brk_drop (s : ByteArray) (i : Nat) (h : i ≤ s.size) : (brk s).data.toList.drop (i + 1) = s.data.toList.drop i ++ [10, 41] := by
  rw [brk_list, List.drop_succ_cons, List.drop_append_of_le_length (by rw [← Lib.size_eq]; exact h)]
theorem ext_list (s : ByteArray) (i e : Nat) : (s.extract i e).data.toList = (s.data.toList.take e).drop i := by
  rw [ByteArray.data_extract, Array.toList_extract, List.extract_eq_take_drop, List.drop_take]
theorem brk_ext (s : ByteArray) (i e : Nat) (he : e ≤ s.size) : (brk s).extract (i + 1) (e + 1) = s.extract i e := by
  apply bytes_ext
  rw [ext_list, ext_list, brk_list, List.take_succ_cons, List.drop_succ_cons, List.take_append_of_le_length (by rw [← Lib.size_eq]; exact he)]
theorem brk_run (p : UInt8 → Bool) (hp : p 10 = false) (s : ByteArray) (i : Nat) (h : i ≤ s.size) : runN p (brk s) (i + 1) = runN p s i + 1 := by
  unfold runN
  rw [brk_drop s i h, List.takeWhile_append]
  split
  · next he => rw [List.takeWhile_cons, if_neg (by rw [hp]; decide), List.append_nil, he]; omega
  · omega
theorem brk_at (s : ByteArray) (i : Nat) (h : i < s.size) : (brk s).data.toList[i + 1]? = s.data.toList[i]? := by
  rw [brk_list, List.getElem?_cons_succ, List.getElem?_append_left (by rw [← Lib.size_eq]; exact h)]
theorem run_more : ∀ (l : Bs) (st : St) (o : List Pt) (t : Bs) (o' : List Pt) (r z : Bs), run st o t l = .ok o' r → run st o t (l ++ z) = .ok o' (r ++ z)
  | [], st, o, t, o', r, z => fun h => by rw [run_nil] at h; cases h
  | c :: l, st, o, t, o', r, z => fun h => by
    rw [List.cons_append]
    rw [run_cons] at h ⊢
    split
    · next e => rw [e] at h; cases h
    · next e => rw [e] at h; exact run_more l _ _ _ _ _ z h
    · next e => rw [e] at h; injection h with h1 h2; subst h1 h2; rfl
theorem sig_no10 : ∀ u ∈ signL, (10 : UInt8) ∉ u ∧ (41 : UInt8) ∉ u.drop 1 := by decide
theorem find_eq {α : Type} {p q : α → Bool} : ∀ {l : List α}, (∀ x ∈ l, p x = q x) → l.find? p = l.find? q
  | [], _ => rfl
  | x :: l, h => by
    rw [List.find?_cons, List.find?_cons, h x (by simp), find_eq (fun y hy => h y (by simp [hy]))]
theorem brk_sig (s : ByteArray) (i : Nat) (h : i < s.size) (u : Bs) (hu : u ∈ signL) :
    (decide (i + 1 + u.length ≤ (brk s).size) && ((brk s).extract (i + 1) (i + 1 + u.length)).data.toList == u) = (decide (i + u.length ≤ s.size) && (s.extract i (i + u.length)).data.toList == u) := by
  have hl := sig_len u hu
  rw [brk_size, decide_eq_true (by omega : i + 1 + u.length ≤ s.size + 3)]
  by_cases hle : i + u.length ≤ s.size
  · rw [decide_eq_true hle, show i + 1 + u.length = (i + u.length) + 1 by omega, brk_ext s i _ hle]
  · rw [decide_eq_false hle, Bool.false_and, Bool.true_and, Bool.eq_false_iff]
    intro he
    rw [beq_iff_eq] at he
    have h2 : u.length = 2 ∧ i + 1 = s.size := by omega
    have : u[1]? = some 10 := by
      rw [← he, ext_list, List.getElem?_drop, List.getElem?_take_of_lt (by omega), brk_list, List.getElem?_cons]
      simp only [show ¬ (i + 1 + 1 = 0) by omega, if_false]
      rw [List.getElem?_append_right (by rw [← Lib.size_eq]; omega), ← Lib.size_eq]
      rw [show i + 1 + 1 - 1 - s.size = 0 by omega]; rfl
    exact (sig_no10 u hu).1 (List.mem_of_getElem? this)
theorem one_brk {s : ByteArray} {i : Nat} {t : Tk} {e : Nat} (hi : i < s.size) (h : oneX s i = some (t, e)) : oneX (brk s) (i + 1) = some (t, e + 1) := by
  have hr := fun p hp j hj => brk_run p hp s j hj
  have hle := fun p j hj => run_le p s j hj
  unfold oneX at h ⊢
  rw [brk_at s i hi]
  split at h
  · cases h
  next c hc =>
  have hwa : withB 10 = false := by decide
  have hla : letterB 10 = false := by decide
  have hda : digB 10 = false := by decide
  rw [hr withB hwa i (by omega), hr digB hda i (by omega), hr withB hwa (i + 1) (by omega), hr letterB hla (i + 1) (by omega)]
  have a1 := (hle withB i (by omega)).2
  have a2 := (hle digB i (by omega)).2
  have a3 := (hle withB (i + 1) (by omega)).2
  have a4 := (hle letterB (i + 1) (by omega)).2
  rw [brk_ext s i _ a1, brk_ext s i _ a2, brk_ext s (i + 1) _ a3, brk_ext s (i + 1) _ a4]
  rw [Nat.add_sub_add_right]
  by_cases h1 : letterB c = true
  · rw [if_pos h1] at h ⊢
    split at h
    · cases h
    · next hn => rw [if_neg hn]; injection h with h; injection h with h2 h3; subst h2 h3; rfl
  rw [if_neg h1] at h ⊢
  by_cases h2 : digB c = true
  · rw [if_pos h2] at h ⊢
    split at h
    · next hn => rw [if_pos hn]; injection h with h; injection h with h2 h3; subst h2 h3; rfl
    · cases h
  rw [if_neg h2] at h ⊢
  by_cases h3 : c = 34
  · rw [if_pos h3] at h ⊢
    have e1 : ((brk s).extract (i + 1) (brk s).size).data.toList = (s.extract i s.size).data.toList ++ [10, 41] := by
      rw [ext_list, ext_list, List.take_of_length_le (by rw [← Lib.size_eq]; omega), List.take_of_length_le (by rw [← Lib.size_eq]; omega), brk_drop s i (by omega)]
    rw [e1]
    split at h
    · cases h
    · next o r hp =>
      have := run_more _ _ _ _ _ _ [10, 41] hp
      have hlen := parse_len hp
      rw [← Lib.size_eq, ext_size s i s.size (by omega)] at hlen
      unfold parse at this ⊢
      rw [this]
      injection h with h; injection h with h2 h3; subst h2 h3
      simp only [brk_size, List.length_append, List.length_cons, List.length_nil]
      rw [show s.size + 3 - (r.length + (0 + 1 + 1)) = s.size - r.length + 1 by omega]
  rw [if_neg h3] at h ⊢
  by_cases h4 : c = 36
  · rw [if_pos h4] at h ⊢
    split at h
    · next hn => rw [if_pos hn]; injection h with h; injection h with h2 h3; subst h2 h3; rfl
    · cases h
  rw [if_neg h4] at h ⊢
  by_cases h5 : c = 45 ∧ i + 1 < runN letterB s (i + 1)
  · rw [if_pos h5] at h
    rw [if_pos ⟨h5.1, by omega⟩]
    split at h
    · next hn => rw [if_pos hn]; injection h with h; injection h with h2 h3; subst h2 h3; rfl
    · cases h
  rw [if_neg h5] at h
  rw [if_neg (fun hh => h5 ⟨hh.1, by omega⟩)]
  rw [find_eq (fun u hu => brk_sig s i hi u hu)]
  split at h
  · next u hu => injection h with h; injection h with h2 h3; subst h2 h3; rw [hu]; dsimp only; rw [show i + 1 + u.length = i + u.length + 1 by omega]
  · cases h
theorem one_fwdx {s : ByteArray} {i : Nat} {t : Tk} {e : Nat} (hi : i < s.size) (h : oneX s i = some (t, e)) : i < e ∧ e ≤ s.size := by
  have hle := fun p j hj => run_le p s j hj
  have hst : ∀ p (hp : p (s[i]'hi) = true), i < runN p s i := fun p hp => by
    rw [run_step hi hp]; have := (hle p (i + 1) (by omega)).1; omega
  have hsc : s.data.toList[i]? = some (s[i]'hi) := List.getElem?_eq_getElem (by rw [← Lib.size_eq]; exact hi)
  unfold oneX at h
  rw [hsc] at h
  dsimp only at h
  have a1 := (hle withB i (by omega)).2
  have a2 := (hle digB i (by omega)).2
  have a3 := hle withB (i + 1) (by omega)
  have a4 := hle letterB (i + 1) (by omega)
  by_cases h1 : letterB (s[i]'hi) = true
  · rw [if_pos h1] at h
    have := hst withB (by unfold withB; rw [h1]; rfl)
    split at h
    · cases h
    · injection h with h; injection h with h2 h3; omega
  rw [if_neg h1] at h
  by_cases h2 : digB (s[i]'hi) = true
  · rw [if_pos h2] at h
    have := hst digB h2
    split at h
    · injection h with h; injection h with h2 h3; omega
    · cases h
  rw [if_neg h2] at h
  split at h
  · split at h
    · cases h
    · next o r hp =>
      have hlen := parse_len hp
      rw [← Lib.size_eq, ext_size s i s.size (by omega)] at hlen
      injection h with h; injection h with h2 h3; omega
  split at h
  · split at h
    · injection h with h; injection h with h2 h3; omega
    · cases h
  split at h
  · split at h
    · injection h with h; injection h with h2 h3; omega
    · cases h
  split at h
  · next u hu =>
    have hin := List.mem_of_find?_eq_some hu
    have hl := sig_len u hin
    have := List.find?_some hu
    simp only [Bool.and_eq_true, decide_eq_true_eq] at this
    injection h with h; injection h with h2 h3; omega
  · cases h
abbrev lpT : Tk := ⟨4, baS [40], 0⟩
abbrev rpT : Tk := ⟨4, baS [41], 0⟩
theorem scan_brk_go (s : ByteArray) : ∀ (f i : Nat) (l : List Tk), i ≤ s.size → s.size < i + f → scanX s f i = some l → scanX (brk s) (f + 2) (i + 1) = some (l ++ [rpT])
  | 0, i, l => fun h1 h2 => by omega
  | f + 1, i, l => fun h1 h2 h => by
    by_cases hi : i < s.size
    · have hsc : s.data.toList[i]? = some (s[i]'hi) := List.getElem?_eq_getElem (by rw [← Lib.size_eq]; exact hi)
      rw [scanX, hsc] at h
      rw [scanX, brk_at s i hi, hsc]
      dsimp only at h ⊢
      by_cases hb : s[i]'hi = 32 ∨ s[i]'hi = 9 ∨ s[i]'hi = 10
      · rw [if_pos hb] at h ⊢
        exact scan_brk_go s f (i + 1) l (by omega) (by omega) h
      rw [if_neg hb] at h ⊢
      by_cases h35 : s[i]'hi = 35
      · rw [if_pos h35] at h ⊢
        rw [brk_run _ (by decide) s i (by omega)]
        have hst := run_step hi (p := fun b => decide (b ≠ 10)) (by rw [h35]; decide)
        have hle2 := run_le (fun b => decide (b ≠ 10)) s (i + 1) (by omega)
        exact scan_brk_go s f _ l (by omega) (by omega) h
      rw [if_neg h35] at h ⊢
      split at h
      · cases h
      next t e ho =>
      have hf := one_fwdx hi ho
      rw [one_brk hi ho]
      dsimp only
      split at h
      · cases h
      next r hr =>
      rw [scan_brk_go s f e r (by omega) (by omega) hr]
      injection h with h
      subst h
      rfl
    · have hi2 : i = s.size := by omega
      have h0 : s.data.toList[i]? = none := List.getElem?_eq_none (by rw [← Lib.size_eq]; omega)
      rw [scanX, h0] at h
      injection h with h
      subst h hi2
      have c1 : (brk s).data.toList[s.size + 1]? = some 10 := by
        rw [brk_list, List.getElem?_cons_succ, List.getElem?_append_right (by rw [← Lib.size_eq]; omega), ← Lib.size_eq, Nat.sub_self]; rfl
      have c2 : (brk s).data.toList[s.size + 1 + 1]? = some 41 := by
        rw [brk_list, List.getElem?_cons_succ, List.getElem?_append_right (by rw [← Lib.size_eq]; omega), ← Lib.size_eq, show s.size + 1 - s.size = 1 by omega]; rfl
      have c3 : (brk s).data.toList[s.size + 1 + 1 + 1]? = none := List.getElem?_eq_none (by rw [← Lib.size_eq, brk_size]; omega)
      have ho : oneX (brk s) (s.size + 1 + 1) = some (rpT, s.size + 1 + 1 + 1) := by
        have q : ∀ u ∈ signL, (decide (s.size + 1 + 1 + u.length ≤ (brk s).size) && ((brk s).extract (s.size + 1 + 1) (s.size + 1 + 1 + u.length)).data.toList == u) = (u == [41]) := by
          intro u hu
          have hl := sig_len u hu
          rw [brk_size]
          have hx : ((brk s).extract (s.size + 1 + 1) (s.size + 1 + 1 + 1)).data.toList = [41] := by
            rw [ext_list, List.take_of_length_le (by rw [← Lib.size_eq, brk_size]; omega), brk_list, List.drop_succ_cons, List.drop_append, List.drop_eq_nil_of_le (by rw [← Lib.size_eq]; omega), ← Lib.size_eq, show s.size + 1 - s.size = 1 by omega]; rfl
          by_cases h1 : u.length = 1
          · rw [h1, hx, decide_eq_true (by omega), Bool.true_and, Bool.eq_iff_iff, beq_iff_eq, beq_iff_eq]; exact eq_comm
          · rw [decide_eq_false (by omega), Bool.false_and]
            symm
            rw [Bool.eq_false_iff]
            intro e
            rw [beq_iff_eq] at e
            rw [e] at h1; exact h1 rfl
        unfold oneX
        rw [c2]
        dsimp only
        rw [if_neg (by decide), if_neg (by decide), if_neg (by decide), if_neg (by decide), if_neg (fun hh => absurd hh.1 (by decide)), find_eq q]
        rfl
      rw [scanX, c1]
      dsimp only
      rw [if_pos (by decide), scanX, c2]
      dsimp only
      rw [if_neg (by decide), if_neg (by decide), ho]
      dsimp only
      rw [scanX, c3]
      rfl
/-- The text in brackets has the same tokens, in brackets. -/
theorem scan_brk {s : ByteArray} {l : List Tk} (h : scanX s (s.size + 1) 0 = some l) : scanX (brk s) ((brk s).size + 1) 0 = some (lpT :: (l ++ [rpT])) := by
  have h1 := scan_brk_go s (s.size + 1) 0 l (by omega) (by omega) h
  rw [show (brk s).size + 1 = (s.size + 1 + 2) + 1 by rw [brk_size], scanX]
  have c0 : (brk s).data.toList[0]? = some 40 := by rw [brk_list]; rfl
  have q : ∀ u ∈ signL, (decide (0 + u.length ≤ (brk s).size) && ((brk s).extract 0 (0 + u.length)).data.toList == u) = (u == [40]) := by
    intro u hu
    have hl := sig_len u hu
    rw [decide_eq_true (by rw [brk_size]; omega), Bool.true_and, Bool.eq_iff_iff, beq_iff_eq, beq_iff_eq, ext_list, brk_list, List.drop_zero]
    constructor
    · intro e
      have : u.head? = some 40 := by rw [← e, show 0 + u.length = (u.length - 1) + 1 by omega, List.take_succ_cons]; rfl
      exact (by decide : ∀ u ∈ signL, u.head? = some 40 → u = [40]) u hu this
    · intro e; subst e; rfl
  have ho : oneX (brk s) 0 = some (lpT, 1) := by
    unfold oneX
    rw [c0]
    dsimp only
    rw [if_neg (by decide), if_neg (by decide), if_neg (by decide), if_neg (by decide), if_neg (fun hh => absurd hh.1 (by decide)), find_eq q]
    rfl
  rw [c0]
  dsimp only
  rw [if_neg (by decide), if_neg (by decide), ho]
  dsimp only
  rw [h1]
/-! Read from the tokens in brackets. -/
abbrev brkL (l : List Tk) : List Tk := lpT :: (l ++ [rpT])
theorem brkL_at (l : List Tk) (i : Nat) (h : i < l.length) : (brkL l)[i + 1]? = l[i]? := by
  rw [List.getElem?_cons_succ, List.getElem?_append_left h]
theorem sign_brk (l : List Tk) (i : Nat) (h : i < l.length) : signS (brkL l) (i + 1) = signS l i := by unfold signS; rw [brkL_at l i h]
theorem sign_brk_end (l : List Tk) : signS (brkL l) (l.length + 1) = baS [41] := by
  unfold signS; rw [List.getElem?_cons_succ, List.getElem?_append_right (Nat.le_refl _), Nat.sub_self]; rfl
theorem sign_end (l : List Tk) : signS l l.length = noB := by unfold signS; rw [List.getElem?_eq_none (Nat.le_refl _)]
/-- Read the same, one further on; or too deep. -/
def RelB (r r' : Res) : Prop := ∀ x j, r = .ok (x, j) → r' = .ok (x, j + 1) ∨ ∃ k, r' = .error (k, 8)
def RelP (l : List Tk) : Option Par → Option Par → Prop
  | _, none => True
  | none, some _ => False
  | some p, some q => (∀ i, i ≤ l.length → RelB (p.one i) (q.one (i + 1))) ∧ (∀ k i, 1 ≤ k → i ≤ l.length → RelB (p.some k i) (q.some k (i + 1)))
theorem rel_one {l : List Tk} {o o' : Option Par} (hf : FwdP l o) (ho : RelP l o o') (i : Nat) (hi : i ≤ l.length) : RelB (mkOne l o i) (mkOne (brkL l) o' (i + 1)) := by
  intro x j h
  by_cases hlt : i < l.length
  rotate_left
  · obtain rfl : i = l.length := by omega
    unfold mkOne at h
    rw [sign_end, if_neg (by simp), if_neg (by simp), List.getElem?_eq_none (Nat.le_refl _)] at h
    cases h
  unfold mkOne at h ⊢
  rw [sign_brk l i hlt, brkL_at l i hlt]
  split at h
  · next h1 =>
    rw [if_pos h1]
    cases o' with
    | none => exact .inr ⟨_, rfl⟩
    | some q =>
      cases o with
      | none => exact ho.elim
      | some p =>
        dsimp only at h ⊢
        cases hp : p.one (i + 1) with
        | error e => rw [hp] at h; cases h
        | ok r =>
          obtain ⟨y, k⟩ := r
          rw [hp] at h
          rcases ho.1 (i + 1) (by omega) y k hp with hq | ⟨k2, hq⟩
          · rw [hq]; injection h with h; injection h with h1 h2; subst h1 h2; exact .inl rfl
          · rw [hq]; exact .inr ⟨_, rfl⟩
  · next h1 =>
    rw [if_neg h1]
    split at h
    · next h2 =>
      rw [if_pos h2]
      cases o' with
      | none => exact .inr ⟨_, rfl⟩
      | some q =>
        cases o with
        | none => exact ho.elim
        | some p =>
          dsimp only at h ⊢
          cases hp : p.some 1 (i + 1) with
          | error e => rw [hp] at h; cases h
          | ok r =>
            obtain ⟨y, k⟩ := r
            rw [hp] at h
            dsimp only at h
            rcases ho.2 1 (i + 1) (by omega) (by omega) y k hp with hq | ⟨k2, hq⟩
            · rw [hq]
              dsimp only
              split at h
              · next h3 =>
                have hk : k < l.length := sign_lt (by rw [h3]; simp)
                rw [sign_brk l k hk, if_pos h3]
                injection h with h; injection h with h1 h2; subst h1 h2; exact .inl rfl
              · cases h
            · rw [hq]; exact .inr ⟨_, rfl⟩
    · next h2 =>
      rw [if_neg h2]
      split at h
      · cases h
      · next t ht =>
        split at h
        · next h3 => rw [if_pos h3]; injection h with h; injection h with h1 h2; subst h1 h2; exact .inl rfl
        · next h3 =>
          rw [if_neg h3]
          split at h
          · next h4 => rw [if_pos h4]; injection h with h; injection h with h1 h2; subst h1 h2; exact .inl rfl
          · cases h
theorem rel_loop {l : List Tk} {o o' : Option Par} (hf : FwdP l o) (ho : RelP l o o') {s : Nat} (hs : 1 ≤ s) : ∀ (f f' : Nat) (x : Ex) (i : Nat), i ≤ l.length → l.length < i + f → l.length < i + f' → RelB (loopS l o s f x i) (loopS (brkL l) o' s f' x (i + 1))
  | 0, f', x, i, h1, h2, h3 => by omega
  | f + 1, 0, x, i, h1, h2, h3 => by omega
  | f + 1, f' + 1, x, i, h1, h2, h3 => by
    intro y j h
    rw [loop_s] at h ⊢
    by_cases hlt : i < l.length
    rotate_left
    · obtain rfl : i = l.length := by omega
      rw [sign_end, if_neg (by rw [strength_no rfl]; omega)] at h
      rw [sign_brk_end, if_neg (by rw [show strength (baS [41]) = 0 by decide]; omega)]
      injection h with h; injection h with h1 h2; subst h1 h2; exact .inl rfl
    rw [sign_brk l i hlt]
    split at h
    · next hs2 =>
      rw [if_pos hs2]
      cases o' with
      | none => exact .inr ⟨_, rfl⟩
      | some q =>
        cases o with
        | none => exact ho.elim
        | some p =>
          dsimp only at h ⊢
          cases hp : p.some (strength (signS l i) + 1) (i + 1) with
          | error e => rw [hp] at h; cases h
          | ok r =>
            obtain ⟨z, k⟩ := r
            rw [hp] at h
            dsimp only at h
            have hfw := (hf p rfl).2 _ (i + 1) (by omega) z k hp
            rcases ho.2 _ (i + 1) (by omega) (by omega) z k hp with hq | ⟨k2, hq⟩
            · rw [hq]
              exact rel_loop hf ho hs f f' _ k (by omega) (by omega) (by omega) y j h
            · rw [hq]; exact .inr ⟨_, rfl⟩
    · next hs2 => rw [if_neg hs2]; injection h with h; injection h with h1 h2; subst h1 h2; exact .inl rfl
theorem rel_some {l : List Tk} {o o' : Option Par} (hf : FwdP l o) (ho : RelP l o o') {s : Nat} (hs : 1 ≤ s) (i : Nat) (hi : i ≤ l.length) : RelB (mkSome l o s i) (mkSome (brkL l) o' s (i + 1)) := by
  intro x j h
  unfold mkSome at h ⊢
  cases hp : mkOne l o i with
  | error e => rw [hp] at h; cases h
  | ok r =>
    obtain ⟨y, k⟩ := r
    rw [hp] at h
    dsimp only at h
    have hfw := one_fwd hf i y k hp
    rcases rel_one hf ho i hi y k hp with hq | ⟨k2, hq⟩
    · rw [hq]
      exact rel_loop hf ho hs _ _ y k (by omega) (by omega) (by simp; omega) x j h
    · rw [hq]; exact .inr ⟨_, rfl⟩
theorem rel_up (l : List Tk) : ∀ m n, m ≤ n → RelP l (up l n) (up (brkL l) m)
  | 0, n, _ => by unfold up; cases n <;> trivial
  | m + 1, 0, h => by omega
  | m + 1, n + 1, h => by
    refine ⟨fun i hi => ?_, fun k i hk hi => ?_⟩
    · rw [one_mk, one_mk]; exact rel_one (up_fwd l n) (rel_up l m n (by omega)) i hi
    · rw [some_mk, some_mk]; exact rel_some (up_fwd l n) (rel_up l m n (by omega)) hk i hi
def BadP (o : Option Par) : Prop := ∀ p, o = some p → (∀ i e, p.one i = .error e → e.2 = 1 ∨ e.2 = 8) ∧ (∀ s i e, p.some s i = .error e → e.2 = 1 ∨ e.2 = 8)
theorem one_bad {l : List Tk} {o : Option Par} (ho : BadP o) (i : Nat) (e : Nat × Int) (h : mkOne l o i = .error e) : e.2 = 1 ∨ e.2 = 8 := by
  unfold mkOne at h
  split at h
  · cases o with
    | none => injection h with h; subst h; exact .inr rfl
    | some p =>
      dsimp only at h
      cases hp : p.one (i + 1) with
      | error e => rw [hp] at h; injection h with h; subst h; exact (ho p rfl).1 _ _ hp
      | ok r => rw [hp] at h; cases h
  · split at h
    · cases o with
      | none => injection h with h; subst h; exact .inr rfl
      | some p =>
        dsimp only at h
        cases hp : p.some 1 (i + 1) with
        | error e => rw [hp] at h; injection h with h; subst h; exact (ho p rfl).2 _ _ _ hp
        | ok r =>
          obtain ⟨y, j⟩ := r
          rw [hp] at h
          dsimp only at h
          split at h
          · cases h
          · injection h with h; subst h; exact .inl rfl
    · split at h
      · injection h with h; subst h; exact .inl rfl
      · split at h
        · cases h
        · split at h
          · cases h
          · injection h with h; subst h; exact .inl rfl
theorem loop_bad {l : List Tk} {o : Option Par} (ho : BadP o) (s : Nat) : ∀ (f : Nat) (x : Ex) (i : Nat) (e : Nat × Int), loopS l o s f x i = .error e → e.2 = 1 ∨ e.2 = 8
  | 0, x, i => fun e h => by rw [loop_0] at h; cases h
  | f + 1, x, i => fun e h => by
    rw [loop_s] at h
    split at h
    · cases o with
      | none => injection h with h; subst h; exact .inr rfl
      | some p =>
        dsimp only at h
        cases hp : p.some (strength (signS l i) + 1) (i + 1) with
        | error e => rw [hp] at h; injection h with h; subst h; exact (ho p rfl).2 _ _ _ hp
        | ok r =>
          obtain ⟨z, j⟩ := r
          rw [hp] at h
          exact loop_bad ho s f _ j e h
    · cases h
theorem some_bad {l : List Tk} {o : Option Par} (ho : BadP o) (s i : Nat) (e : Nat × Int) (h : mkSome l o s i = .error e) : e.2 = 1 ∨ e.2 = 8 := by
  unfold mkSome at h
  cases hp : mkOne l o i with
  | error e => rw [hp] at h; injection h with h; subst h; exact one_bad ho i _ hp
  | ok r =>
    obtain ⟨y, j⟩ := r
    rw [hp] at h
    exact loop_bad ho s _ y j e h
theorem up_bad (l : List Tk) : ∀ n, BadP (up l n)
  | 0 => fun p h => by cases h
  | n + 1 => fun p h => by
    injection h with h; subst h
    exact ⟨fun i e he => by rw [one_mk] at he; exact one_bad (up_bad l n) i e he, fun s i e he => by rw [some_mk] at he; exact some_bad (up_bad l n) s i e he⟩
theorem parse_ok {l : List Tk} {x : Ex} {k : Nat} (h : parseX l 0 = (x, k, 0)) : mkSome l (up l 64) 1 0 = .ok (x, k) := by
  unfold parseX at h
  rw [if_pos (by omega)] at h
  simp only [Int.toNat_zero, some_mk] at h
  cases hp : mkSome l (up l 64) 1 0 with
  | error e =>
    have hb := some_bad (up_bad l 64) 1 0 e hp
    rw [hp] at h
    obtain ⟨e1, e2⟩ := e
    injection h with h3 h4; injection h4 with h4 h5
    dsimp only at hb h5
    omega
  | ok r =>
    obtain ⟨z, j⟩ := r
    rw [hp] at h
    injection h with h3 h4; injection h4 with h4 h5
    rw [h3, h4]
/-- An expression in brackets is read as without them, unless it stands too deeply by that. -/
theorem parse_brk {l : List Tk} {x : Ex} (h : parseX l 0 = (x, l.length, 0)) (y : Ex) (k : Nat) (e : Int) (h2 : parseX (brkL l) 0 = (y, k, e)) : e = 8 ∨ (e = 0 ∧ k = l.length + 2 ∧ x = y) := by
  have hp := parse_ok h
  have hs := rel_some (up_fwd l 64) (rel_up l 63 64 (by omega)) (Nat.le_refl 1) 0 (by omega) x l.length hp
  unfold parseX at h2
  rw [if_pos ⟨by omega, by omega⟩] at h2
  simp only [Int.toNat_zero, some_mk] at h2
  have h1 : mkOne (brkL l) (up (brkL l) 64) 0 = match mkSome (brkL l) (up (brkL l) 63) 1 (0 + 1) with
      | .error e => .error e
      | .ok (x, k) => if (signS (brkL l) k).data.toList = [41] then .ok (x, k + 1) else .error (k, 1) := by
    have h0 : (signS (brkL l) 0).data.toList = [40] := rfl
    unfold mkOne
    rw [h0, if_neg (by decide), if_pos rfl]
    rw [← some_mk]
    rfl
  rcases hs with hs | ⟨k2, hs⟩
  · rw [hs] at h1
    dsimp only at h1
    rw [sign_brk_end, if_pos (show (baS [41]).data.toList = [41] from rfl)] at h1
    unfold mkSome at h2
    rw [h1] at h2
    dsimp only at h2
    rw [loop_s, show signS (brkL l) (l.length + 1 + 1) = noB by unfold signS; rw [List.getElem?_eq_none (by simp)], if_neg (by decide)] at h2
    injection h2 with h3 h4; injection h4 with h4 h5
    exact .inr ⟨h5.symm, h4.symm, h3⟩
  · rw [hs] at h1
    unfold mkSome at h2
    rw [h1] at h2
    injection h2 with h3 h4; injection h4 with h4 h5
    exact .inl h5.symm
end ExpT
end Go.Proofs.YtchceoclkdofhaaGreatDoor
namespace Go.Proofs.YtchceoclkdofhaaGreatDoor
set_option linter.unusedVariables false
set_option linter.unusedSimpArgs false
open Go.RowKit
namespace ExpT
open QuoP CalP ExpP
/-- What is read between two places has fewer nodes than there are tokens. -/
def NdR (i : Nat) (r : Res) : Prop := ∀ x k, r = .ok (x, k) → nodesE x + i ≤ k
def NdP (o : Option Par) : Prop := ∀ p, o = some p → (∀ i, NdR i (p.one i)) ∧ (∀ s i, NdR i (p.some s i))
theorem one_nd {l : List Tk} {o : Option Par} (ho : NdP o) (i : Nat) : NdR i (mkOne l o i) := by
  intro x k h
  unfold mkOne at h
  split at h
  · cases o with
    | none => cases h
    | some p =>
      dsimp only at h
      cases hp : p.one (i + 1) with
      | error e => rw [hp] at h; cases h
      | ok r =>
        obtain ⟨y, j⟩ := r
        rw [hp] at h
        injection h with h; injection h with h1 h2
        have := (ho p rfl).1 _ y j hp
        rw [← h1, nodesE, nodesL, nodesL]; omega
  · split at h
    · cases o with
      | none => cases h
      | some p =>
        dsimp only at h
        cases hp : p.some 1 (i + 1) with
        | error e => rw [hp] at h; cases h
        | ok r =>
          obtain ⟨y, j⟩ := r
          rw [hp] at h
          dsimp only at h
          split at h
          · injection h with h; injection h with h1 h2
            have := (ho p rfl).2 _ _ y j hp
            rw [← h1]; omega
          · cases h
    · cases hi : l[i]? with
      | none => rw [hi] at h; cases h
      | some t =>
        rw [hi] at h
        dsimp only at h
        split at h
        · injection h with h; injection h with h1 h2
          rw [← h1, nodesE, nodesL]; omega
        · split at h
          · injection h with h; injection h with h1 h2
            rw [← h1, nodesE, nodesL]; omega
          · cases h
theorem loop_nd {l : List Tk} {o : Option Par} (ho : NdP o) (s j : Nat) : ∀ (f : Nat) (x : Ex) (i : Nat), nodesE x + j ≤ i → ∀ y k, loopS l o s f x i = .ok (y, k) → nodesE y + j ≤ k
  | 0, x, i, hx => fun y k h => by rw [loop_0] at h; injection h with h; injection h with h1 h2; rw [← h1, ← h2]; exact hx
  | f + 1, x, i, hx => fun y k h => by
    rw [loop_s] at h
    split at h
    · cases o with
      | none => cases h
      | some p =>
        dsimp only at h
        cases hp : p.some (strength (signS l i) + 1) (i + 1) with
        | error e => rw [hp] at h; cases h
        | ok r =>
          obtain ⟨z, m⟩ := r
          rw [hp] at h
          have := (ho p rfl).2 _ _ z m hp
          refine loop_nd ho s j f _ m ?_ y k h
          simp only [nodesE, nodesL]; omega
    · injection h with h; injection h with h1 h2; rw [← h1, ← h2]; exact hx
theorem some_nd {l : List Tk} {o : Option Par} (ho : NdP o) (s i : Nat) : NdR i (mkSome l o s i) := by
  intro x k h
  unfold mkSome at h
  cases hp : mkOne l o i with
  | error e => rw [hp] at h; cases h
  | ok r =>
    obtain ⟨y, j⟩ := r
    rw [hp] at h
    exact loop_nd ho s i _ y j (one_nd ho i y j hp) x k h
theorem up_nd (l : List Tk) : ∀ n, NdP (up l n)
  | 0 => fun p h => by cases h
  | n + 1 => fun p h => by
    injection h with h; subst h
    exact ⟨fun i => by rw [one_mk]; exact one_nd (up_nd l n) i, fun s i => by rw [some_mk]; exact some_nd (up_nd l n) s i⟩
/-- What is parsed has no more nodes than there are tokens. -/
theorem parse_nodes {l : List Tk} {i : Int} {x : Ex} {k : Nat} {e : Int} (h : parseX l i = (x, k, e)) : nodesE x ≤ l.length + 1 := by
  unfold parseX at h
  split at h
  · next hi =>
    split at h
    · injection h with h1 h2; rw [← h1]; simp [nodesE, nodesL]
    · next x' k' hx =>
      injection h with h1 h2
      rw [some_mk] at hx
      have h3 := some_nd (up_nd l 64) 1 _ x' k' hx
      have h4 := some_fwd (up_fwd l 64) (Nat.le_refl 1) _ x' k' hx
      rw [← h1]; omega
  · injection h with h1 h2; rw [← h1]; simp [nodesE, nodesL]
end ExpT
end Go.Proofs.YtchceoclkdofhaaGreatDoor
