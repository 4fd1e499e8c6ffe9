/- What is told of an expression is read back, unless it stands too deeply. No program. No condition. -/
import Derived.Test.YtchceoclkdofhaaGreatDoorExpHM
import Derived.Test.YtchceoclkdofhaaGreatDoorExpBM
namespace Go.Proofs.YtchceoclkdofhaaGreatDoor
set_option linter.unusedVariables false
set_option linter.unusedSimpArgs false
open Go.RowKit
namespace ExpT
open QuoP CalP CalW ExpP ExpW
/-- These tokens stand there. -/
def At (L : List Tk) (i : Nat) (m : List Tk) : Prop := ∀ j, j < m.length → L[i + j]? = m[j]?
theorem At.left {L : List Tk} {i : Nat} {a b : List Tk} (h : At L i (a ++ b)) : At L i a := fun j hj => by
  rw [h j (by rw [List.length_append]; omega), List.getElem?_append_left hj]
theorem At.right {L : List Tk} {i : Nat} {a b : List Tk} (h : At L i (a ++ b)) : At L (i + a.length) b := fun j hj => by
  rw [Nat.add_assoc, h (a.length + j) (by rw [List.length_append]; omega), List.getElem?_append_right (by omega), Nat.add_sub_cancel_left]
theorem At.head {L : List Tk} {i : Nat} {t : Tk} {m : List Tk} (h : At L i (t :: m)) : L[i]? = some t := by
  have := h 0 (by simp); simpa using this
theorem At.tail {L : List Tk} {i : Nat} {t : Tk} {m : List Tk} (h : At L i (t :: m)) : At L (i + 1) m := by
  have : At L i ([t] ++ m) := h
  simpa using this.right
theorem sign_at {L : List Tk} {i : Nat} {w : ByteArray} {n : Int} (h : L[i]? = some ⟨4, w, n⟩) : signS L i = w := by unfold signS; rw [h]; rfl
theorem sign_not {L : List Tk} {i : Nat} {t : Tk} (h : L[i]? = some t) (hk : t.kind ≠ 4) : signS L i = noB := by unfold signS; rw [h]; exact if_neg hk
theorem loop_fuel {l : List Tk} {o : Option Par} (hf : FwdP l o) {s : Nat} (hs : 1 ≤ s) : ∀ (f f' : Nat) (x : Ex) (i : Nat), l.length < i + f → l.length < i + f' → loopS l o s f x i = loopS l o s f' x i
  | 0, 0, x, i, _, _ => rfl
  | 0, f' + 1, x, i, h, _ => by
    rw [loop_0, loop_s, if_neg]
    rw [show signS l i = noB by unfold signS; rw [List.getElem?_eq_none (by omega)], strength_no rfl]; omega
  | f + 1, 0, x, i, _, h => by
    rw [loop_0, loop_s, if_neg]
    rw [show signS l i = noB by unfold signS; rw [List.getElem?_eq_none (by omega)], strength_no rfl]; omega
  | f + 1, f' + 1, x, i, h, h' => by
    rw [loop_s, loop_s]
    split
    · cases o with
      | none => rfl
      | some p =>
        dsimp only
        cases hp : p.some (strength (signS l i) + 1) (i + 1) with
        | error e => rfl
        | ok r =>
          obtain ⟨y, k⟩ := r
          have := (hf p rfl).2 _ (i + 1) (by omega) y k hp
          exact loop_fuel hf hs f f' _ k (by omega) (by omega)
    · rfl
def lp (l : List Tk) (o : Option Par) (s : Nat) (x : Ex) (i : Nat) : Res := loopS l o s (l.length + 1) x i
theorem lp_stop {l : List Tk} {o : Option Par} {s : Nat} {x : Ex} {i : Nat} (h : strength (signS l i) < s) : lp l o s x i = .ok (x, i) := by
  unfold lp; rw [loop_s, if_neg (by omega)]
theorem lp_none {l : List Tk} {s : Nat} {x : Ex} {i : Nat} (h : s ≤ strength (signS l i)) : lp l none s x i = .error (i, 8) := by
  unfold lp; rw [loop_s, if_pos h]
theorem lp_bad {l : List Tk} {p : Par} {s : Nat} {x : Ex} {i : Nat} {e : Nat × Int} (h : s ≤ strength (signS l i)) (hp : p.some (strength (signS l i) + 1) (i + 1) = .error e) : lp l (some p) s x i = .error e := by
  unfold lp; rw [loop_s, if_pos h]; dsimp only; rw [hp]
theorem lp_step {l : List Tk} {p : Par} (hf : FwdP l (some p)) {s : Nat} (hs : 1 ≤ s) {x y : Ex} {i k : Nat} (h : s ≤ strength (signS l i)) (hp : p.some (strength (signS l i) + 1) (i + 1) = .ok (y, k)) : lp l (some p) s x i = lp l (some p) s (.mk 4 0 noB (signS l i) [x, y]) k := by
  have hk := (hf p rfl).2 _ (i + 1) (by omega) y k hp
  have hi := strength_lt hs h
  unfold lp
  rw [loop_s, if_pos h]
  dsimp only
  rw [hp]
  exact loop_fuel hf hs _ _ _ k (by omega) (by omega)
theorem some_lp (l : List Tk) (o : Option Par) (s i : Nat) : mkSome l o s i = match mkOne l o i with
  | .error e => .error e
  | .ok (x, k) => lp l o s x k := rfl
/-- Too deep; or this. -/
def Rr (r r' : Res) : Prop := (∃ k, r = .error (k, 8)) ∨ r = r'
theorem one_some {l : List Tk} {o : Option Par} {i : Nat} {x : Ex} {j : Nat} (h : Rr (mkSome l o 7 i) (.ok (x, j))) : Rr (mkOne l o i) (.ok (x, j)) := by
  rw [some_lp] at h
  cases hm : mkOne l o i with
  | error e =>
    rw [hm] at h
    rcases h with ⟨k, h⟩ | h
    · left; exact ⟨k, by injection h with h; rw [h]⟩
    · cases h
  | ok r =>
    obtain ⟨z, k⟩ := r
    rw [hm] at h
    dsimp only at h
    rw [lp_stop (by have := strength_le (signS l k); omega)] at h
    rcases h with ⟨k, h⟩ | h
    · cases h
    · right; rw [h]
theorem ba_nil {s : ByteArray} (h : s.data.toList = []) : s = noB := bytes_ext h
theorem bare_of {k n : Int} {nm op : ByteArray} (h : bareE k n nm op = true) : (k ≠ 0 → n = 0) ∧ (k ≠ 1 → nm = noB) ∧ (k ≠ 4 → op = noB) := by
  unfold bareE at h
  simp only [Bool.and_eq_true, Bool.or_eq_true, beq_iff_eq] at h
  refine ⟨fun hk => ?_, fun hk => ?_, fun hk => ?_⟩
  · rcases h.1.1 with h | h; exact h; exact absurd h hk
  · rcases h.1.2 with h | h; exact ba_nil h; exact absurd h hk
  · rcases h.2 with h | h; exact ba_nil h; exact absurd h hk
theorem binds_pos {k n : Int} {nm op : ByteArray} {q : Nat} (h : okE k n nm op q = true) : 1 ≤ bindsK k op := by
  unfold bindsK
  split
  · next hk =>
    subst hk
    unfold okE at h
    simp at h; omega
  · split <;> omega
/-- The key: what is told is read, and the reading goes on behind it. -/
theorem tell_read (L : List Tk) : ∀ (N : Nat) (r : Ex), nodesE r ≤ N → ∀ q, rightE r q = true → ∀ (n i d d' : Nat), 1 ≤ d' → d' ≤ d → d ≤ 7 → At L i (tellE r d) → strength (signS L (i + (tellE r d).length)) ≤ d →
    Rr (mkSome L (up L n) d' i) (lp L (up L n) d' r (i + (tellE r d).length)) := by
  intro N
  induction N with
  | zero => intro r h; cases r; simp [nodesE] at h
  | succ N ih =>
    intro r hN q hq
    obtain ⟨k, m, nm, op, kids⟩ := r
    rw [right_eq] at hq
    simp only [Bool.and_eq_true, decide_eq_true_eq] at hq
    obtain ⟨⟨⟨h1, h2⟩, h3⟩, h4⟩ := hq
    have hb := bare_of h2
    have hbp := binds_pos h1
    -- where it stands without brackets
    have ho : ∀ (n i d' : Nat), 1 ≤ d' → d' ≤ bindsK k op → At L i (tellE (.mk k m nm op kids) 0) → strength (signS L (i + (tellE (.mk k m nm op kids) 0).length)) ≤ bindsK k op →
        Rr (mkSome L (up L n) d' i) (lp L (up L n) d' (.mk k m nm op kids) (i + (tellE (.mk k m nm op kids) 0).length)) := by
      intro n i d' hd1 hd2 hat hfo
      rcases ok_kinds h1 with rfl | rfl | rfl | rfl | rfl
      · obtain rfl := hb.2.1 (by decide)
        obtain rfl := hb.2.2 (by decide)
        obtain rfl : kids = [] := List.eq_nil_of_length_eq_zero h3
        rw [tell_0] at hat ⊢
        have ht := hat.head
        right
        rw [some_lp]
        unfold mkOne
        rw [sign_not ht (by simp), if_neg (by decide), if_neg (by decide), ht]
        rfl
      · obtain rfl := hb.1 (by decide)
        obtain rfl := hb.2.2 (by decide)
        obtain rfl : kids = [] := List.eq_nil_of_length_eq_zero h3
        rw [tell_1] at hat ⊢
        have ht := hat.head
        right
        rw [some_lp]
        unfold mkOne
        rw [sign_not ht (by simp), if_neg (by decide), if_neg (by decide), ht]
        rfl
      · obtain rfl := hb.1 (by decide)
        obtain rfl := hb.2.1 (by decide)
        obtain rfl := hb.2.2 (by decide)
        match kids, h3, h4, hN, hat with
        | [x], _, h4, hN, hat =>
          rw [rightL, Bool.and_eq_true] at h4
          simp only [nodesE, nodesL] at hN
          rw [tell_2] at hat ⊢
          have hs := sign_at hat.head
          have ht := hat.tail
          rw [some_lp]
          unfold mkOne
          rw [hs, if_pos (.inl rfl)]
          cases n with
          | zero => exact .inl ⟨_, rfl⟩
          | succ n =>
            have hx := ih x (by omega) _ h4.1 n (i + 1) 7 7 (by omega) (by omega) (by omega) ht (by have := strength_le (signS L (i + 1 + (tellE x 7).length)); omega)
            rw [lp_stop (by have := strength_le (signS L (i + 1 + (tellE x 7).length)); omega)] at hx
            have hx := one_some hx
            rw [show (up L (n + 1)) = some (lv L n) from rfl]
            dsimp only
            rw [one_mk]
            rcases hx with ⟨k, hx⟩ | hx
            · rw [hx]; exact .inl ⟨k, rfl⟩
            · rw [hx]; right
              show lp _ _ _ _ _ = lp _ _ _ _ _
              rw [List.length_cons, show i + 1 + (tellE x 7).length = i + ((tellE x 7).length + 1) by omega]; rfl
      · obtain rfl := hb.1 (by decide)
        obtain rfl := hb.2.1 (by decide)
        obtain rfl := hb.2.2 (by decide)
        match kids, h3, h4, hN, hat with
        | [x], _, h4, hN, hat =>
          rw [rightL, Bool.and_eq_true] at h4
          simp only [nodesE, nodesL] at hN
          rw [tell_3] at hat ⊢
          have hs := sign_at hat.head
          have ht := hat.tail
          rw [some_lp]
          unfold mkOne
          rw [hs, if_pos (.inr rfl)]
          cases n with
          | zero => exact .inl ⟨_, rfl⟩
          | succ n =>
            have hx := ih x (by omega) _ h4.1 n (i + 1) 7 7 (by omega) (by omega) (by omega) ht (by have := strength_le (signS L (i + 1 + (tellE x 7).length)); omega)
            rw [lp_stop (by have := strength_le (signS L (i + 1 + (tellE x 7).length)); omega)] at hx
            have hx := one_some hx
            rw [show (up L (n + 1)) = some (lv L n) from rfl]
            dsimp only
            rw [one_mk]
            rcases hx with ⟨k, hx⟩ | hx
            · rw [hx]; exact .inl ⟨k, rfl⟩
            · rw [hx]; right
              show lp _ _ _ _ _ = lp _ _ _ _ _
              rw [List.length_cons, show i + 1 + (tellE x 7).length = i + ((tellE x 7).length + 1) by omega]; rfl
      · obtain rfl := hb.1 (by decide)
        obtain rfl := hb.2.1 (by decide)
        match kids, h3, h4, hN, hat, hfo with
        | [x, y], _, h4, hN, hat, hfo =>
          simp only [rightL, Bool.and_eq_true] at h4
          simp only [nodesE, nodesL] at hN
          rw [tell_4] at hat hfo ⊢
          have hsl := strength_le op
          have hbk : bindsK 4 op = strength op := rfl
          rw [hbk] at hd2 hfo hbp
          have hr := hat.right
          have hs := sign_at hr.head
          have hy := hr.tail
          rw [List.length_append, List.length_cons] at hfo ⊢
          rw [show i + ((tellE x (strength op)).length + ((tellE y (strength op + 1)).length + 1)) = i + (tellE x (strength op)).length + 1 + (tellE y (strength op + 1)).length by omega] at hfo ⊢
          have hx := ih x (by omega) _ h4.1 n i (strength op) d' hd1 hd2 (by omega) hat.left (by rw [hs]; omega)
          rcases hx with ⟨k, hx⟩ | hx
          · exact .inl ⟨k, hx⟩
          rw [hx]
          cases n with
          | zero => exact .inl ⟨_, lp_none (by rw [hs]; exact hd2)⟩
          | succ n =>
            have hyy := ih y (by omega) _ h4.2.1 n (i + (tellE x (strength op)).length + 1) (strength op + 1) (strength op + 1) (by omega) (by omega) (by omega) hy (by omega)
            rw [lp_stop (by omega)] at hyy
            have hst : d' ≤ strength (signS L (i + (tellE x (strength op)).length)) := by rw [hs]; exact hd2
            rw [show (up L (n + 1)) = some (lv L n) from rfl]
            rcases hyy with ⟨k, hyy⟩ | hyy
            · left
              exact ⟨k, lp_bad hst (by rw [some_mk, hs]; exact hyy)⟩
            · right
              rw [lp_step (up_fwd L (n + 1)) hd1 hst (by rw [some_mk, hs]; exact hyy), hs]
    intro n i d d' hd1 hd2 hd7 hat hfo
    by_cases hd : d ≤ bindsK k op
    · rw [tell_open hd] at hat hfo ⊢
      exact ho n i d' hd1 (by omega) hat (by omega)
    · rw [tell_shut (by omega)] at hat hfo ⊢
      rw [List.cons_append] at hat
      have hs := sign_at hat.head
      have ht := hat.tail
      have hz := sign_at ht.right.head
      rw [some_lp]
      unfold mkOne
      rw [hs, if_neg (by decide), if_pos (by rfl)]
      rw [List.length_append, List.length_cons, List.length_singleton]
      cases n with
      | zero => exact .inl ⟨_, rfl⟩
      | succ n =>
        have hx := ho n (i + 1) 1 (by omega) hbp ht.left (by simp only [hz]; exact Nat.zero_le _)
        rw [lp_stop (by rw [hz]; decide)] at hx
        rw [show (up L (n + 1)) = some (lv L n) from rfl]
        dsimp only
        rw [some_mk]
        rcases hx with ⟨k, hx⟩ | hx
        · rw [hx]; exact .inl ⟨k, rfl⟩
        · rw [hx]
          dsimp only
          rw [hz, if_pos (by rfl)]
          right
          dsimp only
          rw [show i + ((tellE (.mk k m nm op kids) 0).length + 1 + 1) = i + 1 + (tellE (.mk k m nm op kids) 0).length + 1 by omega]
/-- What is told of an expression is read back, unless it stands too deeply. -/
theorem parse_tell {r : Ex} (hr : rightE r 0 = true) {y : Ex} {k : Nat} {e : Int} (h : parseX (tellE r 0) 0 = (y, k, e)) : e = 8 ∨ (e = 0 ∧ k = (tellE r 0).length ∧ y = r) := by
  have hb : 1 ≤ bindsK r.kind r.op := by
    obtain ⟨k, m, nm, op, kids⟩ := r
    rw [right_eq] at hr
    simp only [Bool.and_eq_true, decide_eq_true_eq] at hr
    exact binds_pos hr.1.1.1
  have h01 : tellE r 0 = tellE r 1 := by
    obtain ⟨k, m, nm, op, kids⟩ := r
    exact (tell_open hb).symm
  have hen : signS (tellE r 0) (0 + (tellE r 1).length) = noB := by
    rw [← h01]; unfold signS; rw [List.getElem?_eq_none (by omega)]
  have hx := tell_read (tellE r 0) (nodesE r) r (Nat.le_refl _) 0 hr 64 0 1 1 (by omega) (by omega) (by omega) (by rw [h01]; intro j hj; rw [Nat.zero_add]) (by rw [hen]; exact Nat.zero_le _)
  rw [lp_stop (by rw [hen]; decide), ← h01, Nat.zero_add] at hx
  unfold parseX at h
  rw [if_pos ⟨by omega, by omega⟩] at h
  simp only [Int.toNat_zero, some_mk] at h
  rcases hx with ⟨k', hx⟩ | hx
  · rw [hx] at h
    injection h with h3 h4; injection h4 with h4 h5
    exact .inl h5.symm
  · rw [hx] at h
    injection h with h3 h4; injection h4 with h4 h5
    exact .inr ⟨h5.symm, h4.symm, h3.symm⟩
end ExpT
end Go.Proofs.YtchceoclkdofhaaGreatDoor
