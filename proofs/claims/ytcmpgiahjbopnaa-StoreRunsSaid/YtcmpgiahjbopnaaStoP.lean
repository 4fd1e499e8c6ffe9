/- Texts by numbers in slots: plain laws of an open table. No program. No condition. -/
import Derived.Test.YtcmpgiahjbopnaaHashP
namespace Go.Proofs.Ytcmpgiahjbopnaa
set_option linter.unusedVariables false
set_option linter.unusedSimpArgs false
namespace StoP
abbrev Bs := List UInt8
/-- A table: each number stands where it is found. h: where a text belongs, before it is cut to the slots. -/
structure Inv (h : Bs → Nat) (X : List Bs) (sl : List Nat) : Prop where
  nd : X.Nodup
  cnt : sl.count 0 + X.length = sl.length
  room : X.length < sl.length
  ok : ∀ p v : Nat, sl[p]? = some (v + 1) → v < X.length
  there : ∀ (i : Nat) (key : Bs), X[i]? = some key → ∃ d, sl[(h key + d) % sl.length]? = some (i + 1) ∧ ∀ d', d' < d → ∃ v, sl[(h key + d') % sl.length]? = some (v + 1)
/-- So far no slot from where a text belongs on is free, or has it. -/
def Wy (h : Bs → Nat) (X : List Bs) (sl : List Nat) (key : Bs) (d : Nat) : Prop :=
  ∀ d', d' < d → ∃ v, sl[(h key + d') % sl.length]? = some (v + 1) ∧ X[v]? ≠ some key
theorem Wy.zero {h : Bs → Nat} {X : List Bs} {sl : List Nat} {key : Bs} : Wy h X sl key 0 := fun _ hd => absurd hd (Nat.not_lt_zero _)
theorem Wy.succ {h : Bs → Nat} {X : List Bs} {sl : List Nat} {key : Bs} {d v : Nat} (hw : Wy h X sl key d) (hv : sl[(h key + d) % sl.length]? = some (v + 1)) (hx : X[v]? ≠ some key) : Wy h X sl key (d + 1) := by
  intro d' hd
  by_cases e : d' = d
  · subst e; exact ⟨v, hv, hx⟩
  · exact hw d' (by omega)
/-- There is a free one before all are seen. -/
theorem Wy.lt {h : Bs → Nat} {X : List Bs} {sl : List Nat} {key : Bs} {d : Nat} (hw : Wy h X sl key d) (hz : 0 < sl.count 0) : d < sl.length := by
  obtain ⟨z, hz1, hz2⟩ := List.getElem_of_mem (List.count_pos_iff.1 hz)
  have hm : 0 < sl.length := by omega
  by_cases hd : d < sl.length
  · exact hd
  exfalso
  have hh : h key % sl.length < sl.length := Nat.mod_lt _ hm
  have key2 : ∃ d0, d0 < sl.length ∧ (h key + d0) % sl.length = z := by
    by_cases hc : h key % sl.length ≤ z
    · refine ⟨z - h key % sl.length, by omega, ?_⟩
      rw [Nat.add_mod, Nat.mod_eq_of_lt (show z - h key % sl.length < sl.length by omega), show h key % sl.length + (z - h key % sl.length) = z by omega, Nat.mod_eq_of_lt hz1]
    · refine ⟨z + sl.length - h key % sl.length, by omega, ?_⟩
      rw [Nat.add_mod, Nat.mod_eq_of_lt (show z + sl.length - h key % sl.length < sl.length by omega), show h key % sl.length + (z + sl.length - h key % sl.length) = z + sl.length by omega, Nat.add_mod_right, Nat.mod_eq_of_lt hz1]
  obtain ⟨d0, hd0, e⟩ := key2
  obtain ⟨v, hv, _⟩ := hw d0 (by omega)
  rw [e, List.getElem?_eq_getElem hz1, hz2] at hv
  cases hv
/-- What a search comes to: a free slot, or the one that has it. -/
def Res (h : Bs → Nat) (X : List Bs) (sl : List Nat) (key : Bs) (p : Nat) : Prop :=
  ∃ d, p = (h key + d) % sl.length ∧ Wy h X sl key d ∧ (sl[p]? = some 0 ∨ ∃ v, sl[p]? = some (v + 1) ∧ X[v]? = some key)
theorem Res.free {h : Bs → Nat} {X Y : List Bs} {sl : List Nat} {key : Bs} {p : Nat} (hI : Inv h X sl) (hX : ∀ (i : Nat) (x : Bs), X[i]? = some x → Y[i]? = some x) (hr : Res h Y sl key p) (h0 : sl[p]? = some 0) : key ∉ X := by
  obtain ⟨d, rfl, hw, _⟩ := hr
  intro hm
  obtain ⟨i, hi⟩ := List.getElem?_of_mem hm
  obtain ⟨dk, hk, hb⟩ := hI.there i key hi
  rcases Nat.lt_trichotomy d dk with hlt | heq | hgt
  · obtain ⟨v, hv⟩ := hb d hlt
    rw [h0] at hv; cases hv
  · subst heq; rw [h0] at hk; cases hk
  · obtain ⟨v, hv, hx⟩ := hw dk hgt
    rw [hk] at hv
    injection hv with hv
    have : v = i := by omega
    subst this
    exact hx (hX _ _ hi)
theorem Res.fresh {h : Bs → Nat} {X Y : List Bs} {sl : List Nat} {key : Bs} {p : Nat} (hI : Inv h X sl) (hX : ∀ (i : Nat) (x : Bs), X[i]? = some x → Y[i]? = some x) (hr : Res h Y sl key p) (hn : key ∉ X) : sl[p]? = some 0 := by
  obtain ⟨d, rfl, hw, h0 | ⟨v, hv, hx⟩⟩ := hr
  · exact h0
  · exfalso
    have hl := hI.ok _ _ hv
    have e := hX v _ (List.getElem?_eq_getElem hl)
    rw [hx] at e
    injection e with e
    exact hn (e ▸ List.getElem_mem hl)
theorem Res.has {h : Bs → Nat} {X : List Bs} {sl : List Nat} {key : Bs} {p : Nat} (hI : Inv h X sl) (hr : Res h X sl key p) {i : Nat} (hi : X[i]? = some key) : sl[p]? = some (i + 1) := by
  have hr2 := hr
  obtain ⟨d, rfl, hw, h0 | ⟨v, hv, hx⟩⟩ := hr
  · exact absurd (List.mem_of_getElem? hi) (Res.free hI (fun _ _ e => e) hr2 h0)
  · have : v = i := by
      have h1 := (List.getElem?_eq_some_iff.1 hx)
      have h2 := (List.getElem?_eq_some_iff.1 hi)
      obtain ⟨l1, e1⟩ := h1
      obtain ⟨l2, e2⟩ := h2
      exact (List.getElem_inj hI.nd).1 (e1.trans e2.symm)
    rw [← this]; exact hv
theorem Res.lt {h : Bs → Nat} {X : List Bs} {sl : List Nat} {key : Bs} {p : Nat} (hr : Res h X sl key p) (hm : 0 < sl.length) : p < sl.length := by
  obtain ⟨d, rfl, _⟩ := hr; exact Nat.mod_lt _ hm
/-- A text more. -/
theorem Inv.add {h : Bs → Nat} {X Y : List Bs} {sl : List Nat} {key : Bs} {p : Nat} (hI : Inv h X sl) (hX : ∀ (i : Nat) (x : Bs), X[i]? = some x → Y[i]? = some x) (hr : Res h Y sl key p) (h0 : sl[p]? = some 0) (hroom : X.length + 1 < sl.length) : Inv h (X ++ [key]) (sl.set p (X.length + 1)) := by
  have hn := Res.free hI hX hr h0
  obtain ⟨hp, ep⟩ := List.getElem?_eq_some_iff.1 h0
  have old : ∀ q v : Nat, sl[q]? = some (v + 1) → (sl.set p (X.length + 1))[q]? = some (v + 1) := by
    intro q v hq
    by_cases e : p = q
    · subst e; rw [h0] at hq; cases hq
    · rw [List.getElem?_set_ne e]; exact hq
  refine ⟨?_, ?_, ?_, ?_, ?_⟩
  · rw [List.nodup_append]
    exact ⟨hI.nd, by simp, fun a ha b hb => by simp at hb; subst hb; exact fun e => hn (e ▸ ha)⟩
  · rw [List.count_set hp, List.length_set, List.length_append]
    have h1 := hI.cnt
    have h2 : 0 < sl.count 0 := List.count_pos_iff.2 (List.mem_of_getElem? h0)
    simp [ep]; omega
  · rw [List.length_set, List.length_append]; simpa using hroom
  · intro q v hq
    rw [List.length_append, List.length_singleton]
    by_cases e : p = q
    · subst e; rw [List.getElem?_set_self hp] at hq; injection hq with hq; omega
    · rw [List.getElem?_set_ne e] at hq; have := hI.ok q v hq; omega
  · intro i k hi
    rw [List.length_set]
    by_cases hl : i < X.length
    · rw [List.getElem?_append_left hl] at hi
      obtain ⟨d, h1, h2⟩ := hI.there i k hi
      exact ⟨d, old _ _ h1, fun d' hd => by obtain ⟨v, hv⟩ := h2 d' hd; exact ⟨v, old _ _ hv⟩⟩
    · rw [List.getElem?_append_right (by omega)] at hi
      have e : i = X.length := by
        have := (List.getElem?_eq_some_iff.1 hi).1
        simp at this; omega
      subst e
      simp at hi
      subst hi
      obtain ⟨d, rfl, hw, _⟩ := hr
      exact ⟨d, List.getElem?_set_self hp, fun d' hd => by obtain ⟨v, hv, _⟩ := hw d' hd; exact ⟨v, old _ _ hv⟩⟩
theorem Inv.nil (h : Bs → Nat) {m : Nat} (hm : 0 < m) : Inv h [] (List.replicate m 0) := by
  refine ⟨List.nodup_nil, by simp, by simpa using hm, ?_, ?_⟩
  · intro p v hp
    rw [List.getElem?_replicate] at hp
    split at hp <;> cases hp
  · intro i k hi; cases hi
theorem Inv.zeros {h : Bs → Nat} {X : List Bs} {sl : List Nat} (hI : Inv h X sl) : 0 < sl.count 0 := by
  have := hI.cnt; have := hI.room; omega
/-- The document's number of a text; below 0: it isn't there. -/
def findI (X : List Bs) (key : Bs) : Int := if key ∈ X then (X.idxOf key : Nat) else -1
theorem findI_at {X : List Bs} {key : Bs} {i : Nat} (hn : X.Nodup) (h : X[i]? = some key) : findI X key = i := by
  have hm := List.mem_of_getElem? h
  unfold findI
  rw [if_pos hm]
  obtain ⟨hl, e⟩ := List.getElem?_eq_some_iff.1 h
  have h1 : X.idxOf key < X.length := List.idxOf_lt_length_iff.2 hm
  have h2 : X[X.idxOf key] = key := List.getElem_idxOf h1
  have := (List.getElem_inj hn).1 (h2.trans e.symm)
  omega
theorem findI_no {X : List Bs} {key : Bs} (h : key ∉ X) : findI X key = -1 := by unfold findI; rw [if_neg h]
/-- A text is added: what lies there then. -/
def addX (X : List Bs) (most : Nat) (key : Bs) : List Bs := if key ∈ X then X else if most ≤ X.length then X else X ++ [key]
def addAll (most : Nat) : List Bs → List Bs → List Bs
  | X, [] => X
  | X, k :: l => addAll most (addX X most k) l
theorem addX_nodup {X : List Bs} {most : Nat} {key : Bs} (h : X.Nodup) : (addX X most key).Nodup := by
  unfold addX
  split
  · exact h
  split
  · exact h
  · next hn _ =>
    rw [List.nodup_append]
    exact ⟨h, by simp, fun a ha b hb => by simp at hb; subst hb; exact fun e => hn (e ▸ ha)⟩
theorem addX_len (X : List Bs) (most : Nat) (key : Bs) : (addX X most key).length ≤ X.length + 1 := by
  unfold addX
  split
  · omega
  split
  · omega
  · simp
/-- How many slots there are. -/
def Two (m : Nat) : Prop := ∃ k, k ≤ 30 ∧ m = 2 ^ k
theorem Two.pos {m : Nat} (h : Two m) : 0 < m := by obtain ⟨k, _, rfl⟩ := h; exact Nat.two_pow_pos k
theorem Two.and {m : Nat} (h : Two m) (x : Nat) : x &&& (m - 1) = x % m := by
  obtain ⟨k, _, rfl⟩ := h; exact Nat.and_two_pow_sub_one_eq_mod x k
theorem mod_and (x mask m : Nat) (h : Two m) : (x &&& mask) &&& (m - 1) = (x &&& mask) % m := h.and _
theorem next_at (a d m : Nat) : ((a + d) % m + 1) % m = (a + (d + 1)) % m := by
  rw [Nat.mod_add_mod, Nat.add_assoc]
end StoP
end Go.Proofs.Ytcmpgiahjbopnaa
