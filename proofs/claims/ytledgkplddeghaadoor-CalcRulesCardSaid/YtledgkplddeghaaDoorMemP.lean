/- Variables in plain words. No program. No condition. -/
import Derived.Test.YtledgkplddeghaaDoorMem
import Derived.Test.YtledgkplddeghaaDoorQuoP
import Derived.Lib.Bytealg
namespace Go.Proofs.YtledgkplddeghaaDoor
set_option linter.unusedVariables false
set_option linter.unusedSimpArgs false
open Go.RowKit
namespace MemP
open QuoP
/-- A text before another one. -/
abbrev bl (x y : List UInt8) : Bool := Op.bytesLess x y
theorem bl_irrefl : ∀ x : List UInt8, bl x x = false := by
  intro x; induction x with
  | nil => rfl
  | cons a x ih => simp [bl, Op.bytesLess] at ih ⊢; exact ih
theorem bl_trans : ∀ {x y z : List UInt8}, bl x y = true → bl y z = true → bl x z = true := by
  intro x
  induction x with
  | nil => intro y z h1 h2; cases z with
    | nil => cases y <;> simp [bl, Op.bytesLess] at h2
    | cons => rfl
  | cons a x ih =>
    intro y z h1 h2
    cases y with
    | nil => simp [bl, Op.bytesLess] at h1
    | cons b y =>
      cases z with
      | nil => simp [bl, Op.bytesLess] at h2
      | cons c z =>
        simp only [bl, Op.bytesLess, Bool.or_eq_true, Bool.and_eq_true, decide_eq_true_eq, beq_iff_eq] at h1 h2 ⊢
        rcases h1 with h1 | ⟨rfl, h1⟩ <;> rcases h2 with h2 | ⟨rfl, h2⟩
        · left; exact UInt8.lt_trans h1 h2
        · left; exact h1
        · left; exact h2
        · right; exact ⟨rfl, ih h1 h2⟩
theorem bl_total : ∀ (x y : List UInt8), bl x y = false → bl y x = false → x = y := by
  intro x
  induction x with
  | nil => intro y h1 h2; cases y with
    | nil => rfl
    | cons => simp [bl, Op.bytesLess] at h1
  | cons a x ih =>
    intro y h1 h2
    cases y with
    | nil => simp [bl, Op.bytesLess] at h2
    | cons b y =>
      simp only [bl, Op.bytesLess, Bool.or_eq_false_iff, decide_eq_false_iff_not, Bool.and_eq_false_iff, beq_eq_false_iff_ne] at h1 h2
      obtain ⟨h1, h3⟩ := h1
      obtain ⟨h2, h4⟩ := h2
      obtain rfl : a = b := UInt8.le_antisymm (UInt8.not_lt.1 h2) (UInt8.not_lt.1 h1)
      rcases h3 with h3 | h3
      · exact absurd rfl h3
      · rcases h4 with h4 | h4
        · exact absurd rfl h4
        · rw [ih y h3 h4]
theorem bl_asymm {x y : List UInt8} (h : bl x y = true) : bl y x = false := by
  cases e : bl y x
  · rfl
  · have := bl_trans h e; rw [bl_irrefl] at this; cases this
theorem bl_ne {x y : List UInt8} (h : bl x y = true) : x ≠ y := by
  intro e; subst e; rw [bl_irrefl] at h; cases h
/-- What strings.Compare tells. -/
theorem cmp_lt : ∀ (x y : List UInt8), decide (Lib.compareBytes x y < 0) = bl x y := by
  intro x
  induction x with
  | nil => intro y; cases y <;> simp [Lib.compareBytes, bl, Op.bytesLess]
  | cons a x ih =>
    intro y
    cases y with
    | nil => simp [Lib.compareBytes, bl, Op.bytesLess]
    | cons b y =>
      rw [Lib.compareBytes]
      by_cases h : a < b
      · simp [h, bl, Op.bytesLess]
      · by_cases h2 : b < a
        · have hne : a ≠ b := fun e => by subst e; exact h h2
          simp [h, h2, bl, Op.bytesLess, hne]
        · obtain rfl : a = b := UInt8.le_antisymm (UInt8.not_lt.1 h2) (UInt8.not_lt.1 h)
          rw [if_neg h, if_neg h]
          rw [ih y]; simp [bl, Op.bytesLess]
theorem cmp_eq : ∀ (x y : List UInt8), (Lib.compareBytes x y == 0) = (x == y) := by
  intro x
  induction x with
  | nil => intro y; cases y <;> simp [Lib.compareBytes]
  | cons a x ih =>
    intro y
    cases y with
    | nil => simp [Lib.compareBytes]
    | cons b y =>
      rw [Lib.compareBytes]
      by_cases h : a < b
      · have hne : a ≠ b := fun e => by subst e; exact (UInt8.lt_irrefl a) h
        simp [h, hne]
      · by_cases h2 : b < a
        · have hne : a ≠ b := fun e => by subst e; exact h h2
          simp [h, h2, hne]
        · obtain rfl : a = b := UInt8.le_antisymm (UInt8.not_lt.1 h2) (UInt8.not_lt.1 h)
          rw [if_neg h, if_neg h, ih y]; simp
/-- A variable: its name and its value. -/
abbrev Vr := ByteArray × ByteArray
abbrev lt (x y : ByteArray) : Bool := bl x.toList y.toList
abbrev eq (x y : ByteArray) : Bool := x.toList == y.toList
theorem eq_iff (x y : ByteArray) : eq x y = true ↔ x = y := by
  unfold eq; rw [beq_iff_eq, Lib.toList_data, Lib.toList_data]
  exact ⟨fun h => bytes_ext h, fun h => by rw [h]⟩
theorem eq_false (x y : ByteArray) : eq x y = false ↔ x ≠ y := by
  rw [← Bool.not_eq_true, eq_iff]
theorem lt_trans {x y z : ByteArray} (h : lt x y = true) (k : lt y z = true) : lt x z = true := bl_trans h k
theorem lt_ne {x y : ByteArray} (h : lt x y = true) : x ≠ y := fun e => by subst e; exact bl_ne h rfl
theorem lt_total {x y : ByteArray} (h : lt x y = false) (k : lt y x = false) : x = y := by
  have := bl_total _ _ h k
  rw [Lib.toList_data, Lib.toList_data] at this; exact bytes_ext this
/-- May a variable have this name? -/
def nmB (s : ByteArray) : Bool := nameB s.data.toList && (match s.data.toList with | [] => false | c :: _ => decide ((97 : Int) ≤ (c.toNat : Int)))
def goodB (p : Vr) : Bool := nmB p.1 && decide (p.2.size ≤ 32)
def okAt (l : List Vr) (i : Nat) : Bool := match l[i]? with
  | none => true
  | some p => goodB p && (match i with | 0 => true | j + 1 => match l[j]? with | none => true | some q => lt q.1 p.1)
def okTo (l : List Vr) (k : Nat) : Bool := (List.range k).all (okAt l)
def mayB (l : List Vr) : Bool := okTo l l.length && decide (l.length ≤ 16)
theorem okTo_succ (l : List Vr) (k : Nat) : okTo l (k + 1) = (okTo l k && okAt l k) := by
  unfold okTo; rw [List.range_succ, List.all_append]; simp
theorem okTo_le (l : List Vr) : ∀ (k m : Nat), k ≤ m → okTo l m = true → okTo l k = true := by
  intro k m h1 h2
  unfold okTo at *
  rw [List.all_eq_true] at *
  intro i hi
  exact h2 i (by simp at hi ⊢; omega)
theorem may_no {l : List Vr} {k : Nat} (hk : k < l.length) (h : okAt l k = false) : mayB l = false := by
  unfold mayB
  cases e : okTo l l.length
  · rfl
  · have := okTo_le l (k + 1) _ (by omega) e
    rw [okTo_succ, h] at this; simp at this
def Asc (l : List Vr) : Prop := l.Pairwise (fun p q => lt p.1 q.1 = true)
theorem okAt_good {l : List Vr} {i : Nat} {p : Vr} (hp : l[i]? = some p) (h : okAt l i = true) : goodB p = true := by
  unfold okAt at h; rw [hp] at h; simp at h; exact h.1
theorem asc_of : ∀ (l : List Vr), (∀ i, i < l.length → okAt l i = true) → Asc l := by
  intro l h
  unfold Asc
  rw [List.pairwise_iff_getElem]
  intro i j hi hj hij
  have step : ∀ k (hk : k + 1 < l.length), lt (l[k]'(by omega)).1 (l[k + 1]'hk).1 = true := by
    intro k hk
    have := h (k + 1) hk
    unfold okAt at this
    rw [List.getElem?_eq_getElem hk] at this
    simp only [List.getElem?_eq_getElem (show k < l.length by omega), Bool.and_eq_true] at this
    exact this.2
  obtain ⟨d, rfl⟩ : ∃ d, j = i + 1 + d := ⟨j - (i + 1), by omega⟩
  clear hij
  induction d with
  | zero => exact step i hj
  | succ d ih => exact lt_trans (ih (by omega) step) (step (i + 1 + d) hj)
structure May (l : List Vr) : Prop where
  good : ∀ p ∈ l, goodB p = true
  asc : Asc l
  len : l.length ≤ 16
theorem may_iff (l : List Vr) : mayB l = true ↔ May l := by
  unfold mayB okTo
  rw [Bool.and_eq_true, List.all_eq_true, decide_eq_true_eq]
  constructor
  · rintro ⟨h, hl⟩
    have h' : ∀ i, i < l.length → okAt l i = true := fun i hi => h i (by simpa using hi)
    refine ⟨fun p hp => ?_, asc_of l h', hl⟩
    obtain ⟨i, hi, rfl⟩ := List.getElem_of_mem hp
    exact okAt_good (List.getElem?_eq_getElem hi) (h' i hi)
  · rintro ⟨hg, ha, hl⟩
    refine ⟨fun i hi => ?_, hl⟩
    have hi : i < l.length := by simpa using hi
    unfold okAt
    rw [List.getElem?_eq_getElem hi]
    simp only [Bool.and_eq_true]
    refine ⟨hg _ (List.getElem_mem hi), ?_⟩
    cases i with
    | zero => rfl
    | succ j =>
      simp only [List.getElem?_eq_getElem (show j < l.length by omega)]
      unfold Asc at ha
      rw [List.pairwise_iff_getElem] at ha
      exact ha j (j + 1) (by omega) hi (by omega)
/-- The first one's value. -/
def getV (l : List Vr) (n : ByteArray) : Option ByteArray := match l with
  | [] => none
  | p :: r => if eq p.1 n = true then some p.2 else getV r n
def dropV (l : List Vr) (n : ByteArray) : List Vr := l.filter fun p => !eq p.1 n
def below (l : List Vr) (n : ByteArray) : List Vr := l.takeWhile fun p => lt p.1 n
def from_ (l : List Vr) (n : ByteArray) : List Vr := l.dropWhile fun p => lt p.1 n
def posV (l : List Vr) (n : ByteArray) : Nat := (below l n).length
/-- One among those of other names. -/
def putV (l : List Vr) (n v : ByteArray) : List Vr := below l n ++ (n, v) :: from_ l n
/-- What a list becomes, and 0 or an error's number. -/
def setV (l : List Vr) (n v : ByteArray) : List Vr × Nat :=
  if !(mayB l && nmB n) then ([], 5) else if 32 < v.size then ([], 2) else if (dropV l n).length = 16 then ([], 9) else (putV (dropV l n) n v, 0)
theorem below_from (l : List Vr) (n : ByteArray) : l = below l n ++ from_ l n := List.takeWhile_append_dropWhile.symm
theorem below_lt {l : List Vr} {n : ByteArray} {p : Vr} (h : p ∈ below l n) : lt p.1 n = true := by
  unfold below at h
  exact List.all_eq_true.1 List.all_takeWhile p h
theorem from_ge {l : List Vr} {n : ByteArray} (ha : Asc l) {p : Vr} (h : p ∈ from_ l n) : lt p.1 n = false := by
  have e := below_from l n
  cases hf : from_ l n with
  | nil => rw [hf] at h; cases h
  | cons q r =>
    have hq : lt q.1 n = false := by
      have := List.head_dropWhile_not (p := fun p : Vr => lt p.1 n) (l := l) (by show from_ l n ≠ []; rw [hf]; simp)
      have e2 : (List.dropWhile (fun p : Vr => lt p.1 n) l) = q :: r := hf
      simp only [e2, List.head_cons] at this
      exact this
    rw [hf] at h
    rcases List.mem_cons.1 h with rfl | h
    · exact hq
    · rw [e, hf] at ha
      unfold Asc at ha
      have h2 := (List.pairwise_append.1 ha).2.1
      have h3 := List.rel_of_pairwise_cons h2 h
      cases e : lt p.1 n
      · rfl
      · rw [lt_trans h3 e] at hq; cases hq
/-- A rising list: is one of that name there? -/
theorem from_cases {l : List Vr} {n : ByteArray} (ha : Asc l) : (∃ v r, from_ l n = (n, v) :: r ∧ (∀ p ∈ r, lt n p.1 = true) ∧ dropV l n = below l n ++ r) ∨ ((∀ p ∈ from_ l n, lt n p.1 = true) ∧ dropV l n = l) := by
  have e := below_from l n
  have hA : (below l n).filter (fun p => !eq p.1 n) = below l n := by
    rw [List.filter_eq_self]
    intro p hp
    have := (eq_false p.1 n).2 (lt_ne (below_lt hp))
    simp [this]
  have gt_of : ∀ p : Vr, lt p.1 n = false → p.1 ≠ n → lt n p.1 = true := by
    intro p h1 h2
    cases e : lt n p.1
    · exact absurd (lt_total h1 e) h2
    · rfl
  have hself : ∀ r : List Vr, (∀ p ∈ r, lt n p.1 = true) → r.filter (fun p => !eq p.1 n) = r := by
    intro r hr
    rw [List.filter_eq_self]
    intro p hp
    have := (eq_false p.1 n).2 (fun e => lt_ne (hr p hp) e.symm)
    simp [this]
  cases hf : from_ l n with
  | nil =>
    right
    refine ⟨(fun p hp => by cases hp), ?_⟩
    have e2 := e
    rw [hf, List.append_nil] at e2
    unfold dropV
    conv => lhs; rw [e2]
    rw [hA]; exact e2.symm
  | cons q r =>
    have hq : lt q.1 n = false := from_ge ha (by rw [hf]; exact List.mem_cons_self ..)
    have hr : ∀ p ∈ r, lt q.1 p.1 = true := by
      intro p hp
      rw [e, hf] at ha
      unfold Asc at ha
      exact List.rel_of_pairwise_cons (List.pairwise_append.1 ha).2.1 hp
    by_cases he : q.1 = n
    · left
      obtain ⟨a, v⟩ := q
      subst he
      refine ⟨v, r, rfl, hr, ?_⟩
      have e2 := e
      rw [hf] at e2
      unfold dropV
      conv => lhs; rw [e2]
      rw [List.filter_append, hA, List.filter_cons]
      rw [hself r hr]
      simp
    · right
      have hall : ∀ p ∈ q :: r, lt n p.1 = true := by
        intro p hp
        rcases List.mem_cons.1 hp with rfl | hp
        · exact gt_of _ hq he
        · exact lt_trans (gt_of _ hq he) (hr p hp)
      refine ⟨hall, ?_⟩
      have e2 := e
      rw [hf] at e2
      unfold dropV
      conv => lhs; rw [e2]
      rw [List.filter_append, hA, hself _ hall]
      exact e2.symm
theorem below_all {l : List Vr} {n : ByteArray} (a r : List Vr) (h1 : ∀ p ∈ a, lt p.1 n = true) (h2 : ∀ p ∈ r, lt p.1 n = false) (e : l = a ++ r) : below l n = a ∧ from_ l n = r := by
  subst e
  unfold below from_
  rw [List.takeWhile_append_of_pos h1, List.dropWhile_append_of_pos h1]
  cases r with
  | nil => simp
  | cons q r => simp [h2 q (List.mem_cons_self ..)]
theorem asymm {x y : ByteArray} (h : lt x y = true) : lt y x = false := bl_asymm h
theorem put_there {l : List Vr} {n v : ByteArray} {u : ByteArray} {r : List Vr} (h : from_ l n = (n, u) :: r) (hr : ∀ p ∈ r, lt n p.1 = true) (hd : dropV l n = below l n ++ r) : putV (dropV l n) n v = l.set (posV l n) (n, v) := by
  obtain ⟨h1, h2⟩ := below_all (n := n) (below l n) r (fun p hp => below_lt hp) (fun p hp => asymm (hr p hp)) hd
  unfold putV
  rw [h1, h2]
  have e := below_from l n
  rw [h] at e
  unfold posV
  generalize below l n = a at *
  subst e
  rw [List.set_append]
  simp
theorem put_new {l : List Vr} {n v : ByteArray} (hd : dropV l n = l) : putV (dropV l n) n v = l.take (posV l n) ++ (n, v) :: l.drop (posV l n) := by
  rw [hd]
  unfold putV posV
  have e := below_from l n
  generalize below l n = a at *
  generalize from_ l n = b at *
  subst e
  rw [List.take_left, List.drop_left]
theorem posV_le (l : List Vr) (n : ByteArray) : posV l n ≤ l.length := by
  have e := congrArg List.length (below_from l n)
  rw [List.length_append] at e; unfold posV; omega
theorem at_pos (l : List Vr) (n : ByteArray) : l[posV l n]? = (from_ l n)[0]? := by
  have e := below_from l n
  unfold posV
  generalize below l n = a at *
  generalize from_ l n = b at *
  subst e
  rw [List.getElem?_append_right (Nat.le_refl _)]; simp
/-- What binary search asks. -/
theorem lt_pos {l : List Vr} {n : ByteArray} (ha : Asc l) {i : Nat} {p : Vr} (hp : l[i]? = some p) : lt p.1 n = decide (i < posV l n) := by
  have e := below_from l n
  by_cases hi : i < posV l n
  · rw [decide_eq_true hi]
    have hp2 : (below l n)[i]? = some p := by
      rw [e, List.getElem?_append_left (by unfold posV at hi; exact hi)] at hp; exact hp
    exact below_lt (List.mem_of_getElem? hp2)
  · rw [decide_eq_false hi]
    have hp2 : (from_ l n)[i - posV l n]? = some p := by
      rw [e, List.getElem?_append_right (by unfold posV at hi; omega)] at hp; exact hp
    exact from_ge ha (List.mem_of_getElem? hp2)
/-- What is set may be again, and has what was set; the others have what they had. -/
theorem get_none : ∀ (l : List Vr) (n : ByteArray), (∀ p ∈ l, p.1 ≠ n) → getV l n = none := by
  intro l n
  induction l with
  | nil => intro _; rfl
  | cons p r ih =>
    intro h
    rw [getV, if_neg (by rw [eq_iff]; exact h p (List.mem_cons_self ..)), ih fun q hq => h q (List.mem_cons_of_mem _ hq)]
theorem get_app : ∀ (l r : List Vr) (n : ByteArray), getV (l ++ r) n = (getV l n).or (getV r n) := by
  intro l r n
  induction l with
  | nil => rfl
  | cons p l ih =>
    rw [List.cons_append, getV, getV]
    split
    · rfl
    · exact ih
theorem get_put (l : List Vr) (n v : ByteArray) : getV (putV (dropV l n) n v) n = some v := by
  unfold putV
  rw [get_app, get_none _ n (fun p hp => lt_ne (below_lt hp)), getV, if_pos ((eq_iff n n).2 rfl)]
  rfl
theorem get_mem : ∀ {l : List Vr}, Asc l → ∀ {p : Vr}, p ∈ l → getV l p.1 = some p.2 := by
  intro l ha
  induction l with
  | nil => intro p h; cases h
  | cons q r ih =>
    intro p h
    have hc := List.pairwise_cons.1 ha
    rcases List.mem_cons.1 h with rfl | h
    · rw [getV, if_pos ((eq_iff _ _).2 rfl)]
    · rw [getV, if_neg (by rw [eq_iff]; exact lt_ne (hc.1 p h))]
      exact ih hc.2 h
theorem asc_put {l : List Vr} {n v : ByteArray} (ha : Asc l) : Asc (putV (dropV l n) n v) := by
  have hd : Asc (dropV l n) := ha.filter _
  have hne : ∀ p ∈ dropV l n, p.1 ≠ n := by
    intro p hp
    unfold dropV at hp
    rw [List.mem_filter] at hp
    have := hp.2
    rw [Bool.not_eq_true'] at this
    exact (eq_false _ _).1 this
  generalize dropV l n = m at *
  unfold putV
  have e := below_from m n
  have hd' := hd
  rw [e] at hd'
  unfold Asc at *
  obtain ⟨h1, h2, h3⟩ := List.pairwise_append.1 hd'
  have hg : ∀ p ∈ from_ m n, lt n p.1 = true := by
    intro p hp
    have := from_ge hd hp
    cases ee : lt n p.1
    · exact absurd (lt_total this ee) (hne p (by rw [e]; exact List.mem_append_right _ hp))
    · rfl
  refine List.pairwise_append.2 ⟨h1, List.pairwise_cons.2 ⟨hg, h2⟩, ?_⟩
  intro p hp q hq
  rcases List.mem_cons.1 hq with rfl | hq
  · exact below_lt hp
  · exact h3 p hp q hq
theorem mem_put {l : List Vr} {n v : ByteArray} {p : Vr} : p ∈ putV (dropV l n) n v ↔ p = (n, v) ∨ (p ∈ l ∧ p.1 ≠ n) := by
  have e : p ∈ dropV l n ↔ p ∈ l ∧ p.1 ≠ n := by
    unfold dropV; rw [List.mem_filter, Bool.not_eq_true', eq_false]
  rw [← e]
  have e2 : p ∈ dropV l n ↔ p ∈ below (dropV l n) n ∨ p ∈ from_ (dropV l n) n := by
    conv => lhs; rw [below_from (dropV l n) n]
    exact List.mem_append
  unfold putV
  rw [e2, List.mem_append, List.mem_cons]
  constructor
  · rintro (h | h | h)
    · exact Or.inr (Or.inl h)
    · exact Or.inl h
    · exact Or.inr (Or.inr h)
  · rintro (h | h | h)
    · exact Or.inr (Or.inl h)
    · exact Or.inl h
    · exact Or.inr (Or.inr h)
theorem may_put {l : List Vr} {n v : ByteArray} (h : May l) (hn : nmB n = true) (hv : v.size ≤ 32) (h16 : (dropV l n).length ≠ 16) : May (putV (dropV l n) n v) := by
  refine ⟨?_, asc_put h.asc, ?_⟩
  · intro p hp
    rcases mem_put.1 hp with rfl | ⟨hp, _⟩
    · simp [goodB, hn, hv]
    · exact h.good p hp
  · have h1 : (dropV l n).length ≤ l.length := List.length_filter_le _ _
    have h2 := h.len
    unfold putV
    have e := congrArg List.length (below_from (dropV l n) n)
    rw [List.length_append] at e ⊢
    rw [List.length_cons]; omega
theorem get_other {l : List Vr} {n v : ByteArray} (h : Asc l) {p : Vr} (hp : p ∈ l) (hne : p.1 ≠ n) : getV (putV (dropV l n) n v) p.1 = some p.2 :=
  get_mem (asc_put h) (mem_put.2 (Or.inr ⟨hp, hne⟩))
end MemP
end Go.Proofs.YtledgkplddeghaaDoor
