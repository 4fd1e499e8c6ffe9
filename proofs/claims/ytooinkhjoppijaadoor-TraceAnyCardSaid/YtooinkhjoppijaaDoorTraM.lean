/- Choices in memory; which traces may be, and whether two are the same: the walks. Conditions: lists that fit. -/
import Derived.Test.YtooinkhjoppijaaDoorTraW
import Derived.Laws.StructEq
namespace Go.Proofs.YtooinkhjoppijaaDoor
set_option linter.unusedVariables false
set_option linter.unusedSimpArgs false
open Go.RowKit
namespace TraW
open TraP
def ccs (l : List Ch) : List Value := l.flatMap chC
theorem ccs_cons (p : Ch) (l : List Ch) : ccs (p :: l) = .int .i64 p.1 :: .int .i64 p.2.1 :: .int .i64 p.2.2 :: ccs l := rfl
theorem ccs_app (l r : List Ch) : ccs (l ++ r) = ccs l ++ ccs r := by simp [ccs]
theorem ccs_len : ∀ l : List Ch, (ccs l).length = l.length * 3 := by
  intro l; induction l with
  | nil => rfl
  | cons p l ih => rw [ccs_cons]; simp only [List.length_cons]; rw [ih]; omega
theorem ccs_at : ∀ (l : List Ch) (k : Nat) (p : Ch), l[k]? = some p → (ccs l)[k * 3]? = some (.int .i64 p.1) ∧ (ccs l)[k * 3 + 1]? = some (.int .i64 p.2.1) ∧ (ccs l)[k * 3 + 2]? = some (.int .i64 p.2.2) := by
  intro l
  induction l with
  | nil => intro k p h; cases h
  | cons q l ih =>
    intro k p h
    cases k with
    | zero => simp at h; subst h; exact ⟨rfl, rfl, rfl⟩
    | succ k =>
      rw [List.getElem?_cons_succ] at h
      obtain ⟨h1, h2, h3⟩ := ih k p h
      rw [ccs_cons, show (k + 1) * 3 = k * 3 + 1 + 1 + 1 by omega]
      exact ⟨by simpa using h1, by simpa using h2, by simpa using h3⟩
theorem ccs_one {l : List Ch} : ∀ u ∈ ccs l, u.oneCell' = true := by
  intro u hu
  unfold ccs at hu
  rw [List.mem_flatMap] at hu
  obtain ⟨p, _, hp⟩ := hu
  simp only [chC, List.mem_cons, List.not_mem_nil, or_false] at hp
  rcases hp with rfl | rfl | rfl <;> rfl
/-- A slice of choices. -/
abbrev Chs (w : World) (B : Nat) (A : Option Addr) (n : Nat) (l : List Ch) : Prop := Rd w B 3 A n (ccs l)
theorem Chs.len {w : World} {B n : Nat} {A : Option Addr} {l : List Ch} (h : Chs w B A n l) : l.length = n := by
  have := h.1; rw [ccs_len] at this; omega
theorem Chs.get {w : World} {B n k : Nat} {A : Option Addr} {l : List Ch} (h : Chs w B A n l) (hk : k < n) : ∃ g o p, A = some ⟨g, o, none⟩ ∧ g < B ∧ l[k]? = some p ∧ w.cell? ⟨g, o + k * 3, none⟩ = some (.int .i64 p.1) ∧ w.cell? ⟨g, o + k * 3 + 1, none⟩ = some (.int .i64 p.2.1) ∧ w.cell? ⟨g, o + k * 3 + 2, none⟩ = some (.int .i64 p.2.2) := by
  obtain ⟨g, o, e, hb, hc⟩ := Rd.flat h (by omega) (by omega)
  have hl := Chs.len h
  have hp : l[k]? = some (l[k]'(by omega)) := List.getElem?_eq_getElem (by omega)
  obtain ⟨h1, h2, h3⟩ := ccs_at l k _ hp
  exact ⟨g, o, _, e, hb, hp, hc _ _ h1, hc _ _ h2, hc _ _ h3⟩
/-- A trace's cells. -/
abbrev trC (k n : Int) (A : Option Addr) (m c : Nat) : List Value := [.int .i64 k, .int .i64 n, .slice A m c]
abbrev trV (k n : Int) (A : Option Addr) (m c : Nat) : Value := .agg #[.int .i64 k, .int .i64 n, .slice A m c]
theorem one_take {l : List Ch} {k : Nat} {p : Ch} (hp : l[k]? = some p) : (l.take (k + 1)).all oneB = ((l.take k).all oneB && oneB p) := by
  rw [List.take_add_one, hp, List.all_append]; simp
theorem one_no {l : List Ch} {k : Nat} {p : Ch} (hp : l[k]? = some p) (h : oneB p = false) : l.all oneB = false := by
  cases e : l.all oneB with
  | false => rfl
  | true => have := List.all_eq_true.1 e p (List.mem_of_getElem? hp); rw [h] at this; cases this
/-- The first that may not be, or -1. -/
def IdxPost (l : List Ch) (w : World) (e : Ending) (w' : World) : Prop := Below w.heap.size w w' ∧
  ((∃ k : Nat, l.all oneB = false ∧ k < l.length ∧ e = .returned (.int .i64 (k : Nat))) ∨ (l.all oneB = true ∧ e = .returned (.int .i64 (-1))))
set_option maxHeartbeats 800000 in
theorem index_c (A : Option Addr) (n c : Nat) (l : List Ch) (w : World) (hr : Chs w w.heap.size A n l) (hn : n ≤ 9223372036854775807) :
    Calls Tryd.prog 37 #[.slice A n c, .func (.func 23) #[] #[]] w (IdxPost l w) := by
  have hl := Chs.len hr
  go_enter Tryd.func37, Tryd.ntmps37
  go_wp2
  go_loopw [8] (fun v wr => ∃ k : Nat, v = .int .i64 k ∧ k ≤ n ∧ Hid ((l.take k).all oneB = true) ∧ Below w.heap.size w wr) (fun v _ => n - (intOf v).toNat)
  case atStart => exact ⟨0, rfl, by omega, rfl, Below.refl _ _⟩
  case round =>
    obtain ⟨k, rfl, hk, hx, hb⟩ := hrel
    by_cases hlt : k < n
    · obtain ⟨g, o, ⟨a, p, q⟩, rfl, hg, hp, q1, q2, q3⟩ := Chs.get (hr.below hb) hlt
      simp only at q1 q2 q3
      have c1 := mayk_c (a, p, q) wr
      simp only [chV] at c1
      have HP := Lib.hid hp
      have ST := Lib.hid (one_take hp)
      clear hp
      cases he : oneB (a, p, q)
      · rw [he] at c1
        have HE := Lib.hid he
        clear he
        go_wp2_with fail
        (with_reducible refine c1.mono ?_)
        rintro e w1 ⟨rfl, hb1⟩
        have hB1 := hb.trans (hb1.mono hb.size)
        go_wp2
        go_ret
        exact ⟨hB1, .inl ⟨k, one_no HP.out HE.out, by omega, rfl⟩⟩
      · rw [he] at c1
        have HE := Lib.hid he
        clear he
        go_wp2_with fail
        (with_reducible refine c1.mono ?_)
        rintro e w1 ⟨rfl, hb1⟩
        have hB1 := hb.trans (hb1.mono hb.size)
        go_wp2
        go_roundw
        case rel => exact ⟨k + 1, by go_num, by omega, by show _ = true; rw [ST.out, hx.out, HE.out]; rfl, hB1⟩
        case measure => simp [intOf]; omega
    · obtain rfl : k = n := by omega
      have hx2 := hx.out
      rw [List.take_of_length_le (by omega)] at hx2
      have HX := Lib.hid hx2
      clear hx2
      go_wp2
      go_ret
      exact ⟨hb, .inr ⟨HX.out, rfl⟩⟩
theorem contains_c (A : Option Addr) (n c : Nat) (l : List Ch) (w : World) (hr : Chs w w.heap.size A n l) (hn : n ≤ 9223372036854775807) :
    Calls Tryd.prog 22 #[.slice A n c, .func (.func 23) #[] #[]] w fun e w' => e = .returned (.bool (!l.all oneB)) ∧ Below w.heap.size w w' := by
  have ci := index_c A n c l w hr hn
  have hl := Chs.len hr
  clear hr
  obtain ⟨R, hR⟩ : ∃ R, l.all oneB = R := ⟨_, rfl⟩
  rw [hR]
  have H := Lib.hid hR
  clear hR
  go_enter Tryd.func22, Tryd.ntmps22
  go_wp2_with fail
  (with_reducible refine ci.mono ?_)
  rintro e w1 ⟨hb, ⟨k, h1, h2, rfl⟩ | ⟨h1, rfl⟩⟩
  · have H1 := Lib.hid h1
    clear h1
    go_wp2
    go_ret
    exact ⟨ret_bool (by rw [← H.out, H1.out]; rfl), hb⟩
  · have H1 := Lib.hid h1
    clear h1
    go_wp2
    go_ret
    exact ⟨ret_bool (by rw [← H.out, H1.out]; rfl), hb⟩
set_option maxHeartbeats 800000 in
theorem may_c (k n : Int) (A : Option Addr) (m c : Nat) (l : List Ch) (w : World) (hr : Chs w w.heap.size A m l) (hm : m ≤ 9223372036854775807) :
    Calls Tryd.prog 9 #[trV k n A m c] w fun e w' => e = .returned (.bool (mayB (k, n, l))) ∧ Below w.heap.size w w' := by
  have hl := Chs.len hr
  obtain ⟨R, hR⟩ : ∃ R, mayB (k, n, l) = R := ⟨_, rfl⟩
  rw [hR]
  have H := Lib.hid hR
  clear hR
  have ch := fun W => head_c k n W
  have cc := contains_c A m c l (w.alloc (.cells #[.int .i64 k, .int .i64 n, .slice A m c] 24)) ((hr.alloc (Nat.le_refl _) _).more (by simp)) hm
  have HL := Lib.hid hl
  clear hr hl
  simp only [trV]
  cases h0 : headB k n
  · rw [h0] at ch
    have H0 := Lib.hid h0
    clear h0 cc
    go_enter Tryd.func9, Tryd.ntmps9
    go_wp2_with fail
    (with_reducible refine (ch _).mono ?_)
    rintro e w1 ⟨rfl, rfl⟩
    go_wp2
    go_ret
    exact ⟨ret_bool (by rw [← H.out]; simp [mayB, H0.out]), by go_grown⟩
  · rw [h0] at ch
    have H0 := Lib.hid h0
    clear h0
    by_cases h4 : m ≤ 4000
    · have d4 : decide ((m : Int) ≤ 4000) = true := by simp; omega
      cases h1 : l.all oneB
      all_goals
        rw [h1] at cc
        have H1 := Lib.hid h1
        clear h1
        go_enter Tryd.func9, Tryd.ntmps9
        go_wp2_with fail
        (with_reducible refine (ch _).mono ?_)
        rintro e w1 ⟨rfl, rfl⟩
        go_wp2_with fail
        (with_reducible refine cc.mono ?_)
        rintro e w1 ⟨rfl, hb⟩
        have hB := via (a := w) hb (by go_grown)
        go_wp2
        go_ret
        exact ⟨ret_bool (by rw [← H.out]; unfold mayB; simp only [H0.out, H1.out, HL.out]; simp; try omega), hB⟩
    · have d4 : decide ((m : Int) ≤ 4000) = false := by simp; omega
      clear cc
      go_enter Tryd.func9, Tryd.ntmps9
      go_wp2_with fail
      (with_reducible refine (ch _).mono ?_)
      rintro e w1 ⟨rfl, rfl⟩
      go_wp2
      go_ret
      exact ⟨ret_bool (by rw [← H.out]; unfold mayB; simp only [H0.out, HL.out]; simp; intro; omega), by go_grown⟩
set_option maxHeartbeats 1600000 in
theorem rmay_c (k n : Int) (A : Option Addr) (m c : Nat) (l : List Ch) (w : World) (hr : Chs w w.heap.size A m l) (hm : m ≤ 9223372036854775807) :
    Calls Tryd.prog 8 #[trV k n A m c] w fun e w' => e = .returned (.bool (mayB (k, n, l))) ∧ Below w.heap.size w w' := by
  have hl := Chs.len hr
  obtain ⟨R, hR⟩ : ∃ R, mayB (k, n, l) = R := ⟨_, rfl⟩
  rw [hR]
  have H := Lib.hid hR
  clear hR
  have HL := Lib.hid hl
  simp only [trV]
  go_enter Tryd.func8, Tryd.ntmps8
  go_wp2
  have B0 := Blk.new w 24 #[.int .i64 k, .int .i64 n, .slice A m c]
  have hbs : Below w.heap.size w (w.alloc (.cells #[.int .i64 k, .int .i64 n, .slice A m c] 24)) := by go_grown
  obtain ⟨w0, hw0⟩ : ∃ z, w.alloc (.cells #[.int .i64 k, .int .i64 n, .slice A m c] 24) = z := ⟨_, rfl⟩
  rw [hw0] at B0 hbs ⊢
  clear hw0
  go_loopw [3] (fun v wr => ∃ i : Nat, v = .int .i64 i ∧ i ≤ m ∧ Hid ((l.take i).all oneB = true) ∧ Below w0.heap.size w0 wr) (fun v _ => m - (intOf v).toNat)
  case atStart => exact ⟨0, rfl, by omega, rfl, Below.refl _ _⟩
  case round =>
    obtain ⟨i, rfl, hk, hx, hb⟩ := hrel
    have B1 := B0.below hb B0.lt
    have x0 := B1.cell 0
    have x1 := B1.cell 1
    have x2 := B1.cell 2
    simp only [List.getElem?_toArray, List.getElem?_cons_zero, List.getElem?_cons_succ] at x0 x1 x2
    have hB := hbs.trans (hb.mono (by have := hbs.size; omega))
    by_cases hlt : i < m
    · obtain ⟨g, o, ⟨a, p, q⟩, rfl, hg, hp, q1, q2, q3⟩ := Chs.get (hr.below hB) hlt
      simp only at q1 q2 q3
      have c1 := rone_c (a, p, q) wr
      simp only [chV] at c1
      have HP := Lib.hid hp
      have ST := Lib.hid (one_take hp)
      clear hp
      cases he : oneB (a, p, q)
      · rw [he] at c1
        have HE := Lib.hid he
        clear he
        go_wp2_with fail
        (with_reducible refine c1.mono ?_)
        rintro e w1 ⟨rfl, hb1⟩
        have hB1 := via hb1 hB
        go_wp2
        go_ret
        exact ⟨ret_bool (by rw [← H.out]; unfold mayB; simp only [one_no HP.out HE.out]; simp), hB1⟩
      · rw [he] at c1
        have HE := Lib.hid he
        clear he
        go_wp2_with fail
        (with_reducible refine c1.mono ?_)
        rintro e w1 ⟨rfl, hb1⟩
        have hB1 := hb.trans (hb1.mono hb.size)
        go_wp2
        go_roundw
        case rel => exact ⟨i + 1, by go_num, by omega, by show _ = true; rw [ST.out, hx.out, HE.out]; rfl, hB1⟩
        case measure => simp [intOf]; omega
    · obtain rfl : i = m := by omega
      have hx2 := hx.out
      rw [List.take_of_length_le (by omega)] at hx2
      have HX := Lib.hid hx2
      clear hx2
      go_wp2
      all_goals
        go_ret
        exact ⟨ret_bool (by rw [← H.out]; unfold mayB headB; simp only [HX.out, HL.out]; simp_all [inB] <;> omega), hB⟩
end TraW
end Go.Proofs.YtooinkhjoppijaaDoor
