/- How many kinds stand in an expression: the law's count and Small, walked. Condition: trees that fit. (Out of CalA.) -/
import Derived.Test.YtchceoclkdofhaaGreatDoorCalM
import Derived.Test.YtchceoclkdofhaaGreatDoorExpE
namespace Go.Proofs.YtchceoclkdofhaaGreatDoor
set_option linter.unusedVariables false
set_option linter.unusedSimpArgs false
open Go.RowKit
namespace CalW
open CalP QuoP
mutual
theorem count_b : ∀ (x : Ex) (left : Int), 0 ≤ left → -1 ≤ countE x left ∧ countE x left ≤ left
  | .mk k n nm op kids, left => by
    intro h
    rw [countE]
    split
    · omega
    · have := count_bL kids (left - 1) (by omega); omega
theorem count_bL : ∀ (l : List Ex) (left : Int), -1 ≤ left → -1 ≤ countL l left ∧ countL l left ≤ left
  | [], left => by intro h; rw [countL]; omega
  | x :: l, left => by
    intro h
    rw [countL]
    split
    · omega
    · have h1 := count_b x left (by omega)
      have h2 := count_bL l (countE x left) h1.1
      omega
end
theorem countL_drop (l : List Ex) (i : Nat) (h : i < l.length) (left : Int) : countL (l.drop i) left = if left < 0 then left else countL (l.drop (i + 1)) (countE (l[i]'h) left) := by
  rw [List.drop_eq_getElem_cons h, countL]
set_option maxHeartbeats 3200000 in
set_option maxRecDepth 100000 in
theorem count_step {K : Nat → Prop} (k n : Int) (nm op : ByteArray) (kids : List Ex) (A : Option Addr) (c : Nat) (w : World) (left : Int) (h0 : 0 ≤ left) (h1 : left ≤ 1000) (h : Et w K (.mk k n nm op kids) (exC k n nm op A kids.length c))
    (ih : ∀ (i : Nat) (hi : i < kids.length) (W : World) (cs : List Value) (x : Int), 0 ≤ x → x ≤ 1000 → Et W K (kids[i]'hi) cs → Calls Tryz.prog 23 #[.agg cs.toArray, .int .i64 x] W fun e w' => e = .returned (.int .i64 (countE (kids[i]'hi) x)) ∧ Below W.heap.size W w') :
    Calls Tryz.prog 23 #[.agg (exC k n nm op A kids.length c).toArray, .int .i64 left] w fun e w' => e = .returned (.int .i64 (countE (.mk k n nm op kids) left)) ∧ Below w.heap.size w w' := by
  obtain ⟨GR, hGR⟩ : ∃ G, countE (.mk k n nm op kids) left = G := ⟨_, rfl⟩
  rw [hGR]
  have hG2 : GR = if 60 < nm.size ∨ 60 < op.size then -1 else countL kids (left - 1) := by rw [← hGR, countE]
  have HE := Lib.hid h
  have IH := Lib.hid ih
  have hklm : kids.length ≤ 9223372036854775807 := by
    have h5 : kids.length ≤ maxLen := h.fits.2.2.2.2
    unfold maxLen at h5; omega
  clear hGR h ih
  obtain ⟨kl, hkl⟩ : ∃ kl, kids.length = kl := ⟨_, rfl⟩
  rw [hkl] at HE hklm ⊢
  have BA : Below w.heap.size w (w.alloc (.cells (exC k n nm op A kl c).toArray 24)) := by go_grown
  have XA : Blk (w.alloc (.cells (exC k n nm op A kl c).toArray 24)) w.heap.size 24 (exC k n nm op A kl c).toArray := Blk.new _ _ _
  by_cases a1 : 60 < nm.size
  · have d1 : decide ((60 : Int) < (nm.size : Int)) = true := by simp; omega
    have HZ := Lib.hid (show GR = -1 by rw [hG2, if_pos (Or.inl a1)])
    clear hG2 a1
    go_enter Tryz.func23, Tryz.ntmps23
    go_wp2
    go_ret
    exact ⟨by rw [HZ.out] <;> rfl, BA⟩
  have d1 : decide ((60 : Int) < (nm.size : Int)) = false := by simp; omega
  by_cases a2 : 60 < op.size
  · have d2 : decide ((60 : Int) < (op.size : Int)) = true := by simp; omega
    have d2n : decide (60 < op.size) = true := by simp; omega
    have HZ := Lib.hid (show GR = -1 by rw [hG2, if_pos (Or.inr a2)])
    clear hG2 a1 a2
    go_enter Tryz.func23, Tryz.ntmps23
    go_wp2
    go_ret
    exact ⟨by rw [HZ.out] <;> rfl, BA⟩
  have d2 : decide ((60 : Int) < (op.size : Int)) = false := by simp; omega
  have d2n : decide (60 < op.size) = false := by simp; omega
  have HG := Lib.hid (show countL (kids.drop 0) (left - 1) = GR by rw [hG2, if_neg (by omega)]; rfl)
  clear hG2 a1 a2
  go_enter Tryz.func23, Tryz.ntmps23
  go_wp2
  go_loopw [1, 21] (fun lv v wr => ∃ (i : Nat) (x : Int), lv = .int .i64 x ∧ v = .int .i64 i ∧ i ≤ kl ∧ -1 ≤ x ∧ x ≤ 1000 ∧ Hid (countL (kids.drop i) x = GR) ∧ Below w.heap.size w wr ∧ Blk wr w.heap.size 24 (exC k n nm op A kl c).toArray) (fun _ v _ => kl - (intOf v).toNat)
  case atStart => exact ⟨0, left - 1, by go_num, rfl, by omega, by omega, by omega, HG, BA, XA⟩
  case round =>
    clear HG
    obtain ⟨i, x, rfl, rfl, hi, x0, x1, hq, hB, hX⟩ := hrel
    have zB := hB.size
    have y0 := hX.cell 0
    have y1 := hX.cell 1
    have y2 := hX.cell 2
    have y3 := hX.cell 3
    have y4 := hX.cell 4
    simp only [List.getElem?_toArray, List.getElem?_cons_zero, List.getElem?_cons_succ] at y0 y1 y2 y3 y4
    by_cases hlt : i < kl
    · have hi2 : i < kids.length := by omega
      have hst := countL_drop kids i hi2 x
      rw [hq.out] at hst
      by_cases hx : x < 0
      · have d3 : decide (x < 0) = true := by simpa using hx
        have HZ := Lib.hid (show GR = x by rw [hst, if_pos hx])
        clear hst hq
        go_wp2
        go_ret
        exact ⟨by rw [HZ.out] <;> rfl, hB⟩
      · have d3 : decide (x < 0) = false := by simpa using hx
        obtain ⟨g0, o, A2, c2, rfl, hk, hc⟩ := (HE.out.bel hB).kid_ hi2
        have fk0 := hc 0 _ rfl
        have fk1 := hc 1 _ rfl
        have fk2 := hc 2 _ rfl
        have fk3 := hc 3 _ rfl
        have fk4 := hc 4 _ rfl
        simp only [Nat.add_zero] at fk0
        clear hc
        have ci := IH.out i hi2 wr _ x (by omega) x1 hk
        have hbb := count_b (kids[i]'hi2) x (by omega)
        obtain ⟨y, hy⟩ : ∃ y, kids[i]'hi2 = y := ⟨_, rfl⟩
        rw [hy] at fk0 fk1 fk2 fk3 fk4 hk hst hbb
        simp only [hy] at ci
        have HS := Lib.hid (show countL (kids.drop (i + 1)) (countE y x) = GR by rw [hst, if_neg hx])
        clear hk hy hst hq
        generalize countE y x = z at *
        generalize y.kind = k0 at *
        generalize y.n = k1 at *
        generalize y.name = k2 at *
        generalize y.op = k3 at *
        generalize y.kids.length = k4 at *
        go_wp2_with fail
        (with_reducible refine ci.mono ?_)
        rintro e w2 ⟨rfl, hb⟩
        have B3 := via hb hB
        have X3 := hX.next hb
        go_wp2
        go_roundw
        case rel => exact ⟨i + 1, z, rfl, by go_num, by omega, by omega, by omega, HS, B3, X3⟩
        case measure => simp [intOf]; omega
    · have hi2 : i = kl := by omega
      subst hi2
      have HZ := Lib.hid (show GR = x by rw [← hq.out, List.drop_of_length_le (by omega), countL])
      clear hq
      go_wp2
      go_ret
      exact ⟨by rw [HZ.out] <;> rfl, hB⟩
theorem count_c {K : Nat → Prop} : ∀ (N : Nat) (r : Ex), nodesE r ≤ N → ∀ (w : World) (cs : List Value) (left : Int), 0 ≤ left → left ≤ 1000 → Et w K r cs →
    Calls Tryz.prog 23 #[.agg cs.toArray, .int .i64 left] w fun e w' => e = .returned (.int .i64 (countE r left)) ∧ Below w.heap.size w w' := by
  intro N
  induction N with
  | zero => intro r h; have := nodes_pos r; omega
  | succ N ih =>
    intro r hN w cs left h0 h1 h
    obtain ⟨k, n, nm, op, kids⟩ := r
    obtain ⟨A, c, rfl⟩ := h.shape
    rw [nodesE] at hN
    exact count_step k n nm op kids A c w left h0 h1 h (fun i hi W cs2 x hx0 hx1 h2 => ih _ (by have := nodes_kid kids i hi; omega) W cs2 x hx0 hx1 h2)
theorem small9_c {K : Nat → Prop} (r : Ex) (w : World) (cs : List Value) (most : Int) (h0 : 0 ≤ most) (h1 : most ≤ 1000) (h : Et w K r cs) :
    Calls Tryz.prog 8 #[.agg cs.toArray, .int .i64 most] w fun x w' => x = .returned (.bool (smallE r most)) ∧ Below w.heap.size w w' := by
  obtain ⟨A, c, rfl⟩ := h.shape
  have cr := count_c (nodesE r) r (Nat.le_refl _) (w.alloc (.cells (exC r.kind r.n r.name r.op A r.kids.length c).toArray 24)) _ most h0 h1 (h.bel (by go_grown))
  obtain ⟨G, hG⟩ : ∃ G, smallE r most = G := ⟨_, rfl⟩
  rw [hG]
  unfold smallE at hG
  generalize countE r most = z at *
  have HG := Lib.hid hG
  generalize r.kind = k0 at *
  generalize r.n = k1 at *
  generalize r.name = k2 at *
  generalize r.op = k3 at *
  generalize r.kids.length = k4 at *
  clear h
  cases G
  all_goals
    go_enter Tryz.func8, Tryz.ntmps8
    go_wp2_with fail
    (with_reducible refine cr.mono ?_)
    rintro x w2 ⟨rfl, hb⟩
    go_wp2
    go_ret
    exact ⟨by first | rfl | (rw [hG] <;> rfl), ((Below.refl _ _).alloc (Nat.le_refl _) _).trans (hb.mono (by rw [World.size_alloc]; omega))⟩
end CalW
end Go.Proofs.YtchceoclkdofhaaGreatDoor
