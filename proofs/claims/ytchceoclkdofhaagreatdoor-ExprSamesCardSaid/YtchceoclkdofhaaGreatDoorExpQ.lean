/- The reference's names of an expression, walked; and the law's plain part. Condition: trees that fit. -/
import Derived.Test.YtchceoclkdofhaaGreatDoorExpPt
namespace Go.Proofs.YtchceoclkdofhaaGreatDoor
set_option linter.unusedVariables false
set_option linter.unusedSimpArgs false
open Go.RowKit
namespace ExpW
open CalP CalW ExpP
open MemP (lt)
theorem put_len (xs : List ByteArray) (nm : ByteArray) : (putB xs nm).length ≤ xs.length + 1 := by
  unfold putB
  split
  · omega
  · have := congrArg List.length (List.takeWhile_append_dropWhile (p := fun x => lt x nm) (l := xs))
    rw [List.length_append] at this
    rw [List.length_append, List.length_cons]; omega
theorem fold_len : ∀ (l xs : List ByteArray), (l.foldl putB xs).length ≤ xs.length + l.length
  | [], xs => by simp
  | x :: l, xs => by
    have h1 := fold_len l (putB xs x)
    have h2 := put_len xs x
    simp only [List.foldl_cons, List.length_cons]; omega
/-! Each once, rising. -/
open MemP (bl bl_irrefl bl_trans bl_total bl_asymm bl_ne)
theorem bl_lt : ∀ x y : List UInt8, bl x y = true ↔ x < y
  | [], [] => by simp [bl, Op.bytesLess]
  | [], b :: y => by simp [bl, Op.bytesLess]
  | a :: x, [] => by simp [bl, Op.bytesLess]
  | a :: x, b :: y => by
    have ih := bl_lt x y
    simp only [bl] at ih
    rw [List.cons_lt_cons_iff, ← ih]
    simp [bl, Op.bytesLess]
theorem le_bl (x y : List UInt8) : decide (x ≤ y) = !(bl y x) := by
  rw [Bool.eq_iff_iff, decide_eq_true_eq, Bool.not_eq_true', ← Bool.not_eq_true, bl_lt, List.not_lt]
abbrev Up (l : List (List UInt8)) : Prop := l.Pairwise (fun x y => bl x y = true)
theorem up_ext : ∀ {a b : List (List UInt8)}, Up a → Up b → (∀ x, x ∈ a ↔ x ∈ b) → a = b
  | [], [], _, _, _ => rfl
  | [], y :: b, _, _, h => by have := (h y).2 (by simp); cases this
  | x :: a, [], _, _, h => by have := (h x).1 (by simp); cases this
  | x :: a, y :: b, ha, hb, h => by
    rw [Up, List.pairwise_cons] at ha hb
    have hxy : x = y := by
      rcases List.mem_cons.1 ((h x).1 (by simp)) with e | e
      · exact e
      · rcases List.mem_cons.1 ((h y).2 (by simp)) with e' | e'
        · exact e'.symm
        · have h1 := hb.1 x e
          have h2 := ha.1 y e'
          rw [bl_asymm h1] at h2; cases h2
    subst hxy
    rw [up_ext ha.2 hb.2 (fun z => ?_)]
    constructor
    · intro hz
      rcases List.mem_cons.1 ((h z).1 (by simp [hz])) with e | e
      · exact absurd e (bl_ne (ha.1 z hz)).symm
      · exact e
    · intro hz
      rcases List.mem_cons.1 ((h z).2 (by simp [hz])) with e | e
      · exact absurd e (bl_ne (hb.1 z hz)).symm
      · exact e
theorem take_imp {p : ByteArray → Bool} : ∀ {l : List ByteArray} {a : ByteArray}, a ∈ l.takeWhile p → p a = true
  | [], a, h => by cases h
  | x :: l, a, h => by
    rw [List.takeWhile_cons] at h
    split at h
    · next hx =>
      rcases List.mem_cons.1 h with rfl | h
      · exact hx
      · exact take_imp h
    · cases h
abbrev Asc (l : List ByteArray) : Prop := l.Pairwise (fun x y => lt x y = true)
theorem mem_put {xs : List ByteArray} {nm x : ByteArray} : x ∈ putB xs nm ↔ x = nm ∨ x ∈ xs := by
  unfold putB
  have e := List.takeWhile_append_dropWhile (p := fun x => lt x nm) (l := xs)
  split
  · next h =>
    constructor
    · exact .inr
    · rintro (rfl | h2)
      · rw [← e]
        exact List.mem_append.2 (.inr (List.mem_of_mem_head? (by rw [h]; rfl)))
      · exact h2
  · conv => rhs; rhs; rw [← e]
    simp only [List.mem_append, List.mem_cons]
    constructor
    · rintro (h | h | h)
      · exact .inr (.inl h)
      · exact .inl h
      · exact .inr (.inr h)
    · rintro (h | h | h)
      · exact .inr (.inl h)
      · exact .inl h
      · exact .inr (.inr h)
theorem asc_put {xs : List ByteArray} (nm : ByteArray) (h : Asc xs) : Asc (putB xs nm) := by
  unfold putB
  have e := List.takeWhile_append_dropWhile (p := fun x => lt x nm) (l := xs)
  split
  · exact h
  · next hn =>
    rw [← e] at h
    rw [Asc, List.pairwise_append] at h ⊢
    obtain ⟨h1, h2, h3⟩ := h
    have ht : ∀ a ∈ xs.takeWhile (fun x => lt x nm), lt a nm = true := fun a ha => take_imp (p := fun x => lt x nm) ha
    have hd : ∀ a ∈ xs.dropWhile (fun x => lt x nm), lt nm a = true := by
      intro a ha
      cases hdw : xs.dropWhile (fun x => lt x nm) with
      | nil => rw [hdw] at ha; cases ha
      | cons z r =>
        rw [hdw] at ha hn h2
        have hz : lt z nm = false := by
          have := List.head?_dropWhile_not (fun x => lt x nm) xs
          rw [hdw] at this
          simpa using this
        have hzn : z ≠ nm := fun e => hn (by rw [e]; rfl)
        have hnz : lt nm z = true := by
          cases e2 : lt nm z with
          | true => rfl
          | false => exact absurd (MemP.lt_total hz e2) hzn
        rcases List.mem_cons.1 ha with rfl | ha
        · exact hnz
        · exact MemP.lt_trans hnz ((List.pairwise_cons.1 h2).1 a ha)
    refine ⟨h1, List.pairwise_cons.2 ⟨hd, h2⟩, fun a ha b hb => ?_⟩
    rcases List.mem_cons.1 hb with rfl | hb
    · exact ht a ha
    · exact h3 a ha b hb
theorem mem_fold {x : ByteArray} : ∀ (l xs : List ByteArray), x ∈ l.foldl putB xs ↔ x ∈ xs ∨ x ∈ l
  | [], xs => by simp
  | y :: l, xs => by
    rw [List.foldl_cons, mem_fold l, mem_put, List.mem_cons]
    constructor
    · rintro ((h | h) | h)
      · exact .inr (.inl h)
      · exact .inl h
      · exact .inr (.inr h)
    · rintro (h | h | h)
      · exact .inl (.inr h)
      · exact .inl (.inl h)
      · exact .inr h
theorem asc_fold : ∀ (l xs : List ByteArray), Asc xs → Asc (l.foldl putB xs)
  | [], xs, h => h
  | y :: l, xs, h => asc_fold l _ (asc_put y h)
theorem compact_up {zs : List (List UInt8)} (h : zs.Pairwise (fun x y => bl y x = false)) : ∀ m, m ≤ zs.length → Up (Lib.compactUpTo zs.toArray m) ∧ (∀ x, x ∈ Lib.compactUpTo zs.toArray m ↔ x ∈ zs.take m) := by
  intro m
  induction m with
  | zero => intro _; simp [Lib.compactUpTo]
  | succ m ih =>
    intro hm
    obtain ⟨h1, h2⟩ := ih (by omega)
    have hg : ∀ (j : Nat) (hj : j < zs.length), (zs.toArray[j]! : List UInt8) = zs[j]'hj := fun j hj => by
      rw [getElem!_pos zs.toArray j (by simpa using hj)]; simp
    have hle : ∀ (i j : Nat) (hi : i < zs.length) (hj : j < zs.length), i < j → bl (zs[j]'hj) (zs[i]'hi) = false := fun i j hi hj hij => List.pairwise_iff_getElem.1 h i j hi hj hij
    have ht : zs.take (m + 1) = zs.take m ++ [zs[m]'(by omega)] := by rw [List.take_succ_eq_append_getElem (by omega)]
    rw [Lib.compactUpTo_succ, hg m (by omega)]
    by_cases hk : Lib.keeps zs.toArray m = true
    · rw [if_pos hk, ht]
      unfold Lib.keeps at hk
      rw [decide_eq_true_iff] at hk
      refine ⟨?_, fun x => by rw [List.mem_append, List.mem_append, h2]⟩
      rw [Up, List.pairwise_append]
      refine ⟨h1, by simp, fun a ha b hb => ?_⟩
      rw [List.mem_singleton] at hb
      subst hb
      rw [h2, List.mem_take_iff_getElem] at ha
      obtain ⟨i, hi, rfl⟩ := ha
      have him : i < m := by omega
      rcases hk with hk | hk
      · omega
      · rw [hg m (by omega), hg (m - 1) (by omega)] at hk
        have h3 := hle (m - 1) m (by omega) (by omega) (by omega)
        have h3' : bl (zs[m - 1]'(by omega)) (zs[m]'(by omega)) = true := by
          cases e : bl (zs[m - 1]'(by omega)) (zs[m]'(by omega)) with
          | true => rfl
          | false => exact absurd (bl_total _ _ h3 e) hk
        rcases Nat.lt_or_ge i (m - 1) with h | h
        · have h4 := hle i (m - 1) (by omega) (by omega) h
          cases e : bl (zs[i]'(by omega)) (zs[m - 1]'(by omega)) with
          | true => exact bl_trans e h3'
          | false => rw [bl_total _ _ e h4]; exact h3'
        · have : i = m - 1 := by omega
          subst this; exact h3'
    · rw [if_neg hk, List.append_nil, ht]
      unfold Lib.keeps at hk
      rw [decide_eq_true_iff, not_or] at hk
      have hm0 : 0 < m := by omega
      have he := hk.2
      rw [hg m (by omega), hg (m - 1) (by omega), Decidable.not_not] at he
      refine ⟨h1, fun x => ?_⟩
      rw [h2, List.mem_append, List.mem_singleton]
      constructor
      · exact .inl
      · rintro (h | rfl)
        · exact h
        · rw [he, List.mem_take_iff_getElem]
          exact ⟨m - 1, by omega, rfl⟩
/-- The two ways to the names meet. -/
theorem names_put (r : Ex) : ((gathE r).foldl putB []).map (·.data.toList) = namesE r := by
  unfold namesE Lib.compact
  have hs : (((gathE r).map (·.data.toList)).mergeSort fun x y => decide (x ≤ y)).Pairwise (fun x y => bl y x = false) := by
    have := List.pairwise_mergeSort (le := fun x y : List UInt8 => decide (x ≤ y)) (by
      intro a b c h1 h2
      rw [le_bl] at *
      cases e : bl c a with
      | false => rfl
      | true =>
        rw [Bool.not_eq_true'] at h1 h2
        cases e2 : bl c b with
        | true => rw [e2] at h2; cases h2
        | false =>
          cases e3 : bl b c with
          | true => have := bl_trans e3 e; rw [this] at h1; cases h1
          | false => rw [bl_total _ _ e2 e3] at e; rw [e] at h1; cases h1) (by
      intro a b
      rw [le_bl, le_bl]
      cases e : bl b a with
      | false => rfl
      | true => rw [bl_asymm e]; rfl) ((gathE r).map (·.data.toList))
    exact this.imp (by intro a b h; rw [le_bl] at h; simpa using h)
  obtain ⟨c1, c2⟩ := compact_up hs _ (Nat.le_refl _)
  refine up_ext ?_ c1 (fun x => ?_)
  · have := asc_fold (gathE r) [] List.Pairwise.nil
    refine List.pairwise_map.2 (this.imp ?_)
    intro a b h
    simpa [lt, Lib.toList_data] using h
  · rw [c2, List.take_length, List.mem_mergeSort, List.mem_map, List.mem_map]
    constructor
    · rintro ⟨y, hy, e⟩
      rw [mem_fold] at hy
      rcases hy with hy | hy
      · cases hy
      · exact ⟨y, hy, e⟩
    · rintro ⟨y, hy, e⟩
      exact ⟨y, by rw [mem_fold]; exact .inr hy, e⟩
set_option maxRecDepth 100000 in
set_option maxHeartbeats 3200000 in
theorem rnames_c {B : Nat} {K : Nat → Prop} : ∀ (N : Nat) (r : Ex), nodesE r ≤ N → ∀ (w : World) (cs : List Value) (v : Value) (xs : List ByteArray), Et w K r cs → OwnS w B v xs → B ≤ w.heap.size → xs.length + nodesE r ≤ 1000000 →
    Calls Tryz.prog 10 #[.agg cs.toArray, v] w (PutPost B ((gathE r).foldl putB xs) w) := by
  intro N
  induction N with
  | zero => intro r h; cases r; simp [nodesE] at h
  | succ N ih =>
    intro r hN w cs v xs h hown hBw hbig
    obtain ⟨A, c, rfl⟩ := h.shape
    obtain ⟨k, n, nm, op, kids⟩ := r
    simp only [Ex.kind, Ex.n, Ex.name, Ex.op, Ex.kids] at h ⊢
    have hN2 : nodesL kids ≤ N := by simp [nodesE] at hN; omega
    have hln := len_nodes kids
    have hnn : nodesE (.mk k n nm op kids) = 1 + nodesL kids := by rw [nodesE]
    rw [hnn] at hbig
    have HRT := Lib.hid h
    obtain ⟨X0, hX0⟩ : ∃ G, (if k = 1 then putB xs nm else xs) = G := ⟨_, rfl⟩
    have hg0 : X0.length ≤ xs.length + 1 := by
      rw [← hX0]; split
      · exact put_len xs nm
      · omega
    obtain ⟨GR, hGR⟩ : ∃ G, (gathE (.mk k n nm op kids)).foldl putB xs = G := ⟨_, rfl⟩
    have HGR := Lib.hid (show (gathL kids).foldl putB X0 = GR by
      rw [← hGR, gathE, ← hX0, List.foldl_append]
      split <;> rfl)
    rw [hGR]
    have HX0 := Lib.hid hX0
    obtain ⟨kl, hkl⟩ : ∃ kl, kids.length = kl := ⟨_, rfl⟩
    rw [hkl] at HRT hln ⊢
    clear hGR hX0 h hnn hN
    obtain ⟨wa, hwa⟩ : ∃ z : World, w.alloc (.cells (exC k n nm op A kl c).toArray 24) = z := ⟨_, rfl⟩
    have xa : Blk wa w.heap.size 24 (exC k n nm op A kl c).toArray := by rw [← hwa]; exact Blk.new _ _ _
    have ba : Below w.heap.size w wa := by rw [← hwa]; go_grown
    have hown1 : OwnS wa B v xs := ExpT.own_bel hown ba
    clear hown
    go_enter Tryz.func10, Tryz.ntmps10
    go_upto_region 1 with fail
    try rw [hwa]
    clear hwa
    go_cut [8] (fun b wx => b = .bool (k == 1) ∧ wa = wx)
    case first =>
      have p0 := xa.cell 0
      simp only [List.getElem?_toArray, List.getElem?_cons_zero] at p0
      cases hk : (k == 1)
      all_goals
        go_wp2_with fail
        go_meet
        exact ⟨by rw [hk], rfl⟩
    case rest =>
      obtain ⟨rfl, rfl⟩ := hcut
      go_step
      go_cut [1] (fun v1 wx => OwnS wx B v1 X0 ∧ Blk wx w.heap.size 24 (exC k n nm op A kl c).toArray ∧ Below w.heap.size w wx)
      case first =>
        have p0 := xa.cell 0
        have p2 := xa.cell 2
        simp only [List.getElem?_toArray, List.getElem?_cons_zero, List.getElem?_cons_succ] at p0 p2
        have hz := ba.size
        cases hk : (k == 1) with
        | false =>
          have hg : X0 = xs := by rw [← HX0.out, if_neg (by simpa using hk)]
          subst hg
          have FIN := Lib.hid (And.intro hown1 (And.intro xa ba))
          clear hown1 xa ba
          go_wp2_with fail
          go_meet
          exact FIN.out
        | true =>
          have hg : X0 = putB xs nm := by rw [← HX0.out, if_pos (by simpa using hk)]
          subst hg
          have cp := put_c v xs nm wa hown1 (by omega) (by omega)
          unfold PutPost at cp
          clear hown1
          go_wp2_with fail
          (with_reducible refine cp.mono ?_)
          clear cp p0 p2
          rintro x w2 ⟨v2, rfl, ho, b2⟩
          have x2 := xa.next b2
          have B2 := via b2 ba
          clear xa ba b2
          go_wp2_with fail
          go_meet
          exact ⟨ho, x2, B2⟩
      case rest =>
        clear hown1 xa ba
        obtain ⟨hown1, xa, ba⟩ := hcut
        go_upto_region 3 with fail
        go_wp2_with fail
        go_loopw [1, 5] (fun lv iv wr => ∃ (i : Nat), iv = .int .i64 i ∧ i ≤ kl ∧ OwnS wr B lv ((gathL (kids.take i)).foldl putB X0) ∧ Blk wr w.heap.size 24 (exC k n nm op A kl c).toArray ∧ Below w.heap.size w wr) (fun _ iv _ => kl - (intOf iv).toNat)
        case atStart => exact ⟨0, rfl, by omega, by simpa [gathL] using hown1, xa, ba⟩
        case round =>
          clear hown1 xa ba
          obtain ⟨i, rfl, hi, hown2, xr, hb2⟩ := hrel
          have p4 := xr.cell 4
          simp only [List.getElem?_toArray, List.getElem?_cons_zero, List.getElem?_cons_succ] at p4
          by_cases hlt : i < kl
          · have hEr : Et _ K _ _ := HRT.out.bel hb2
            obtain ⟨g, o, A2, c2, rfl, hk, hc⟩ := Et.kid_ hEr (i := i) (by omega)
            have fk0 := hc 0 _ rfl
            have fk1 := hc 1 _ rfl
            have fk2 := hc 2 _ rfl
            have fk3 := hc 3 _ rfl
            have fk4 := hc 4 _ rfl
            simp only [Nat.add_zero] at fk0
            clear hc hEr
            have hnk := nodesL_take kids i (by omega)
            have hgt := gath_take kids i (by omega)
            have hgn := gath_nodesL (kids.take i)
            have hfl := fold_len (gathL (kids.take i)) X0
            obtain ⟨x, hx⟩ : ∃ x, kids[i]'(by omega) = x := ⟨_, rfl⟩
            rw [hx] at fk0 fk1 fk2 fk3 fk4 hk hnk hgt
            have hxn : nodesE x ≤ N := by omega
            have ci := ih x hxn wr _ _ _ hk hown2 (by have := hb2.size; omega) (by omega)
            unfold PutPost at ci
            have HGT := Lib.hid (show (gathE x).foldl putB ((gathL (kids.take i)).foldl putB X0) = (gathL (kids.take (i + 1))).foldl putB X0 by rw [hgt, List.foldl_append])
            rw [HGT.out] at ci
            clear hk hgt hx hown2 hgn hfl
            generalize x.kind = k0 at *
            generalize x.n = k1 at *
            generalize x.name = k3 at *
            generalize x.op = k4 at *
            generalize x.kids.length = k2 at *
            go_wp2_with fail
            (with_reducible refine ci.mono ?_)
            clear ci p4 fk0 fk1 fk2 fk3 fk4
            rintro e w2 ⟨v2, rfl, hown3, b4⟩
            have hb5 := via b4 hb2
            have x5 := xr.next b4
            go_wp2_with fail
            go_roundw
            case rel => exact ⟨i + 1, by go_num, by omega, hown3, x5, hb5⟩
            case measure => simp [intOf]; omega
          · have hi2 : i = kids.length := by omega
            rw [hi2, List.take_length, HGR.out] at hown2
            subst hi2
            go_wp2_with fail
            go_ret
            exact ⟨_, rfl, hown2, hb2⟩
end ExpW
end Go.Proofs.YtchceoclkdofhaaGreatDoor
