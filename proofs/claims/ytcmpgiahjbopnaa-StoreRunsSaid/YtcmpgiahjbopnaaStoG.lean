/- A store grows: the walk of grow. Conditions: few texts. -/
import Derived.Test.YtcmpgiahjbopnaaStoA
import Derived.Deep.OwnRows
import Derived.Test.YtcmpgiahjbopnaaStoD
import Derived.Test.YtcmpgiahjbopnaaRnd
namespace Go.Proofs.Ytcmpgiahjbopnaa
set_option linter.unusedVariables false
set_option linter.unusedSimpArgs false
open Go.RowKit Go.Shelf
attribute [local go_sem] Oper.semAt_some
namespace StoW
open StoP
theorem calls_of_wp_marks {P : Program} {f : FuncId} {fn : Func} {c : Code} {args : Array Value} {w : World} {R : Ending → World → Prop} (hf : P.funcs[f]? = some fn) (hb : fn.body = some c)
    (h : c.wp P (bodyPostM Fence.wide 9 P fn R) { tmps := args ++ Array.replicate (fn.ntmps - args.size) undef, defers := [] } w) : Calls P f args w R :=
  (callsIn_wide (n := 9)).1 (callsIn_of_wp_marks hf hb trivial (wpIn_wide.2 h))
theorem tch_putObj {S : Nat → Prop} (W : World) (l : Nat) (o' : Obj) (h : S l) : Tch S W (W.putObj l o') :=
  Tch.of_grown (grownBy_putObj' W l o') (fun k e => by cases e; exact h)
theorem tch_new {S S' : Nat → Prop} {a w w' : World} (h : Tch S a w) (k : Tch S' w w') (hS : ∀ i, S' i → a.heap.size ≤ i) : Tch S a w' :=
  ⟨k.os.trans h.os, k.tape.trans h.tape, k.output.trans h.output, Nat.le_trans h.size k.size, fun i hi hs => (k.block i (Nat.lt_of_lt_of_le hi h.size) (fun hh => by have := hS i hh; omega)).trans (h.block i hi hs)⟩
abbrev SG (g N : Nat) (k : Nat) : Prop := k = g ∨ N ≤ k
/-- How far the slots are filled anew. -/
structure GI (g m seed mask N : Nat) (X : List ByteArray) (w2 : World) (pre : List (Fin X.length)) (W : World) (sl : List Nat) : Prop where
  slo : Blk W g 3 (slV sl)
  len : sl.length = 2 * m
  zer : 2 * m ≤ sl.count 0 + pre.length
  ok : ∀ p v : Nat, sl[p]? = some (v + 1) → v < X.length
  inv : pre = pref X.length pre.length → Inv (hM seed mask) ((X.take pre.length).map bs) sl
  tch : Tch (SG g N) w2 W
theorem GI.own {g m seed mask : Nat} {X : List ByteArray} {w2 : World} (hg : g < w2.heap.size) : OwnFrom w2.heap.size (fun pre W => ∃ sl, GI g m seed mask w2.heap.size X w2 pre W sl) := by
  rintro pre W W' row ⟨sl, h⟩ hgr hr
  refine ⟨sl, ?_, h.len, h.zer, h.ok, h.inv, h.tch.trans (Tch.of_grown hgr (fun k e => .inr (hr k e).1))⟩
  exact (hgr.block g h.slo.lt (fun e => by have := (hr g e.symm).1; omega)).trans h.slo
theorem GI.step {g m seed mask N p : Nat} {X : List ByteArray} {w2 W W' : World} {pre : List (Fin X.length)} {sl : List Nat} {x : Fin X.length} (h : GI g m seed mask N X w2 pre W sl) (hnd : (X.map bs).Nodup) (hXm : X.length < 2 * m) (hpl : pre.length < X.length)
    (hr : Res (hM seed mask) (X.map bs) sl (bs X[x.val]) p) (hs : Blk W' g 3 (slV (sl.set p (x.val + 1)))) (ht : Tch (SG g N) W W') : GI g m seed mask N X w2 (pre ++ [x]) W' (sl.set p (x.val + 1)) := by
  have hp : p < sl.length := hr.lt (by rw [h.len]; omega)
  refine ⟨hs, by rw [List.length_set]; exact h.len, ?_, ?_, ?_, h.tch.trans ht⟩
  · rw [List.count_set hp, List.length_append, List.length_singleton]
    have := h.zer
    split <;> split <;> omega
  · intro q v hq
    by_cases e : p = q
    · subst e
      rw [List.getElem?_set_self hp] at hq
      injection hq with hq
      have := x.isLt; omega
    · rw [List.getElem?_set_ne e] at hq; exact h.ok q v hq
  · intro hc
    obtain ⟨h1, h2⟩ := pref_cut hc
    have hI := h.inv h1
    have hsub : ∀ (i : Nat) (y : Bs), ((X.take pre.length).map bs)[i]? = some y → (X.map bs)[i]? = some y := by
      intro i y hy
      rw [List.getElem?_map, List.getElem?_take] at hy
      split at hy
      · rw [List.getElem?_map]; exact hy
      · cases hy
    have hlen : ((X.take pre.length).map bs).length = pre.length := by simp; omega
    have hnot : bs X[x.val] ∉ (X.take pre.length).map bs := by
      intro hm
      obtain ⟨j, hj, e⟩ := List.getElem_of_mem hm
      rw [hlen] at hj
      have e1 := hsub j (bs X[x.val]) (by rw [List.getElem?_eq_getElem (by rw [hlen]; exact hj), e])
      have e2 : (X.map bs)[x.val]? = some (bs X[x.val]) := by rw [List.getElem?_map, List.getElem?_eq_getElem x.isLt]; rfl
      obtain ⟨l1, g1⟩ := List.getElem?_eq_some_iff.1 e1
      obtain ⟨l2, g2⟩ := List.getElem?_eq_some_iff.1 e2
      have := (List.getElem_inj hnd).1 (g1.trans g2.symm)
      omega
    have h0 := Res.fresh hI hsub hr hnot
    have hA := hI.add hsub hr h0 (by rw [hlen, h.len]; omega)
    rw [hlen] at hA
    rw [List.length_append, List.length_singleton, ← h2]
    have et : X.take (x.val + 1) = X.take x.val ++ [X[x.val]] := List.take_succ_eq_append_getElem x.isLt
    rw [et, List.map_append, List.map_singleton]
    rw [← h2] at hA
    exact hA
def GB (g Z R : Nat) (v : Value) (key : ByteArray) (K : Nat → Prop) (W : World) : Exit → Act → World → Prop
  | .normal, _, W' => ∃ p : Nat, K p ∧ ∃ n, W' = (W.drewN n).setCell ⟨g, p, none⟩ v
  | _, _, _ => False
/-- A call whose result is a number of a slot; what lies there is known behind it. -/
def SlotC (g Z R m : Nat) (key : ByteArray) (K : Nat → Prop) (W : World) (e : Ending) (w' : World) : Prop :=
  ∃ (p : Nat) (v9 : Value), e = .returned (.int .i64 p) ∧ p < m ∧ Hid (K p) ∧ w'.cell? ⟨g, p, none⟩ = some v9 ∧ w'.frozen? ⟨g, p, none⟩ = false ∧ w'.cell? ⟨Z, 0, none⟩ = some (.pointer (some ⟨R, 0, none⟩)) ∧ w'.cell? ⟨R, 5, none⟩ = some (.slice (some ⟨g, 0, none⟩) m m) ∧ Hid (∃ n, w' = W.drewN n)
set_option maxRecDepth 100000 in
set_option maxHeartbeats 600000 in
theorem grow_c (R g : Nat) (most size : Int) (seed mask : Nat) (A : Option Addr) (c m : Nat) (X : List ByteArray) (w : World)
    (hb : Blk w R 53 (stC most seed mask size (.slice A X.length c) g m)) (hX : Rd w w.heap.size 1 A X.length (X.map Value.string)) (hAR : ∀ ad, A = some ad → 0 < X.length → ad.block ≠ R)
    (h2 : Two (2 * m)) (hXm : X.length < 2 * m) (hnd : (X.map bs).Nodup)
    (hsd : seed < 18446744073709551616) (hmk : mask < 18446744073709551616) (hXl : X.length ≤ 1000000) (hkl : ∀ x ∈ X, x.size ≤ 4611686018427387904) :
    Calls Try.prog 15 #[.pointer (some ⟨R, 0, none⟩)] w (GrowPost R most size seed mask (.slice A X.length c) m X w) := by
  have hm30 : 2 * m ≤ 1073741824 := by obtain ⟨k, hk, e⟩ := h2; rw [e]; exact Nat.pow_le_pow_right (by decide) hk
  have hmr := run_make_row' (P := Try.prog) 51 3 (.int .i64 0) 8 Try.underlying51 info_Int rfl .i64 .i64 (2 * m) (by omega) (by omega)
  simp only [show ((2 * m : Nat) : Int) = 2 * (m : Int) by omega] at hmr
  have hbl : R < w.heap.size := hb.lt
  have u5 := (hb.alloc (.cells #[.pointer (some ⟨R, 0, none⟩)] 29)).cell 5
  have u5b := (hb.alloc (.cells #[.pointer (some ⟨R, 0, none⟩)] 29)).loose 5
  simp only [List.getElem?_toArray, List.getElem?_cons_zero, List.getElem?_cons_succ] at u5
  have HX2 := Lib.hid h2
  clear h2
  refine calls_of_wp_marks Try.func15 rfl ?_
  simp only [Try.ntmps15, List.size_toArray, List.length_cons, List.length_nil, Nat.reduceAdd, Nat.reduceSub, Array.replicate_succ, Array.replicate_zero, List.push_toArray, List.append_toArray, List.nil_append, List.cons_append]
  go_wp2_with fail
  go_region
  clear hmr u5 u5b
  obtain ⟨w1, hw1⟩ : ∃ q, (((w.setCell ⟨R, 5, none⟩ (.slice (some ⟨w.heap.size + 1, 0, none⟩) (2 * m) (2 * m))).alloc (.cells #[.pointer (some ⟨R, 0, none⟩)] 29)).alloc (.cells (madeCells #[.int .i64 0] (2 * m)) 3)).drew = q := ⟨_, rfl⟩
  have T1 : Tch (· = R) w w1 := by
    rw [← hw1]
    exact ((((Tch.refl (· = R) w).setCell (p := ⟨R, 5, none⟩) rfl _).alloc _).alloc _).drewN 1
  have b1 : Blk w1 R 53 (stC most seed mask size (.slice A X.length c) (w.heap.size + 1) (2 * m)) := by
    rw [← hw1]
    exact (((hb.set_ 5 (.slice (some ⟨w.heap.size + 1, 0, none⟩) (2 * m) (2 * m))).alloc _).alloc _).drewN 1
  have hms : madeCells #[.int .i64 0] (2 * m) = slV (List.replicate (2 * m) 0) := by
    apply Array.toList_inj.1
    simp [madeCells, slV, Nat.mod_one]
    exact List.ext_getElem (by simp) (fun i _ _ => by simp)
  have s1 : Blk w1 (w.heap.size + 1) 3 (slV (List.replicate (2 * m) 0)) := by
    rw [← hw1, hms]
    have := Blk.new1 (w.setCell ⟨R, 5, none⟩ (.slice (some ⟨w.heap.size + 1, 0, none⟩) (2 * m) (2 * m))) (.cells #[.pointer (some ⟨R, 0, none⟩)] 29) 3 (slV (List.replicate (2 * m) 0))
    rw [World.size_setCell] at this
    exact this.drewN 1
  have x1 : Blk w1 w.heap.size 29 #[.pointer (some ⟨R, 0, none⟩)] := by
    rw [← hw1]
    have := Blk.new (w.setCell ⟨R, 5, none⟩ (.slice (some ⟨w.heap.size + 1, 0, none⟩) (2 * m) (2 * m))) 29 #[.pointer (some ⟨R, 0, none⟩)]
    rw [World.size_setCell] at this
    exact (this.alloc _).drewN 1
  have hz1 : w1.heap.size = w.heap.size + 2 := by rw [← hw1]; show (World.alloc _ _).heap.size = _; simp
  have X1 : Rd w1 w.heap.size 1 A X.length (X.map Value.string) := by
    refine ⟨hX.1, fun hn => ?_⟩
    obtain ⟨ad, e, hb2, hc⟩ := hX.2 hn
    exact ⟨ad, e, hb2, fun j u hu => tch_cell T1 (hc j u hu) (by rw [add_block]; exact hAR ad e hn)⟩
  rw [hw1]
  clear hw1 hms
  have u4 := x1.cell 0
  simp only [List.getElem?_toArray, List.getElem?_cons_zero, List.getElem?_cons_succ] at u4
  have ca := all_c (some ⟨R, 0, none⟩) w1
  go_wp2_with fail
  (with_reducible refine ca.mono ?_)
  rintro e w2 ⟨rfl, rfl⟩
  go_wp2_with fail
  obtain ⟨w2, hw2⟩ : ∃ q, w1.alloc (.cells #[.pointer (some ⟨R, 0, none⟩)] 29) = q := ⟨_, rfl⟩
  have hz2 : w2.heap.size = w.heap.size + 3 := by rw [← hw2]; simp; omega
  have T2 : Tch (· = R) w w2 := by rw [← hw2]; exact T1.alloc _
  have b2 := b1.alloc (.cells #[.pointer (some ⟨R, 0, none⟩)] 29)
  have s2 := s1.alloc (.cells #[.pointer (some ⟨R, 0, none⟩)] 29)
  have x2 := x1.alloc (.cells #[.pointer (some ⟨R, 0, none⟩)] 29)
  have y2 := Blk.new w1 29 #[.pointer (some ⟨R, 0, none⟩)]
  have X2 := X1.alloc (by omega) (.cells #[.pointer (some ⟨R, 0, none⟩)] 29)
  rw [hw2] at b2 s2 x2 y2 X2 ⊢
  rw [hz1] at y2
  clear hw2 b1 s1 x1 u4 X1 T1 ca
  have v4 := y2.cell 0
  simp only [List.getElem?_toArray, List.getElem?_cons_zero, List.getElem?_cons_succ] at v4
  have hAb : ∀ ad, A = some ad → 0 < X.length → ad.block < w.heap.size := fun ad e hn => by
    obtain ⟨ad', e', hb', _⟩ := hX.2 hn
    rw [e] at e'; injection e' with e'; rw [e']; exact hb'
  refine (wpIn_wide (n := 9)).1 ?_
  refine wpIn_rangeFunc_ownF rfl (by omega) (gf := 17) (lb := #[.pointer (some ⟨w.heap.size + 2, 0, none⟩)]) rfl trivial (enters_of Try.func17 (by kernel_rfl) rfl)
    (all_stops 8 (by omega) (w.heap.size + 2) R c _ A X (SG (w.heap.size + 1) w2.heap.size) (by rintro (h | h) <;> omega) (by rintro (h | h) <;> omega) (fun ad e hn => by have := hAb ad e hn; rintro (h | h) <;> omega) hXl w2 v4 b2 rfl (X2.more (by omega)))
    (fun h k => Tch.trans h k) (fun W l o o' hl _ _ _ => tch_putObj W l o' (.inr hl)) (Below.refl _ _) (fun _ => rfl)
    (fun pre W => ∃ sl, GI (w.heap.size + 1) m seed mask w2.heap.size X w2 pre W sl) (fun _ _ _ => False) (GI.own (by omega)) (fun _ _ _ _ _ hs _ _ => hs)
    ⟨_, s2, by simp, by simp, (fun p v hp => by rw [List.getElem?_replicate] at hp; split at hp <;> cases hp), (fun _ => by simpa using Inv.nil (hM seed mask) (m := 2 * m) (by omega)), Tch.refl _ _⟩
    (fun x => { tmps := #[.pointer (some ⟨R, 0, none⟩), .pointer (some ⟨w.heap.size, 0, none⟩), .int .i64 (x.val : Int), .string X[x.val], .pointer (some ⟨R, 0, none⟩), .pointer (some ⟨R, 0, none⟩), .pointer (some ⟨R, 0, none⟩), .pointer (some ⟨R, 5, none⟩), .slice (some ⟨g, 0, none⟩) m m, .int .i64 m, .int .i64 (2 * (m : Int)), .slice (some ⟨w.heap.size + 1, 0, none⟩) (2 * m) (2 * m), .pointer (some ⟨R, 0, none⟩), .pointer (some ⟨R, 5, none⟩), .pointer (some ⟨R, 0, none⟩), .func (.func 17) #[] #[.pointer (some ⟨w.heap.size + 2, 0, none⟩)], .int .i64 (x.val : Int), .string X[x.val], undef, undef, undef, undef, undef, undef, undef, undef, undef, undef], defers := [] }) ?assign ?body ?done ?stop
  case assign =>
    intro l x W K hK
    gi_wp2
    exact hK
  case body =>
    rintro l pre x W ⟨sl, hI⟩ hpl
    have hx := x.isLt
    have bW : Blk W R 53 (stC most seed mask size (.slice A X.length c) (w.heap.size + 1) (2 * m)) := b2.tch hI.tch (by rintro (h | h) <;> omega)
    have xW : Blk W w.heap.size 29 #[.pointer (some ⟨R, 0, none⟩)] := x2.tch hI.tch (by rintro (h | h) <;> omega)
    have RW : Rd W W.heap.size 1 A X.length (X.map Value.string) := by
      refine ⟨hX.1, fun hn => ?_⟩
      obtain ⟨ad, e, hb2, hc⟩ := X2.2 hn
      exact ⟨ad, e, by have := hI.tch.size; omega, fun j u hu => tch_cell hI.tch (hc j u hu) (by rw [add_block]; rintro (h | h) <;> omega)⟩
    obtain ⟨M, hMM⟩ : ∃ M, 2 * m = M + 1 := ⟨2 * m - 1, by omega⟩
    have cs : Calls Try.prog 14 #[.pointer (some ⟨R, 0, none⟩), .string X[x.val]] W.drew (SlotC (w.heap.size + 1) w.heap.size R (2 * m) X[x.val] (fun p => Res (hM seed mask) (X.map bs) sl (bs X[x.val]) p) W) := by
      have bW2 := bW
      rw [hMM] at bW2
      refine (slot_c R (w.heap.size + 1) most size seed mask A c M X sl X[x.val] W.drew bW2 RW hI.slo (by rw [hI.len, hMM]) (by rw [← hMM]; exact HX2.out) (by have := hI.zer; omega) hI.ok hsd hmk (hkl _ (List.getElem_mem hx)) hXl).mono ?_
      rintro e w' ⟨p, rfl, hr, n, rfl⟩
      have hpl : p < 2 * m := by have := hr.lt (by have := hI.len; omega); rw [hI.len] at this; exact this
      exact ⟨p, _, rfl, hpl, Lib.hid hr, by show W.cell? _ = _; rw [hI.slo.cell p, List.getElem?_toArray, List.getElem?_map, List.getElem?_eq_getElem (by rw [hI.len]; exact hpl)]; rfl, hI.slo.loose p, xW.cell 0, bW.cell 5, Lib.hid ⟨1 + n, by rw [← World.drewN_drewN]; rfl⟩⟩
    have g0 := xW.cell 0
    have g5 := bW.cell 5
    simp only [List.getElem?_toArray, List.getElem?_cons_zero, List.getElem?_cons_succ] at g0 g5
    refine wpIn_mono (Q := GB (w.heap.size + 1) w.heap.size R (.int .i64 ((x.val : Int) + 1)) X[x.val] (fun p => Res (hM seed mask) (X.map bs) sl (bs X[x.val]) p) W) ?walk ?fin
    case walk =>
      have hx0 : (0 : Int) ≤ (x.val : Int) := by omega
      have hx1 : (x.val : Int) ≤ 1000000 := by omega
      revert cs g0 g5
      generalize (fun p => Res (hM seed mask) (X.map bs) sl (bs X[x.val]) p) = K
      generalize X[x.val] = key
      revert hx0 hx1
      generalize (x.val : Int) = xi
      intro hx0 hx1 cs g0 g5
      clear RW bW xW hI hpl hx hMM hAb v4 X2 y2 x2 s2 b2 T2 hz2 hz1 HX2 hkl hXl hmk hsd hXm hAR hX hb hnd w1
      generalize w.heap.size = Z at *
      generalize w2.heap.size = Z2 at *
      clear w2 w
      gi_wp2
      refine Rnd.region_in (S := fun w' => w'.cell? ⟨Z, 0, none⟩ = some (.pointer (some ⟨R, 0, none⟩)) ∧ w'.cell? ⟨R, 5, none⟩ = some (.slice (some ⟨Z + 1, 0, none⟩) (2 * m) (2 * m))) (by kernel_rfl) (by kernel_rfl) (by rintro ⟨a, w, h⟩; exact h) ⟨g0, g5⟩ (fun hHeld => ?_)
      refine Rnd.take 0 (v := ?v0) rfl (by rfl) (by kernel_rfl) (by kernel_rfl) (by kernel_rfl) (fun _ _ _ h => h) (Or.inl ⟨by rfl, ?h0⟩) (by assumption) ?_
      case h0 =>
        intro w hSw
        try dsimp only at hSw
        go_simp
        all_goals (with_reducible rfl)
      try simp only [List.setIfInBounds_toArray, List.set_cons_zero, List.set_cons_succ]
      refine Rnd.take 1 (v := ?v1) rfl (by rfl) (by kernel_rfl) (by kernel_rfl) (by kernel_rfl) (fun _ _ _ h => h) (Or.inl ⟨by rfl, ?h1⟩) (by assumption) ?_
      case h1 =>
        intro w hSw
        try dsimp only at hSw
        go_simp
        all_goals (with_reducible rfl)
      try simp only [List.setIfInBounds_toArray, List.set_cons_zero, List.set_cons_succ]
      refine Rnd.take 2 (v := ?v2) rfl (by rfl) (by kernel_rfl) (by kernel_rfl) (by kernel_rfl) (fun _ _ _ h => h) (Or.inl ⟨by rfl, ?h2⟩) (by assumption) ?_
      case h2 =>
        intro w hSw
        try dsimp only at hSw
        go_simp
        all_goals (with_reducible rfl)
      try simp only [List.setIfInBounds_toArray, List.set_cons_zero, List.set_cons_succ]
      refine Rnd.take 3 (v := ?v3) rfl (by rfl) (by kernel_rfl) (by kernel_rfl) (by kernel_rfl) (fun _ _ _ h => h) (Or.inl ⟨by rfl, ?h3⟩) (by assumption) ?_
      case h3 =>
        intro w hSw
        try dsimp only at hSw
        go_simp
        all_goals (with_reducible rfl)
      try simp only [List.setIfInBounds_toArray, List.set_cons_zero, List.set_cons_succ]
      refine Rnd.take 4 (v := ?v4) rfl (by rfl) (by kernel_rfl) (by kernel_rfl) (by kernel_rfl) (fun _ _ _ h => h) (Or.inl ⟨by rfl, ?h4⟩) (by assumption) ?_
      case h4 =>
        intro w hSw
        try dsimp only at hSw
        go_simp
        all_goals (with_reducible rfl)
      try simp only [List.setIfInBounds_toArray, List.set_cons_zero, List.set_cons_succ]
      refine Rnd.take 5 (v := ?v5) rfl (by rfl) (by kernel_rfl) (by kernel_rfl) (by kernel_rfl) (fun _ _ _ h => h) (Or.inl ⟨by rfl, ?h5⟩) (by assumption) ?_
      case h5 =>
        intro w hSw
        try dsimp only at hSw
        go_simp
        all_goals (with_reducible rfl)
      try simp only [List.setIfInBounds_toArray, List.set_cons_zero, List.set_cons_succ]
      refine Rnd.take 7 (v := ?v7) rfl (by rfl) (by kernel_rfl) (by kernel_rfl) (by kernel_rfl) (fun _ _ _ h => h) (Or.inl ⟨by rfl, ?h7⟩) (by assumption) ?_
      case h7 =>
        intro w hSw
        try dsimp only at hSw
        go_simp
        all_goals (with_reducible rfl)
      try simp only [List.setIfInBounds_toArray, List.set_cons_zero, List.set_cons_succ]
      refine Rnd.take 8 (v := ?v8) rfl (by rfl) (by kernel_rfl) (by kernel_rfl) (by kernel_rfl) (fun _ _ _ h => h) (Or.inl ⟨by rfl, ?h8⟩) (by assumption) ?_
      case h8 =>
        intro w hSw
        try dsimp only at hSw
        go_simp
        all_goals (with_reducible rfl)
      try simp only [List.setIfInBounds_toArray, List.set_cons_zero, List.set_cons_succ]
      refine wpAnyH_ready (rs := [6]) (by kernel_rfl) (by simp) ?_
      refine AllReadyH.cons (o := _) rfl (fun K' hK => ?_) AllReadyH.nil
      go_simp
      go_at_call 14
      (with_reducible refine cs.mono ?_)
      rintro e w' ⟨p, v9, rfl, hpl, HR, hv9, hl9, h09, h59, HW9⟩
      dsimp only
      refine hK.out _ _ ⟨h09, h59⟩ (fun hHeld2 => ?_)
      clear hK K' hHeld g0 g5 cs
      have hpl3 : (p : Int) < 2 * (m : Int) := by omega
      have hw1 : IntKind.i64.wrap (xi + 1) = xi + 1 := IntWalk.i64_in _ (by omega)
      rw [hw1]
      clear hw1
      refine Rnd.take 9 (v := ?v9) rfl (by rfl) (by kernel_rfl) (by kernel_rfl) (by kernel_rfl) (fun _ _ _ h => h) (Or.inl ⟨by rfl, ?h9⟩) (by assumption) ?_
      case h9 =>
        intro w hSw
        try dsimp only at hSw
        go_simp
        all_goals (with_reducible rfl)
      try simp only [List.setIfInBounds_toArray, List.set_cons_zero, List.set_cons_succ]
      refine wpAnyH_ready (rs := [10]) (by kernel_rfl) (by simp) ?_
      refine AllReadyH.cons (o := _) rfl (fun K' hK => ?_) AllReadyH.nil
      go_simp
      refine hK.out _ _ ⟨(World.cell?_setCell_far _ _ _ _ (by simp)).trans h09, (World.cell?_setCell_far _ _ _ _ (by simp; omega)).trans h59⟩ (fun hHeld3 => ?_)
      clear hK K'
      refine wpAnyH_done (by kernel_rfl) ?_ _
      obtain ⟨n, rfl⟩ := HW9.out
      exact ⟨p, HR.out, n, rfl⟩
    case fin =>
      intro e a W' hq
      cases e with
      | normal =>
        obtain ⟨p, hr, n, rfl⟩ := hq
        have hs' : Blk ((W.drewN n).setCell ⟨w.heap.size + 1, p, none⟩ (.int .i64 ((x.val : Int) + 1))) (w.heap.size + 1) 3 (slV (sl.set p (x.val + 1))) := by
          have := (hI.slo.drewN n).set_ p (.int .i64 ((x.val : Int) + 1))
          rw [show (slV sl).setIfInBounds p (.int .i64 ((x.val : Int) + 1)) = slV (sl.set p (x.val + 1)) from by rw [slV, slV, List.setIfInBounds_toArray, List.map_set]; rfl] at this
          exact this
        exact ⟨(Rnd.keeps_drewN W n).trans (KeepsOthers.setCell _ _ _), ((Tch.refl _ W).drewN n).setCell (p := ⟨w.heap.size + 1, p, none⟩) (.inl rfl) _, _, GI.step hI hnd hXm hpl hr hs' (((Tch.refl _ W).drewN n).setCell (p := ⟨w.heap.size + 1, p, none⟩) (.inl rfl) _)⟩
      | _ => exact hq.elim
  case done =>
    rintro D ys W hD rfl ⟨sl, hI⟩ hK
    gi_wp2
    refine ⟨by simp, .inl ⟨_, _, rfl, run_takeDeferred hK, ?_⟩⟩
    have hp : Tch (SG (w.heap.size + 1) w2.heap.size) w2 (W.putObj D (.deferred none)) := hI.tch.trans (tch_putObj W D _ (.inr hD))
    refine ⟨_, results_none rfl _ _ _, rfl, tch_new T2 hp (by rintro k (h | h) <;> omega), w.heap.size + 1, sl, by omega, hI.len, ?_, b2.tch hp (by rintro (h | h) <;> omega), ?_⟩
    · have := hI.inv (by rw [pref_length (Nat.le_refl _)])
      rw [pref_length (Nat.le_refl _), List.take_length] at this
      exact this
    · exact (hI.slo.tch (tch_putObj (S := fun k => w2.heap.size ≤ k) W D _ hD) (by omega))
  case stop =>
    rintro D c pre W _ _ h _
    exact h.elim
theorem grow_all : GrowC := grow_c
end StoW
end Go.Proofs.Ytcmpgiahjbopnaa
