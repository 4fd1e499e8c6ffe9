/- Are two expressions the same: the program's walk. Condition: trees that fit. -/
import Derived.Test.YtchceoclkdofhaaGreatDoorExpO
import Derived.Test.YtchceoclkdofhaaGreatDoorCalR
namespace Go.Proofs.YtchceoclkdofhaaGreatDoor
set_option linter.unusedVariables false
set_option linter.unusedSimpArgs false
open Go.RowKit
namespace ExpW
open CalP CalW ExpP
mutual
def sameE : Ex → Ex → Bool
  | .mk k n nm op l, .mk k' n' nm' op' l' => k == k' && n == n' && nm.toList == nm'.toList && op.toList == op'.toList && sameL l l'
def sameL : List Ex → List Ex → Bool
  | [], [] => true
  | x :: l, y :: m => sameE x y && sameL l m
  | [], _ :: _ => false
  | _ :: _, [] => false
end
theorem ba_eq {a b : ByteArray} : (a.toList == b.toList) = true ↔ a = b := by
  rw [beq_iff_eq]
  exact ⟨fun h => bytes_ext (by rw [← Lib.toList_data, ← Lib.toList_data]; exact h), fun h => by rw [h]⟩
mutual
theorem same_iff : ∀ a b, sameE a b = true ↔ a = b
  | .mk k n nm op l, .mk k' n' nm' op' l' => by
    rw [sameE]
    simp only [Bool.and_eq_true, beq_iff_eq, ba_eq, sameL_iff l l', Ex.mk.injEq]
    constructor
    · rintro ⟨⟨⟨⟨h1, h2⟩, h3⟩, h4⟩, h5⟩
      exact ⟨h1, h2, ba_eq.1 (by simpa using h3), ba_eq.1 (by simpa using h4), h5⟩
    · rintro ⟨rfl, rfl, rfl, rfl, rfl⟩
      simp
theorem sameL_iff : ∀ l m, sameL l m = true ↔ l = m
  | [], [] => by simp [sameL]
  | x :: l, y :: m => by rw [sameL, Bool.and_eq_true, same_iff x y, sameL_iff l m]; simp
  | [], _ :: _ => by simp [sameL]
  | _ :: _, [] => by simp [sameL]
end
theorem sameL_no {l m : List Ex} (h : l ≠ m) : sameL l m = false := by
  cases hs : sameL l m with
  | false => rfl
  | true => exact absurd ((sameL_iff l m).1 hs) h
theorem et_len {w : World} {K : Nat → Prop} {k n : Int} {nm op : ByteArray} {l : List Ex} {A : Option Addr} {m c : Nat} (h : Et w K (.mk k n nm op l) (exC k n nm op A m c)) : m = l.length := by
  generalize hr : Ex.mk k n nm op l = r at h
  generalize hcs : exC k n nm op A m c = cs at h
  cases h with
  | mk k' n' nm' op' l' A' c' css =>
    injection hr with e1 e2 e3 e4 e5
    subst e1 e2 e3 e4 e5
    simp only [List.cons.injEq, Value.slice.injEq, true_and, and_true] at hcs
    exact hcs.2.1
theorem len_nodes : ∀ l : List Ex, l.length ≤ nodesL l := by
  intro l
  induction l with
  | nil => simp
  | cons x l ih => cases x; simp [nodesL, nodesE]; omega
/-- What Same does, at such a list's kids. -/
def KidsC (K : Nat → Prop) (K' : Nat → Prop) (f : FuncId) (l : List Ex) : Prop := ∀ (i : Nat) (h : i < l.length) (b : Ex) (w : World) (cs cs' : List Value), Et w K (l[i]'h) cs → Et w K' b cs' →
  Calls Tryz.prog f #[.agg cs.toArray, .agg cs'.toArray] w fun x w' => x = .returned (.bool (sameE (l[i]'h) b)) ∧ Below w.heap.size w w'
set_option maxHeartbeats 1600000 in
theorem equal_c {K K' : Nat → Prop} {kind kind' nn nn' : Int} {nm nm' op op' : ByteArray} {A A' : Option Addr} {n n' c c' : Nat} (l m : List Ex) (w : World)
    (h : Et w K (.mk kind nn nm op l) (exC kind nn nm op A n c)) (h' : Et w K' (.mk kind' nn' nm' op' m) (exC kind' nn' nm' op' A' n' c')) (hc : KidsC K K' 11 l) (hn : n ≤ 4611686018427387904) :
    Calls Tryz.prog 28 #[.slice A n c, .slice A' n' c', .func (.func 11) #[] #[]] w fun x w' => x = .returned (.bool (sameL l m)) ∧ Below w.heap.size w w' := by
  obtain rfl := et_len h
  obtain rfl := et_len h'
  obtain ⟨GR, hGR⟩ : ∃ GR, sameL l m = GR := ⟨_, rfl⟩
  rw [hGR]
  have HG := Lib.hid hGR
  have HRT := Lib.hid h
  have HRT' := Lib.hid h'
  have HKC := Lib.hid hc
  clear hGR h h' hc
  obtain ⟨kl, hkl⟩ : ∃ kl, l.length = kl := ⟨_, rfl⟩
  obtain ⟨km, hkm⟩ : ∃ kl, m.length = kl := ⟨_, rfl⟩
  rw [hkl] at HRT hn ⊢
  rw [hkm] at HRT' ⊢
  go_enter Tryz.func28, Tryz.ntmps28
  by_cases hlen : kl = km
  rotate_left
  · have hz : GR = false := by rw [← HG.out]; exact sameL_no (fun e => hlen (by rw [← hkl, ← hkm, e]))
    subst hz
    have d0 : (((kl : Nat) : Int) != ((km : Nat) : Int)) = true := by simp; omega
    go_wp2
    go_ret
    exact ⟨rfl, Below.refl _ _⟩
  subst hlen
  go_wp2
  go_loopw [17] (fun v wr => ∃ (i : Nat), v = .int .i64 i ∧ i ≤ kl ∧ l.take i = m.take i ∧ Below w.heap.size w wr) (fun v _ => kl - (intOf v).toNat)
  case atStart => exact ⟨0, rfl, by omega, by simp, Below.refl _ _⟩
  case round =>
    obtain ⟨i, rfl, hi, heq, hB⟩ := hrel
    have HE := Lib.hid heq
    clear heq
    by_cases hlt : i < kl
    · obtain ⟨g, o, A2, c2, rfl, hk, hc⟩ := Et.kid_ (HRT.out.bel hB) (i := i) (by omega)
      obtain ⟨x, hx⟩ : ∃ x, l[i]'(by omega) = x := ⟨_, rfl⟩
      rw [hx] at hk hc
      have zB := hB.size
      have hB2 : Below w.heap.size w (wr.alloc (.cells (exC x.kind x.n x.name x.op A2 x.kids.length c2).toArray 24)) := by go_grown
      obtain ⟨g', o', A2', c2', rfl, hk', hc'⟩ := Et.kid_ (HRT'.out.bel hB2) (i := i) (by omega)
      have fk0 := hc 0 _ rfl
      have fk1 := hc 1 _ rfl
      have fk2 := hc 2 _ rfl
      have fk3 := hc 3 _ rfl
      have fk4 := hc 4 _ rfl
      have fl0 := hc' 0 _ rfl
      have fl1 := hc' 1 _ rfl
      have fl2 := hc' 2 _ rfl
      have fl3 := hc' 3 _ rfl
      have fl4 := hc' 4 _ rfl
      simp only [Nat.add_zero] at fk0 fl0
      clear hc hc'
      have htl : l.take (i + 1) = l.take i ++ [l[i]'(by omega)] := List.take_succ_eq_append_getElem (by omega)
      have htm : m.take (i + 1) = m.take i ++ [m[i]'(by omega)] := List.take_succ_eq_append_getElem (by omega)
      have hkc := HKC.out i (by omega)
      rw [hx] at hkc
      have ci := fun W (hW : Below wr.heap.size wr W) (hW2 : Below _ (wr.alloc (.cells (exC x.kind x.n x.name x.op A2 x.kids.length c2).toArray 24)) W) => hkc (m[i]'(by omega)) W _ _ (hk.bel hW) (hk'.bel hW2)
      have hab : l = m → (l[i]'(by omega)) = (m[i]'(by omega)) := fun e => by subst e; rfl
      obtain ⟨y, hy⟩ : ∃ x, m[i]'(by omega) = x := ⟨_, rfl⟩
      rw [hx] at htl
      rw [hy] at fl0 fl1 fl2 fl3 fl4 hk' htm
      simp only [hx, hy] at ci hab
      have HTL := Lib.hid htl
      have HTM := Lib.hid htm
      have HAB := Lib.hid hab
      clear hkc hB2 hk hk' htl htm hx hy hab
      generalize x.kind = k0 at *
      generalize x.n = k1 at *
      generalize x.name = k3 at *
      generalize x.op = k4 at *
      generalize x.kids.length = k2 at *
      generalize y.kind = m0 at *
      generalize y.n = m1 at *
      generalize y.name = m3 at *
      generalize y.op = m4 at *
      generalize y.kids.length = m2 at *
      have ci := ci ((wr.alloc (.cells (exC k0 k1 k3 k4 A2 k2 c2).toArray 24)).alloc (.cells (exC m0 m1 m3 m4 A2' m2 c2').toArray 24)) (by go_grown) ((Below.refl _ _).alloc (Nat.le_refl _) _)
      cases hs : sameE x y
      · rw [hs] at ci
        have hz : GR = false := by rw [← HG.out]; exact sameL_no (fun e => by have := (same_iff x y).2 (HAB.out e); rw [hs] at this; cases this)
        subst hz
        go_wp2_with fail
        (with_reducible refine ci.mono ?_)
        rintro e w2 ⟨rfl, hb3⟩
        have hb4 : Below w.heap.size w w2 := via hb3 (by go_grown)
        clear hb3 ci
        go_wp2
        go_ret
        exact ⟨rfl, hb4⟩
      · rw [hs] at ci
        have hxy := (same_iff x y).1 hs
        have HX := Lib.hid hxy
        clear hs hxy
        go_wp2_with fail
        (with_reducible refine ci.mono ?_)
        rintro e w2 ⟨rfl, hb3⟩
        have hb4 : Below w.heap.size w w2 := via hb3 (by go_grown)
        clear hb3 ci
        go_wp2
        go_roundw
        case rel => exact ⟨i + 1, by go_num, by omega, by rw [HTL.out, HTM.out, HE.out, HX.out], hb4⟩
        case measure => simp [intOf]; omega
    · have hi2 : i = kl := by omega
      subst hi2
      have hz : GR = true := by
        rw [← HG.out]; refine (sameL_iff l m).2 ?_
        have := HE.out
        rw [List.take_of_length_le (by omega), List.take_of_length_le (by omega)] at this; exact this
      subst hz
      go_wp2
      go_ret
      exact ⟨rfl, hB⟩
set_option maxHeartbeats 1600000 in
set_option maxRecDepth 100000 in
theorem same_c {K K' : Nat → Prop} : ∀ (N : Nat) (a : Ex), nodesE a ≤ N → nodesE a ≤ 4611686018427387904 → ∀ (b : Ex) (w : World) (cs cs' : List Value), Et w K a cs → Et w K' b cs' →
    Calls Tryz.prog 11 #[.agg cs.toArray, .agg cs'.toArray] w fun x w' => x = .returned (.bool (sameE a b)) ∧ Below w.heap.size w w' := by
  intro N
  induction N with
  | zero => intro r h; cases r; simp [nodesE] at h
  | succ N ih =>
    intro a hN hbig b w cs cs' h h'
    obtain ⟨A, c, rfl⟩ := h.shape
    obtain ⟨A', c', rfl⟩ := h'.shape
    obtain ⟨k0, k1, k3, k4, kids⟩ := a
    obtain ⟨m0, m1, m3, m4, mids⟩ := b
    simp only [Ex.kind, Ex.n, Ex.name, Ex.op, Ex.kids] at h h' ⊢
    have hln := len_nodes kids
    have hkc : KidsC K K' 11 kids := fun i hi b w cs cs' h1 h2 => ih (kids[i]'hi) (by have := nodes_kid kids i hi; simp [nodesE] at hN; omega) (by have := nodes_kid kids i hi; simp [nodesE] at hbig; omega) b w cs cs' h1 h2
    obtain ⟨wa, hwa⟩ : ∃ z : World, z = (w.alloc (.cells (exC k0 k1 k3 k4 A kids.length c).toArray 24)).alloc (.cells (exC m0 m1 m3 m4 A' mids.length c').toArray 24) := ⟨_, rfl⟩
    have ba : Below w.heap.size w wa := by rw [hwa]; go_grown
    have ce := equal_c kids mids wa (h.bel ba) (h'.bel ba) hkc (by simp [nodesE] at hbig; omega)
    obtain ⟨GR, hGR⟩ : ∃ GR, sameE (.mk k0 k1 k3 k4 kids) (.mk m0 m1 m3 m4 mids) = GR := ⟨_, rfl⟩
    rw [hGR]
    have HG := Lib.hid hGR
    have hSL : GR = (k0 == m0 && k1 == m1 && k3.toList == m3.toList && k4.toList == m4.toList && sameL kids mids) := by rw [← hGR, sameE]
    have HSL := Lib.hid hSL
    obtain ⟨SL, hSLe⟩ : ∃ SL, sameL kids mids = SL := ⟨_, rfl⟩
    rw [hSLe] at ce
    have HSE := Lib.hid hSLe
    clear hGR hSL hSLe h h' hkc hln ih hN hbig
    generalize kids.length = k2 at *
    generalize mids.length = m2 at *
    go_enter Tryz.func11, Tryz.ntmps11
    cases d0 : (k0 == m0)
    · have hz : GR = false := by rw [HSL.out, d0]; simp
      subst hz
      go_wp2
      go_ret
      exact ⟨rfl, by rw [← hwa]; exact ba⟩
    cases d1 : (k1 == m1)
    · have hz : GR = false := by rw [HSL.out, d0, d1]; simp
      subst hz
      go_wp2
      go_ret
      exact ⟨rfl, by rw [← hwa]; exact ba⟩
    cases d3 : (k3.toList == m3.toList)
    · have hz : GR = false := by rw [HSL.out, d0, d1, d3]; simp
      subst hz
      go_wp2
      go_ret
      exact ⟨rfl, by rw [← hwa]; exact ba⟩
    cases d4 : (k4.toList == m4.toList)
    · have hz : GR = false := by rw [HSL.out, d0, d1, d3, d4]; simp
      subst hz
      go_wp2
      go_ret
      exact ⟨rfl, by rw [← hwa]; exact ba⟩
    have hz : GR = SL := by rw [HSL.out, HSE.out, d0, d1, d3, d4]; simp
    subst hz
    go_wp2_with fail
    rw [← hwa]
    (with_reducible refine ce.mono ?_)
    rintro e w2 ⟨rfl, hb⟩
    have hb4 : Below w.heap.size w w2 := via hb ba
    go_wp2
    go_ret
    exact ⟨by simp, hb4⟩
end ExpW
end Go.Proofs.YtchceoclkdofhaaGreatDoor
