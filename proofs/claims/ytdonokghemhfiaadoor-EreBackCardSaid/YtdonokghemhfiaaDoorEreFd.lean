/- The walk of Same. Conditions: none. -/
import Derived.Test.YtdonokghemhfiaaDoorEreFc
namespace Go.Proofs.YtdonokghemhfiaaDoor
open Go.RowKit
namespace EreX
open EreP EreW
mutual
def sameR : Re → Re → Bool
  | .mk k s kids lo hi n, .mk k' s' kids' lo' hi' n' => k == k' && s == s' && lo == lo' && hi == hi' && n == n' && sameL kids kids'
def sameL : List Re → List Re → Bool
  | [], [] => true
  | x :: l, y :: m => sameR x y && sameL l m
  | [], _ :: _ => false
  | _ :: _, [] => false
end
mutual
theorem same_iff : ∀ a b, sameR a b = true ↔ a = b
  | .mk k s kids lo hi n, .mk k' s' kids' lo' hi' n' => by
    have := sameL_iff kids kids'
    unfold sameR
    simp only [Bool.and_eq_true, beq_iff_eq, this, Re.mk.injEq]
    constructor
    · rintro ⟨⟨⟨⟨⟨a, b⟩, c⟩, d⟩, e⟩, f⟩; exact ⟨a, b, f, c, d, e⟩
    · rintro ⟨a, b, f, c, d, e⟩; exact ⟨⟨⟨⟨⟨a, b⟩, c⟩, d⟩, e⟩, f⟩
theorem sameL_iff : ∀ l m, sameL l m = true ↔ l = m
  | [], [] => by simp [sameL]
  | x :: l, y :: m => by
    have h1 := same_iff x y
    have h2 := sameL_iff l m
    unfold sameL
    simp only [Bool.and_eq_true, h1, h2, List.cons.injEq]
  | [], _ :: _ => by simp [sameL]
  | _ :: _, [] => by simp [sameL]
end
theorem same_no {a b : Re} (h : a ≠ b) : sameR a b = false := by
  cases hs : sameR a b
  · rfl
  · exact absurd ((same_iff a b).1 hs) h
theorem sameL_no {l m : List Re} (h : l ≠ m) : sameL l m = false := by
  cases hs : sameL l m
  · rfl
  · exact absurd ((sameL_iff l m).1 hs) h
theorem same_yes (a : Re) : sameR a a = true := (same_iff a a).2 rfl
/-- What Same does, at such a list's kids. -/
def KidsC (K : Nat → Prop) (K' : Nat → Prop) (f : FuncId) (l : List Re) : Prop := ∀ (i : Nat) (h : i < l.length) (b : Re) (w : World) (cs cs' : List Value), Rt w K (l[i]'h) cs → Rt w K' b cs' →
  Calls Tryd.prog f #[.agg cs.toArray, .agg cs'.toArray] w fun x w' => x = .returned (.bool (sameR (l[i]'h) b)) ∧ Below w.heap.size w w'
set_option maxHeartbeats 1600000 in
theorem equal_c {K K' : Nat → Prop} {kind kind' : Int} {S S' : Nat} {lo lo' hi hi' nn nn' : Int} {A A' : Option Addr} {n n' c c' : Nat} (l m : List Re) (w : World)
    (h : Rt w K (.mk kind S l lo hi nn) (reC kind S A n c lo hi nn)) (h' : Rt w K' (.mk kind' S' m lo' hi' nn') (reC kind' S' A' n' c' lo' hi' nn')) (hc : KidsC K K' 14 l) (hn : n ≤ 4611686018427387904) :
    Calls Tryd.prog 31 #[.slice A n c, .slice A' n' c', .func (.func 14) #[] #[]] w fun x w' => x = .returned (.bool (sameL l m)) ∧ Below w.heap.size w w' := by
  obtain rfl := (kid h).1
  obtain rfl := (kid h').1
  obtain ⟨GR, hGR⟩ : ∃ GR, sameL l m = GR := ⟨_, rfl⟩
  rw [hGR]
  have HG := Lib.hid hGR
  have HRT := Lib.hid h
  have HRT' := Lib.hid h'
  have HKC := Lib.hid hc
  clear hGR h h' hc
  obtain ⟨kl, hkl⟩ : ∃ kl, l.length = kl := ⟨_, rfl⟩
  obtain ⟨km, hkm⟩ : ∃ kl, m.length = kl := ⟨_, rfl⟩
  rw [hkl] at HRT hn ⊢
  rw [hkm] at HRT' ⊢
  go_enter Tryd.func31, Tryd.ntmps31
  by_cases hlen : kl = km
  rotate_left
  · have hz : GR = false := by rw [← HG.out]; exact sameL_no (fun e => hlen (by rw [← hkl, ← hkm, e]))
    subst hz
    have d0 : (((kl : Nat) : Int) != ((km : Nat) : Int)) = true := by simp; omega
    go_wp2
    go_ret
    exact ⟨rfl, Below.refl _ _⟩
  subst hlen
  go_wp2
  go_loopw [17] (fun v wr => ∃ (i : Nat), v = .int .i64 i ∧ i ≤ kl ∧ l.take i = m.take i ∧ Below w.heap.size w wr) (fun v _ => kl - (intOf v).toNat)
  case atStart => exact ⟨0, rfl, by omega, by simp, Below.refl _ _⟩
  case round =>
    obtain ⟨i, rfl, hi, heq, hB⟩ := hrel
    have HE := Lib.hid heq
    clear heq
    by_cases hlt : i < kl
    · obtain ⟨g, o, rfl, hg, A2, c2, hk, hc⟩ := (kid (HRT.out.bel hB)).2 i (by omega)
      obtain ⟨x, hx⟩ : ∃ x, l[i]'(by omega) = x := ⟨_, rfl⟩
      rw [hx] at hk hc
      have zB := hB.size
      have hB2 : Below w.heap.size w (wr.alloc (.cells (reC x.kind x.set A2 x.kids.length c2 x.lo x.hi x.n).toArray 28)) := by go_grown
      obtain ⟨g', o', rfl, hg', A2', c2', hk', hc'⟩ := (kid (HRT'.out.bel hB2)).2 i (by omega)
      have fk0 := hc 0 _ rfl
      have fk1 := hc 1 _ rfl
      have fk2 := hc 2 _ rfl
      have fk3 := hc 3 _ rfl
      have fk4 := hc 4 _ rfl
      have fk5 := hc 5 _ rfl
      have fk6 := hc 6 _ rfl
      have fk7 := hc 7 _ rfl
      have fk8 := hc 8 _ rfl
      have fl0 := hc' 0 _ rfl
      have fl1 := hc' 1 _ rfl
      have fl2 := hc' 2 _ rfl
      have fl3 := hc' 3 _ rfl
      have fl4 := hc' 4 _ rfl
      have fl5 := hc' 5 _ rfl
      have fl6 := hc' 6 _ rfl
      have fl7 := hc' 7 _ rfl
      have fl8 := hc' 8 _ rfl
      simp only [Nat.add_zero] at fk0 fl0
      clear hc hc'
      have htl : l.take (i + 1) = l.take i ++ [l[i]'(by omega)] := List.take_succ_eq_append_getElem (by omega)
      have htm : m.take (i + 1) = m.take i ++ [m[i]'(by omega)] := List.take_succ_eq_append_getElem (by omega)
      have hkc := HKC.out i (by omega)
      rw [hx] at hkc
      have ci := fun W (hW : Below wr.heap.size wr W) (hW2 : Below _ (wr.alloc (.cells (reC x.kind x.set A2 x.kids.length c2 x.lo x.hi x.n).toArray 28)) W) => hkc (m[i]'(by omega)) W _ _ (hk.bel hW) (hk'.bel hW2)
      have hab : l = m → (l[i]'(by omega)) = (m[i]'(by omega)) := fun e => by subst e; rfl
      obtain ⟨y, hy⟩ : ∃ x, m[i]'(by omega) = x := ⟨_, rfl⟩
      rw [hx] at htl
      rw [hy] at fl0 fl1 fl2 fl3 fl4 fl5 fl6 fl7 fl8 hk' htm
      simp only [hx, hy] at ci hab
      have HTL := Lib.hid htl
      have HTM := Lib.hid htm
      have HAB := Lib.hid hab
      clear hkc hB2 hk hg hk' hg' htl htm hx hy hab
      generalize x.kind = k0 at *
      generalize x.set = k1 at *
      generalize x.kids.length = k2 at *
      generalize x.lo = k3 at *
      generalize x.hi = k4 at *
      generalize x.n = k5 at *
      generalize y.kind = m0 at *
      generalize y.set = m1 at *
      generalize y.kids.length = m2 at *
      generalize y.lo = m3 at *
      generalize y.hi = m4 at *
      generalize y.n = m5 at *
      have ci := ci ((wr.alloc (.cells (reC k0 k1 A2 k2 c2 k3 k4 k5).toArray 28)).alloc (.cells (reC m0 m1 A2' m2 c2' m3 m4 m5).toArray 28)) (by go_grown) ((Below.refl _ _).alloc (Nat.le_refl _) _)
      cases hs : sameR x y
      · rw [hs] at ci
        have hz : GR = false := by rw [← HG.out]; exact sameL_no (fun e => by have := (same_iff x y).2 (HAB.out e); rw [hs] at this; cases this)
        subst hz
        go_wp2_with fail
        (with_reducible refine ci.mono ?_)
        rintro e w2 ⟨rfl, hb3⟩
        have hb4 : Below w.heap.size w w2 := via hb3 (by go_grown)
        clear hb3 ci
        go_wp2
        go_ret
        exact ⟨rfl, hb4⟩
      · rw [hs] at ci
        have hxy := (same_iff x y).1 hs
        have HX := Lib.hid hxy
        clear hs hxy
        go_wp2_with fail
        (with_reducible refine ci.mono ?_)
        rintro e w2 ⟨rfl, hb3⟩
        have hb4 : Below w.heap.size w w2 := via hb3 (by go_grown)
        clear hb3 ci
        go_wp2
        go_roundw
        case rel => exact ⟨i + 1, by go_num, by omega, by rw [HTL.out, HTM.out, HE.out, HX.out], hb4⟩
        case measure => simp [intOf]; omega
    · have hi2 : i = kl := by omega
      subst hi2
      have hz : GR = true := by
        rw [← HG.out]; refine (sameL_iff l m).2 ?_
        have := HE.out
        rw [List.take_of_length_le (by omega), List.take_of_length_le (by omega)] at this; exact this
      subst hz
      go_wp2
      go_ret
      exact ⟨rfl, hB⟩
end EreX
end Go.Proofs.YtdonokghemhfiaaDoor
