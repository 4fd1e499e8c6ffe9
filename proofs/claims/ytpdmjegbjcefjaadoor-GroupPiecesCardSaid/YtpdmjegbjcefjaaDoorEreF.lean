/- Trees of expressions: how many kinds, how many groups; the walks of Groups, its reference, and Small. Conditions: trees that fit. -/
import Derived.Test.YtpdmjegbjcefjaaDoorEreY
import Derived.DeepKeys
import Derived.Laws.StructEq
namespace Go.Proofs.YtpdmjegbjcefjaaDoor
set_option linter.unusedVariables false
set_option linter.unusedSimpArgs false
open Go.RowKit
namespace EreX
open EreP EreW
mutual
def nodesR : Re → Nat | .mk _ _ kids _ _ _ => 1 + nodesL kids
def nodesL : List Re → Nat | [] => 0 | x :: l => nodesR x + nodesL l
end
mutual
def groupsR : Re → Nat | .mk k _ kids _ _ _ => (if k = 7 then 1 else 0) + groupsL kids
def groupsL : List Re → Nat | [] => 0 | x :: l => groupsR x + groupsL l
end
theorem nodes_take : ∀ (l : List Re) (i : Nat) (h : i < l.length), nodesL (l.take (i + 1)) = nodesL (l.take i) + nodesR (l[i]'h) := by
  intro l
  induction l with
  | nil => intro i h; exact absurd h (Nat.not_lt_zero _)
  | cons x l ih =>
    intro i h
    cases i with
    | zero => simp [nodesL]
    | succ i => simp [nodesL]; rw [ih i (by simpa using h)]; omega
theorem groups_take : ∀ (l : List Re) (i : Nat) (h : i < l.length), groupsL (l.take (i + 1)) = groupsL (l.take i) + groupsR (l[i]'h) := by
  intro l
  induction l with
  | nil => intro i h; exact absurd h (Nat.not_lt_zero _)
  | cons x l ih =>
    intro i h
    cases i with
    | zero => simp [groupsL]
    | succ i => simp [groupsL]; rw [ih i (by simpa using h)]; omega
theorem nodes_le : ∀ (l : List Re) (i : Nat), nodesL (l.take i) ≤ nodesL l := by
  intro l
  induction l with
  | nil => intro i; simp
  | cons x l ih =>
    intro i
    cases i with
    | zero => simp [nodesL]
    | succ i => simp [nodesL]; exact ih i
theorem nodes_kid (l : List Re) (i : Nat) (h : i < l.length) : nodesL (l.take i) + nodesR (l[i]'h) ≤ nodesL l := by
  rw [← nodes_take l i h]; exact nodes_le l (i + 1)
mutual
theorem groups_nodes : ∀ r, groupsR r ≤ nodesR r
  | .mk k _ kids _ _ _ => by
    have := groups_nodesL kids
    unfold groupsR nodesR
    split <;> omega
theorem groups_nodesL : ∀ l, groupsL l ≤ nodesL l
  | [] => Nat.le_refl _
  | x :: l => by
    have h1 := groups_nodes x
    have h2 := groups_nodesL l
    unfold groupsL nodesL; omega
end
theorem len_nodes : ∀ l : List Re, l.length ≤ nodesL l := by
  intro l
  induction l with
  | nil => simp
  | cons x l ih => cases x; simp [nodesL, nodesR]; omega
/-- A kid's cells. -/
theorem kid {w : World} {K : Nat → Prop} {kind : Int} {S : Nat} {kids : List Re} {lo hi nn : Int} {A : Option Addr} {m c : Nat} (h : Rt w K (.mk kind S kids lo hi nn) (reC kind S A m c lo hi nn)) :
    m = kids.length ∧ ∀ (i : Nat) (hi : i < kids.length), ∃ g o, A = some ⟨g, o, none⟩ ∧ K g ∧ ∃ A2 c2, Rt w K (kids[i]'hi) (reC (kids[i]'hi).kind (kids[i]'hi).set A2 (kids[i]'hi).kids.length c2 (kids[i]'hi).lo (kids[i]'hi).hi (kids[i]'hi).n) ∧
      ∀ j u, (reC (kids[i]'hi).kind (kids[i]'hi).set A2 (kids[i]'hi).kids.length c2 (kids[i]'hi).lo (kids[i]'hi).hi (kids[i]'hi).n)[j]? = some u → w.cell? ⟨g, o + i * 9 + j, none⟩ = some u := by
  generalize hr : Re.mk kind S kids lo hi nn = r at h
  generalize hcs : reC kind S A m c lo hi nn = cs at h
  cases h with
  | mk kind' S' kids' lo' hi' nn' A' c' css hS hk hA =>
    injection hr with e1 e2 e3 e4 e5 e6
    subst e1 e2 e3 e4 e5 e6
    simp only [List.cons.injEq, Value.slice.injEq, true_and, and_true] at hcs
    obtain ⟨rfl, rfl, rfl⟩ := hcs
    refine ⟨rfl, fun i hi => ?_⟩
    obtain ⟨g, o, e, hg, hc⟩ := hA (by omega)
    obtain ⟨A2, c2, e2, _, _⟩ := (hk i hi).shape
    refine ⟨g, o, e, hg, A2, c2, ?_, ?_⟩
    · rw [← e2]; exact hk i hi
    · rw [← e2]; exact hc i hi
end EreX
end Go.Proofs.YtpdmjegbjcefjaaDoor
namespace Go.Proofs.YtpdmjegbjcefjaaDoor
open Go.RowKit
namespace EreX
open EreP EreW
end EreX
end Go.Proofs.YtpdmjegbjcefjaaDoor
namespace Go.Proofs.YtpdmjegbjcefjaaDoor
open Go.RowKit
namespace EreX
open EreP EreW
end EreX
end Go.Proofs.YtpdmjegbjcefjaaDoor
namespace Go.Proofs.YtpdmjegbjcefjaaDoor
open Go.RowKit
namespace EreX
open EreP EreW
/-- How many are left. -/
def leftI (n : Nat) (left : Int) : Int := if (n : Int) ≤ left then left - n else -1
theorem left_step {a b : Nat} {left : Int} (h : 0 ≤ leftI a left) : leftI b (leftI a left) = leftI (a + b) left := by
  unfold leftI at *
  by_cases h1 : (a : Int) ≤ left
  · rw [if_pos h1] at *
    by_cases h2 : (b : Int) ≤ left - a
    · rw [if_pos h2, if_pos (by omega)]; omega
    · rw [if_neg h2, if_neg (by omega)]
  · rw [if_neg h1] at h; omega
theorem left_neg {a b : Nat} {left : Int} (h : leftI a left < 0) (hab : a ≤ b) (_h0 : 0 ≤ left) : leftI b left = -1 := by
  unfold leftI at *
  by_cases h1 : (a : Int) ≤ left
  · rw [if_pos h1] at h; omega
  · rw [if_neg (by omega)]
theorem left_ge (a : Nat) (left : Int) : -1 ≤ leftI a left := by
  unfold leftI; split <;> omega
theorem left_le (a : Nat) (left : Int) (h : 0 ≤ left) : leftI a left ≤ left := by
  unfold leftI; split <;> omega
theorem left_a {a : Nat} {left : Int} (h : 0 ≤ leftI a left) : (a : Int) ≤ left := by
  unfold leftI at h; split at h <;> omega
set_option maxHeartbeats 1600000 in
theorem count_c {K : Nat → Prop} : ∀ (N : Nat) (r : Re), nodesR r ≤ N → ∀ (w : World) (cs : List Value) (left : Int), Rt w K r cs → 0 ≤ left → left ≤ 1048576 →
    Calls Tryd.prog 21 #[.agg cs.toArray, .int .i64 left] w fun x w' => x = .returned (.int .i64 (leftI (nodesR r) left)) ∧ Below w.heap.size w w' := by
  intro N
  induction N with
  | zero => intro r h; cases r; simp [nodesR] at h
  | succ N ih =>
    intro r hN w cs left h h0 hb
    obtain ⟨A, c, rfl, hS, hnil⟩ := h.shape
    obtain ⟨kind, S, kids, lo, hi, nn⟩ := r
    simp only [Re.kind, Re.set, Re.kids, Re.lo, Re.hi, Re.n] at h hS hnil ⊢
    have hN2 : nodesL kids ≤ N := by simp [nodesR] at hN; omega
    have HRT := Lib.hid h
    obtain ⟨GR, hGR⟩ : ∃ GR, leftI (nodesR (.mk kind S kids lo hi nn)) left = GR := ⟨_, rfl⟩
    have hgr : leftI (1 + nodesL (kids.take kids.length)) left = GR := by rw [← hGR, nodesR, List.take_length]
    rw [hGR]
    have HG := Lib.hid hgr
    clear hGR hgr h hnil hS hN
    obtain ⟨kl, hkl⟩ : ∃ kl, kids.length = kl := ⟨_, rfl⟩
    rw [hkl] at HG HRT ⊢
    obtain ⟨wa, hwa⟩ : ∃ z : World, z = w.alloc (.cells (reC kind S A kl c lo hi nn).toArray 27) := ⟨_, rfl⟩
    have xa : Blk wa w.heap.size 27 (reC kind S A kl c lo hi nn).toArray := by rw [hwa]; exact Blk.new _ _ _
    have ba : Below w.heap.size w wa := by rw [hwa]; go_grown
    have hq0 : left - 1 = leftI (1 + nodesL (kids.take 0)) left := by
      unfold leftI; simp [nodesL]; omega
    have HQ0 := Lib.hid hq0
    clear hq0
    go_enter Tryd.func21, Tryd.ntmps21
    go_wp2
    rw [← hwa]
    go_loopw [1, 11] (fun n v wr => ∃ (i : Nat) (q : Int), v = .int .i64 i ∧ i ≤ kl ∧ n = .int .i64 q ∧ q = leftI (1 + nodesL (kids.take i)) left ∧ (i : Int) ≤ left ∧ Below wa.heap.size wa wr) (fun _ v _ => kl - (intOf v).toNat)
    case atStart => exact ⟨0, _, rfl, by omega, rfl, HQ0.out, by omega, Below.refl _ _⟩
    case round =>
      obtain ⟨i, q, rfl, hi, rfl, hq, hil, hBa⟩ := hrel
      have hB : Below w.heap.size w wr := via hBa ba
      have x5 := (xa.next hBa).cell 5
      simp only [List.getElem?_toArray, List.getElem?_cons_zero, List.getElem?_cons_succ] at x5
      by_cases hlt : i < kl
      · by_cases hneg : q < 0
        · have hz : GR = -1 := by
            have := nodes_le kids i
            rw [← HG.out, ← hkl, List.take_length]
            exact left_neg (by rw [← hq]; exact hneg) (by omega) h0
          have hq2 : q = -1 := by have := left_ge (1 + nodesL (kids.take i)) left; omega
          subst hq2
          subst hz
          clear hq
          have d0 : decide ((-1 : Int) < 0) = true := by decide
          go_wp2
          go_ret
          exact ⟨rfl, hB⟩
        · obtain ⟨g, o, rfl, hg, A2, c2, hk, hc⟩ := (kid (HRT.out.bel hB)).2 i (by omega)
          have fk0 := hc 0 _ rfl
          have fk1 := hc 1 _ rfl
          have fk2 := hc 2 _ rfl
          have fk3 := hc 3 _ rfl
          have fk4 := hc 4 _ rfl
          have fk5 := hc 5 _ rfl
          have fk6 := hc 6 _ rfl
          have fk7 := hc 7 _ rfl
          have fk8 := hc 8 _ rfl
          simp only [Nat.add_zero] at fk0
          clear hc
          have d0 : decide (q < 0) = false := by simp; omega
          have hnk := nodes_kid kids i (by omega)
          have htk := nodes_take kids i (by omega)
          have hln := len_nodes (kids.take i)
          rw [List.length_take] at hln
          have hla := left_a (a := 1 + nodesL (kids.take i)) (left := left) (by omega)
          have hle := left_le (1 + nodesL (kids.take i)) left h0
          obtain ⟨x, hx⟩ : ∃ x, kids[i]'(by omega) = x := ⟨_, rfl⟩
          rw [hx] at fk0 fk1 fk2 fk3 fk4 fk5 fk6 fk7 fk8 hk hnk htk
          have ci := ih x (by omega) wr _ q hk (by omega) (by omega)
          have hq3 : leftI (nodesR x) q = leftI (1 + nodesL (kids.take (i + 1))) left := by
            rw [hq, left_step (by omega), htk]; congr 1; omega
          rw [hq3] at ci
          clear hk hg hq3 hq htk
          generalize x.kind = k0 at *
          generalize x.set = k1 at *
          generalize x.kids.length = k2 at *
          generalize x.lo = k3 at *
          generalize x.hi = k4 at *
          generalize x.n = k5 at *
          have zB := hB.size
          go_wp2_with fail
          (with_reducible refine ci.mono ?_)
          rintro e w2 ⟨rfl, hb3⟩
          have hb4 : Below wa.heap.size wa w2 := via hb3 (by go_grown)
          clear hb3 ci
          go_wp2
          go_roundw
          case rel => exact ⟨i + 1, _, by go_num, by omega, rfl, rfl, by omega, hb4⟩
          case measure => simp [intOf]; omega
      · have hi2 : i = kl := by omega
        subst hi2
        rw [HG.out] at hq
        subst hq
        go_wp2
        go_ret
        exact ⟨rfl, hB⟩
set_option maxHeartbeats 1600000 in
theorem small_c {K : Nat → Prop} (r : Re) (w : World) (cs : List Value) (most : Int) (h : Rt w K r cs) (h0 : 0 ≤ most) (hb : most ≤ 1048576) :
    Calls Tryd.prog 8 #[.agg cs.toArray, .int .i64 most] w fun x w' => x = .returned (.bool (decide ((nodesR r : Int) ≤ most))) ∧ Below w.heap.size w w' := by
  obtain ⟨wa, hwa⟩ : ∃ z : World, z = w.alloc (.cells cs.toArray 27) := ⟨_, rfl⟩
  have ba : Below w.heap.size w wa := by rw [hwa]; go_grown
  have cc := count_c (nodesR r) r (Nat.le_refl _) wa cs most (h.bel ba) h0 hb
  have hd : decide ((0 : Int) ≤ leftI (nodesR r) most) = decide ((nodesR r : Int) ≤ most) := by
    unfold leftI
    by_cases hm : (nodesR r : Int) ≤ most
    · rw [if_pos hm]; simp [hm]
    · rw [if_neg hm]; simp [hm]
  rw [← hd]
  obtain ⟨A, c, rfl, hS, hnil⟩ := h.shape
  generalize leftI (nodesR r) most = LL at *
  clear hd hnil hS h
  generalize r.kind = k0 at *
  generalize r.set = k1 at *
  generalize r.kids.length = k2 at *
  generalize r.lo = k3 at *
  generalize r.hi = k4 at *
  generalize r.n = k5 at *
  go_enter Tryd.func8, Tryd.ntmps8
  go_wp2_with fail
  rw [← hwa]
  (with_reducible refine cc.mono ?_)
  rintro e w2 ⟨rfl, hb3⟩
  have hb4 : Below w.heap.size w w2 := via hb3 ba
  go_wp2
  go_ret
  exact ⟨rfl, hb4⟩
end EreX
end Go.Proofs.YtpdmjegbjcefjaaDoor
namespace Go.Proofs.YtpdmjegbjcefjaaDoor
open Go.RowKit
namespace EreX
open EreP EreW
mutual
def sameR : Re → Re → Bool
  | .mk k s kids lo hi n, .mk k' s' kids' lo' hi' n' => k == k' && s == s' && lo == lo' && hi == hi' && n == n' && sameL kids kids'
def sameL : List Re → List Re → Bool
  | [], [] => true
  | x :: l, y :: m => sameR x y && sameL l m
  | [], _ :: _ => false
  | _ :: _, [] => false
end
mutual
theorem same_iff : ∀ a b, sameR a b = true ↔ a = b
  | .mk k s kids lo hi n, .mk k' s' kids' lo' hi' n' => by
    have := sameL_iff kids kids'
    unfold sameR
    simp only [Bool.and_eq_true, beq_iff_eq, this, Re.mk.injEq]
    constructor
    · rintro ⟨⟨⟨⟨⟨a, b⟩, c⟩, d⟩, e⟩, f⟩; exact ⟨a, b, f, c, d, e⟩
    · rintro ⟨a, b, f, c, d, e⟩; exact ⟨⟨⟨⟨⟨a, b⟩, c⟩, d⟩, e⟩, f⟩
theorem sameL_iff : ∀ l m, sameL l m = true ↔ l = m
  | [], [] => by simp [sameL]
  | x :: l, y :: m => by
    have h1 := same_iff x y
    have h2 := sameL_iff l m
    unfold sameL
    simp only [Bool.and_eq_true, h1, h2, List.cons.injEq]
  | [], _ :: _ => by simp [sameL]
  | _ :: _, [] => by simp [sameL]
end
theorem same_no {a b : Re} (h : a ≠ b) : sameR a b = false := by
  cases hs : sameR a b
  · rfl
  · exact absurd ((same_iff a b).1 hs) h
theorem sameL_no {l m : List Re} (h : l ≠ m) : sameL l m = false := by
  cases hs : sameL l m
  · rfl
  · exact absurd ((sameL_iff l m).1 hs) h
theorem same_yes (a : Re) : sameR a a = true := (same_iff a a).2 rfl
/-- What Same does, at such a list's kids. -/
def KidsC (K : Nat → Prop) (K' : Nat → Prop) (f : FuncId) (l : List Re) : Prop := ∀ (i : Nat) (h : i < l.length) (b : Re) (w : World) (cs cs' : List Value), Rt w K (l[i]'h) cs → Rt w K' b cs' →
  Calls Tryd.prog f #[.agg cs.toArray, .agg cs'.toArray] w fun x w' => x = .returned (.bool (sameR (l[i]'h) b)) ∧ Below w.heap.size w w'
set_option maxHeartbeats 1600000 in
theorem equal_c {K K' : Nat → Prop} {kind kind' : Int} {S S' : Nat} {lo lo' hi hi' nn nn' : Int} {A A' : Option Addr} {n n' c c' : Nat} (l m : List Re) (w : World)
    (h : Rt w K (.mk kind S l lo hi nn) (reC kind S A n c lo hi nn)) (h' : Rt w K' (.mk kind' S' m lo' hi' nn') (reC kind' S' A' n' c' lo' hi' nn')) (hc : KidsC K K' 77 l) (hn : n ≤ 4611686018427387904) :
    Calls Tryd.prog 90 #[.slice A n c, .slice A' n' c', .func (.func 77) #[] #[]] w fun x w' => x = .returned (.bool (sameL l m)) ∧ Below w.heap.size w w' := by
  obtain rfl := (kid h).1
  obtain rfl := (kid h').1
  obtain ⟨GR, hGR⟩ : ∃ GR, sameL l m = GR := ⟨_, rfl⟩
  rw [hGR]
  have HG := Lib.hid hGR
  have HRT := Lib.hid h
  have HRT' := Lib.hid h'
  have HKC := Lib.hid hc
  clear hGR h h' hc
  obtain ⟨kl, hkl⟩ : ∃ kl, l.length = kl := ⟨_, rfl⟩
  obtain ⟨km, hkm⟩ : ∃ kl, m.length = kl := ⟨_, rfl⟩
  rw [hkl] at HRT hn ⊢
  rw [hkm] at HRT' ⊢
  go_enter Tryd.func90, Tryd.ntmps90
  by_cases hlen : kl = km
  rotate_left
  · have hz : GR = false := by rw [← HG.out]; exact sameL_no (fun e => hlen (by rw [← hkl, ← hkm, e]))
    subst hz
    have d0 : (((kl : Nat) : Int) != ((km : Nat) : Int)) = true := by simp; omega
    go_wp2
    go_ret
    exact ⟨rfl, Below.refl _ _⟩
  subst hlen
  go_wp2
  go_loopw [17] (fun v wr => ∃ (i : Nat), v = .int .i64 i ∧ i ≤ kl ∧ l.take i = m.take i ∧ Below w.heap.size w wr) (fun v _ => kl - (intOf v).toNat)
  case atStart => exact ⟨0, rfl, by omega, by simp, Below.refl _ _⟩
  case round =>
    obtain ⟨i, rfl, hi, heq, hB⟩ := hrel
    have HE := Lib.hid heq
    clear heq
    by_cases hlt : i < kl
    · obtain ⟨g, o, rfl, hg, A2, c2, hk, hc⟩ := (kid (HRT.out.bel hB)).2 i (by omega)
      obtain ⟨x, hx⟩ : ∃ x, l[i]'(by omega) = x := ⟨_, rfl⟩
      rw [hx] at hk hc
      have zB := hB.size
      have hB2 : Below w.heap.size w (wr.alloc (.cells (reC x.kind x.set A2 x.kids.length c2 x.lo x.hi x.n).toArray 27)) := by go_grown
      obtain ⟨g', o', rfl, hg', A2', c2', hk', hc'⟩ := (kid (HRT'.out.bel hB2)).2 i (by omega)
      have fk0 := hc 0 _ rfl
      have fk1 := hc 1 _ rfl
      have fk2 := hc 2 _ rfl
      have fk3 := hc 3 _ rfl
      have fk4 := hc 4 _ rfl
      have fk5 := hc 5 _ rfl
      have fk6 := hc 6 _ rfl
      have fk7 := hc 7 _ rfl
      have fk8 := hc 8 _ rfl
      have fl0 := hc' 0 _ rfl
      have fl1 := hc' 1 _ rfl
      have fl2 := hc' 2 _ rfl
      have fl3 := hc' 3 _ rfl
      have fl4 := hc' 4 _ rfl
      have fl5 := hc' 5 _ rfl
      have fl6 := hc' 6 _ rfl
      have fl7 := hc' 7 _ rfl
      have fl8 := hc' 8 _ rfl
      simp only [Nat.add_zero] at fk0 fl0
      clear hc hc'
      have htl : l.take (i + 1) = l.take i ++ [l[i]'(by omega)] := List.take_succ_eq_append_getElem (by omega)
      have htm : m.take (i + 1) = m.take i ++ [m[i]'(by omega)] := List.take_succ_eq_append_getElem (by omega)
      have hkc := HKC.out i (by omega)
      rw [hx] at hkc
      have ci := fun W (hW : Below wr.heap.size wr W) (hW2 : Below _ (wr.alloc (.cells (reC x.kind x.set A2 x.kids.length c2 x.lo x.hi x.n).toArray 27)) W) => hkc (m[i]'(by omega)) W _ _ (hk.bel hW) (hk'.bel hW2)
      have hab : l = m → (l[i]'(by omega)) = (m[i]'(by omega)) := fun e => by subst e; rfl
      obtain ⟨y, hy⟩ : ∃ x, m[i]'(by omega) = x := ⟨_, rfl⟩
      rw [hx] at htl
      rw [hy] at fl0 fl1 fl2 fl3 fl4 fl5 fl6 fl7 fl8 hk' htm
      simp only [hx, hy] at ci hab
      have HTL := Lib.hid htl
      have HTM := Lib.hid htm
      have HAB := Lib.hid hab
      clear hkc hB2 hk hg hk' hg' htl htm hx hy hab
      generalize x.kind = k0 at *
      generalize x.set = k1 at *
      generalize x.kids.length = k2 at *
      generalize x.lo = k3 at *
      generalize x.hi = k4 at *
      generalize x.n = k5 at *
      generalize y.kind = m0 at *
      generalize y.set = m1 at *
      generalize y.kids.length = m2 at *
      generalize y.lo = m3 at *
      generalize y.hi = m4 at *
      generalize y.n = m5 at *
      have ci := ci ((wr.alloc (.cells (reC k0 k1 A2 k2 c2 k3 k4 k5).toArray 27)).alloc (.cells (reC m0 m1 A2' m2 c2' m3 m4 m5).toArray 27)) (by go_grown) ((Below.refl _ _).alloc (Nat.le_refl _) _)
      cases hs : sameR x y
      · rw [hs] at ci
        have hz : GR = false := by rw [← HG.out]; exact sameL_no (fun e => by have := (same_iff x y).2 (HAB.out e); rw [hs] at this; cases this)
        subst hz
        go_wp2_with fail
        (with_reducible refine ci.mono ?_)
        rintro e w2 ⟨rfl, hb3⟩
        have hb4 : Below w.heap.size w w2 := via hb3 (by go_grown)
        clear hb3 ci
        go_wp2
        go_ret
        exact ⟨rfl, hb4⟩
      · rw [hs] at ci
        have hxy := (same_iff x y).1 hs
        have HX := Lib.hid hxy
        clear hs hxy
        go_wp2_with fail
        (with_reducible refine ci.mono ?_)
        rintro e w2 ⟨rfl, hb3⟩
        have hb4 : Below w.heap.size w w2 := via hb3 (by go_grown)
        clear hb3 ci
        go_wp2
        go_roundw
        case rel => exact ⟨i + 1, by go_num, by omega, by rw [HTL.out, HTM.out, HE.out, HX.out], hb4⟩
        case measure => simp [intOf]; omega
    · have hi2 : i = kl := by omega
      subst hi2
      have hz : GR = true := by
        rw [← HG.out]; refine (sameL_iff l m).2 ?_
        have := HE.out
        rw [List.take_of_length_le (by omega), List.take_of_length_le (by omega)] at this; exact this
      subst hz
      go_wp2
      go_ret
      exact ⟨rfl, hB⟩
end EreX
end Go.Proofs.YtpdmjegbjcefjaaDoor
namespace Go.Proofs.YtpdmjegbjcefjaaDoor
open Go.RowKit
namespace EreX
open EreP EreW
theorem word_lt (S k : Nat) : word S k < 18446744073709551616 := Nat.mod_lt _ (by decide)
theorem wf_word (S k : Nat) : (Lit.int .u64 ((word S k : Nat) : Int)).wf = true := by
  have := word_lt S k
  simp [Lit.wf]
  have e1 : IntKind.u64.min = 0 := by rfl
  have e2 : IntKind.u64.max = 18446744073709551615 := by rfl
  rw [e1, e2]
  omega
abbrev wordsV (S : Nat) : Value := .agg #[.int .u64 (word S 0), .int .u64 (word S 1), .int .u64 (word S 2), .int .u64 (word S 3)]
theorem set_lits (S : Nat) : Tryd.prog.keyLits 2 24 (wordsV S).cells.toList = some [.int .u64 (word S 0), .int .u64 (word S 1), .int .u64 (word S 2), .int .u64 (word S 3)] := by
  have u := Tryd.underlying24
  have u2 := Tryd.underlying22
  have c1 : Tryd.prog.cellsOf 24 = 4 := by kernel_rfl
  have c2 : Tryd.prog.cellsOf 22 = 1 := by kernel_rfl
  have f0 := wf_word S 0
  have f1 := wf_word S 1
  have f2 := wf_word S 2
  have f3 := wf_word S 3
  simp [Program.keyLits, u, u2, c1, c2, Value.cells, List.range, List.range.loop, f0, f1, f2, f3]
set_option maxRecDepth 100000 in
theorem set_run (S S' : Nat) (w : World) : ∃ r : Bool, (Op.equalIn 10000 24 (wordsV S) (wordsV S')).run Tryd.prog w = .ok r w ∧ (r = true ↔ ∀ k, k < 4 → word S k = word S' k) := by
  obtain ⟨r, hr, hiff⟩ := run_equalIn_deep (P := Tryd.prog) 9998 2 24 (by kernel_rfl) w 2 2 (wordsV S) (wordsV S') _ _ (by kernel_rfl) (by kernel_rfl) (set_lits S) (set_lits S')
  refine ⟨r, hr, hiff.trans ?_⟩
  simp only [List.cons.injEq, Lit.int.injEq, true_and, and_true, Int.natCast_inj]
  constructor
  · rintro ⟨h0, h1, h2, h3⟩ k hk
    rcases (by omega : k = 0 ∨ k = 1 ∨ k = 2 ∨ k = 3) with rfl | rfl | rfl | rfl <;> assumption
  · intro h; exact ⟨h 0 (by omega), h 1 (by omega), h 2 (by omega), h 3 (by omega)⟩
set_option maxRecDepth 100000 in
theorem set_same (S S' : Nat) (hS : S < 2 ^ 256) (hS' : S' < 2 ^ 256) (w : World) : (Op.equalIn 10000 24 (wordsV S) (wordsV S')).run Tryd.prog w = .ok (S == S') w := by
  obtain ⟨r, hr, hiff⟩ := set_run S S' w
  rw [hr]
  congr 1
  rw [Bool.eq_iff_iff, hiff, beq_iff_eq]
  exact ⟨fun h => set_ext hS hS' h, fun h _ _ => by rw [h]⟩
end EreX
end Go.Proofs.YtpdmjegbjcefjaaDoor
namespace Go.Proofs.YtpdmjegbjcefjaaDoor
open Go.RowKit
namespace EreX
open EreP EreW
/-- A test that fails ahead of the kids. -/
theorem same_part {k k' : Int} {s s' : Nat} {l m : List Re} {lo lo' hi hi' n n' : Int} (h : ¬ (k = k' ∧ s = s' ∧ lo = lo' ∧ hi = hi' ∧ n = n')) : sameR (.mk k s l lo hi n) (.mk k' s' m lo' hi' n') = false := by
  apply same_no
  intro e
  injection e with e1 e2 e3 e4 e5 e6
  exact h ⟨e1, e2, e4, e5, e6⟩
set_option maxHeartbeats 1600000 in
set_option maxRecDepth 100000 in
theorem same_c {K K' : Nat → Prop} : ∀ (N : Nat) (a : Re), nodesR a ≤ N → nodesR a ≤ 4611686018427387904 → ∀ (b : Re) (w : World) (cs cs' : List Value), Rt w K a cs → Rt w K' b cs' →
    Calls Tryd.prog 77 #[.agg cs.toArray, .agg cs'.toArray] w fun x w' => x = .returned (.bool (sameR a b)) ∧ Below w.heap.size w w' := by
  intro N
  induction N with
  | zero => intro r h; cases r; simp [nodesR] at h
  | succ N ih =>
    intro a hN hbig b w cs cs' h h'
    obtain ⟨A, c, rfl, hS, hnil⟩ := h.shape
    obtain ⟨A', c', rfl, hS', hnil'⟩ := h'.shape
    obtain ⟨k0, k1, kids, k3, k4, k5⟩ := a
    obtain ⟨m0, m1, mids, m3, m4, m5⟩ := b
    simp only [Re.kind, Re.set, Re.kids, Re.lo, Re.hi, Re.n] at h hS hnil h' hS' hnil' ⊢
    have hln := len_nodes kids
    have hkc : KidsC K K' 77 kids := fun i hi b w cs cs' h1 h2 => ih (kids[i]'hi) (by have := nodes_kid kids i hi; simp [nodesR] at hN; omega) (by have := nodes_kid kids i hi; simp [nodesR] at hbig; omega) b w cs cs' h1 h2
    obtain ⟨wa, hwa⟩ : ∃ z : World, z = (w.alloc (.cells (reC k0 k1 A kids.length c k3 k4 k5).toArray 27)).alloc (.cells (reC m0 m1 A' mids.length c' m3 m4 m5).toArray 27) := ⟨_, rfl⟩
    have ba : Below w.heap.size w wa := by rw [hwa]; go_grown
    have ce := equal_c kids mids wa (h.bel ba) (h'.bel ba) hkc (by simp [nodesR] at hbig; omega)
    obtain ⟨GR, hGR⟩ : ∃ GR, sameR (.mk k0 k1 kids k3 k4 k5) (.mk m0 m1 mids m3 m4 m5) = GR := ⟨_, rfl⟩
    rw [hGR]
    have HG := Lib.hid hGR
    have hset := fun W => set_same k1 m1 hS hS' W
    simp only [wordsV] at hset
    have hSL : GR = (k0 == m0 && k1 == m1 && k3 == m3 && k4 == m4 && k5 == m5 && sameL kids mids) := by rw [← hGR, sameR]
    have HSL := Lib.hid hSL
    obtain ⟨SL, hSLe⟩ : ∃ SL, sameL kids mids = SL := ⟨_, rfl⟩
    rw [hSLe] at ce
    have HSE := Lib.hid hSLe
    clear hGR hSL hSLe h h' hS hS' hnil hnil' hkc hln ih hN hbig
    generalize kids.length = k2 at *
    generalize mids.length = m2 at *
    go_enter Tryd.func77, Tryd.ntmps77
    cases d0 : (k0 == m0)
    · have hz : GR = false := by rw [HSL.out, d0]; simp
      subst hz
      go_wp2
      go_ret
      exact ⟨rfl, by rw [← hwa]; exact ba⟩
    cases d1 : (k1 == m1)
    · have hz : GR = false := by rw [HSL.out, d0, d1]; simp
      subst hz
      rw [d1] at hset
      go_wp2
      go_ret
      exact ⟨rfl, by rw [← hwa]; exact ba⟩
    rw [d1] at hset
    cases d3 : (k3 == m3)
    · have hz : GR = false := by rw [HSL.out, d0, d1, d3]; simp
      subst hz
      go_wp2
      go_ret
      exact ⟨rfl, by rw [← hwa]; exact ba⟩
    cases d4 : (k4 == m4)
    · have hz : GR = false := by rw [HSL.out, d0, d1, d3, d4]; simp
      subst hz
      go_wp2
      go_ret
      exact ⟨rfl, by rw [← hwa]; exact ba⟩
    cases d5 : (k5 == m5)
    · have hz : GR = false := by rw [HSL.out, d0, d1, d3, d4, d5]; simp
      subst hz
      go_wp2
      go_ret
      exact ⟨rfl, by rw [← hwa]; exact ba⟩
    have hz : GR = SL := by rw [HSL.out, HSE.out, d0, d1, d3, d4, d5]; simp
    subst hz
    go_wp2_with fail
    rw [← hwa]
    (with_reducible refine ce.mono ?_)
    rintro e w2 ⟨rfl, hb⟩
    have hb4 : Below w.heap.size w w2 := via hb ba
    go_wp2
    go_ret
    exact ⟨by simp, hb4⟩
end EreX
end Go.Proofs.YtpdmjegbjcefjaaDoor
namespace Go.Proofs.YtpdmjegbjcefjaaDoor
open Go.RowKit
namespace EreX
open EreP EreW
end EreX
end Go.Proofs.YtpdmjegbjcefjaaDoor
