/- Which trees may be: the walk of bare; of kids. Conditions: trees that fit. -/
import Derived.Test.YtpdmjegbjcefjaaDoorEreF
namespace Go.Proofs.YtpdmjegbjcefjaaDoor
set_option linter.unusedVariables false
set_option linter.unusedSimpArgs false
open Go.RowKit
namespace EreX
open EreP EreW
def bareR (k : Int) (s : Nat) (lo hi n : Int) : Bool := (k == 1 || s == 0) && (k == 6 || lo == 0 && hi == 0) && (k == 7 || n == 0)
def inR (lo hi : Int) : Bool := decide (0 ≤ lo) && decide (lo ≤ 8) && (hi == -1 || (decide (lo ≤ hi) && decide (hi ≤ 8)))
mutual
/-- How many groups were met; none, if it may not be. -/
def rightR : Re → Nat → Nat → Nat → Option Nat
  | .mk k s kids lo hi n, lv, d, g =>
    if bareR k s lo hi n = false then none
    else if k = 0 then (if lv ≤ 1 ∧ kids.length = 0 then some g else none)
    else if k = 1 then (if kids.length = 0 then some g else none)
    else if k = 2 ∨ k = 3 then (if lv ≤ 2 ∧ kids.length = 0 then some g else none)
    else if k = 4 then (if lv ≤ 1 ∧ 1 < kids.length then rightL kids 2 d g else none)
    else if k = 5 then (if lv = 0 ∧ 1 < kids.length then rightL kids 1 d g else none)
    else if k = 6 then (if lv ≤ 2 ∧ inR lo hi = true ∧ kids.length = 1 then rightL kids 3 d g else none)
    else if k = 7 then (if n = numG g ∧ d < 64 ∧ kids.length = 1 then rightL kids 0 (d + 1) (g + 1) else none)
    else none
def rightL : List Re → Nat → Nat → Nat → Option Nat
  | [], _, _, g => some g
  | x :: l, lv, d, g => match rightR x lv d g with | none => none | some g' => rightL l lv d g'
end
theorem right_drop (l : List Re) (i : Nat) (h : i < l.length) (lv d g : Nat) : rightL (l.drop i) lv d g = match rightR (l[i]'h) lv d g with | none => none | some g' => rightL (l.drop (i + 1)) lv d g' := by
  rw [List.drop_eq_getElem_cons h, rightL]
mutual
theorem right_le : ∀ (r : Re) (lv d g q : Nat), rightR r lv d g = some q → q ≤ g + nodesR r
  | .mk k s kids lo hi n, lv, d, g, q => by
    intro h
    have ih := rightL_le kids
    unfold nodesR
    unfold rightR at h
    repeat' split at h
    all_goals first
      | cases h; done
      | (injection h with h; omega)
      | (have := ih _ _ _ _ h; omega)
theorem rightL_le : ∀ (l : List Re) (lv d g q : Nat), rightL l lv d g = some q → q ≤ g + nodesL l
  | [], lv, d, g, q => by intro h; rw [rightL] at h; injection h with h; omega
  | x :: l, lv, d, g, q => by
    intro h
    rw [rightL] at h
    unfold nodesL
    cases hx : rightR x lv d g with
    | none => rw [hx] at h; cases h
    | some g' =>
      rw [hx] at h
      have h1 := right_le x lv d g g' hx
      have h2 := rightL_le l lv d g' q h
      omega
end
set_option maxHeartbeats 1600000 in
set_option maxRecDepth 100000 in
theorem bare_c {K : Nat → Prop} (k : Int) (S : Nat) (l : List Re) (lo hi n : Int) (A : Option Addr) (m c : Nat) (w : World) (hS : S < 2 ^ 256) :
    Calls Tryd.prog 66 #[.agg (reC k S A m c lo hi n).toArray] w fun x w' => x = .returned (.bool (bareR k S lo hi n)) ∧ Below w.heap.size w w' := by
  have hset : ∀ W, (Op.equalIn 10000 24 (.agg #[.int .u64 (word S 0), .int .u64 (word S 1), .int .u64 (word S 2), .int .u64 (word S 3)]) (.agg #[.int .u64 0, .int .u64 0, .int .u64 0, .int .u64 0])).run Tryd.prog W = .ok (S == 0) W := fun W => set_same S 0 hS (by decide) W
  clear hS
  go_enter Tryd.func66, Tryd.ntmps66
  unfold bareR
  generalize (S == 0) = bs at *
  go_wp2
  all_goals
    go_ret
    refine ⟨by simp_all, by go_grown⟩
end EreX
end Go.Proofs.YtpdmjegbjcefjaaDoor
namespace Go.Proofs.YtpdmjegbjcefjaaDoor
set_option linter.unusedVariables false
set_option linter.unusedSimpArgs false
open Go.RowKit
namespace EreX
open EreP EreW
abbrev Jdg (w : World) (J g : Nat) : Prop := Blk w J 95 #[.int .i64 (g : Nat)]
/-- What a method of the judge leaves. -/
def JPost (J : Nat) (w : World) (spec : Option Nat) (x : Ending) (w' : World) : Prop :=
  x = .returned (.bool spec.isSome) ∧ Tch (On J) w w' ∧ ∃ g' : Nat, Jdg w' J g' ∧ (∀ q, spec = some q → q = g')
/-- What right does, at such a list's kids. -/
def RightC (K : Nat → Prop) (l : List Re) : Prop := ∀ (i : Nat) (h : i < l.length) (w : World) (cs : List Value) (J lv d g : Nat), Rt w K (l[i]'h) cs → Jdg w J g → (∀ b, K b → b ≠ J) → d ≤ 64 → lv ≤ 3 → g + nodesR (l[i]'h) ≤ 4611686018427387904 →
  Calls Tryd.prog 53 #[pt J, .agg cs.toArray, .int .i64 lv, .int .i64 d] w (JPost J w (rightR (l[i]'h) lv d g))
theorem Tch.bel_ {S : Nat → Prop} {w w' : World} (h : Below w.heap.size w w') : Tch S w w' := Tch.of_below h
set_option maxHeartbeats 1600000 in
theorem kids_c {K : Nat → Prop} {kind : Int} {S : Nat} {lo hi nn : Int} {A : Option Addr} {n c : Nat} (l : List Re) (w : World) (J lv d g : Nat)
    (h : Rt w K (.mk kind S l lo hi nn) (reC kind S A n c lo hi nn)) (hj : Jdg w J g) (hK : ∀ b, K b → b ≠ J) (hd : d ≤ 64) (hlv : lv ≤ 3) (hg : g + nodesL l ≤ 4611686018427387904) (hr : RightC K l) :
    Calls Tryd.prog 67 #[pt J, .slice A n c, .int .i64 lv, .int .i64 d] w (JPost J w (rightL l lv d g)) := by
  obtain rfl := (kid h).1
  obtain ⟨GR, hGR⟩ : ∃ GR, rightL l lv d g = GR := ⟨_, rfl⟩
  have HG := Lib.hid (show rightL (l.drop 0) lv d g = GR from hGR)
  rw [hGR]
  have HRT := Lib.hid h
  have HR := Lib.hid hr
  have HK := Lib.hid hK
  have hln := len_nodes l
  have hJ := hj.lt
  clear hGR h hr hK
  obtain ⟨kl, hkl⟩ : ∃ kl, l.length = kl := ⟨_, rfl⟩
  rw [hkl] at HRT hln ⊢
  go_enter Tryd.func67, Tryd.ntmps67
  go_wp2
  go_loopw [13] (fun v wr => ∃ (i q : Nat), v = .int .i64 i ∧ i ≤ kl ∧ Hid (rightL (l.drop i) lv d q = GR) ∧ q ≤ g + nodesL (l.take i) ∧ Jdg wr J q ∧ Tch (On J) w wr) (fun v _ => kl - (intOf v).toNat)
  case atStart => exact ⟨0, g, rfl, by omega, HG, Nat.le_add_right _ _, hj, Tch.refl _ _⟩
  case round =>
    obtain ⟨i, q, rfl, hi, hq, hqg, hjr, hT⟩ := hrel
    have zT := hT.size
    by_cases hlt : i < kl
    · have HRr := Lib.hid (HRT.out.tch hT (fun b hb e => HK.out b hb e))
      obtain ⟨g0, o, rfl, hg0, A2, c2, hk, hc⟩ := (kid HRr.out).2 i (by omega)
      have fk0 := hc 0 _ rfl
      have fk1 := hc 1 _ rfl
      have fk2 := hc 2 _ rfl
      have fk3 := hc 3 _ rfl
      have fk4 := hc 4 _ rfl
      have fk5 := hc 5 _ rfl
      have fk6 := hc 6 _ rfl
      have fk7 := hc 7 _ rfl
      have fk8 := hc 8 _ rfl
      simp only [Nat.add_zero] at fk0
      clear hc
      have hnk := nodes_kid l i (by omega)
      have htk := nodes_take l i (by omega)
      have hdr := right_drop l i (by omega) lv d q
      rw [hq.out] at hdr
      have ci := HR.out i (by omega) (wr.alloc (.cells (reC (l[i]'(by omega)).kind (l[i]'(by omega)).set A2 (l[i]'(by omega)).kids.length c2 (l[i]'(by omega)).lo (l[i]'(by omega)).hi (l[i]'(by omega)).n).toArray 27)) _ J lv d q (hk.bel ((Below.refl _ _).alloc (Nat.le_refl _) _)) (hjr.alloc _) HK.out hd hlv (by omega)
      have hle := right_le (l[i]'(by omega)) lv d q
      obtain ⟨x, hx⟩ : ∃ x, l[i]'(by omega) = x := ⟨_, rfl⟩
      rw [hx] at fk0 fk1 fk2 fk3 fk4 fk5 fk6 fk7 fk8 hk hnk htk hdr hle
      simp only [hx] at ci
      clear hk hg0 hx
      generalize x.kind = k0 at *
      generalize x.set = k1 at *
      generalize x.kids.length = k2 at *
      generalize x.lo = k3 at *
      generalize x.hi = k4 at *
      generalize x.n = k5 at *
      cases hs : rightR x lv d q with
      | none =>
        rw [hs] at hdr ci
        have hz : GR = none := hdr
        subst hz
        clear hdr hle htk
        go_wp2_with fail
        (with_reducible refine ci.mono ?_)
        rintro e w2 ⟨rfl, ht, g', hj2, hq2⟩
        have T2 : Tch (On J) w w2 := (hT.alloc _).trans ht
        clear ht ci
        go_wp2
        go_ret
        exact ⟨rfl, T2, g', hj2, fun q h => by cases h⟩
      | some q2 =>
        rw [hs] at hdr ci
        have HD := Lib.hid (show rightL (l.drop (i + 1)) lv d q2 = GR from hdr.symm)
        have hle2 := hle q2 hs
        clear hdr hle hs
        have hq3 : q2 ≤ g + nodesL (l.take (i + 1)) := by omega
        clear htk
        go_wp2_with fail
        (with_reducible refine ci.mono ?_)
        rintro e w2 ⟨rfl, ht, g', hj2, hq2⟩
        have T2 : Tch (On J) w w2 := (hT.alloc _).trans ht
        have hqe := hq2 q2 rfl
        subst hqe
        clear ht ci hq2
        go_wp2
        go_roundw
        case rel => exact ⟨i + 1, q2, by go_num, by omega, HD, hq3, hj2, T2⟩
        case measure => simp [intOf]; omega
    · have hi2 : i = kl := by omega
      subst hi2
      have hz : GR = some q := by
        rw [← hq.out, List.drop_of_length_le (by omega)]; rfl
      subst hz
      clear hq
      go_wp2
      go_ret
      exact ⟨rfl, hT, q, hjr, fun q h => by injection h with h; exact h.symm⟩
end EreX
end Go.Proofs.YtpdmjegbjcefjaaDoor
