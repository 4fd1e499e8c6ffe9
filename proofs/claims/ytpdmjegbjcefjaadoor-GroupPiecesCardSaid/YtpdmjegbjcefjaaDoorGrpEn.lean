/- The first way: the walk of first. Conditions: trees that may be walked, texts that fit, a way that is there. -/
import Derived.Test.YtpdmjegbjcefjaaDoorGrpCd
import Derived.Test.YtpdmjegbjcefjaaDoorRow
namespace Go.Proofs.YtpdmjegbjcefjaaDoor
set_option linter.unusedVariables false
set_option linter.unusedSimpArgs false
open Go.RowKit
namespace GrpW
open EreP EreW EreX GrpP GrpS
section
variable (l : Bs) (S : Nat) (kids : List Re) (lo hi nn : Int) (a : Nat) (tm : List Bool) (cu : Cuts)
theorem ft1 : firstS l (.mk 1 S kids lo hi nn) a tm cu = (a + 1, cu) := by rw [firstS]; rfl
theorem ft4 : firstS l (.mk 4 S kids lo hi nn) a tm cu = fcatS l kids a tm cu := by rw [firstS]; rfl
theorem ft5 : firstS l (.mk 5 S kids lo hi nn) a tm cu = faltS l kids a tm cu := by rw [firstS]; rfl
theorem ft6 : firstS l (.mk 6 S kids lo hi nn) a tm cu = againS (headS l kids) (fheadS l kids) l.length (l.length + 10) lo hi a tm cu := by rw [firstS]; rfl
theorem ft7 : firstS l (.mk 7 S kids lo hi nn) a tm cu = ((fheadS l kids a tm cu).1, if 0 < nn then (fheadS l kids a tm cu).2.set nn.toNat (a, (fheadS l kids a tm cu).1) else (fheadS l kids a tm cu).2) := by rw [firstS]; rfl
theorem ft8 (k : Int) (h : k ≠ 1 ∧ k ≠ 4 ∧ k ≠ 5 ∧ k ≠ 6 ∧ k ≠ 7) : firstS l (.mk k S kids lo hi nn) a tm cu = (a, cu) := by
  rw [firstS]; dsimp only; rw [if_neg h.1, if_neg h.2.1, if_neg h.2.2.1, if_neg h.2.2.2.1, if_neg h.2.2.2.2]
end
theorem fcat_drop (l : Bs) (kids : List Re) (j : Nat) (h : j < kids.length) (a : Nat) (tm : List Bool) (cu : Cuts) :
    fcatS l (kids.drop j) a tm cu = fcatS l (kids.drop (j + 1)) (firstS l (kids[j]'h) a (catS l (kids.drop (j + 1)) tm) cu).1 tm (firstS l (kids[j]'h) a (catS l (kids.drop (j + 1)) tm) cu).2 := by
  rw [List.drop_eq_getElem_cons h, fcatS]
theorem falt_drop (l : Bs) (kids : List Re) (j : Nat) (h : j < kids.length) (a : Nat) (tm : List Bool) (cu : Cuts) :
    faltS l (kids.drop j) a tm cu = if (backS l (kids[j]'h) tm).getD a false = true then firstS l (kids[j]'h) a tm cu else faltS l (kids.drop (j + 1)) a tm cu := by
  rw [List.drop_eq_getElem_cons h, faltS]
theorem cutV_get : ∀ (cu : Cuts) (m : Nat) (h : m < cu.length), (cutV cu)[2 * m]? = some (.int .i64 (cu[m]'h).1) ∧ (cutV cu)[2 * m + 1]? = some (.int .i64 (cu[m]'h).2)
  | [], m, h => by cases h
  | p :: cu, 0, h => by simp [cutV]
  | p :: cu, m + 1, h => by
    have := cutV_get cu m (by simpa using h)
    rw [show 2 * (m + 1) = 2 * m + 1 + 1 by omega]
    simpa [cutV] using this
theorem cutV_set : ∀ (cu : Cuts) (m : Nat) (p q : Int), m < cu.length → ((cutV cu).set (2 * m) (.int .i64 p)).set (2 * m + 1) (.int .i64 q) = cutV (cu.set m (p, q))
  | [], m, _, _, h => by cases h
  | x :: cu, 0, p, q, h => by simp [cutV]
  | x :: cu, m + 1, p, q, h => by
    have := cutV_set cu m p q (by simpa using h)
    rw [show 2 * (m + 1) = 2 * m + 1 + 1 by omega]
    simpa [cutV] using this
theorem way_set (s : ByteArray) (cu : Cuts) (m : Nat) (p q : Int) (h : m < cu.length) : ((wayV s cu).setIfInBounds (1 + m * 2) (.int .i64 p)).setIfInBounds (1 + m * 2 + 1) (.int .i64 q) = wayV s (cu.set m (p, q)) := by
  unfold wayV
  rw [List.setIfInBounds_toArray, List.setIfInBounds_toArray, show 1 + m * 2 = 2 * m + 1 by omega, List.set_cons_succ, List.set_cons_succ, cutV_set cu m p q h]
theorem way_get (s : ByteArray) (cu : Cuts) (m : Nat) (h : m < cu.length) : (wayV s cu)[1 + m * 2]? = some (.int .i64 (cu[m]'h).1) ∧ (wayV s cu)[1 + m * 2 + 1]? = some (.int .i64 (cu[m]'h).2) := by
  have := cutV_get cu m h
  rw [show 1 + m * 2 = 2 * m + 1 by omega]
  simpa [wayV] using this
theorem nodes_drop : ∀ (l : List Re) (j : Nat), nodesL (l.drop j) ≤ nodesL l
  | [], j => by simp
  | x :: l, 0 => by simp
  | x :: l, j + 1 => by have := nodes_drop l j; simp [nodesL]; omega
theorem rt_cap {w : World} {K : Nat → Prop} {kind : Int} {S : Nat} {kids : List Re} {lo hi nn : Int} {A : Option Addr} {m c : Nat} (h : Rt w K (.mk kind S kids lo hi nn) (reC kind S A m c lo hi nn)) : kids.length ≤ c := by
  generalize hr : Re.mk kind S kids lo hi nn = r at h
  generalize hcs : reC kind S A m c lo hi nn = cs at h
  cases h with
  | mk kind' S' kids' lo' hi' nn' A2 c2 css hS hk hA hcap =>
    injection hr with e1 e2 e3 e4 e5 e6
    subst e1 e2 e3 e4 e5 e6
    simp only [List.cons.injEq, Value.slice.injEq, true_and, and_true] at hcs
    obtain ⟨rfl, rfl, rfl⟩ := hcs
    exact hcap
/-- What is left of the kids, as a concatenation. -/
theorem rt_drop {w : World} {K : Nat → Prop} {kind : Int} {S : Nat} {kids : List Re} {lo hi nn : Int} {g o m c : Nat} (h : Rt w K (.mk kind S kids lo hi nn) (reC kind S (some ⟨g, o, none⟩) m c lo hi nn)) (j : Nat) (A' : Option Addr) (c' : Nat) (hA' : j < kids.length → A' = some ⟨g, o + j * 9, none⟩) (hc' : kids.length - j ≤ c') :
    Rt w K (.mk 4 0 (kids.drop j) 0 0 0) (reC 4 0 A' (kids.length - j) c' 0 0 0) := by
  generalize hr : Re.mk kind S kids lo hi nn = r at h
  generalize hcs : reC kind S (some ⟨g, o, none⟩) m c lo hi nn = cs at h
  cases h with
  | mk kind' S' kids' lo' hi' nn' A2 c2 css hS hk hA hcap =>
    injection hr with e1 e2 e3 e4 e5 e6
    subst e1 e2 e3 e4 e5 e6
    simp only [List.cons.injEq, Value.slice.injEq, true_and, and_true] at hcs
    obtain ⟨rfl, rfl, rfl⟩ := hcs
    have e : kids.length - j = (kids.drop j).length := by simp
    rw [e]
    refine .mk 4 0 (kids.drop j) 0 0 0 A' c' (fun i => css (j + i)) (by decide) (fun i hi => ?_) (fun hn => ?_) (by rw [← e]; exact hc')
    · rw [List.getElem_drop]; exact hk (j + i) (by simp at hi; omega)
    · simp at hn
      obtain ⟨g', o', e', hg, hc⟩ := hA (by omega)
      injection e' with e'
      injection e' with e1 e2
      subst e1 e2
      refine ⟨g, o + j * 9, hA' (by omega), hg, fun i hi x u hu => ?_⟩
      have := hc (j + i) (by simp at hi; omega) x u hu
      rw [show o + j * 9 + i * 9 + x = o + (j + i) * 9 + x by omega]
      exact this
set_option maxRecDepth 100000 in
set_option maxHeartbeats 3200000 in
theorem first_c : ∀ N, N ≤ 4611686018427387904 → FirstC N := by
  intro N
  induction N with
  | zero => intro _ r hr; cases r; simp [nodesR] at hr
  | succ N ih =>
    intro hNB r hr hw Wy w cs h s cu hy hs a ha gt tm hm hto hon
    obtain ⟨A, c, rfl, hS, hnil⟩ := h.shape
    obtain ⟨k, S, kids, lo, hi, nn⟩ := r
    simp only [Re.kind, Re.set, Re.kids, Re.lo, Re.hi, Re.n] at h hS hnil ⊢
    have hr2 : nodesL kids ≤ N := by simp [nodesR] at hr; omega
    have HLE := Lib.hid (fun i (hi' : i < kids.length) => Nat.le_trans (by have := nodes_kid kids i hi'; omega : nodesR (kids[i]'hi') ≤ nodesL kids) hr2)
    have hln := Nat.le_trans (len_nodes kids) hr2
    have HNL := Lib.hid hr2
    clear hr hr2
    have HW := Lib.hid hw
    have HKW := Lib.hid (fun i (hi' : i < kids.length) => wfL_mem (by rw [wfR] at hw; exact hw.2.2) (kids[i]'hi') (List.getElem_mem hi'))
    have HWL := Lib.hid (show wfL kids by rw [wfR] at hw; exact hw.2.2)
    have HH := Lib.hid h
    have HON := Lib.hid hon
    have HFO := Lib.hid (fun a tm cu' => first_ok (bsS s) _ hw a tm cu')
    have hgw := mks_ne hy hm
    have hwl := hy.lt
    have hgl := hm.lt
    obtain ⟨kl, hkl⟩ : ∃ kl, kids.length = kl := ⟨_, rfl⟩
    rw [hkl]
    obtain ⟨wa, hwa⟩ : ∃ z : World, z = w.alloc (.cells (reC k S A kl c lo hi nn).toArray 27) := ⟨_, rfl⟩
    have xa : Blk wa w.heap.size 27 (reC k S A kl c lo hi nn).toArray := by rw [hwa]; exact Blk.new _ _ _
    have ba : Below w.heap.size w wa := by rw [hwa]; go_grown
    have ya := hy.next ba
    have ta : Tch (· = Wy) w wa := Tch.of_below ba
    have HM := Lib.hid hm
    have HTO := Lib.hid hto
    have HBA := Lib.hid ba
    clear hy hm hto hw h hnil hS hon ba
    go_enter Tryd.func26, Tryd.ntmps26
    obtain ⟨R, hR⟩ : ∃ R, firstS (bsS s) (.mk k S kids lo hi nn) a tm cu = R := ⟨_, rfl⟩
    rw [hR]
    have HR := Lib.hid hR
    clear hR
    by_cases h1 : k = 1
    · subst h1
      have HB := Lib.hid (HR.out.symm.trans (ft1 (bsS s) S kids lo hi nn a tm cu))
      rw [HB.out]
      clear HW HKW HLE HFO ih HR
      rw [hwa] at ya ta
      go_wp2_with fail
      go_ret
      exact ⟨by go_num, ya, ta⟩
    by_cases h4 : k = 4
    · subst h4
      have hkn : kl ≤ 4611686018427387904 := by omega
      have HST := Lib.hid (show fcatS (bsS s) (kids.drop 0) a tm cu = R by rw [List.drop_zero, ← HR.out, ft4])
      have HONS : Hid (On (catS (bsS s) (kids.drop 0) tm) a) := Lib.hid (by have := HON.out; rw [back_4] at this; rw [List.drop_zero]; exact this)
      have HCL := Lib.hid (fun j => (cat_step (bsS s) (kids.drop j) (wfL_drop j HWL.out)).len tm HTO.out)
      have p0 := xa.cell 0
      have p5 := xa.cell 5
      simp only [List.getElem?_toArray, List.getElem?_cons_zero, List.getElem?_cons_succ] at p0 p5
      rw [hwa] at p0 p5
      clear HW HR
      go_wp2_with fail
      rw [← hwa]
      clear hwa p0 p5
      go_loopw [2, 25] (fun av iv wr => ∃ (i a1 : Nat) (cu1 : Cuts), av = .int .i64 a1 ∧ iv = .int .i64 i ∧ i ≤ kl ∧ a1 ≤ s.size ∧ Hid (fcatS (bsS s) (kids.drop i) a1 tm cu1 = R) ∧ Hid (On (catS (bsS s) (kids.drop i) tm) a1) ∧ Blk wr w.heap.size 27 (reC 4 S A kl c lo hi nn).toArray ∧ Wyc wr Wy s cu1 ∧ Tch (· = Wy) w wr) (fun _ iv _ => kl - (intOf iv).toNat)
      case atStart => exact ⟨0, a, cu, rfl, rfl, by omega, ha, HST, HONS, xa, ya, ta⟩
      case round =>
        clear xa ya ta HST HONS HON
        obtain ⟨i, a1, cu1, rfl, rfl, hi', ha1, hq, hq2, xr, yr, tr⟩ := hrel
        by_cases hlt : i < kl
        · obtain ⟨kg, ko, A2, c2, k0, k1, k2, k3, k4, k5, rfl, hkid⟩ := kidT (S' := (· = Wy)) HH.out (fun b hb e => hb e) i (by omega)
          have hc := (hkid wr tr).2
          have fk0 := hc 0 _ rfl
          have fk1 := hc 1 _ rfl
          have fk2 := hc 2 _ rfl
          have fk3 := hc 3 _ rfl
          have fk4 := hc 4 _ rfl
          have fk5 := hc 5 _ rfl
          have fk6 := hc 6 _ rfl
          have fk7 := hc 7 _ rfl
          have fk8 := hc 8 _ rfl
          simp only [Nat.zero_mul, Nat.add_zero] at fk0

          have tb : Tch (· = Wy) w (wr.alloc (.cells (reC k0 k1 A2 k2 c2 k3 k4 k5).toArray 27)) := tr.alloc _
          have yb := yr.next (w' := wr.alloc (.cells (reC k0 k1 A2 k2 c2 k3 k4 k5).toArray 27)) (by go_grown)
          have xb := xr.alloc (.cells (reC k0 k1 A2 k2 c2 k3 k4 k5).toArray 27)
          have nb : Blk (wr.alloc (.cells (reC k0 k1 A2 k2 c2 k3 k4 k5).toArray 27)) wr.heap.size 27 (reC k0 k1 A2 k2 c2 k3 k4 k5).toArray := Blk.new _ _ _
          have ihN : FirstC N := ih (by omega)
          have hdr := fcat_drop (bsS s) kids i (by omega) a1 tm cu1
          rw [hq.out] at hdr
          have HDR := Lib.hid hdr
          have hon2 := hq2.out
          rw [cat_drop (bsS s) kids i (by omega)] at hon2
          have hfo := first_ok (bsS s) (kids[i]'(by omega)) (HKW.out i (by omega)) a1 (catS (bsS s) (kids.drop (i + 1)) tm) cu1 ha1 (HCL.out (i + 1)) hon2
          have HFE := Lib.hid (And.intro hfo.en hfo.on)
          have HON2 := Lib.hid hon2
          have p5 := xr.cell 5
          simp only [List.getElem?_toArray, List.getElem?_cons_zero, List.getElem?_cons_succ] at p5
          have szr := tr.size
          have hwl5 := nb.lt
          have hsl : (kids.drop (i + 1)).length = kl - (i + 1) := by simp [hkl]
          clear hc hq hq2 hdr hfo hon2 xr yr tr
          go_upto_region 8 with fail
          obtain ⟨W0, hW0⟩ : ∃ z : World, wr.alloc (.cells (reC k0 k1 A2 k2 c2 k3 k4 k5).toArray 27) = z := ⟨_, rfl⟩
          rw [hW0] at tb yb xb nb ⊢
          clear fk0 fk1 fk2 fk3 fk4 fk5 fk6 fk7 fk8 p5
          have q0 := nb.cell 0
          have q1 := nb.cell 1
          have q2 := nb.cell 2
          have q3 := nb.cell 3
          have q4 := nb.cell 4
          have q5 := nb.cell 5
          have q6 := nb.cell 6
          have q7 := nb.cell 7
          have q8 := nb.cell 8
          simp only [List.getElem?_toArray, List.getElem?_cons_zero, List.getElem?_cons_succ] at q0 q1 q2 q3 q4 q5 q6 q7 q8
          have p5 := xb.cell 5
          simp only [List.getElem?_toArray, List.getElem?_cons_zero, List.getElem?_cons_succ] at p5

          obtain ⟨B, hB⟩ : ∃ B, wr.heap.size = B := ⟨_, rfl⟩
          rw [hB] at q0 q1 q2 q3 q4 q5 q6 q7 q8 nb hwl5
          have e37 : IntKind.i64.wrap ((i : Int) + 1) = (i : Int) + 1 := IntWalk.i64_in _ (by omega)
          refine wp_region_held (S := fun W => (W.cell? ⟨B, 0, none⟩ = some (.int .i64 k0) ∧ W.cell? ⟨B, 1, none⟩ = some (.int .u64 (word k1 0 : Nat)) ∧ W.cell? ⟨B, 2, none⟩ = some (.int .u64 (word k1 1 : Nat)) ∧ W.cell? ⟨B, 3, none⟩ = some (.int .u64 (word k1 2 : Nat)) ∧ W.cell? ⟨B, 4, none⟩ = some (.int .u64 (word k1 3 : Nat)) ∧ W.cell? ⟨B, 5, none⟩ = some (.slice A2 k2 c2) ∧ W.cell? ⟨B, 6, none⟩ = some (.int .i64 k3) ∧ W.cell? ⟨B, 7, none⟩ = some (.int .i64 k4) ∧ W.cell? ⟨B, 8, none⟩ = some (.int .i64 k5)) ∧ W.cell? ⟨w.heap.size, 5, none⟩ = some (.slice (some ⟨kg, ko, none⟩) kl c)) (by kernel_rfl) ?_
          have hHeld := And.intro (And.intro q0 (And.intro q1 (And.intro q2 (And.intro q3 (And.intro q4 (And.intro q5 (And.intro q6 (And.intro q7 q8)))))))) p5
          clear q0 q1 q2 q3 q4 q5 q6 q7 q8 p5
          rw [hB]
          have hcap := rt_cap HH.out
          rw [hkl] at hcap
          have hin : (0 : Int) ≤ (i : Int) + 1 ∧ (i : Int) + 1 ≤ (kl : Int) := by omega
          refine Rnd.take 0 (v := ?v0) rfl (by rfl) (by kernel_rfl) (by kernel_rfl) (by kernel_rfl) (fun _ _ _ h => h) (Or.inl ⟨by rfl, ?h0⟩) (by assumption) ?_
          case h0 =>
            intro w hSw
            try dsimp only at hSw
            go_simp
            all_goals (with_reducible rfl)
          try simp only [List.setIfInBounds_toArray, List.set_cons_zero, List.set_cons_succ]
          refine Rnd.take 1 (v := ?v1) rfl (by rfl) (by kernel_rfl) (by kernel_rfl) (by kernel_rfl) (fun _ _ _ h => h) (Or.inl ⟨by rfl, ?h1⟩) (by assumption) ?_
          case h1 =>
            intro w hSw
            try dsimp only at hSw
            go_simp
            all_goals (with_reducible rfl)
          try simp only [List.setIfInBounds_toArray, List.set_cons_zero, List.set_cons_succ]
          refine Rnd.take 2 (v := ?v2) rfl (by rfl) (by kernel_rfl) (by kernel_rfl) (by kernel_rfl) (fun _ _ _ h => h) (Or.inl ⟨by rfl, ?h2⟩) (by assumption) ?_
          case h2 =>
            intro w hSw
            try dsimp only at hSw
            go_simp
            all_goals (with_reducible rfl)
          try simp only [List.setIfInBounds_toArray, List.set_cons_zero, List.set_cons_succ]
          refine Rnd.take 3 (v := ?v3) rfl (by rfl) (by kernel_rfl) (by kernel_rfl) (by kernel_rfl) (fun _ _ _ h => h) (Or.inl ⟨by rfl, ?h3⟩) (by assumption) ?_
          case h3 =>
            intro w hSw
            try dsimp only at hSw
            go_simp
            all_goals (with_reducible rfl)
          try simp only [List.setIfInBounds_toArray, List.set_cons_zero, List.set_cons_succ]
          refine Rnd.take 4 (v := ?v4) rfl (by rfl) (by kernel_rfl) (by kernel_rfl) (by kernel_rfl) (fun _ _ _ h => h) (Or.inl ⟨by rfl, ?h4⟩) (by assumption) ?_
          case h4 =>
            intro w hSw
            try dsimp only at hSw
            go_simp
            all_goals (with_reducible rfl)
          try simp only [List.setIfInBounds_toArray, List.set_cons_zero, List.set_cons_succ]
          refine Rnd.take 5 (v := ?v5) rfl (by rfl) (by kernel_rfl) (by kernel_rfl) (by kernel_rfl) (fun _ _ _ h => h) (Or.inl ⟨by rfl, ?h5⟩) (by assumption) ?_
          case h5 =>
            intro w hSw
            try dsimp only at hSw
            go_simp
            all_goals (with_reducible rfl)
          try simp only [List.setIfInBounds_toArray, List.set_cons_zero, List.set_cons_succ]
          refine Rnd.take 6 (v := ?v6) rfl (by rfl) (by kernel_rfl) (by kernel_rfl) (by kernel_rfl) (fun _ _ _ h => h) (Or.inl ⟨by rfl, ?h6⟩) (by assumption) ?_
          case h6 =>
            intro w hSw
            try dsimp only at hSw
            go_simp
            all_goals (with_reducible rfl)
          try simp only [List.setIfInBounds_toArray, List.set_cons_zero, List.set_cons_succ]
          refine Rnd.take 7 (v := ?v7) rfl (by rfl) (by kernel_rfl) (by kernel_rfl) (by kernel_rfl) (fun _ _ _ h => h) (Or.inl ⟨by rfl, ?h7⟩) (by assumption) ?_
          case h7 =>
            intro w hSw
            try dsimp only at hSw
            go_simp
            all_goals (with_reducible rfl)
          try simp only [List.setIfInBounds_toArray, List.set_cons_zero, List.set_cons_succ]

          refine Rnd.take 8 (v := .slice (if c = i + 1 then some ⟨kg, ko, none⟩ else some ⟨kg, ko + (i + 1) * 9, none⟩) (kl - (i + 1)) (c - (i + 1))) rfl (by rfl) (by kernel_rfl) (by kernel_rfl) (by kernel_rfl) (fun _ _ _ h => h) (Or.inl ⟨by rfl, ?h8⟩) (by assumption) ?_
          case h8 =>
            intro w hSw
            try dsimp only at hSw
            go_simp
          try simp only [List.setIfInBounds_toArray, List.set_cons_zero, List.set_cons_succ]
          have hAk : ∀ A' : Option Addr, (if c = i + 1 then some ⟨kg, ko, none⟩ else some ⟨kg, ko + (i + 1) * 9, none⟩ : Option Addr) = A' → (i + 1 < kids.length → A' = some ⟨kg, ko + (i + 1) * 9, none⟩) := fun A' h hl => by rw [← h, if_neg (by omega)]
          obtain ⟨A', hA'⟩ : ∃ A', (if c = i + 1 then some ⟨kg, ko, none⟩ else some ⟨kg, ko + (i + 1) * 9, none⟩ : Option Addr) = A' := ⟨_, rfl⟩
          rw [hA']
          have hAk' := hAk A' hA'
          clear hAk hA'
          refine Rnd.take 9 (v := ?v9) rfl (by rfl) (by kernel_rfl) (by kernel_rfl) (by kernel_rfl) (fun _ _ _ h => h) (Or.inl ⟨by rfl, ?h9⟩) (by assumption) ?_
          case h9 =>
            intro w hSw
            try dsimp only at hSw
            go_simp
            all_goals (with_reducible rfl)
          try simp only [List.setIfInBounds_toArray, List.set_cons_zero, List.set_cons_succ]
          refine Rnd.take 10 (v := ?v10) rfl (by rfl) (by kernel_rfl) (by kernel_rfl) (by kernel_rfl) (fun _ _ _ h => h) (Or.inl ⟨by rfl, ?h10⟩) (by assumption) ?_
          case h10 =>
            intro w hSw
            try dsimp only at hSw
            go_simp
            all_goals (with_reducible rfl)
          try simp only [List.setIfInBounds_toArray, List.set_cons_zero, List.set_cons_succ]

          have t1 : Tch (· = Wy) w { W0 with drawn := W0.drawn + 1 } := ⟨tb.os, tb.tape, tb.output, tb.size, tb.block⟩
          have y1 : Wyc { W0 with drawn := W0.drawn + 1 } Wy s cu1 := ⟨yb.blk, yb.len⟩
          have x1 : Blk { W0 with drawn := W0.drawn + 1 } w.heap.size 27 (reC 4 S (some ⟨kg, ko, none⟩) kl c lo hi nn).toArray := xb
          have n1 : Blk { W0 with drawn := W0.drawn + 1 } B 27 (reC k0 k1 A2 k2 c2 k3 k4 k5).toArray := nb
          have hnd : nodesR (.mk 4 0 (kids.drop (i + 1)) 0 0 0) ≤ N + 1 := by
            rw [nodesR]
            have h1 := HNL.out
            have h2 := nodes_drop kids (i + 1)
            omega
          have hwf : wfR (.mk 4 0 (kids.drop (i + 1)) 0 0 0) := by
            rw [wfR]; exact ⟨fun h => absurd h (by decide), fun h => absurd h (by decide), wfL_drop (i + 1) HWL.out⟩
          have c5 : Calls Tryd.prog 25 #[.pointer (some ⟨Wy, 0, none⟩), .agg #[.int .i64 4, .int .u64 0, .int .u64 0, .int .u64 0, .int .u64 0, .slice A' (kids.length - (i + 1)) (c - (i + 1)), .int .i64 0, .int .i64 0, .int .i64 0], mkV gt s.size] { W0 with drawn := W0.drawn + 1 } (BackPost s.size (backS (bsS s) (.mk 4 0 (kids.drop (i + 1)) 0 0 0) tm) { W0 with drawn := W0.drawn + 1 }) :=
            back_c (N + 1) hNB (.mk 4 0 (kids.drop (i + 1)) 0 0 0) hnd hwf (· ≠ Wy) _ _ (rt_drop (HH.out.tch t1 (fun b hb e => hb e)) (i + 1) A' (c - (i + 1)) hAk' (by omega)) Wy s y1.wyr hs gt tm (HM.out.tch t1 hgw) HTO.out
          rw [bk4, hkl] at c5
          have HIHN := Lib.hid ihN
          clear ihN tb yb xb nb hnd hwf hAk' hcap hin e37 hHeld
          refine wpAnyH_ready (rs := [11]) (by kernel_rfl) (by simp) ?_
          refine AllReadyH.cons (o := _) rfl (fun K' hK => ?_) AllReadyH.nil
          go_simp
          go_at_call 25
          refine c5.mono ?_
          clear c5
          rintro e w5 ⟨g2, rfl, hg2, m5, b5⟩
          dsimp only
          have N5 := n1.next b5
          have X5 := x1.next b5
          have Y5 := y1.next b5
          have T5 := t1.trans (Tch.of_below b5)
          refine hK.out _ _ ⟨⟨N5.cell 0, N5.cell 1, N5.cell 2, N5.cell 3, N5.cell 4, N5.cell 5, N5.cell 6, N5.cell 7, N5.cell 8⟩, X5.cell 5⟩ (fun hHeld2 => ?_)
          clear hK K' t1 y1 x1 n1 b5
          have c6 := HIHN.out (kids[i]'(by omega)) (HLE.out i (by omega)) (HKW.out i (by omega)) Wy w5 _ (hkid w5 T5).1 s cu1 Y5 hs a1 ha1 g2 _ m5 (HCL.out (i + 1)) HON2.out
          unfold FirstPost at c6
          have hd := HDR.out
          have hfe := HFE.out
          generalize firstS (bsS s) (kids[i]'(by omega)) a1 (catS (bsS s) (kids.drop (i + 1)) tm) cu1 = FS at *
          have HD := Lib.hid hd.symm
          have HE := Lib.hid hfe.2
          have hen : FS.1 ≤ s.size := hfe.1
          clear hd hfe hkid m5
          refine wpAnyH_ready (rs := [12]) (by kernel_rfl) (by simp) ?_
          refine AllReadyH.cons (o := _) rfl (fun K' hK => ?_) AllReadyH.nil
          go_simp
          go_at_call 26
          refine c6.mono ?_
          clear c6
          rintro e w6 ⟨rfl, Y6, t6⟩
          dsimp only
          have hBn : B ≠ Wy := box_ne Y5 N5
          have hbn : w.heap.size ≠ Wy := by omega
          have N6 := N5.tch t6 hBn
          have X6 := X5.tch t6 hbn
          have T6 := T5.trans t6
          refine hK.out _ _ ⟨⟨N6.cell 0, N6.cell 1, N6.cell 2, N6.cell 3, N6.cell 4, N6.cell 5, N6.cell 6, N6.cell 7, N6.cell 8⟩, X6.cell 5⟩ (fun hHeld => ?_)
          clear hK K' hHeld2 N5 X5 Y5 T5 t6
          refine Rnd.take 13 (v := ?v13) rfl (by rfl) (by kernel_rfl) (by kernel_rfl) (by kernel_rfl) (fun _ _ _ h => h) (Or.inl ⟨by rfl, ?h13⟩) (by assumption) ?_
          case h13 =>
            intro w hSw
            try dsimp only at hSw
            go_simp
            all_goals (with_reducible rfl)
          try simp only [List.setIfInBounds_toArray, List.set_cons_zero, List.set_cons_succ]

          refine wpAnyH_done (by kernel_rfl) ?_ _
          clear hHeld N6
          go_wp2_with fail
          go_roundw
          case rel => exact ⟨i + 1, FS.1, FS.2, rfl, by go_num, by omega, hen, HD, HE, X6, Y6, T6⟩
          case measure => simp [intOf]; omega
        · have hik : i = kl := by omega
          subst hik
          have hd := hq.out
          rw [List.drop_eq_nil_of_le (by omega), fcatS] at hd
          have HD := Lib.hid hd
          clear hq hd
          go_wp2_with fail
          go_ret
          rw [← HD.out]
          exact ⟨rfl, yr, tr⟩
    by_cases h5 : k = 5
    · subst h5
      have hkn : kl ≤ 4611686018427387904 := by omega
      have HST := Lib.hid (show faltS (bsS s) (kids.drop 0) a tm cu = R by rw [List.drop_zero, ← HR.out, ft5])
      have HLL := Lib.hid (fun j (hj : j < kids.length) => (back_step (bsS s) (kids[j]'hj) (HKW.out j hj)).len tm HTO.out)
      have p0 := xa.cell 0
      have p5 := xa.cell 5
      simp only [List.getElem?_toArray, List.getElem?_cons_zero, List.getElem?_cons_succ] at p0 p5
      rw [hwa] at p0 p5
      clear HW HR
      go_wp2_with fail
      rw [← hwa]
      clear hwa p0 p5
      go_loopw [49] (fun iv wr => ∃ (i : Nat), iv = .int .i64 i ∧ i ≤ kl ∧ Hid (faltS (bsS s) (kids.drop i) a tm cu = R) ∧ Blk wr w.heap.size 27 (reC 5 S A kl c lo hi nn).toArray ∧ Wyc wr Wy s cu ∧ Tch (· = Wy) w wr) (fun iv _ => kl - (intOf iv).toNat)
      case atStart => exact ⟨0, rfl, by omega, HST, xa, ya, ta⟩
      case round =>
        clear xa ya ta HST
        obtain ⟨i, rfl, hi', hq, xr, yr, tr⟩ := hrel
        by_cases hlt : i < kl
        · obtain ⟨kg, ko, A2, c2, k0, k1, k2, k3, k4, k5, rfl, hkid⟩ := kidT (S' := (· = Wy)) HH.out (fun b hb e => hb e) i (by omega)
          have hc := (hkid wr tr).2
          have fk0 := hc 0 _ rfl
          have fk1 := hc 1 _ rfl
          have fk2 := hc 2 _ rfl
          have fk3 := hc 3 _ rfl
          have fk4 := hc 4 _ rfl
          have fk5 := hc 5 _ rfl
          have fk6 := hc 6 _ rfl
          have fk7 := hc 7 _ rfl
          have fk8 := hc 8 _ rfl
          simp only [Nat.zero_mul, Nat.add_zero] at fk0

          have tb : Tch (· = Wy) w (wr.alloc (.cells (reC k0 k1 A2 k2 c2 k3 k4 k5).toArray 27)) := tr.alloc _
          have yb := yr.next (w' := wr.alloc (.cells (reC k0 k1 A2 k2 c2 k3 k4 k5).toArray 27)) (by go_grown)
          have xb := xr.alloc (.cells (reC k0 k1 A2 k2 c2 k3 k4 k5).toArray 27)
          have nb : Blk (wr.alloc (.cells (reC k0 k1 A2 k2 c2 k3 k4 k5).toArray 27)) wr.heap.size 27 (reC k0 k1 A2 k2 c2 k3 k4 k5).toArray := Blk.new _ _ _
          have c5 := back_c N (by omega) (kids[i]'(by omega)) (HLE.out i (by omega)) (HKW.out i (by omega)) (· ≠ Wy) (wr.alloc (.cells (reC k0 k1 A2 k2 c2 k3 k4 k5).toArray 27)) _ (hkid _ tb).1 Wy s yb.wyr hs gt tm (HM.out.tch tb hgw) HTO.out
          have hLL := HLL.out i (by omega)
          have ihN : FirstC N := ih (by omega)
          have c6 := fun W (hW : Tch (· = Wy) w W) (hy' : Wyc W Wy s cu) (hon' : On (backS (bsS s) (kids[i]'(by omega)) tm) a) => ihN (kids[i]'(by omega)) (HLE.out i (by omega)) (HKW.out i (by omega)) Wy W _ (hkid W hW).1 s cu hy' hs a ha gt tm (HM.out.tch hW hgw) HTO.out hon'
          have hdr := falt_drop (bsS s) kids i (by omega) a tm cu
          rw [hq.out] at hdr
          have HDR := Lib.hid hdr
          have szr := tr.size
          clear hc hkid hq hdr yr xr tr
          obtain ⟨bk, hbk⟩ : ∃ bk, backS (bsS s) (kids[i]'(by omega)) tm = bk := ⟨_, rfl⟩
          rw [hbk] at c5 hLL
          have HBK := Lib.hid hbk
          clear hbk
          go_wp2_with fail
          (with_reducible refine c5.mono ?_)
          clear c5 fk0 fk1 fk2 fk3 fk4 fk5 fk6 fk7 fk8
          rintro e w5 ⟨g2, rfl, hg2, m5, b5⟩
          have T5 := tb.trans (Tch.of_below b5)
          have y5 := yb.next b5
          have x5 := xb.next b5
          have n5 := nb.next b5
          have v5 := m5.cell a
          rw [bV_get (by rw [hLL]; rw [bs_len]; omega)] at v5
          have hwl5 := nb.lt
          clear yb xb nb tb b5
          have q0 := n5.cell 0
          have q1 := n5.cell 1
          have q2 := n5.cell 2
          have q3 := n5.cell 3
          have q4 := n5.cell 4
          have q5 := n5.cell 5
          have q6 := n5.cell 6
          have q7 := n5.cell 7
          have q8 := n5.cell 8
          simp only [List.getElem?_toArray, List.getElem?_cons_zero, List.getElem?_cons_succ] at q0 q1 q2 q3 q4 q5 q6 q7 q8

          by_cases hg : bk.getD a false = true
          · rw [hg] at v5
            have c7 := c6 w5 T5 y5 (getD_on.1 (by rw [HBK.out]; exact hg))
            have hd := HDR.out
            rw [HBK.out, if_pos hg] at hd
            rw [← hd] at c7
            have HD := Lib.hid hd
            clear hd c6 HDR hg
            go_wp2_with fail
            (with_reducible refine c7.mono ?_)
            clear c7
            rintro e w6 ⟨rfl, y6, t6⟩
            go_wp2_with fail
            go_ret
            exact ⟨rfl, y6, T5.trans t6⟩
          · have hg2 : bk.getD a false = false := by simpa using hg
            rw [hg2] at v5
            have hd := HDR.out
            rw [HBK.out, if_neg hg] at hd
            have HD := Lib.hid hd.symm
            clear hd c6 HDR hg hg2
            go_wp2_with fail
            go_roundw
            case rel => exact ⟨i + 1, by go_num, by omega, HD, x5, y5, T5⟩
            case measure => simp [intOf]; omega
        · have hik : i = kl := by omega
          subst hik
          have hd := hq.out
          rw [List.drop_eq_nil_of_le (by omega), faltS] at hd
          have HD := Lib.hid hd
          clear hq hd
          go_wp2_with fail
          go_ret
          rw [← HD.out]
          exact ⟨rfl, yr, tr⟩
    by_cases h6 : k = 6
    · subst h6
      obtain ⟨x, rfl⟩ : ∃ x, kids = [x] := by
        have := HW.out
        rw [wfR] at this
        exact List.length_eq_one_iff.1 (this.1 rfl).1
      have HB := Lib.hid (HR.out.symm.trans (ft6 (bsS s) S [x] lo hi nn a tm cu))
      have h1l : kl = 1 := hkl.symm
      subst h1l
      obtain ⟨_, hb1, hb2, hb3, hb4⟩ := (by have := HW.out; rw [wfR] at this; exact this.1 rfl : ([x] : List Re).length = 1 ∧ 0 ≤ lo ∧ lo ≤ 8 ∧ hi ≤ 8 ∧ (hi = -1 ∨ lo ≤ hi))
      have c5 := again_c N (by omega) (ih (by omega)) 6 S x lo hi nn (HLE.out 0 (by simp)) (HKW.out 0 (by simp)) hb1 hb2 hb3 hb4 Wy wa A c (HH.out.bel HBA.out) s cu ya hs a ha gt tm (HM.out.next HBA.out) HTO.out (by have := HON.out; rw [back_6, headS_one] at this; exact this)
      have e9 : againS (backS (bsS s) x) (firstS (bsS s) x) s.size (s.size + 10) lo hi a tm cu = R := by rw [HB.out, headS_one, fheadS_one]; rfl
      rw [e9] at c5
      rw [hwa] at c5

      clear HW HKW HLE HFO ih HR hb1 hb2 hb3 hb4 ya HB e9
      go_wp2_with fail
      (with_reducible refine c5.mono ?_)
      clear c5
      rintro e w5 ⟨rfl, y5, t5⟩
      rw [← hwa] at t5
      go_wp2_with fail
      go_ret
      exact ⟨rfl, y5, ta.trans t5⟩
    by_cases h7 : k = 7
    · subst h7
      obtain ⟨x, rfl⟩ : ∃ x, kids = [x] := by
        have := HW.out
        rw [wfR] at this
        exact List.length_eq_one_iff.1 (this.2.1 rfl).1
      have HB := Lib.hid (HR.out.symm.trans (ft7 (bsS s) S [x] lo hi nn a tm cu))
      have h1l : kl = 1 := hkl.symm
      subst h1l
      obtain ⟨_, hb1, hb2⟩ := (by have := HW.out; rw [wfR] at this; exact this.2.1 rfl : ([x] : List Re).length = 1 ∧ 0 ≤ nn ∧ nn ≤ 9)
      obtain ⟨m, rfl⟩ := Int.eq_ofNat_of_zero_le hb1
      obtain ⟨kg, ko, A2, c2, k0, k1, k2, k3, k4, k5, rfl, hkid⟩ := kidT (S' := (· = Wy)) HH.out (fun b hb e => hb e) 0 (by simp)
      have hc := (hkid wa ta).2
      have fk0 := hc 0 _ rfl
      have fk1 := hc 1 _ rfl
      have fk2 := hc 2 _ rfl
      have fk3 := hc 3 _ rfl
      have fk4 := hc 4 _ rfl
      have fk5 := hc 5 _ rfl
      have fk6 := hc 6 _ rfl
      have fk7 := hc 7 _ rfl
      have fk8 := hc 8 _ rfl
      simp only [Nat.zero_mul, Nat.add_zero] at fk0 fk1 fk2 fk3 fk4 fk5 fk6 fk7 fk8
      have p0 := xa.cell 0
      have p1 := xa.cell 1
      have p2 := xa.cell 2
      have p3 := xa.cell 3
      have p4 := xa.cell 4
      have p5 := xa.cell 5
      have p6 := xa.cell 6
      have p7 := xa.cell 7
      have p8 := xa.cell 8
      simp only [List.getElem?_toArray, List.getElem?_cons_zero, List.getElem?_cons_succ] at p0 p1 p2 p3 p4 p5 p6 p7 p8
      have c5 := ih (by omega) x (HLE.out 0 (by simp)) (HKW.out 0 (by simp)) Wy wa _ (hkid wa ta).1 s cu ya hs a ha gt tm (HM.out.next HBA.out) HTO.out (by have := HON.out; rw [back_7, headS_one] at this; exact this)
      rw [fheadS_one] at HB
      have hen := (HFO.out a tm cu ha HTO.out HON.out).en
      rw [HR.out] at hen
      have e9 : (firstS (bsS s) x a tm cu).1 = R.1 := by rw [HB.out]
      rw [← e9, bs_len] at hen
      clear hc hkid HW HKW HLE HFO ih HR e9
      generalize firstS (bsS s) x a tm cu = FS at *
      rw [hwa] at c5 fk0 fk1 fk2 fk3 fk4 fk5 fk6 fk7 fk8
      go_wp2_with fail
      (with_reducible refine c5.mono ?_)
      clear c5
      rintro e w5 ⟨rfl, y5, t5⟩
      rw [← hwa] at t5
      clear p0 p1 p2 p3 p4 p5 p6 p7 p8 fk0 fk1 fk2 fk3 fk4 fk5 fk6 fk7 fk8
      have x5 := xa.tch t5 (by omega)
      have T5 := ta.trans t5
      have p8 := x5.cell 8
      simp only [List.getElem?_toArray, List.getElem?_cons_zero, List.getElem?_cons_succ] at p8
      by_cases hmz : m = 0
      · subst hmz
        have hz := HB.out
        rw [if_neg (by decide)] at hz
        have HZ := Lib.hid hz
        clear hz
        go_wp2_with fail
        go_ret
        rw [HZ.out]
        exact ⟨rfl, y5, T5⟩
      · have hz := HB.out
        rw [if_pos (by omega), Int.toNat_natCast] at hz
        have HZ := Lib.hid hz
        have em : decide ((m : Int) > 0) = true := decide_eq_true (by omega)
        have em2 : decide (0 < (m : Int)) = true := decide_eq_true (by omega)
        have hml : m < FS.2.length := by rw [y5.len]; omega
        have hwg := way_get s FS.2 m hml
        have v1 := y5.blk.cell (1 + m * 2)
        have v2 := y5.blk.cell (1 + m * 2 + 1)
        rw [hwg.1] at v1
        rw [hwg.2] at v2
        have l1 := y5.blk.loose (1 + m * 2)
        have l2 := y5.blk.loose (1 + m * 2 + 1)
        have Y6 := (y5.blk.set_ (1 + m * 2) (.int .i64 a)).set_ (1 + m * 2 + 1) (.int .i64 (FS.1 : Nat))
        rw [way_set s FS.2 m a (FS.1 : Nat) hml] at Y6
        have T6 := (T5.setCell (p := ⟨Wy, 1 + m * 2, none⟩) rfl (.int .i64 a)).setCell (p := ⟨Wy, 1 + m * 2 + 1, none⟩) rfl (.int .i64 (FS.1 : Nat))
        have YL := Lib.hid y5.len
        generalize (FS.2[m]'hml).1 = zz1 at v1
        generalize (FS.2[m]'hml).2 = zz2 at v2
        clear hz hwg y5 x5 T5
        go_upto_region 22 with fail
        go_region
        go_wp2_with fail
        go_ret
        rw [HZ.out]
        exact ⟨rfl, ⟨Y6, by rw [List.length_set]; exact YL.out⟩, ⟨T6.os, T6.tape, T6.output, T6.size, T6.block⟩⟩
    have HB := Lib.hid (HR.out.symm.trans (ft8 (bsS s) S kids lo hi nn a tm cu k ⟨h1, h4, h5, h6, h7⟩))
    rw [HB.out]
    have e1 : (k == 1) = false := by simpa using h1
    have e4 : (k == 4) = false := by simpa using h4
    have e5 : (k == 5) = false := by simpa using h5
    have e6 : (k == 6) = false := by simpa using h6
    have e7 : (k == 7) = false := by simpa using h7
    clear HW HKW HLE HFO ih HR h1 h4 h5 h6 h7
    rw [hwa] at ya ta
    go_wp2_with fail
    go_ret
    exact ⟨rfl, ya, ta⟩
end GrpW
end Go.Proofs.YtpdmjegbjcefjaaDoor
namespace Go.Proofs.YtpdmjegbjcefjaaDoor
set_option linter.unusedVariables false
set_option linter.unusedSimpArgs false
open Go.RowKit
namespace GrpW
open EreP EreW EreX GrpP GrpS
/-- The piece that a cut tells. -/
def pieceS (s : ByteArray) (p : Int × Int) : ByteArray := if 0 ≤ p.1 ∧ p.1 ≤ p.2 ∧ p.2 ≤ s.size then s.extract p.1.toNat p.2.toNat else ByteArray.empty
abbrev strV (l : List ByteArray) : Array Value := (l.map Value.string).toArray
theorem cut10 : ∀ (cu : Cuts), cu.length = 10 → ∃ p0 p1 p2 p3 p4 p5 p6 p7 p8 p9, cu = [p0, p1, p2, p3, p4, p5, p6, p7, p8, p9]
  | [a, b, c, d, e, f, g, h, i, j], _ => ⟨a, b, c, d, e, f, g, h, i, j, rfl⟩
theorem index_cut (cu : Cuts) (hl : cu.length = 10) (i : Nat) (hi : i < 10) (W : World) : (Instr.index 33 (.agg (cutV cu).toArray) (.int .i64 (i : Int))).run Tryd.prog W = .ok (.agg #[.int .i64 (cu[i]'(by omega)).1, .int .i64 (cu[i]'(by omega)).2]) W := by
  obtain ⟨p0, p1, p2, p3, p4, p5, p6, p7, p8, p9, rfl⟩ := cut10 cu hl
  rcases (by omega : i = 0 ∨ i = 1 ∨ i = 2 ∨ i = 3 ∨ i = 4 ∨ i = 5 ∨ i = 6 ∨ i = 7 ∨ i = 8 ∨ i = 9) with rfl | rfl | rfl | rfl | rfl | rfl | rfl | rfl | rfl | rfl
  all_goals kernel_rfl
theorem cutV_len : ∀ (cu : Cuts), (cutV cu).length = 2 * cu.length
  | [] => rfl
  | p :: cu => by have := cutV_len cu; simp [cutV] at this ⊢; omega
theorem cutV_one (cu : Cuts) : (cutV cu).toArray.all (·.oneCell') = true := by
  rw [List.all_toArray]
  rw [List.all_eq_true]
  intro u hu
  obtain ⟨p, _, hp⟩ := List.mem_flatMap.1 hu
  simp at hp
  rcases hp with rfl | rfl <;> rfl
theorem strV_one (l : List ByteArray) : (strV l).all (·.oneCell') = true := by
  rw [strV, List.all_toArray, List.all_eq_true]
  intro u hu
  obtain ⟨p, _, rfl⟩ := List.mem_map.1 hu
  rfl
theorem strV_set {i : Nat} (p r : List ByteArray) (x y : ByteArray) (h : p.length = i) : (strV (p ++ x :: r)).setIfInBounds i (.string y) = strV (p ++ y :: r) := by
  subst h
  unfold strV
  rw [List.setIfInBounds_toArray, List.map_append, List.map_append, List.map_cons, List.map_cons]
  congr 1
  rw [List.set_append_right _ _ (by simp)]
  simp
theorem bel_row {a w : World} {B g : Nat} (h : Below B a w) (hg : B ≤ g) (c : Array Value) : Below B a (w.setRow g c) :=
  ⟨h.os, h.tape, h.output, by rw [setRow_size]; exact h.size, fun i hi => (Rowk.heap_row (by omega) c).trans (h.block i hi)⟩
set_option maxRecDepth 100000 in
set_option maxHeartbeats 3200000 in
theorem names_c (s : ByteArray) (hs : s.size ≤ 1000000) (cu : Cuts) (hl : cu.length = 10) (w : World) :
    Calls Tryd.prog 14 #[.agg (cutV cu).toArray, .string s] w fun e w' => e = .returned (.agg (strV (cu.map (pieceS s)))) ∧ Below w.heap.size w w' := by
  have HIX := Lib.hid (index_cut cu hl)
  have HLEN := Lib.hid hl
  have hvs : ((Tryd.prog.info? 33).map (·.size) = some (cutV cu).toArray.size) := by rw [List.size_toArray, cutV_len, hl]; kernel_rfl
  have HVS := Lib.hid hvs
  obtain ⟨V, hV⟩ : ∃ V, (cutV cu).toArray = V := ⟨_, rfl⟩
  rw [hV] at HIX HVS ⊢
  clear hV hvs
  obtain ⟨PS, hPS⟩ : ∃ PS, cu.map (pieceS s) = PS := ⟨_, rfl⟩
  have hpl : PS.length = 10 := by rw [← hPS, List.length_map]; exact hl
  rw [hPS]
  have HPS := Lib.hid hPS
  have HPL := Lib.hid hpl
  clear hPS hpl
  go_enter Tryd.func14, Tryd.ntmps14
  go_upto_region 2 with fail
  obtain ⟨w1, hw1⟩ : ∃ z : World, ((w.alloc (.cells V 35)).alloc (.cells (strV (List.replicate 10 ⟨#[]⟩)) 45)).alloc (.cells (strV (List.replicate 10 ⟨#[]⟩)) 45) = z := ⟨_, rfl⟩
  have B1 : Below w.heap.size w w1 := by rw [← hw1]; go_grown
  have V1 : Blk w1 w.heap.size 35 V := by rw [← hw1]; exact ((Blk.new _ _ _).alloc _).alloc _
  have R1 : Blk w1 (w.heap.size + 1) 45 (strV (List.replicate 10 ⟨#[]⟩)) := by rw [← hw1]; exact (Blk.new1 _ _ _ _).alloc _
  have O1 : Blk w1 (w.heap.size + 1 + 1) 45 (strV (List.replicate 10 ⟨#[]⟩)) := by rw [← hw1]; exact Blk.new2 _ _ _ _ _
  have e1 : ((w.alloc (.cells V 35)).alloc (.cells #[.string ⟨#[]⟩, .string ⟨#[]⟩, .string ⟨#[]⟩, .string ⟨#[]⟩, .string ⟨#[]⟩, .string ⟨#[]⟩, .string ⟨#[]⟩, .string ⟨#[]⟩, .string ⟨#[]⟩, .string ⟨#[]⟩] 45)).alloc (.cells #[.string ⟨#[]⟩, .string ⟨#[]⟩, .string ⟨#[]⟩, .string ⟨#[]⟩, .string ⟨#[]⟩, .string ⟨#[]⟩, .string ⟨#[]⟩, .string ⟨#[]⟩, .string ⟨#[]⟩, .string ⟨#[]⟩] 45) = w1 := hw1
  rw [e1]
  clear e1 hw1
  go_wp2_with (refine wpList_load_row (by rfl) 33 (.tmp 8) (by rfl) w.heap.size (by rfl) 35 V (0, 0) _ (by exact V1) Tryd.underlying33 (by rfl) (by exact HVS.out) ?_)
  clear V1 HVS
  go_loopw [10] (fun iv wr => ∃ (i : Nat), iv = .int .i64 i ∧ i ≤ 10 ∧ Blk wr (w.heap.size + 1 + 1) 45 (strV (PS.take i ++ List.replicate (10 - i) ⟨#[]⟩)) ∧ Blk wr (w.heap.size + 1) 45 (strV (List.replicate 10 ⟨#[]⟩)) ∧ Below w.heap.size w wr) (fun iv _ => 10 - (intOf iv).toNat)
  case atStart => exact ⟨0, rfl, by omega, O1, R1, B1⟩
  case round =>
    clear O1 R1 B1
    obtain ⟨i, rfl, hi, mo, ro, br⟩ := hrel
    by_cases hlt : i < 10
    · have hx := HIX.out i hlt
      have hil : i < cu.length := by omega
      have hpi : PS.take (i + 1) = PS.take i ++ [pieceS s (cu[i]'hil)] := by
        rw [← HPS.out, List.take_succ_eq_append_getElem (by rw [List.length_map]; exact hil), List.getElem_map]
      obtain ⟨c, hc⟩ : ∃ c, cu[i]'hil = c := ⟨_, rfl⟩
      obtain ⟨a, b⟩ := c
      rw [hc] at hpi
      simp only [hc] at hx
      have hp0 : (PS.take i).length = i := by rw [List.length_take, HPL.out]; omega
      have lo0 := mo.loose i
      rw [show 10 - i = (10 - (i + 1)) + 1 by omega, List.replicate_succ] at mo
      have n0 := mo.cell i
      rw [List.getElem?_toArray, List.getElem?_map, List.getElem?_append_right (by omega), hp0, Nat.sub_self, List.getElem?_cons_zero, Option.map_some] at n0
      have hput := fun y => (by have := mo.set_ i (.string y); rw [strV_set _ _ _ _ hp0] at this; exact this.alloc (.cells #[.int .i64 a, .int .i64 b] 32) : Blk ((wr.setCell ⟨w.heap.size + 1 + 1, i, none⟩ (.string y)).alloc (.cells #[.int .i64 a, .int .i64 b] 32)) (w.heap.size + 1 + 1) 45 (strV (PS.take i ++ y :: List.replicate (10 - (i + 1)) ⟨#[]⟩)))
      have hrp := fun y => ((ro.far (p := ⟨w.heap.size + 1 + 1, i, none⟩) (by show w.heap.size + 1 ≠ w.heap.size + 1 + 1; omega) (.string y)).alloc (.cells #[.int .i64 a, .int .i64 b] 32))
      have hbp := fun y => (br.setCell (p := ⟨w.heap.size + 1 + 1, i, none⟩) (by show w.heap.size ≤ w.heap.size + 1 + 1; omega) (.string y)).alloc (o := .cells #[.int .i64 a, .int .i64 b] 32) (by have := br.size; simpa [World.setCell] using this)
      have br2 : Below w.heap.size w (wr.alloc (.cells #[.int .i64 a, .int .i64 b] 32)) := via (by go_grown) br
      have hzo := mo.lt
      have HX := Lib.hid hpi
      have hmo := mo.alloc (.cells #[.int .i64 a, .int .i64 b] 32)
      have hro := ro.alloc (.cells #[.int .i64 a, .int .i64 b] 32)
      clear mo ro br hpi hc hp0
      by_cases hin : 0 ≤ a ∧ a ≤ b ∧ b ≤ s.size
      · have hps : pieceS s (a, b) = s.extract a.toNat b.toNat := if_pos hin
        obtain ⟨h1, h2, h3⟩ := hin
        have e1 : decide (a ≥ 0) = true := decide_eq_true h1
        have e1' : decide (0 ≤ a) = true := decide_eq_true h1
        have e2 : decide (b ≥ a) = true := decide_eq_true h2
        have e2' : decide (a ≤ b) = true := decide_eq_true h2
        have e3 : decide (b ≤ (s.size : Int)) = true := decide_eq_true h3
        have HP := Lib.hid hps
        clear hps
        go_wp2_with fail
        refine ⟨⟨i + 1, by go_num, by omega, ?_, hrp _, hbp _⟩, by simp [intOf]; omega⟩
        rw [HX.out, HP.out, List.append_assoc]; exact hput _
      · have hps : pieceS s (a, b) = ByteArray.empty := if_neg hin
        have hmo2 : Blk (wr.alloc (.cells #[.int .i64 a, .int .i64 b] 32)) (w.heap.size + 1 + 1) 45 (strV (PS.take (i + 1) ++ List.replicate (10 - (i + 1)) ⟨#[]⟩)) := by
          rw [HX.out, hps, List.append_assoc]; exact hmo
        have hex : decide (0 ≤ a) = false ∨ (decide (0 ≤ a) = true ∧ decide (a ≤ b) = false) ∨ (decide (0 ≤ a) = true ∧ decide (a ≤ b) = true ∧ decide (b ≤ (s.size : Int)) = false) := by
          by_cases x1 : 0 ≤ a
          · by_cases x2 : a ≤ b
            · exact .inr (.inr ⟨decide_eq_true x1, decide_eq_true x2, decide_eq_false (fun x3 => hin ⟨x1, x2, x3⟩)⟩)
            · exact .inr (.inl ⟨decide_eq_true x1, decide_eq_false x2⟩)
          · exact .inl (decide_eq_false x1)
        clear hin hps hmo hput hrp hbp
        rcases hex with e1 | ⟨e1, e2⟩ | ⟨e1, e2, e3⟩
        all_goals
          go_wp2_with fail
          go_roundw
          case rel => exact ⟨i + 1, by go_num, by omega, hmo2, hro, br2⟩
          case measure => simp [intOf]; omega
    · have hil : i = 10 := by omega
      subst hil
      have hmo : Blk wr (w.heap.size + 1 + 1) 45 (strV PS) := by
        rw [List.take_of_length_le (by rw [HPL.out]; omega), Nat.sub_self, List.replicate_zero, List.append_nil] at mo; exact mo
      have hss : ∀ l : List ByteArray, l.length = 10 → (Tryd.prog.info? 45).map (·.size) = some (strV l).size := fun l h => by rw [List.size_toArray, List.length_map, h]; kernel_rfl
      have HSS := Lib.hid (hss PS HPL.out)
      have HS10 := Lib.hid (show (strV (List.replicate 10 ⟨#[]⟩)).size = (strV PS).size by simp [strV, HPL.out])
      have HONE := Lib.hid (strV_one PS)
      clear mo hss
      obtain ⟨SV, hSV⟩ : ∃ SV, strV PS = SV := ⟨_, rfl⟩
      rw [hSV] at hmo HSS HS10 HONE
      have HSV := Lib.hid hSV
      clear hSV
      generalize strV (List.replicate 10 ⟨#[]⟩) = ZV at *
      go_wp2_with (first
        | (refine wpList_load_row (by rfl) 45 (.tmp 5) (by rfl) (w.heap.size + 1 + 1) (by rfl) 45 SV (0, 0) _ (by exact hmo) Tryd.underlying45 (by rfl) (by exact HSS.out) ?_)
        | (refine wpList_store_row (by rfl) 45 (.tmp 4) (.tmp 40) (by rfl) (w.heap.size + 1) SV (by rfl) (by rfl) 45 ZV (by exact ro) (by exact HSS.out) (by exact HS10.out) (by exact HONE.out) ?_))
      refine bodyPost_ret (results_cell_row rfl _ _ (w.heap.size + 1) 45 SV (0, 0) _ (by rfl) (by exact Rowk.blk_row ro SV) Tryd.underlying45 (by rfl) HSS.out) rfl ⟨by rw [HSV.out], bel_row br (by omega) SV⟩
end GrpW
end Go.Proofs.YtpdmjegbjcefjaaDoor
