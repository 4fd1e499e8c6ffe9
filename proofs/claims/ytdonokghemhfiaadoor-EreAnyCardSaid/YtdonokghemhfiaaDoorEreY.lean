/- The walk of the expression reader's piece. Conditions: texts that fit; a premise on groups. -/
import Derived.Test.YtdonokghemhfiaaDoorEreX
namespace Go.Proofs.YtdonokghemhfiaaDoor
set_option linter.unusedVariables false
set_option linter.unusedSimpArgs false
open Go.RowKit
namespace EreX
open EreP EreW
theorem one_kid {w : World} {K : Nat → Prop} {r : Re} {cs : List Value} {g : Nat} {t : TypeId} (h : Rt w K r cs) (hb : Blk w g t cs.toArray) (hg : K g) (k : Int) (lo hi nn : Int) (c : Nat) :
    Rt w K (.mk k 0 [r] lo hi nn) (reC k 0 (some ⟨g, 0, none⟩) 1 c lo hi nn) := by
  refine .mk k 0 [r] lo hi nn (some ⟨g, 0, none⟩) c (fun _ => cs) (by decide) (fun i hi => ?_) (fun _ => ⟨g, 0, rfl, hg, fun i hi j u hu => ?_⟩)
  · have : i = 0 := by simpa using hi
    subst this; exact h
  · have : i = 0 := by simpa using hi
    subst this
    simp only [Nat.zero_mul, Nat.zero_add]
    rw [hb.cell]; simpa using hu
theorem piece_err {G : Grp} {l : Bs} {g : Nat} {e : Bs × Nat} (h : atomP G l g = .error e) : pieceP G l g = .error e := by unfold pieceP; rw [h]
theorem piece_no {G : Grp} {l r : Bs} {g g' : Nat} {x : Re} (h : atomP G l g = .ok (x, r, g')) (hr : ∀ c r', r = c :: r' → isRep c = false) : pieceP G l g = .ok (x, r, g') := by
  unfold pieceP; rw [h]
  cases r with
  | nil => rfl
  | cons c r' => simp [hr c r' rfl]
theorem piece_fix {G : Grp} {l r : Bs} {g g' : Nat} {x : Re} {c : UInt8} (h : atomP G l g = .ok (x, c :: r, g')) (hc : isRep c = true) (hk : x.kind = 2 ∨ x.kind = 3) : pieceP G l g = .error (c :: r, 1) := by
  unfold pieceP; rw [h]; simp [hc, hk]
theorem piece_plus {G : Grp} {l r : Bs} {g g' : Nat} {x : Re} (h : atomP G l g = .ok (x, 43 :: r, g')) (h2 : x.kind ≠ 2) (h3 : x.kind ≠ 3) : pieceP G l g = .ok (.mk 6 0 [x] 1 (-1) 0, r, g') := by
  unfold pieceP; rw [h]; simp [isRep, h2, h3]
theorem piece_opt {G : Grp} {l r : Bs} {g g' : Nat} {x : Re} (h : atomP G l g = .ok (x, 63 :: r, g')) (h2 : x.kind ≠ 2) (h3 : x.kind ≠ 3) : pieceP G l g = .ok (.mk 6 0 [x] 0 1 0, r, g') := by
  unfold pieceP; rw [h]; simp [isRep, h2, h3]
theorem piece_star {G : Grp} {l r : Bs} {g g' : Nat} {x : Re} (h : atomP G l g = .ok (x, 42 :: r, g')) (h2 : x.kind ≠ 2) (h3 : x.kind ≠ 3) : pieceP G l g = .ok (.mk 6 0 [x] 0 (-1) 0, r, g') := by
  unfold pieceP; rw [h]; simp [isRep, h2, h3]
theorem piece_times {G : Grp} {l r : Bs} {g g' : Nat} {x : Re} (h : atomP G l g = .ok (x, 123 :: r, g')) (h2 : x.kind ≠ 2) (h3 : x.kind ≠ 3) :
    pieceP G l g = match timesP r with | .error e => .error e | .ok ((a, b), r2) => .ok (.mk 6 0 [x] a b 0, r2, g') := by
  unfold pieceP; rw [h]; simp [isRep, h2, h3]
  rcases timesP r with e | ⟨⟨a, b⟩, r2⟩ <;> rfl
theorem tree_k {K : Nat → Prop} {S : Nat → Prop} {B : Nat} {w w' : World} {r : Re} {cs : List Value} (h : Rt w K r cs) (t : Tch S w w') (hS : ∀ b, K b → ¬ S b) (hB : ∀ b, K b → B ≤ b) : Rt w' (B ≤ ·) r cs := (h.tch t hS).keep hB (fun _ _ _ => rfl)
theorem rep_nil : peekB (⟨#[42, 43, 63, 123]⟩ : ByteArray).data.toList [] 0 = false := rfl
set_option maxHeartbeats 6400000 in
set_option maxRecDepth 100000 in
theorem piece_c (d R B : Nat) (s : ByteArray) (i g : Nat) (w : World) (h : Rdr w R s i g 0) (hRB : R < B) (hB : B ≤ w.heap.size) (hlt : i < s.size) (hs : s.size ≤ 200) (hgi : g ≤ i) (hd : d ≤ 64) (hG : d < 64 → GrpC d) :
    Calls Tryd.prog 48 #[pt R, .int .i64 (d : Nat)] w (PPost B R s w (pieceP (grpP (64 - d)) (rest s i) g)) := by
  have hs2 : s.size ≤ 4611686018427387904 := by omega
  obtain ⟨SP, hSP⟩ : ∃ SP, pieceP (grpP (64 - d)) (rest s i) g = SP := ⟨_, rfl⟩
  obtain ⟨AP, hAP⟩ : ∃ AP, atomP (grpP (64 - d)) (rest s i) g = AP := ⟨_, rfl⟩
  have hmono := atom_mono (grp_mono (64 - d)) (rest s i) g
  obtain ⟨wa, hwa⟩ : ∃ z : World, z = w.alloc (.cells zC 28) := ⟨_, rfl⟩
  have ha : Rdr wa R s i g 0 := by rw [hwa]; exact h.alloc _
  have xa : Blk wa w.heap.size 28 zC := by rw [hwa]; exact Blk.new _ _ _
  have za : wa.heap.size = w.heap.size + 1 := by rw [hwa, World.size_alloc]
  have ta : Tch (On R) w wa := by rw [hwa]; exact (Tch.refl _ _).alloc _
  have hlR := h.lt
  have ct := atom_c d R wa.heap.size s i g wa ha ha.lt (Nat.le_refl _) hlt hs hgi hd hG
  rw [hSP]
  rw [hAP] at ct
  have HSP := Lib.hid hSP
  have HAP := Lib.hid hAP
  have HMO := Lib.hid hmono
  clear hSP hAP h hmono
  go_enter Tryd.func48, Tryd.ntmps48
  go_wp2_with fail
  rw [← hwa]
  (with_reducible refine ct.mono ?_)
  rintro x w1 ⟨r, cs, k, g', e, rfl, hrt, h1, hk, t1, hsp⟩
  have x1 := xa.tch t1 (show ¬ (w.heap.size = R) by omega)
  have T1 := ta.trans t1
  have z1 := t1.size
  obtain ⟨A, c, rfl, hS, hnil⟩ := hrt.shape
  have HRT := Lib.hid hrt.lt_
  have HK := Lib.hid (rfl : r.kind = r.kind)
  clear ct hrt hnil hS hwa
  generalize hk0 : r.kind = k0 at *
  generalize hk1 : r.set = k1 at *
  generalize hk2 : r.kids.length = k2 at *
  generalize hk3 : r.lo = k3 at *
  generalize hk4 : r.hi = k4 at *
  generalize hk5 : r.n = k5 at *
  have HK0 := Lib.hid hk0
  clear hk0 hk1 hk2 hk3 hk4 hk5 HK
  -- the block of x
  obtain ⟨wb, hwb⟩ : ∃ z : World, z = w1.alloc (.cells (reC k0 k1 A k2 c k3 k4 k5).toArray 28) := ⟨_, rfl⟩
  have h2 : Rdr wb R s k g' e := by rw [hwb]; exact h1.alloc _
  have x2 : Blk wb w.heap.size 28 zC := by rw [hwb]; exact x1.alloc _
  have b2 : Blk wb w1.heap.size 28 (reC k0 k1 A k2 c k3 k4 k5).toArray := by rw [hwb]; exact Blk.new _ _ _
  have T2 : Tch (On R) w wb := by rw [hwb]; exact T1.alloc _
  have N2 : Tch (· = w.heap.size) w1 wb := by rw [hwb]; exact (Tch.refl _ _).alloc _
  have z2 : w1.heap.size < wb.heap.size := by rw [hwb, World.size_alloc]; omega
  have cp := peek_c R s ⟨#[42, 43, 63, 123]⟩ k g' e wb h2
  rcases hsp with ⟨rfl, hok⟩ | ⟨he, herr⟩
  rotate_left
  · -- an error
    have hp : peekB (⟨#[42, 43, 63, 123]⟩ : ByteArray).data.toList (rest s k) e = false := by unfold peekB; rw [show (e == 0) = false by rw [beq_eq_false_iff_ne]; exact he]; rfl
    have HS : Hid (SP = .error (rest s k, e)) := Lib.hid (by rw [← HSP.out]; exact piece_err (HAP.out.trans herr))
    have HE := Lib.hid he
    clear he herr
    rw [hp] at cp
    clear hp
    go_wp2_with fail
    rw [← hwb]
    (with_reducible refine cp.mono ?_)
    rintro x wm ⟨rfl, m, rfl⟩
    have h3 := h2.dn m
    have x3 := x2.drewN m
    have b3 := b2.drewN m
    have T3 := T2.drewN m
    have N3 := N2.drewN m
    clear cp hwb h2 x2 b2
    generalize wb.drewN m = wc at *
    have q0 := b3.cell 0
    have q1 := b3.cell 1
    have q2 := b3.cell 2
    have q3 := b3.cell 3
    have q4 := b3.cell 4
    have q5 := b3.cell 5
    have q6 := b3.cell 6
    have q7 := b3.cell 7
    have q8 := b3.cell 8
    simp only [List.getElem?_toArray, List.getElem?_cons_zero, List.getElem?_cons_succ] at q0 q1 q2 q3 q4 q5 q6 q7 q8
    have p0 := x3.cell 0
    have p1 := x3.cell 1
    have p2 := x3.cell 2
    have p3 := x3.cell 3
    have p4 := x3.cell 4
    have p5 := x3.cell 5
    have p6 := x3.cell 6
    have p7 := x3.cell 7
    have p8 := x3.cell 8
    simp only [List.getElem?_toArray, List.getElem?_cons_zero, List.getElem?_cons_succ] at p0 p1 p2 p3 p4 p5 p6 p7 p8
    have r0 := x3.loose 0
    have r1 := x3.loose 1
    have r2 := x3.loose 2
    have r3 := x3.loose 3
    have r4 := x3.loose 4
    have r5 := x3.loose 5
    have r6 := x3.loose 6
    have r7 := x3.loose 7
    have r8 := x3.loose 8
    go_wp2
    refine bodyPost_ret (v := .agg (reC k0 k1 A k2 c k3 k4 k5).toArray) (by simp [results, Tryd.results48, go_sem, p0, p1, p2, p3, p4, p5, p6, p7, p8]) rfl ?_
    exact ⟨r, _, k, g', e, rfl, tree_k HRT.out (N3.trans (tch9 (S := (· = w.heap.size)) (Tch.refl _ _) rfl)) (fun b hb e => by omega) (fun b hb => by omega), rdr9 h3 (by omega), hk, tch_new T3 (tch9 (S := (· = w.heap.size)) (Tch.refl _ _) rfl) (fun b hb => by rw [hb]; exact Nat.le_refl _), Or.inr ⟨HE.out, HS.out⟩⟩
  have hgk : g' ≤ k := by
    have := HMO.out
    rw [HAP.out, hok] at this
    simp only [Mono] at this
    rw [rest_len, rest_len] at this; omega
  cases hrep : peekB (⟨#[42, 43, 63, 123]⟩ : ByteArray).data.toList (rest s k) 0
  · have hp := hrep
    have HS : Hid (SP = .ok (r, rest s k, g')) := Lib.hid (by
      rw [← HSP.out]
      refine piece_no (HAP.out.trans hok) (fun c r' e => ?_)
      rw [e, rep_any] at hrep; exact hrep)
    clear hok hrep
    rw [hp] at cp
    clear hp
    go_wp2_with fail
    rw [← hwb]
    (with_reducible refine cp.mono ?_)
    rintro x wm ⟨rfl, m, rfl⟩
    have h3 := h2.dn m
    have x3 := x2.drewN m
    have b3 := b2.drewN m
    have T3 := T2.drewN m
    have N3 := N2.drewN m
    clear cp hwb h2 x2 b2
    generalize wb.drewN m = wc at *
    have q0 := b3.cell 0
    have q1 := b3.cell 1
    have q2 := b3.cell 2
    have q3 := b3.cell 3
    have q4 := b3.cell 4
    have q5 := b3.cell 5
    have q6 := b3.cell 6
    have q7 := b3.cell 7
    have q8 := b3.cell 8
    simp only [List.getElem?_toArray, List.getElem?_cons_zero, List.getElem?_cons_succ] at q0 q1 q2 q3 q4 q5 q6 q7 q8
    have p0 := x3.cell 0
    have p1 := x3.cell 1
    have p2 := x3.cell 2
    have p3 := x3.cell 3
    have p4 := x3.cell 4
    have p5 := x3.cell 5
    have p6 := x3.cell 6
    have p7 := x3.cell 7
    have p8 := x3.cell 8
    simp only [List.getElem?_toArray, List.getElem?_cons_zero, List.getElem?_cons_succ] at p0 p1 p2 p3 p4 p5 p6 p7 p8
    have r0 := x3.loose 0
    have r1 := x3.loose 1
    have r2 := x3.loose 2
    have r3 := x3.loose 3
    have r4 := x3.loose 4
    have r5 := x3.loose 5
    have r6 := x3.loose 6
    have r7 := x3.loose 7
    have r8 := x3.loose 8
    go_wp2
    refine bodyPost_ret (v := .agg (reC k0 k1 A k2 c k3 k4 k5).toArray) (by simp [results, Tryd.results48, go_sem, p0, p1, p2, p3, p4, p5, p6, p7, p8]) rfl ?_
    exact ⟨r, _, k, g', 0, rfl, tree_k HRT.out (N3.trans (tch9 (S := (· = w.heap.size)) (Tch.refl _ _) rfl)) (fun b hb e => by omega) (fun b hb => by omega), rdr9 h3 (by omega), hk, tch_new T3 (tch9 (S := (· = w.heap.size)) (Tch.refl _ _) rfl) (fun b hb => by rw [hb]; exact Nat.le_refl _), Or.inl ⟨rfl, HS.out⟩⟩
  -- a repeat sign
  have hlk : k < s.size := by
    rcases Nat.lt_or_ge k s.size with h | h
    · exact h
    · rw [rest_nil s k h] at hrep; cases hrep
  have hR := rest_cons s k hlk
  have hcr : isRep (s[k]'hlk) = true := by rw [hR, rep_any] at hrep; exact hrep
  rw [hrep] at cp
  have hn := fun W hW => next_ok R s k g' W hW hlk hs2
  generalize hcc : (s[k]'hlk) = ch at *
  clear hrep hcc
  by_cases hfix : k0 = 2 ∨ k0 = 3
  · have HS : Hid (SP = .error (rest s k, 1)) := Lib.hid (by
      rw [← HSP.out, hR]
      exact piece_fix (HAP.out.trans (hok.trans (by rw [hR]))) hcr (by rw [HK0.out]; exact hfix))
    have hf2 : (k0 == 2) = true ∨ ((k0 == 2) = false ∧ (k0 == 3) = true) := by
      by_cases h2 : k0 = 2
      · left; simpa using h2
      · right; rcases hfix with h | h
        · exact absurd h h2
        · exact ⟨by simpa using h2, by simpa using h⟩
    clear hok hR hcr hn hfix
    rcases hf2 with f2 | ⟨f2, f3⟩
    · go_wp2_with fail
      rw [← hwb]
      (with_reducible refine cp.mono ?_)
      rintro x wm ⟨rfl, m, rfl⟩
      have h3 := h2.dn m
      have x3 := x2.drewN m
      have b3 := b2.drewN m
      have T3 := T2.drewN m
      have N3 := N2.drewN m
      clear cp hwb h2 x2 b2
      have zb : w1.heap.size < (wb.drewN m).heap.size := z2
      generalize wb.drewN m = wc at *
      have q0 := b3.cell 0
      have q1 := b3.cell 1
      have q2 := b3.cell 2
      have q3 := b3.cell 3
      have q4 := b3.cell 4
      have q5 := b3.cell 5
      have q6 := b3.cell 6
      have q7 := b3.cell 7
      have q8 := b3.cell 8
      simp only [List.getElem?_toArray, List.getElem?_cons_zero, List.getElem?_cons_succ] at q0 q1 q2 q3 q4 q5 q6 q7 q8
      have cf := fail1_c R s k g' 0 wc h3
      go_wp2_with fail
      (with_reducible refine cf.mono ?_)
      rintro x wd ⟨rfl, h4, t4⟩
      have x4 := x3.tch t4 (show ¬ (w.heap.size = R) by omega)
      have b4 := b3.tch t4 (show ¬ (w1.heap.size = R) by omega)
      have T4 := T3.trans t4
      have HRT4 := Lib.hid ((HRT.out.tch N3 (fun b hb e => by omega)).tch t4 (fun b hb e => by have e2 : b = R := e; omega))
      clear cf q0 q1 q2 q3 q4 q5 q6 q7 q8 x3 b3
      have q0 := b4.cell 0
      have q1 := b4.cell 1
      have q2 := b4.cell 2
      have q3 := b4.cell 3
      have q4 := b4.cell 4
      have q5 := b4.cell 5
      have q6 := b4.cell 6
      have q7 := b4.cell 7
      have q8 := b4.cell 8
      simp only [List.getElem?_toArray, List.getElem?_cons_zero, List.getElem?_cons_succ] at q0 q1 q2 q3 q4 q5 q6 q7 q8
      have p0 := x4.cell 0
      have p1 := x4.cell 1
      have p2 := x4.cell 2
      have p3 := x4.cell 3
      have p4 := x4.cell 4
      have p5 := x4.cell 5
      have p6 := x4.cell 6
      have p7 := x4.cell 7
      have p8 := x4.cell 8
      simp only [List.getElem?_toArray, List.getElem?_cons_zero, List.getElem?_cons_succ] at p0 p1 p2 p3 p4 p5 p6 p7 p8
      have r0 := x4.loose 0
      have r1 := x4.loose 1
      have r2 := x4.loose 2
      have r3 := x4.loose 3
      have r4 := x4.loose 4
      have r5 := x4.loose 5
      have r6 := x4.loose 6
      have r7 := x4.loose 7
      have r8 := x4.loose 8
      go_wp2
      refine bodyPost_ret (v := .agg (reC k0 k1 A k2 c k3 k4 k5).toArray) (by simp [results, Tryd.results48, go_sem, p0, p1, p2, p3, p4, p5, p6, p7, p8]) rfl ?_
      exact ⟨r, _, k, g', 1, rfl, tree_k HRT4.out (tch9 (S := (· = w.heap.size)) (Tch.refl _ _) rfl) (fun b hb e => by omega) (fun b hb => by omega), rdr9 h4 (by omega), hk, tch_new T4 (tch9 (S := (· = w.heap.size)) (Tch.refl _ _) rfl) (fun b hb => by rw [hb]; exact Nat.le_refl _), Or.inr ⟨by decide, HS.out⟩⟩
    · go_wp2_with fail
      rw [← hwb]
      (with_reducible refine cp.mono ?_)
      rintro x wm ⟨rfl, m, rfl⟩
      have h3 := h2.dn m
      have x3 := x2.drewN m
      have b3 := b2.drewN m
      have T3 := T2.drewN m
      have N3 := N2.drewN m
      clear cp hwb h2 x2 b2
      have zb : w1.heap.size < (wb.drewN m).heap.size := z2
      generalize wb.drewN m = wc at *
      have q0 := b3.cell 0
      have q1 := b3.cell 1
      have q2 := b3.cell 2
      have q3 := b3.cell 3
      have q4 := b3.cell 4
      have q5 := b3.cell 5
      have q6 := b3.cell 6
      have q7 := b3.cell 7
      have q8 := b3.cell 8
      simp only [List.getElem?_toArray, List.getElem?_cons_zero, List.getElem?_cons_succ] at q0 q1 q2 q3 q4 q5 q6 q7 q8
      have cf := fail1_c R s k g' 0 wc h3
      go_wp2_with fail
      (with_reducible refine cf.mono ?_)
      rintro x wd ⟨rfl, h4, t4⟩
      have x4 := x3.tch t4 (show ¬ (w.heap.size = R) by omega)
      have b4 := b3.tch t4 (show ¬ (w1.heap.size = R) by omega)
      have T4 := T3.trans t4
      have HRT4 := Lib.hid ((HRT.out.tch N3 (fun b hb e => by omega)).tch t4 (fun b hb e => by have e2 : b = R := e; omega))
      clear cf q0 q1 q2 q3 q4 q5 q6 q7 q8 x3 b3
      have q0 := b4.cell 0
      have q1 := b4.cell 1
      have q2 := b4.cell 2
      have q3 := b4.cell 3
      have q4 := b4.cell 4
      have q5 := b4.cell 5
      have q6 := b4.cell 6
      have q7 := b4.cell 7
      have q8 := b4.cell 8
      simp only [List.getElem?_toArray, List.getElem?_cons_zero, List.getElem?_cons_succ] at q0 q1 q2 q3 q4 q5 q6 q7 q8
      have p0 := x4.cell 0
      have p1 := x4.cell 1
      have p2 := x4.cell 2
      have p3 := x4.cell 3
      have p4 := x4.cell 4
      have p5 := x4.cell 5
      have p6 := x4.cell 6
      have p7 := x4.cell 7
      have p8 := x4.cell 8
      simp only [List.getElem?_toArray, List.getElem?_cons_zero, List.getElem?_cons_succ] at p0 p1 p2 p3 p4 p5 p6 p7 p8
      have r0 := x4.loose 0
      have r1 := x4.loose 1
      have r2 := x4.loose 2
      have r3 := x4.loose 3
      have r4 := x4.loose 4
      have r5 := x4.loose 5
      have r6 := x4.loose 6
      have r7 := x4.loose 7
      have r8 := x4.loose 8
      go_wp2
      refine bodyPost_ret (v := .agg (reC k0 k1 A k2 c k3 k4 k5).toArray) (by simp [results, Tryd.results48, go_sem, p0, p1, p2, p3, p4, p5, p6, p7, p8]) rfl ?_
      exact ⟨r, _, k, g', 1, rfl, tree_k HRT4.out (tch9 (S := (· = w.heap.size)) (Tch.refl _ _) rfl) (fun b hb e => by omega) (fun b hb => by omega), rdr9 h4 (by omega), hk, tch_new T4 (tch9 (S := (· = w.heap.size)) (Tch.refl _ _) rfl) (fun b hb => by rw [hb]; exact Nat.le_refl _), Or.inr ⟨by decide, HS.out⟩⟩
  have hn2 : k0 ≠ 2 := fun h => hfix (Or.inl h)
  have hn3 : k0 ≠ 3 := fun h => hfix (Or.inr h)
  have f2 : (k0 == 2) = false := by simpa using hn2
  have f3 : (k0 == 3) = false := by simpa using hn3
  have hkk2 : r.kind ≠ 2 := by rw [HK0.out]; exact hn2
  have hkk3 : r.kind ≠ 3 := by rw [HK0.out]; exact hn3
  have hok2 : atomP (grpP (64 - d)) (rest s i) g = .ok (r, ch :: rest s (k + 1), g') := HAP.out.trans (hok.trans (by rw [hR]))
  have HO := Lib.hid hok2
  have HK2 := Lib.hid hkk2
  have HK3 := Lib.hid hkk3
  clear hfix hn2 hn3 hok hok2 hR hkk2 hkk3
  go_wp2_with fail
  rw [← hwb]
  (with_reducible refine cp.mono ?_)
  rintro x wm ⟨rfl, m, rfl⟩
  have h3 := h2.dn m
  have x3 := x2.drewN m
  have b3 := b2.drewN m
  have T3 := T2.drewN m
  have N3 := N2.drewN m
  clear cp hwb h2 x2 b2
  have zb : w1.heap.size < (wb.drewN m).heap.size := z2
  generalize wb.drewN m = wc at *
  have q0 := b3.cell 0
  have q1 := b3.cell 1
  have q2 := b3.cell 2
  have q3 := b3.cell 3
  have q4 := b3.cell 4
  have q5 := b3.cell 5
  have q6 := b3.cell 6
  have q7 := b3.cell 7
  have q8 := b3.cell 8
  simp only [List.getElem?_toArray, List.getElem?_cons_zero, List.getElem?_cons_succ] at q0 q1 q2 q3 q4 q5 q6 q7 q8
  obtain ⟨we, hwe⟩ : ∃ z : World, z = (wc.alloc (.cells (reC k0 k1 A k2 c k3 k4 k5).toArray 28)).alloc (.cells #[.int .i64 6, .int .u64 0, .int .u64 0, .int .u64 0, .int .u64 0, .slice (some ⟨wc.heap.size, 0, none⟩) 1 1, .int .i64 0, .int .i64 (-1), .int .i64 0] 28) := ⟨_, rfl⟩
  have h4 : Rdr we R s k g' 0 := by rw [hwe]; exact (h3.alloc _).alloc _
  have x4 : Blk we w.heap.size 28 zC := by rw [hwe]; exact (x3.alloc _).alloc _
  have kb4 : Blk we wc.heap.size 28 (reC k0 k1 A k2 c k3 k4 k5).toArray := by rw [hwe]; exact (Blk.new _ _ _).alloc _
  have y4 : Blk we (wc.heap.size + 1) 28 #[.int .i64 6, .int .u64 0, .int .u64 0, .int .u64 0, .int .u64 0, .slice (some ⟨wc.heap.size, 0, none⟩) 1 1, .int .i64 0, .int .i64 (-1), .int .i64 0] := by rw [hwe]; exact Blk.new1 _ _ _ _
  have T4 : Tch (On R) w we := by rw [hwe]; exact (T3.alloc _).alloc _
  have N4 : Tch (· = w.heap.size) w1 we := by rw [hwe]; exact (N3.alloc _).alloc _
  have z4 : wc.heap.size + 1 < we.heap.size := by rw [hwe, World.size_alloc, World.size_alloc]; omega
  have HRT4 := Lib.hid (HRT.out.tch N4 (fun b hb e => by omega))
  have cn := hn we h4
  clear hn x3 b3 h3
  obtain ⟨KB, hKB⟩ : ∃ KB, KB = wc.heap.size := ⟨_, rfl⟩
  go_wp2_with fail
  rw [← hwe]
  clear hwe q0 q1 q2 q3 q4 q5 q6 q7 q8
  rw [← hKB] at kb4 y4 z4 ⊢
  have hKBa : w1.heap.size ≤ KB := by omega
  clear hKB
  (with_reducible refine cn.mono ?_)
  rintro x wf ⟨rfl, h5, t5⟩
  have x5 := x4.tch t5 (show ¬ (w.heap.size = R) by omega)
  have kb5 := kb4.tch t5 (show ¬ (KB = R) by omega)
  have y5 := y4.tch t5 (show ¬ (KB + 1 = R) by omega)
  have T5 := T4.trans t5
  have z5 := t5.size
  have HRT5 := Lib.hid (HRT4.out.tch t5 (fun b hb e => by have e2 : b = R := e; omega))
  clear cn x4 kb4 y4 h4
  by_cases e1 : ch = 43
  · subst e1
    have HS : Hid (SP = .ok (.mk 6 0 [r] 1 (-1) 0, rest s (k + 1), g')) := Lib.hid (by rw [← HSP.out]; exact piece_plus HO.out HK2.out HK3.out)
    rw [show (((43 : UInt8).toNat : Nat) : Int) = 43 from rfl]
    have q0 := y5.cell 0
    have q1 := y5.cell 1
    have q2 := y5.cell 2
    have q3 := y5.cell 3
    have q4 := y5.cell 4
    have q5 := y5.cell 5
    have q6 := y5.cell 6
    have q7 := y5.cell 7
    have q8 := y5.cell 8
    simp only [List.getElem?_toArray, List.getElem?_cons_zero, List.getElem?_cons_succ] at q0 q1 q2 q3 q4 q5 q6 q7 q8
    have fy6 := y5.loose 6
    have fy7 := y5.loose 7
    have p0 := x5.cell 0
    have p1 := x5.cell 1
    have p2 := x5.cell 2
    have p3 := x5.cell 3
    have p4 := x5.cell 4
    have p5 := x5.cell 5
    have p6 := x5.cell 6
    have p7 := x5.cell 7
    have p8 := x5.cell 8
    simp only [List.getElem?_toArray, List.getElem?_cons_zero, List.getElem?_cons_succ] at p0 p1 p2 p3 p4 p5 p6 p7 p8
    have r0 := x5.loose 0
    have r1 := x5.loose 1
    have r2 := x5.loose 2
    have r3 := x5.loose 3
    have r4 := x5.loose 4
    have r5 := x5.loose 5
    have r6 := x5.loose 6
    have r7 := x5.loose 7
    have r8 := x5.loose 8
    have fin : ∀ W, Tch (fun b => b = w.heap.size ∨ b = KB + 1) wf W → Rdr W R s (k + 1) g' 0 → PPost B R s w SP (.returned (.agg (reC 6 0 (some ⟨KB, 0, none⟩) 1 1 1 (-1) 0).toArray)) W := fun W hT hr =>
      ⟨.mk 6 0 [r] 1 (-1) 0, _, k + 1, g', 0, rfl, one_kid (tree_k HRT5.out hT (fun b hb e => by omega) (fun b hb => by omega)) (kb5.tch hT (by omega)) (by omega) 6 1 (-1) 0 1, hr, by omega, tch_new T5 hT (fun b hb => by omega), Or.inl ⟨rfl, HS.out⟩⟩
    have FIN := Lib.hid fin
    clear fin
    go_wp2
    refine bodyPost_ret (v := .agg ((reC 6 0 (some ⟨KB, 0, none⟩) 1 1 1 (-1) 0)).toArray) (by simp [results, Tryd.results48, go_sem, word, p0, p1, p2, p3, p4, p5, p6, p7, p8]) rfl ?_
    exact FIN.out _ (tch9 (X := w.heap.size) ((Tch.refl _ _).setCell (p := ⟨KB + 1, 6, none⟩) (Or.inr rfl) (.int .i64 1)) (Or.inl rfl)) (rdr9 (Blk.far h5 (p := ⟨KB + 1, 6, none⟩) (by show R ≠ KB + 1; omega) (.int .i64 1)) (by omega))
  by_cases e2 : ch = 63
  · subst e2
    have HS : Hid (SP = .ok (.mk 6 0 [r] 0 1 0, rest s (k + 1), g')) := Lib.hid (by rw [← HSP.out]; exact piece_opt HO.out HK2.out HK3.out)
    rw [show (((63 : UInt8).toNat : Nat) : Int) = 63 from rfl]
    have q0 := y5.cell 0
    have q1 := y5.cell 1
    have q2 := y5.cell 2
    have q3 := y5.cell 3
    have q4 := y5.cell 4
    have q5 := y5.cell 5
    have q6 := y5.cell 6
    have q7 := y5.cell 7
    have q8 := y5.cell 8
    simp only [List.getElem?_toArray, List.getElem?_cons_zero, List.getElem?_cons_succ] at q0 q1 q2 q3 q4 q5 q6 q7 q8
    have fy6 := y5.loose 6
    have fy7 := y5.loose 7
    have p0 := x5.cell 0
    have p1 := x5.cell 1
    have p2 := x5.cell 2
    have p3 := x5.cell 3
    have p4 := x5.cell 4
    have p5 := x5.cell 5
    have p6 := x5.cell 6
    have p7 := x5.cell 7
    have p8 := x5.cell 8
    simp only [List.getElem?_toArray, List.getElem?_cons_zero, List.getElem?_cons_succ] at p0 p1 p2 p3 p4 p5 p6 p7 p8
    have r0 := x5.loose 0
    have r1 := x5.loose 1
    have r2 := x5.loose 2
    have r3 := x5.loose 3
    have r4 := x5.loose 4
    have r5 := x5.loose 5
    have r6 := x5.loose 6
    have r7 := x5.loose 7
    have r8 := x5.loose 8
    have fin : ∀ W, Tch (fun b => b = w.heap.size ∨ b = KB + 1) wf W → Rdr W R s (k + 1) g' 0 → PPost B R s w SP (.returned (.agg (reC 6 0 (some ⟨KB, 0, none⟩) 1 1 0 1 0).toArray)) W := fun W hT hr =>
      ⟨.mk 6 0 [r] 0 1 0, _, k + 1, g', 0, rfl, one_kid (tree_k HRT5.out hT (fun b hb e => by omega) (fun b hb => by omega)) (kb5.tch hT (by omega)) (by omega) 6 0 1 0 1, hr, by omega, tch_new T5 hT (fun b hb => by omega), Or.inl ⟨rfl, HS.out⟩⟩
    have FIN := Lib.hid fin
    clear fin
    go_wp2
    refine bodyPost_ret (v := .agg ((reC 6 0 (some ⟨KB, 0, none⟩) 1 1 0 1 0)).toArray) (by simp [results, Tryd.results48, go_sem, word, p0, p1, p2, p3, p4, p5, p6, p7, p8]) rfl ?_
    exact FIN.out _ (tch9 (X := w.heap.size) ((Tch.refl _ _).setCell (p := ⟨KB + 1, 7, none⟩) (Or.inr rfl) (.int .i64 1)) (Or.inl rfl)) (rdr9 (Blk.far h5 (p := ⟨KB + 1, 7, none⟩) (by show R ≠ KB + 1; omega) (.int .i64 1)) (by omega))
  by_cases e4 : ch = 42
  · subst e4
    have HS : Hid (SP = .ok (.mk 6 0 [r] 0 (-1) 0, rest s (k + 1), g')) := Lib.hid (by rw [← HSP.out]; exact piece_star HO.out HK2.out HK3.out)
    rw [show (((42 : UInt8).toNat : Nat) : Int) = 42 from rfl]
    have q0 := y5.cell 0
    have q1 := y5.cell 1
    have q2 := y5.cell 2
    have q3 := y5.cell 3
    have q4 := y5.cell 4
    have q5 := y5.cell 5
    have q6 := y5.cell 6
    have q7 := y5.cell 7
    have q8 := y5.cell 8
    simp only [List.getElem?_toArray, List.getElem?_cons_zero, List.getElem?_cons_succ] at q0 q1 q2 q3 q4 q5 q6 q7 q8
    have fy6 := y5.loose 6
    have fy7 := y5.loose 7
    have p0 := x5.cell 0
    have p1 := x5.cell 1
    have p2 := x5.cell 2
    have p3 := x5.cell 3
    have p4 := x5.cell 4
    have p5 := x5.cell 5
    have p6 := x5.cell 6
    have p7 := x5.cell 7
    have p8 := x5.cell 8
    simp only [List.getElem?_toArray, List.getElem?_cons_zero, List.getElem?_cons_succ] at p0 p1 p2 p3 p4 p5 p6 p7 p8
    have r0 := x5.loose 0
    have r1 := x5.loose 1
    have r2 := x5.loose 2
    have r3 := x5.loose 3
    have r4 := x5.loose 4
    have r5 := x5.loose 5
    have r6 := x5.loose 6
    have r7 := x5.loose 7
    have r8 := x5.loose 8
    have fin : ∀ W, Tch (fun b => b = w.heap.size ∨ b = KB + 1) wf W → Rdr W R s (k + 1) g' 0 → PPost B R s w SP (.returned (.agg (reC 6 0 (some ⟨KB, 0, none⟩) 1 1 0 (-1) 0).toArray)) W := fun W hT hr =>
      ⟨.mk 6 0 [r] 0 (-1) 0, _, k + 1, g', 0, rfl, one_kid (tree_k HRT5.out hT (fun b hb e => by omega) (fun b hb => by omega)) (kb5.tch hT (by omega)) (by omega) 6 0 (-1) 0 1, hr, by omega, tch_new T5 hT (fun b hb => by omega), Or.inl ⟨rfl, HS.out⟩⟩
    have FIN := Lib.hid fin
    clear fin
    go_wp2
    refine bodyPost_ret (v := .agg ((reC 6 0 (some ⟨KB, 0, none⟩) 1 1 0 (-1) 0)).toArray) (by simp [results, Tryd.results48, go_sem, word, p0, p1, p2, p3, p4, p5, p6, p7, p8]) rfl ?_
    exact FIN.out _ (tch9 (X := w.heap.size) (Tch.refl _ _) (Or.inl rfl)) (rdr9 h5 (by omega))
  have e5 : ch = 123 := by
    have := hcr
    unfold isRep at this
    simp only [Bool.or_eq_true, beq_iff_eq] at this
    rcases this with ((h | h) | h) | h
    · exact absurd h e4
    · exact absurd h e1
    · exact absurd h e2
    · exact h
  subst e5
  have hP := piece_times HO.out HK2.out HK3.out
  have HP := Lib.hid hP
  have ctm := times_c R s (k + 1) g' wf h5 (by omega) hs2
  rw [show (((123 : UInt8).toNat : Nat) : Int) = 123 from rfl]
  clear e1 e2 e4 hcr hP
  go_wp2_with fail
  (with_reducible refine ctm.mono ?_)
  rintro x wg ⟨lo, hi, k6, e6, rfl, h6, hk6, t6, hsp⟩
  have x6 := x5.tch t6 (show ¬ (w.heap.size = R) by omega)
  have kb6 := kb5.tch t6 (show ¬ (KB = R) by omega)
  have y6 := y5.tch t6 (show ¬ (KB + 1 = R) by omega)
  have T6 := T5.trans t6
  have z6 := t6.size
  have HRT6 := Lib.hid (HRT5.out.tch t6 (fun b hb e => by have e2 : b = R := e; omega))
  have HS : Hid ((e6 = 0 ∧ SP = .ok (.mk 6 0 [r] lo hi 0, rest s k6, g')) ∨ (e6 ≠ 0 ∧ SP = .error (rest s k6, e6))) := Lib.hid (by
    rw [← HSP.out, HP.out]
    rcases hsp with ⟨h7, h8⟩ | ⟨h7, h8⟩
    · exact Or.inl ⟨h7, by rw [h8]⟩
    · exact Or.inr ⟨by omega, by rw [h8, h7]⟩)
  clear ctm hsp x5 kb5 y5 h5
  have q0 := y6.cell 0
  have q1 := y6.cell 1
  have q2 := y6.cell 2
  have q3 := y6.cell 3
  have q4 := y6.cell 4
  have q5 := y6.cell 5
  have q6 := y6.cell 6
  have q7 := y6.cell 7
  have q8 := y6.cell 8
  simp only [List.getElem?_toArray, List.getElem?_cons_zero, List.getElem?_cons_succ] at q0 q1 q2 q3 q4 q5 q6 q7 q8
  have fy6 := y6.loose 6
  have fy7 := y6.loose 7
  have p0 := x6.cell 0
  have p1 := x6.cell 1
  have p2 := x6.cell 2
  have p3 := x6.cell 3
  have p4 := x6.cell 4
  have p5 := x6.cell 5
  have p6 := x6.cell 6
  have p7 := x6.cell 7
  have p8 := x6.cell 8
  simp only [List.getElem?_toArray, List.getElem?_cons_zero, List.getElem?_cons_succ] at p0 p1 p2 p3 p4 p5 p6 p7 p8
  have r0 := x6.loose 0
  have r1 := x6.loose 1
  have r2 := x6.loose 2
  have r3 := x6.loose 3
  have r4 := x6.loose 4
  have r5 := x6.loose 5
  have r6 := x6.loose 6
  have r7 := x6.loose 7
  have r8 := x6.loose 8
  have fin : ∀ W, Tch (fun b => b = w.heap.size ∨ b = KB + 1) wg W → Rdr W R s k6 g' e6 → PPost B R s w SP (.returned (.agg (reC 6 0 (some ⟨KB, 0, none⟩) 1 1 lo hi 0).toArray)) W := fun W hT hr =>
    ⟨.mk 6 0 [r] lo hi 0, _, k6, g', e6, rfl, one_kid (tree_k HRT6.out hT (fun b hb e => by omega) (fun b hb => by omega)) (kb6.tch hT (by omega)) (by omega) 6 lo hi 0 1, hr, hk6, tch_new T6 hT (fun b hb => by omega), HS.out⟩
  have FIN := Lib.hid fin
  clear fin
  go_wp2
  refine bodyPost_ret (v := .agg ((reC 6 0 (some ⟨KB, 0, none⟩) 1 1 lo hi 0)).toArray) (by simp [results, Tryd.results48, go_sem, word, p0, p1, p2, p3, p4, p5, p6, p7, p8]) rfl ?_
  exact FIN.out _ (tch9 (X := w.heap.size) (((Tch.refl _ _).setCell (p := ⟨KB + 1, 6, none⟩) (Or.inr rfl) (.int .i64 lo)).setCell (p := ⟨KB + 1, 7, none⟩) (Or.inr rfl) (.int .i64 hi)) (Or.inl rfl)) (rdr9 (Blk.far (Blk.far h6 (p := ⟨KB + 1, 6, none⟩) (by show R ≠ KB + 1; omega) (.int .i64 lo)) (p := ⟨KB + 1, 7, none⟩) (by show R ≠ KB + 1; omega) (.int .i64 hi)) (by omega))
end EreX
end Go.Proofs.YtdonokghemhfiaaDoor
