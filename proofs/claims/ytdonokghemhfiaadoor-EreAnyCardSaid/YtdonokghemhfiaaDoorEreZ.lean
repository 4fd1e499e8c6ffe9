/- The walks of the expression reader's row, alt and group. Conditions: texts that fit. -/
import Derived.Test.YtdonokghemhfiaaDoorEreY
namespace Go.Proofs.YtdonokghemhfiaaDoor
set_option linter.unusedVariables false
set_option linter.unusedSimpArgs false
open Go.RowKit
namespace EreX
open EreP EreW
theorem info_R : (Tryd.prog.info? 28).map (fun i => (i.zero, i.size, i.bytes)) = some (some (.agg #[.int .i64 0, .int .u64 0, .int .u64 0, .int .u64 0, .int .u64 0, .slice none 0 0, .int .i64 0, .int .i64 0, .int .i64 0]), 9, 88) := by kernel_rfl
/-- Blocks from one on, but not that of a row. -/
abbrev Kv (B : Nat) (v : Value) : Nat → Prop := fun b => B ≤ b ∧ v.ownBlock ≠ some b
theorem rts_lt {w : World} {K : Nat → Prop} {l : List Re} {xs : List Value} (h : Rts w K l xs) : Rts w (fun b => K b ∧ b < w.heap.size) l xs := by
  obtain ⟨css, hl, e, ha⟩ := h
  exact ⟨css, hl, e, fun i h h' => (ha i h h').lt_⟩
theorem rts_keep {w w' : World} {K K' : Nat → Prop} {l : List Re} {xs : List Value} (h : Rts w K l xs) (hK : ∀ b, K b → K' b) (hk : ∀ b, K b → b < w.heap.size → w'.heap[b]? = w.heap[b]?) : Rts w' K' l xs := by
  obtain ⟨css, hl, e, ha⟩ := h
  exact ⟨css, hl, e, fun i h h' => (ha i h h').keep hK hk⟩
/-- One more, behind the others: whatever row it came to lie in. -/
theorem rts_snoc {o : Obj} {B g cap H : Nat} {w0 w w' : World} {v : Value} {l : List Re} {xs cs : List Value} {r : Re} (h : Rts w (Kv B v) l xs) (hr : Rt w (w0.heap.size ≤ ·) r cs) (hB : B ≤ w0.heap.size)
    (hv : ∀ k, v.ownBlock = some k → k < w0.heap.size) (hgrow : (w.alloc o).grownBy w' v.ownBlock) (hat : v.ownBlock = some g ∨ g = H) (hH : w.heap.size + 1 = H) :
    Rts w' (Kv B (.slice (some ⟨g, 0, none⟩) (l.length + 1) cap)) (l ++ [r]) (xs ++ cs) := by
  have hg : ∀ b, b < w.heap.size → v.ownBlock ≠ some b → b ≠ g := by
    intro b hb hne e
    subst e
    rcases hat with h1 | h1
    · exact hne h1
    · omega
  have same : ∀ b, b < w.heap.size → v.ownBlock ≠ some b → w'.heap[b]? = w.heap[b]? := by
    intro b hb hne
    rw [hgrow.block b (by rw [World.size_alloc]; omega) (fun e => hne e.symm)]
    exact Below.heap_alloc w _ b hb
  have ob : (Value.slice (some (⟨g, 0, none⟩ : Addr)) (l.length + 1) cap).ownBlock = some g := rfl
  refine Rts.snoc (rts_keep (rts_lt h) (fun b hb => ⟨hb.1.1, ?a⟩) (fun b hb hl => same b hl hb.1.2)) (hr.lt_.keep (fun b hb => ⟨by omega, ?b⟩) (fun b hb hl => same b hl ?c))
  case a => rw [ob]; intro e; injection e with e; exact hg b hb.2 hb.1.2 e.symm
  case b =>
    rw [ob]; intro e; injection e with e
    exact hg b hb.2 (fun e2 => by have := hv b e2; omega) e.symm
  case c => intro e2; have := hv b e2; omega
/-- How a list of expressions stands in a loop. -/
structure Lst (B R X : Nat) (s : ByteArray) (w0 : World) (v : Value) (acc : List Re) (k g e : Nat) (wr : World) : Prop where
  own : ∃ xs, wr.ownsRow B 28 9 v acc.length xs ∧ Rts wr (Kv B v) acc xs
  rdr : Rdr wr R s k g e
  res : Blk wr X 28 zC
  tch : Tch (On R) w0 wr
  le : k ≤ s.size
theorem Lst.dn {B R X k g e : Nat} {s : ByteArray} {w0 wr : World} {v : Value} {acc : List Re} (h : Lst B R X s w0 v acc k g e wr) (m : Nat) : Lst B R X s w0 v acc k g e (wr.drewN m) := by
  obtain ⟨⟨xs, h1, h2⟩, h3, h4, h5, h6⟩ := h
  exact ⟨⟨xs, h1, rts_keep h2 (fun _ h => h) (fun _ _ _ => rfl)⟩, h3.dn m, h4.drewN m, h5.drewN m, h6⟩
def RowC (d : Nat) : Prop := ∀ (R B : Nat) (s : ByteArray) (i g : Nat) (w : World), Rdr w R s i g 0 → R < B → B ≤ w.heap.size → i ≤ s.size → s.size ≤ 200 → g ≤ i →
  Calls Tryd.prog 33 #[pt R, .int .i64 (d : Nat)] w (PPost B R s w (rowP (grpP (64 - d)) ((rest s i).length + 1) [] (rest s i) g))
def AltC (d : Nat) : Prop := ∀ (R B : Nat) (s : ByteArray) (i g : Nat) (w : World), Rdr w R s i g 0 → R < B → B ≤ w.heap.size → i ≤ s.size → s.size ≤ 200 → g ≤ i →
  Calls Tryd.prog 19 #[pt R, .int .i64 (d : Nat)] w (PPost B R s w (altP (grpP (64 - d)) ((rest s i).length + 1) [] (rest s i) g))
/-- The end of row and alt: one, or a kind that has them all. -/
theorem sev_any {kind : Int} {B R X : Nat} {s : ByteArray} {w0 wr : World} {v : Value} {acc : List Re} {k g e : Nat} (h : Lst B R X s w0 v acc k g e wr) (hn : acc.length ≤ 1048576) :
    Calls Tryd.prog 36 #[.int .i64 kind, v] wr (SevPost kind acc (B ≤ ·) wr) := by
  obtain ⟨xs, h1, h2⟩ := h.own
  exact several_c kind B acc v xs wr h1 (rts_keep h2 (fun b hb => hb.1) (fun _ _ _ => rfl)) hn
theorem end_any (c : UInt8) (r : Bs) : peekB (⟨#[124, 41]⟩ : ByteArray).data.toList (c :: r) 0 = rowEnd (c :: r) := by
  show List.contains [124, 41] c = _
  rw [Bool.eq_iff_iff]; simp [rowEnd]
set_option maxHeartbeats 6400000 in
set_option maxRecDepth 100000 in
theorem row_c (d : Nat) (hd : d ≤ 64) (hG : d < 64 → GrpC d) : RowC d := by
  intro R B s i g w h hRB hB hi hs hgi
  have hs2 : s.size ≤ 4611686018427387904 := by omega
  obtain ⟨SP, hSP⟩ : ∃ SP, rowP (grpP (64 - d)) ((rest s i).length + 1) [] (rest s i) g = SP := ⟨_, rfl⟩
  have hGL := grp_len (64 - d)
  have hGM := grp_mono (64 - d)
  obtain ⟨wa, hwa⟩ : ∃ z : World, z = w.alloc (.cells zC 28) := ⟨_, rfl⟩
  have ha : Rdr wa R s i g 0 := by rw [hwa]; exact h.alloc _
  have xa : Blk wa w.heap.size 28 zC := by rw [hwa]; exact Blk.new _ _ _
  have za : wa.heap.size = w.heap.size + 1 := by rw [hwa, World.size_alloc]
  have ta : Tch (On R) w wa := by rw [hwa]; exact (Tch.refl _ _).alloc _
  have hlR := h.lt
  have hL0 : Lst wa.heap.size R w.heap.size s wa (.slice none 0 0) [] i g 0 wa := ⟨⟨[], World.ownsRow_nil _ _ _ _, Rts.nil⟩, ha, xa, Tch.refl _ _, hi⟩
  have hS0 : g ≤ i ∧ ∃ fuel, (rest s i).length < fuel ∧ SP = rowP (grpP (64 - d)) fuel [] (rest s i) g := ⟨hgi, _, Nat.lt_succ_self _, hSP.symm⟩
  have HL0 := Lib.hid hL0
  have HS0 := Lib.hid hS0
  rw [hSP]
  have HGL := Lib.hid hGL
  have HGM := Lib.hid hGM
  have hGd := hG
  clear hSP hL0 hS0 h ha xa hGL hGM hG
  obtain ⟨i0, hi0, hz0, hz1, hz2⟩ := info_parts info_R
  obtain ⟨BB, hBB⟩ : ∃ BB, BB = wa.heap.size := ⟨_, rfl⟩
  have hBw : w.heap.size < BB := by omega
  rw [← hBB] at HL0
  have hBa : BB ≤ wa.heap.size := by omega
  have hBa2 : wa.heap.size ≤ BB := by omega
  clear za hBB
  go_enter Tryd.func33, Tryd.ntmps33
  go_wp2_with fail
  rw [← hwa]
  clear hwa
  go_loopg [5] (2 * (s.size - i) + 1) (fun gg lv wr => ∃ (acc : List Re) (k g' e : Nat), Lst BB R w.heap.size s wa lv acc k g' e wr ∧ acc.length ≤ k + (if e = 0 then 0 else 1) ∧ 2 * (s.size - k) + (if e = 0 then 1 else 0) ≤ gg ∧
    ((e = 0 ∧ g' ≤ k ∧ ∃ fuel, (rest s k).length < fuel ∧ SP = rowP (grpP (64 - d)) fuel acc (rest s k) g') ∨ (e ≠ 0 ∧ SP = .error (rest s k, e))))
  case atStart => exact ⟨[], i, g, 0, HL0.out, by simp, by simp, Or.inl ⟨rfl, HS0.out⟩⟩
  case round =>
    obtain ⟨z0, rfl⟩ : ∃ z : World, z = wr := ⟨_, rfl⟩
    obtain ⟨lv, rfl⟩ : ∃ z : Value, z = u5 := ⟨_, rfl⟩
    obtain ⟨acc, k, g', e, hL, hacc, hgg, hsp⟩ := hrel
    have hk := hL.le
    have cm := more_c R s k g' e z0 hL.rdr
    have hacc2 : acc.length ≤ 1048576 := by
      have := hacc
      split at this <;> omega
    by_cases he : e = 0
    rotate_left
    · have hb : (e == 0 && decide (k < s.size)) = false := by simp [he]
      rw [hb] at cm
      have herr : e ≠ 0 ∧ SP = .error (rest s k, e) := by
        rcases hsp with ⟨h1, _⟩ | h1
        · exact absurd h1 he
        · exact h1
      have HSP := Lib.hid herr
      clear hb herr he hsp hacc hgg
      go_wp2_with fail
      (with_reducible refine cm.mono ?_)
      rintro x wm ⟨rfl, m, rfl⟩
      have hLm := hL.dn m
      clear cm hL
      have cs := sev_any (kind := 4) hLm (by omega)
      have hLr := (hLm).rdr
      have hLx := (hLm).res
      have hLt := (hLm).tch
      go_wp2_with fail
      (with_reducible refine cs.mono ?_)
      rintro x w9 ⟨cv, rfl, hrt9, hb9⟩
      have h9 := hLr.next hb9
      have x9 := hLx.next hb9
      have T9 := ta.trans (hLt.trans (Tch.of_below hb9))
      obtain ⟨A, c, rfl, hS9, hnil9⟩ := hrt9.shape
      have HRT := Lib.hid hrt9
      clear cs hrt9 hnil9 hS9
      generalize hk0 : (several 4 acc).kind = k0 at *
      generalize hk1 : (several 4 acc).set = k1 at *
      generalize hk2 : (several 4 acc).kids.length = k2 at *
      generalize hk3 : (several 4 acc).lo = k3 at *
      generalize hk4 : (several 4 acc).hi = k4 at *
      generalize hk5 : (several 4 acc).n = k5 at *
      clear hk0 hk1 hk2 hk3 hk4 hk5
      have p0 := x9.cell 0
      have p1 := x9.cell 1
      have p2 := x9.cell 2
      have p3 := x9.cell 3
      have p4 := x9.cell 4
      have p5 := x9.cell 5
      have p6 := x9.cell 6
      have p7 := x9.cell 7
      have p8 := x9.cell 8
      simp only [List.getElem?_toArray, List.getElem?_cons_zero, List.getElem?_cons_succ] at p0 p1 p2 p3 p4 p5 p6 p7 p8
      have r0 := x9.loose 0
      have r1 := x9.loose 1
      have r2 := x9.loose 2
      have r3 := x9.loose 3
      have r4 := x9.loose 4
      have r5 := x9.loose 5
      have r6 := x9.loose 6
      have r7 := x9.loose 7
      have r8 := x9.loose 8
      go_wp2
      refine bodyPost_ret (v := .agg (reC k0 k1 A k2 c k3 k4 k5).toArray) (by simp [results, Tryd.results33, go_sem, p0, p1, p2, p3, p4, p5, p6, p7, p8]) rfl ?_
      exact ⟨_, _, k, g', e, rfl, tree_x HRT.out (tch9 (S := (· = w.heap.size)) (Tch.refl _ _) rfl) (by omega) (by omega), rdr9 h9 (by omega), hk, tch_new T9 (tch9 (S := (· = w.heap.size)) (Tch.refl _ _) rfl) (fun b hb => by rw [hb]; exact Nat.le_refl _), Or.inr HSP.out⟩
    subst he
    obtain ⟨_, hgk, fuel, hfu, hsp⟩ : 0 = 0 ∧ g' ≤ k ∧ ∃ fuel, (rest s k).length < fuel ∧ SP = rowP (grpP (64 - d)) fuel acc (rest s k) g' := by
      rcases hsp with h1 | ⟨h1, _⟩
      · exact h1
      · exact absurd rfl h1
    rw [if_pos rfl] at hacc hgg
    obtain ⟨f, rfl⟩ : ∃ f, fuel = f + 1 := ⟨fuel - 1, by omega⟩
    rw [rowP] at hsp
    by_cases hlt : k < s.size
    rotate_left
    · rw [decide_eq_false hlt] at cm
      have hr := rest_nil s k (by omega)
      rw [show rowEnd (rest s k) = true by rw [hr]; rfl, if_pos rfl] at hsp
      have HSP := Lib.hid hsp
      obtain ⟨e, he⟩ : ∃ e, e = 0 := ⟨0, rfl⟩
      have HE := Lib.hid he
      clear hsp hr hlt he
      go_wp2_with fail
      (with_reducible refine cm.mono ?_)
      rintro x wm ⟨rfl, m, rfl⟩
      have hLm := hL.dn m
      clear cm hL
      have cs := sev_any (kind := 4) hLm (by omega)
      have hLr := (hLm).rdr
      have hLx := (hLm).res
      have hLt := (hLm).tch
      go_wp2_with fail
      (with_reducible refine cs.mono ?_)
      rintro x w9 ⟨cv, rfl, hrt9, hb9⟩
      have h9 := hLr.next hb9
      have x9 := hLx.next hb9
      have T9 := ta.trans (hLt.trans (Tch.of_below hb9))
      obtain ⟨A, c, rfl, hS9, hnil9⟩ := hrt9.shape
      have HRT := Lib.hid hrt9
      clear cs hrt9 hnil9 hS9
      generalize hk0 : (several 4 acc).kind = k0 at *
      generalize hk1 : (several 4 acc).set = k1 at *
      generalize hk2 : (several 4 acc).kids.length = k2 at *
      generalize hk3 : (several 4 acc).lo = k3 at *
      generalize hk4 : (several 4 acc).hi = k4 at *
      generalize hk5 : (several 4 acc).n = k5 at *
      clear hk0 hk1 hk2 hk3 hk4 hk5
      have p0 := x9.cell 0
      have p1 := x9.cell 1
      have p2 := x9.cell 2
      have p3 := x9.cell 3
      have p4 := x9.cell 4
      have p5 := x9.cell 5
      have p6 := x9.cell 6
      have p7 := x9.cell 7
      have p8 := x9.cell 8
      simp only [List.getElem?_toArray, List.getElem?_cons_zero, List.getElem?_cons_succ] at p0 p1 p2 p3 p4 p5 p6 p7 p8
      have r0 := x9.loose 0
      have r1 := x9.loose 1
      have r2 := x9.loose 2
      have r3 := x9.loose 3
      have r4 := x9.loose 4
      have r5 := x9.loose 5
      have r6 := x9.loose 6
      have r7 := x9.loose 7
      have r8 := x9.loose 8
      go_wp2
      refine bodyPost_ret (v := .agg (reC k0 k1 A k2 c k3 k4 k5).toArray) (by simp [results, Tryd.results33, go_sem, p0, p1, p2, p3, p4, p5, p6, p7, p8]) rfl ?_
      exact ⟨_, _, k, g', 0, rfl, tree_x HRT.out (tch9 (S := (· = w.heap.size)) (Tch.refl _ _) rfl) (by omega) (by omega), rdr9 h9 (by omega), hk, tch_new T9 (tch9 (S := (· = w.heap.size)) (Tch.refl _ _) rfl) (fun b hb => by rw [hb]; exact Nat.le_refl _), Or.inl ⟨rfl, HSP.out⟩⟩
    rw [decide_eq_true hlt] at cm
    have hR := rest_cons s k hlt
    have cp := fun m => peek_c R s ⟨#[124, 41]⟩ k g' 0 (z0.drewN m) (hL.rdr.dn m)
    have hpk : peekB (⟨#[124, 41]⟩ : ByteArray).data.toList (rest s k) 0 = rowEnd (rest s k) := by rw [hR]; exact end_any _ _
    rw [hpk] at cp
    clear hpk
    cases hend : rowEnd (rest s k)
    rotate_left
    · rw [hend] at cp hsp
      rw [if_pos rfl] at hsp
      have HSP := Lib.hid hsp
      clear hsp hR hend
      go_wp2_with fail
      (with_reducible refine cm.mono ?_)
      rintro x wm ⟨rfl, m, rfl⟩
      have cp' := cp m
      clear cm cp
      go_wp2_with fail
      (with_reducible refine cp'.mono ?_)
      rintro x wm ⟨rfl, m2, rfl⟩
      have hLm := hL.dn (m + m2)
      clear cp' hL
      have cs := sev_any (kind := 4) hLm (by omega)
      have hLr := (hLm).rdr
      have hLx := (hLm).res
      have hLt := (hLm).tch
      go_wp2_with fail
      (with_reducible refine cs.mono ?_)
      rintro x w9 ⟨cv, rfl, hrt9, hb9⟩
      have h9 := hLr.next hb9
      have x9 := hLx.next hb9
      have T9 := ta.trans (hLt.trans (Tch.of_below hb9))
      obtain ⟨A, c, rfl, hS9, hnil9⟩ := hrt9.shape
      have HRT := Lib.hid hrt9
      clear cs hrt9 hnil9 hS9
      generalize hk0 : (several 4 acc).kind = k0 at *
      generalize hk1 : (several 4 acc).set = k1 at *
      generalize hk2 : (several 4 acc).kids.length = k2 at *
      generalize hk3 : (several 4 acc).lo = k3 at *
      generalize hk4 : (several 4 acc).hi = k4 at *
      generalize hk5 : (several 4 acc).n = k5 at *
      clear hk0 hk1 hk2 hk3 hk4 hk5
      have p0 := x9.cell 0
      have p1 := x9.cell 1
      have p2 := x9.cell 2
      have p3 := x9.cell 3
      have p4 := x9.cell 4
      have p5 := x9.cell 5
      have p6 := x9.cell 6
      have p7 := x9.cell 7
      have p8 := x9.cell 8
      simp only [List.getElem?_toArray, List.getElem?_cons_zero, List.getElem?_cons_succ] at p0 p1 p2 p3 p4 p5 p6 p7 p8
      have r0 := x9.loose 0
      have r1 := x9.loose 1
      have r2 := x9.loose 2
      have r3 := x9.loose 3
      have r4 := x9.loose 4
      have r5 := x9.loose 5
      have r6 := x9.loose 6
      have r7 := x9.loose 7
      have r8 := x9.loose 8
      go_wp2
      refine bodyPost_ret (v := .agg (reC k0 k1 A k2 c k3 k4 k5).toArray) (by simp [results, Tryd.results33, go_sem, p0, p1, p2, p3, p4, p5, p6, p7, p8]) rfl ?_
      exact ⟨_, _, k, g', 0, rfl, tree_x HRT.out (tch9 (S := (· = w.heap.size)) (Tch.refl _ _) rfl) (by omega) (by omega), rdr9 h9 (by omega), hk, tch_new T9 (tch9 (S := (· = w.heap.size)) (Tch.refl _ _) rfl) (fun b hb => by rw [hb]; exact Nat.le_refl _), Or.inl ⟨rfl, HSP.out⟩⟩
    rw [hend] at cp hsp
    simp only [Bool.false_eq_true, if_false] at hsp
    have HSP := Lib.hid hsp
    clear hsp hR hend
    go_wp2_with fail
    (with_reducible refine cm.mono ?_)
    rintro x wm ⟨rfl, m, rfl⟩
    have cp' := cp m
    clear cm cp
    go_wp2_with fail
    (with_reducible refine cp'.mono ?_)
    rintro x wm ⟨rfl, m2, rfl⟩
    have hLm := hL.dn (m + m2)
    clear cp' hL
    obtain ⟨wm, hwm⟩ : ∃ z : World, z = z0.drewN (m + m2) := ⟨_, rfl⟩
    rw [← hwm] at hLm
    have cpc := piece_c d R wm.heap.size s k g' wm hLm.rdr hLm.rdr.lt (Nat.le_refl _) hlt hs hgk hd hGd
    go_wp2_with fail
    rw [← hwm]
    clear hwm
    (with_reducible refine cpc.mono ?_)
    rintro x w1 ⟨r, cv, k', g2, e, rfl, hrt, h1, hk', t1, hspc⟩
    obtain ⟨⟨xs, hown, hrts⟩, hLr, hLx, hLt, hLe⟩ := hLm
    have x1 := hLx.tch t1 (show ¬ (w.heap.size = R) by omega)
    have T1 := hLt.trans t1
    have hRB' : R < BB := by omega
    have hlt1 := hown.lt
    have hown1 : w1.ownsRow BB 28 9 lv acc.length xs := hown.kept (row := some R) ⟨t1.os, t1.tape, t1.output, t1.size, fun k hk hne => t1.block k hk (fun e => hne (by rw [e]))⟩ (by
      cases hv : lv.ownBlock with
      | none => exact Or.inl rfl
      | some b => right; intro e; injection e with e; have := (hlt1 b hv).1; omega)
    have hrts1 : Rts w1 (Kv BB lv) acc xs := hrts.tch t1 (fun b hb e => by have e2 : b = R := e; have := hb.1; omega)
    have hz1' := t1.size
    have hB1 : BB ≤ wm.heap.size := by have := hLt.size; omega
    obtain ⟨A, c, rfl, hS, hnil⟩ := hrt.shape
    have HRT := Lib.hid hrt
    have HRTS := Lib.hid hrts1
    have HSPC := Lib.hid hspc
    have HLV := Lib.hid (fun b (hb : lv.ownBlock = some b) => (hlt1 b hb).2)
    clear cpc hrt hS hnil hrts hrts1 hown hLr hLx hspc hlt1
    generalize hk0 : r.kind = k0 at *
    generalize hk1 : r.set = k1 at *
    generalize hk2 : r.kids.length = k2 at *
    generalize hk3 : r.lo = k3 at *
    generalize hk4 : r.hi = k4 at *
    generalize hk5 : r.n = k5 at *
    clear hk0 hk1 hk2 hk3 hk4 hk5
    go_wp2_with (at_builtin; refine wpList_append_lies _ rfl _ _ 26 rfl BB 28 i0 (.agg #[.int .i64 0, .int .u64 0, .int .u64 0, .int .u64 0, .int .u64 0, .slice none 0 0, .int .i64 0, .int .i64 0, .int .i64 0]) 9 88 Tryd.underlying26 hi0 hz0 hz1 hz2 rfl (by decide) _ acc.length xs rfl (hown1.alloc _) ⟨w1.heap.size, 0, none⟩ 1 1 (reC k0 k1 A k2 c k3 k4 k5) rfl rfl (World.news_of_block (heap_alloc_new w1 _)) (by intro u hu; simp at hu; rcases hu with rfl | rfl | rfl | rfl | rfl | rfl | rfl | rfl | rfl <;> rfl) (by omega) (by unfold maxLen; omega) (by omega) (by rw [World.size_alloc]; omega) (w1.heap.size + 1) (by rw [World.size_alloc]) ?_)
    intro g5 cap w5 hown5 hgrow hat hlt5
    have hrts5 := rts_snoc (cap := cap) HRTS.out HRT.out hB1 HLV.out hgrow hat rfl
    have tg : Tch (On R) w1 w5 → True := fun _ => trivial
    have hown1lt := hown1.lt
    have h5 : Rdr w5 R s k' g2 e := by
      have hne : lv.ownBlock ≠ some R := fun e => by have := (hown1lt R e).1; omega
      exact (hgrow.block R (by rw [World.size_alloc]; have := h1.lt; omega) (fun e => hne e.symm)).trans (Below.heap_alloc w1 _ R h1.lt |>.trans h1)
    have x5 : Blk w5 w.heap.size 28 zC := by
      have hne : lv.ownBlock ≠ some w.heap.size := fun e => by have := (hown1lt _ e).1; omega
      exact (hgrow.block w.heap.size (by rw [World.size_alloc]; have := x1.lt; omega) (fun e => hne e.symm)).trans (Below.heap_alloc w1 _ _ x1.lt |>.trans x1)
    have T5 : Tch (On R) wa w5 := by
      refine ⟨hgrow.os.trans T1.os, hgrow.tape.trans T1.tape, hgrow.output.trans T1.output, ?_, fun b hb hs => ?_⟩
      · have := hgrow.size; rw [World.size_alloc] at this; have := T1.size; omega
      · have hne : lv.ownBlock ≠ some b := fun e => by have := (hown1lt b e).1; omega
        have hb1 : b < w1.heap.size := by have := T1.size; omega
        exact (hgrow.block b (by rw [World.size_alloc]; omega) (fun e => hne e.symm)).trans ((Below.heap_alloc w1 _ b hb1).trans (T1.block b hb hs))
    have hlst : Lst BB R w.heap.size s wa (.slice (some ⟨g5, 0, none⟩) (acc.length + 1) cap) (acc ++ [r]) k' g2 e w5 := by
      refine ⟨⟨_, ?_, hrts5⟩, h5, x5, T5, hk'⟩
      rw [List.length_append]; exact hown5
    have HLST := Lib.hid hlst
    clear hlst hown5 hgrow hat hrts5 h5 x5 T5 hown1 tg hown1lt x1 T1 h1
    rcases HSPC.out with ⟨rfl, hok⟩ | ⟨he, herr⟩
    · have hpl := piece_len HGL.out hok
      rw [rest_len, rest_len] at hpl
      have hpm := piece_mono HGL.out HGM.out (rest s k) g'
      rw [hok] at hpm
      simp only [Mono] at hpm
      rw [rest_len, rest_len] at hpm
      have hs2' : SP = rowP (grpP (64 - d)) f (acc ++ [r]) (rest s k') g2 := by rw [HSP.out, hok]
      have hfl : (rest s k').length < f := by rw [rest_len]; rw [rest_len] at hfu; omega
      have HS2 := Lib.hid hs2'
      clear hs2' hok
      go_wp2
      go_roundg (2 * (s.size - k') + 1)
      case measure => omega
      case rel => exact ⟨acc ++ [r], k', g2, 0, HLST.out, by rw [List.length_append, if_pos rfl]; simp; omega, by simp, Or.inl ⟨rfl, by omega, f, hfl, HS2.out⟩⟩
    · have hpm := piece_mono HGL.out HGM.out (rest s k) g'
      rw [herr] at hpm
      simp only [Mono] at hpm
      rw [rest_len, rest_len] at hpm
      have hs2' : SP = .error (rest s k', e) := by rw [HSP.out, herr]
      have HS2 := Lib.hid hs2'
      have HE := Lib.hid he
      clear hs2' herr he
      go_wp2
      go_roundg (2 * (s.size - k'))
      case measure => omega
      case rel => exact ⟨acc ++ [r], k', g2, e, HLST.out, by rw [List.length_append, if_neg HE.out]; simp; omega, by rw [if_neg HE.out]; omega, Or.inr ⟨HE.out, HS2.out⟩⟩
end EreX
end Go.Proofs.YtdonokghemhfiaaDoor
