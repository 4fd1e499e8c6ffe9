/- The text of a tree: the walk of text. Conditions: trees that fit. -/
import Derived.Test.YtpdmjegbjcefjaaDoorEreSt
import Derived.Test.YtpdmjegbjcefjaaDoorEreRa
import Derived.Test.YtpdmjegbjcefjaaDoorBld
import Derived.Deep.DeepCutAuto
import Derived.Deep.CutBlock
namespace Go.Proofs.YtpdmjegbjcefjaaDoor
set_option linter.unusedVariables false
set_option linter.unusedSimpArgs false
open Go.RowKit
namespace EreX
open EreP EreW QuoB
def headT (k : Int) (s : Nat) : Bs := if k = 1 then setB s else if k = 2 then [94] else if k = 3 then [36] else if k = 7 then [40] else []
def tailT (k lo hi : Int) : Bs := if k = 6 then signB lo hi else if k = 7 then [41] else []
def sepT (k : Int) (i : Nat) : Bs := if 0 < i ∧ k = 5 then [124] else []
mutual
/-- A tree's text. -/
def textR : Re → Bs | .mk k s kids lo hi _ => headT k s ++ (textL kids k 0 ++ tailT k lo hi)
def textL : List Re → Int → Nat → Bs | [], _, _ => [] | x :: l, k, i => sepT k i ++ (textR x ++ textL l k (i + 1))
end
mutual
/-- Counts of repeats that fit. -/
def okT : Re → Bool | .mk k _ kids lo hi _ => (k != 6 || inR lo hi) && okTL kids
def okTL : List Re → Bool | [] => true | x :: l => okT x && okTL l
end
theorem okTL_get : ∀ (l : List Re) (i : Nat) (h : i < l.length), okTL l = true → okT (l[i]'h) = true := by
  intro l
  induction l with
  | nil => intro i h; exact absurd h (Nat.not_lt_zero _)
  | cons x l ih =>
    intro i h ho
    rw [okTL, Bool.and_eq_true] at ho
    cases i with
    | zero => exact ho.1
    | succ i => exact ih i (by simpa using h) ho.2
theorem text_take : ∀ (l : List Re) (k : Int) (m i : Nat) (h : i < l.length), textL (l.take (i + 1)) k m = textL (l.take i) k m ++ (sepT k (m + i) ++ textR (l[i]'h)) := by
  intro l
  induction l with
  | nil => intro k m i h; exact absurd h (Nat.not_lt_zero _)
  | cons x l ih =>
    intro k m i h
    cases i with
    | zero => simp [textL]
    | succ i =>
      have := ih k (m + 1) i (by simpa using h)
      rw [List.take_succ_cons, textL, this, List.take_succ_cons, textL, show m + 1 + i = m + (i + 1) by omega]
      simp
theorem spans_len (s : Nat) : (spansS s).length ≤ 257 := (spansF_ok s 257 0).2
theorem flat_span (l : List (Nat × Nat)) : (l.flatMap spanB).length ≤ 5 * l.length := by
  induction l with
  | nil => simp
  | cons p l ih => have := span_len p; rw [List.flatMap_cons, List.length_append, List.length_cons]; omega
theorem setB_len (s : Nat) : (setB s).length ≤ 1300 := by
  have h1 := flat_span (spansS s)
  have h2 := spans_len s
  unfold setB
  split
  · simp
  split
  · simp
  split
  · next a b e =>
    have h3 := span_len (a, b)
    split
    · have := told_len (UInt8.ofNat a) specialB.data.toList; omega
    · simp only [List.length_append, List.length_cons, List.length_nil]; omega
  · simp only [List.length_append, List.length_cons, List.length_nil]; omega
theorem head_len (k : Int) (s : Nat) : (headT k s).length ≤ 1300 := by
  have := setB_len s
  unfold headT
  split
  · exact this
  · split
    · simp
    · split
      · simp
      · split <;> simp
theorem sign_len (lo hi : Int) : (signB lo hi).length ≤ 5 := by unfold signB digB; (repeat' split) <;> simp
theorem tail_len (k lo hi : Int) : (tailT k lo hi).length ≤ 5 := by
  have := sign_len lo hi
  unfold tailT
  split
  · exact this
  · split <;> simp
theorem sep_len (k : Int) (i : Nat) : (sepT k i).length ≤ 1 := by unfold sepT; split <;> simp
mutual
theorem text_le : ∀ r, (textR r).length + 1 ≤ 1306 * nodesR r
  | .mk k s kids lo hi n => by
    have h1 := text_leL kids k 0
    have h2 := head_len k s
    have h3 := tail_len k lo hi
    rw [textR, nodesR, List.length_append, List.length_append]; omega
theorem text_leL : ∀ l k i, (textL l k i).length ≤ 1306 * nodesL l
  | [], k, i => by simp [textL]
  | x :: l, k, i => by
    have h1 := text_le x
    have h2 := text_leL l k (i + 1)
    have h3 := sep_len k i
    rw [textL, nodesL, List.length_append, List.length_append]; omega
end
theorem isb_below {B b : Nat} {l : Bs} {w w' : World} (h : IsB B b l w) (hb : Below w.heap.size w w') : IsB B b l w' := by
  have key : ∀ p, Lib.BuilderAtF BT 5 B b p (Lib.byteCells l) w → Lib.BuilderAtF BT 5 B b p (Lib.byteCells l) w' := by
    intro p h
    have hlt := h.lt
    obtain ⟨hB, v, hbk, hown, hne⟩ := h
    exact ⟨hB, v, (hb.block b hlt).trans hbk, hown.kept (row := none) ⟨hb.os, hb.tape, hb.output, hb.size, fun k hk _ => hb.block k hk⟩ (by cases hv : v.ownBlock <;> simp), hne⟩
  exact h.elim (fun x => .inl (key _ x)) (fun x => .inr (key _ x))
theorem isb_lt {B b : Nat} {l : Bs} {w : World} (h : IsB B b l w) : b < w.heap.size := h.elim (fun x => x.lt) (fun x => x.lt)
theorem wr_below {B b : Nat} {w w' : World} (hB : B ≤ w.heap.size) (hb : Below w.heap.size w w') : Wr B b w w' :=
  ⟨hb.mono hB, fun k _ hk _ _ => (hb.block k (Array.getElem?_eq_some_iff.1 hk).1).trans hk⟩
theorem wr_alloc {B b : Nat} {w w' : World} (h : Wr B b w w') (hB : B ≤ w'.heap.size) (o : Obj) : Wr B b w (w'.alloc o) := ⟨h.below.alloc hB o, h.kept.alloc o⟩
theorem blk_wr {B b g : Nat} {t : TypeId} {cs : Array Value} {w w' : World} (h : Blk w g t cs) (k : Wr B b w w') (hg : g ≠ b) (ht : t ≠ 5) : Blk w' g t cs :=
  k.kept g _ h (fun e => hg (by injection e)) (fun _ _ e => ht (by injection e))
theorem rt_wr {B b : Nat} {w w' : World} {K : Nat → Prop} {r : Re} {cs : List Value} (h : Rt w K r cs) (hK : ∀ g, K g → g < B) (k : Wr B b w w') : Rt w' K r cs :=
  h.keep (fun _ hb => hb) (fun g hg _ => k.below.block g (hK g hg))
/-- What text leaves. -/
def TPost (B b : Nat) (t : Bs) (w : World) (out : Bs) (x : Ending) (w' : World) : Prop := x = .returned (.tuple #[]) ∧ IsB B b (t ++ out) w' ∧ Wr B b w w'
set_option maxHeartbeats 6400000 in
set_option maxRecDepth 100000 in
theorem text_c {K : Nat → Prop} (B b : Nat) (hKB : ∀ g, K g → g < B) : ∀ (N : Nat) (r : Re), nodesR r ≤ N → ∀ (w : World) (cs : List Value) (t : Bs), Rt w K r cs → IsB B b t w → B ≤ w.heap.size → okT r = true → t.length + 1306 * nodesR r ≤ 70368744177664 →
    Calls Tryd.prog 54 #[.pointer (some ⟨b, 0, none⟩), .agg cs.toArray] w (TPost B b t w (textR r)) := by
  intro N
  induction N with
  | zero => intro r h; cases r; simp [nodesR] at h
  | succ N ih =>
    intro r hN w cs t h hI hBw hok hb
    obtain ⟨A, c, rfl, hS, hnil⟩ := h.shape
    obtain ⟨kind, S, kids, lo, hi, nn⟩ := r
    simp only [Re.kind, Re.set, Re.kids, Re.lo, Re.hi, Re.n] at h hS hnil ⊢
    have hN2 : 1 + nodesL kids ≤ N + 1 := by simpa [nodesR] using hN
    have hb2 : t.length + 1306 * (1 + nodesL kids) ≤ 70368744177664 := by simpa [nodesR] using hb
    have hok2 : (kind = 6 → inR lo hi = true) ∧ okTL kids = true := by
      rw [okT, Bool.and_eq_true] at hok
      exact ⟨fun e => by subst e; simpa using hok.1, hok.2⟩
    have hRC : ∀ (i : Nat) (hi : i < kids.length) (w : World) (cs : List Value) (t : Bs), Rt w K (kids[i]'hi) cs → IsB B b t w → B ≤ w.heap.size → t.length + 1306 * nodesR (kids[i]'hi) ≤ 70368744177664 →
        Calls Tryd.prog 54 #[.pointer (some ⟨b, 0, none⟩), .agg cs.toArray] w (TPost B b t w (textR (kids[i]'hi))) :=
      fun i hi w cs t h1 h2 h3 h5 => ih (kids[i]'hi) (by have := nodes_kid kids i hi; omega) w cs t h1 h2 h3 (okTL_get kids i hi hok2.2) h5
    have hln := len_nodes kids
    have hbl := isb_lt hI
    obtain ⟨wa, hwa⟩ : ∃ z : World, z = w.alloc (.cells (reC kind S A kids.length c lo hi nn).toArray 27) := ⟨_, rfl⟩
    have xa : Blk wa w.heap.size 27 (reC kind S A kids.length c lo hi nn).toArray := by rw [hwa]; exact Blk.new _ _ _
    have Wa : Wr B b w wa := by rw [hwa]; exact wr_alloc (Wr.refl B b w) hBw _
    have Ia : IsB B b t wa := by rw [hwa]; exact Lib.IsBuilderF.alloc hI _
    have za : B ≤ wa.heap.size := Nat.le_trans hBw Wa.below.size
    have HR0 := Lib.hid h
    have HC := Lib.hid hRC
    have HOK := Lib.hid hok2.1
    have HKB := Lib.hid hKB
    have hsgn : kind = 6 → 0 ≤ lo ∧ lo ≤ 8 ∧ -1 ≤ hi ∧ hi ≤ 8 := by
      intro e
      have := hok2.1 e
      unfold inR at this
      simp at this
      omega
    have HSG := Lib.hid hsgn
    obtain ⟨TX, hTX⟩ : ∃ TX, textR (.mk kind S kids lo hi nn) = TX := ⟨_, rfl⟩
    rw [hTX]
    rw [textR] at hTX
    have HTX := Lib.hid hTX
    have hhead := head_len kind S
    clear h hN hb ih hRC hnil hTX hok hok2 hsgn
    have cset := fun W => set_c S hS W
    clear hS
    obtain ⟨kl, hkl⟩ : ∃ kl, kids.length = kl := ⟨_, rfl⟩
    rw [hkl] at HR0 hwa xa hln
    rw [hkl]
    have HKL := Lib.hid hkl
    clear hkl
    have p0 := xa.cell 0
    have p1 := xa.cell 1
    have p2 := xa.cell 2
    have p3 := xa.cell 3
    have p4 := xa.cell 4
    simp only [List.getElem?_toArray, List.getElem?_cons_zero, List.getElem?_cons_succ] at p0 p1 p2 p3 p4
    go_enter Tryd.func54, Tryd.ntmps54
    go_upto_block 0 with fail
    rw [← hwa]
    clear hwa
    obtain ⟨HT, hHT⟩ : ∃ HT, headT kind S = HT := ⟨_, rfl⟩
    rw [hHT] at HTX hhead
    unfold headT at hHT
    go_cut [] (fun wx => IsB B b (t ++ HT) wx ∧ Wr B b wa wx)
    case first =>
      by_cases k1 : kind = 1
      · subst k1
        rw [if_pos rfl] at hHT
        subst hHT
        go_wp2_with fail
        (with_reducible refine (cset _).mono ?_)
        rintro e w2 ⟨rfl, hb2⟩
        have I2 := isb_below Ia hb2
        have W2 := wr_below (b := b) za hb2
        have cw := wstr_c B b t ⟨(setB S).toArray⟩ w2 I2 (by simp [ByteArray.size]; omega) (Nat.le_trans za hb2.size)
        go_wp2_with fail
        (with_reducible refine cw.mono ?_)
        rintro e w3 ⟨rfl, I3, W3⟩
        go_wp2_with fail
        go_meet
        case rel => exact ⟨I3, W2.trans W3⟩
      rw [if_neg k1] at hHT
      have d1 : (kind == 1) = false := by simp [k1]
      by_cases k2 : kind = 2
      · subst k2
        rw [if_pos rfl] at hHT
        subst hHT
        have cw := wbyte_c B b t 94 wa Ia (by omega) za
        rw [show (((94 : UInt8).toNat : Nat) : Int) = 94 from rfl] at cw
        go_wp2_with fail
        (with_reducible refine cw.mono ?_)
        rintro e w3 ⟨rfl, I3, W3⟩
        go_wp2_with fail
        go_meet
        case rel => exact ⟨I3, W3⟩
      rw [if_neg k2] at hHT
      have d2 : (kind == 2) = false := by simp [k2]
      by_cases k3 : kind = 3
      · subst k3
        rw [if_pos rfl] at hHT
        subst hHT
        have cw := wbyte_c B b t 36 wa Ia (by omega) za
        rw [show (((36 : UInt8).toNat : Nat) : Int) = 36 from rfl] at cw
        go_wp2_with fail
        (with_reducible refine cw.mono ?_)
        rintro e w3 ⟨rfl, I3, W3⟩
        go_wp2_with fail
        go_meet
        case rel => exact ⟨I3, W3⟩
      rw [if_neg k3] at hHT
      have d3 : (kind == 3) = false := by simp [k3]
      by_cases k7 : kind = 7
      · subst k7
        rw [if_pos rfl] at hHT
        subst hHT
        have cw := wbyte_c B b t 40 wa Ia (by omega) za
        rw [show (((40 : UInt8).toNat : Nat) : Int) = 40 from rfl] at cw
        go_wp2_with fail
        (with_reducible refine cw.mono ?_)
        rintro e w3 ⟨rfl, I3, W3⟩
        go_wp2_with fail
        go_meet
        case rel => exact ⟨I3, W3⟩
      rw [if_neg k7] at hHT
      have d7 : (kind == 7) = false := by simp [k7]
      subst hHT
      go_wp2_with fail
      go_meet
      case rel => exact ⟨by simpa using Ia, Wr.refl _ _ _⟩
    case rest =>
      obtain ⟨I1, W1⟩ := hcut
      have x1 := blk_wr xa W1 (by omega) (by decide)
      have q0 := x1.cell 0
      have q1 := x1.cell 5
      have q2 := x1.cell 6
      have q3 := x1.cell 7
      simp only [List.getElem?_toArray, List.getElem?_cons_zero, List.getElem?_cons_succ] at q0 q1 q2 q3
      have WB := Wa.trans W1
      have hTl : (t ++ HT).length ≤ t.length + 1300 := by rw [List.length_append]; omega
      generalize hT0 : t ++ HT = T0 at I1 hTl
      have HT0 := Lib.hid hT0
      clear hHT hT0 Ia Wa za p0 p1 p2 p3 p4 xa W1 hI cset
      go_wp2_with fail
      go_loopw [30] (fun v wr => ∃ (i : Nat) (T : Bs), v = .int .i64 i ∧ i ≤ kl ∧ Hid (T = T0 ++ textL (kids.take i) kind 0) ∧ T.length ≤ t.length + 1300 + 1306 * nodesL (kids.take i) ∧ IsB B b T wr ∧ Wr B b w wr ∧ Blk wr w.heap.size 27 (reC kind S A kl c lo hi nn).toArray) (fun v _ => kl - (intOf v).toNat)
      case atStart => exact ⟨0, T0, rfl, by omega, Lib.hid (by simp [textL]), by omega, I1, WB, x1⟩
      case round =>
        obtain ⟨i, T, rfl, hi2, HTr, hTn, hIT, hWr, xr⟩ := hrel
        have zr : B ≤ wr.heap.size := Nat.le_trans hBw hWr.below.size
        have r0 := xr.cell 0
        simp only [List.getElem?_toArray, List.getElem?_cons_zero] at r0
        have hbr := isb_lt hIT
        by_cases hlt : i < kl
        · have HRr := Lib.hid (rt_wr HR0.out HKB.out hWr)
          obtain ⟨g0, o, rfl, hg0, A2, c2, hk, hc⟩ := (kid HRr.out).2 i (by rw [HKL.out]; exact hlt)
          have fk0 := hc 0 _ rfl
          have fk1 := hc 1 _ rfl
          have fk2 := hc 2 _ rfl
          have fk3 := hc 3 _ rfl
          have fk4 := hc 4 _ rfl
          have fk5 := hc 5 _ rfl
          have fk6 := hc 6 _ rfl
          have fk7 := hc 7 _ rfl
          have fk8 := hc 8 _ rfl
          simp only [Nat.add_zero] at fk0
          clear hc
          have hlt2 : i < kids.length := by rw [HKL.out]; exact hlt
          have hnk := nodes_kid kids i hlt2
          have htk := nodes_take kids i hlt2
          have htt := text_take kids kind 0 i hlt2
          have hsl := sep_len kind (0 + i)
          have ci := HC.out i hlt2
          have htx := text_le (kids[i]'hlt2)
          rw [Nat.zero_add] at htt hsl
          obtain ⟨x, hx⟩ : ∃ x, kids[i]'hlt2 = x := ⟨_, rfl⟩
          rw [hx] at fk0 fk1 fk2 fk3 fk4 fk5 fk6 fk7 fk8 hk hnk htk htt htx
          simp only [hx] at ci
          clear hx hg0
          have HCI := Lib.hid ci
          have HTT := Lib.hid htt
          clear ci htt
          obtain ⟨cs, hcs⟩ : ∃ cs, reC x.kind x.set A2 x.kids.length c2 x.lo x.hi x.n = cs := ⟨_, rfl⟩
          have hcl : wr.alloc (.cells (reC x.kind x.set A2 x.kids.length c2 x.lo x.hi x.n).toArray 27) = wr.alloc (.cells cs.toArray 27) := by rw [hcs]
          have xb : Blk (wr.alloc (.cells cs.toArray 27)) wr.heap.size 27 cs.toArray := Blk.new _ _ _
          have Ib : IsB B b T (wr.alloc (.cells cs.toArray 27)) := Lib.IsBuilderF.alloc hIT _
          have Wb : Wr B b w (wr.alloc (.cells cs.toArray 27)) := wr_alloc hWr zr _
          have zb : B ≤ (wr.alloc (.cells cs.toArray 27)).heap.size := Nat.le_trans hBw Wb.below.size
          have xrb := xr.alloc (.cells cs.toArray 27)
          rw [hcs] at hk
          by_cases hsep : 0 < i ∧ kind = 5
          · obtain ⟨hi0, rfl⟩ := hsep
            have d1 : decide ((0 : Int) < (i : Int)) = true := by simp; omega
            have hse : sepT 5 i = [124] := by unfold sepT; rw [if_pos ⟨hi0, rfl⟩]
            rw [hse] at HTT
            have cw := wbyte_c B b T 124 _ Ib (by omega) zb
            rw [show (((124 : UInt8).toNat : Nat) : Int) = 124 from rfl] at cw
            subst hcs
            generalize x.kind = k0 at *
            generalize x.set = k1 at *
            generalize x.kids.length = k2 at *
            generalize x.lo = k3 at *
            generalize x.hi = k4 at *
            generalize x.n = k5 at *
            have r1 := xrb.cell 0
            simp only [List.getElem?_toArray, List.getElem?_cons_zero] at r1
            go_wp2_with fail
            (with_reducible refine cw.mono ?_)
            rintro e w3 ⟨rfl, I3, W3⟩
            have x3 := blk_wr xb W3 (by omega) (by decide)
            have xr3 := blk_wr xrb W3 (by omega) (by decide)
            have Wb3 := Wb.trans W3
            have z3 : B ≤ w3.heap.size := Nat.le_trans hBw Wb3.below.size
            have ci := HCI.out w3 _ _ (rt_wr hk HKB.out ((wr_alloc (Wr.refl B b wr) zr _).trans W3)) I3 z3 (by simp; omega)
            have v0 := x3.cell 0
            have v1 := x3.cell 1
            have v2 := x3.cell 2
            have v3 := x3.cell 3
            have v4 := x3.cell 4
            have v5 := x3.cell 5
            have v6 := x3.cell 6
            have v7 := x3.cell 7
            have v8 := x3.cell 8
            simp only [List.getElem?_toArray, List.getElem?_cons_zero, List.getElem?_cons_succ] at v0 v1 v2 v3 v4 v5 v6 v7 v8
            clear x3 xb xrb Ib Wb zb cw hk fk0 fk1 fk2 fk3 fk4 fk5 fk6 fk7 fk8
            go_wp2_with fail
            (with_reducible refine ci.mono ?_)
            rintro e w4 ⟨rfl, I4, W4⟩
            have xr4 := blk_wr xr3 W4 (by omega) (by decide)
            go_wp2
            go_roundw
            case rel => exact ⟨i + 1, _, by go_num, by omega, Lib.hid (by rw [HTT.out, HTr.out]; simp), by simp only [List.length_append, List.length_cons, List.length_nil]; omega, I4, Wb3.trans W4, xr4⟩
            case measure => simp [intOf]; omega
          · have hse : sepT kind i = [] := by unfold sepT; rw [if_neg hsep]
            rw [hse] at HTT
            have dd : (decide ((0 : Int) < (i : Int)) = false ∧ ¬ 0 < i) ∨ (decide ((0 : Int) < (i : Int)) = true ∧ 0 < i ∧ (kind == 5) = false ∧ ¬ kind = 5) := by
              by_cases h0 : 0 < i
              · right
                exact ⟨by simp; omega, h0, by simp; exact fun e => hsep ⟨h0, e⟩, fun e => hsep ⟨h0, e⟩⟩
              · left; exact ⟨by simp; omega, h0⟩
            clear hsep hse
            have ci := HCI.out _ _ _ (rt_wr hk HKB.out (wr_alloc (Wr.refl B b wr) zr _)) Ib zb (by omega)
            subst hcs
            generalize x.kind = k0 at *
            generalize x.set = k1 at *
            generalize x.kids.length = k2 at *
            generalize x.lo = k3 at *
            generalize x.hi = k4 at *
            generalize x.n = k5 at *
            have r1 := xrb.cell 0
            simp only [List.getElem?_toArray, List.getElem?_cons_zero] at r1
            clear xb Ib zb hk
            rcases dd with ⟨d1, h0⟩ | ⟨d1, h0, d2, d3⟩
            all_goals
              go_wp2_with fail
              (with_reducible refine ci.mono ?_)
              rintro e w4 ⟨rfl, I4, W4⟩
              have xr4 := blk_wr xrb W4 (by omega) (by decide)
              go_wp2
              go_roundw
              case rel => exact ⟨i + 1, _, by go_num, by omega, Lib.hid (by rw [HTT.out, HTr.out]; simp), by simp only [List.length_append]; omega, I4, Wb.trans W4, xr4⟩
              case measure => simp [intOf]; omega
        · have dl : decide ((i : Int) < (kl : Int)) = false := by simp; omega
          have htake : kids.take i = kids := List.take_of_length_le (by rw [HKL.out]; omega)
          have hT2 : t ++ TX = T ++ tailT kind lo hi := by rw [← HTX.out, HTr.out, htake, ← HT0.out]; simp
          have hTb : T.length + 5 ≤ 140737488355328 := by rw [htake] at hTn; omega
          clear hTn htake
          have r2 := xr.cell 6
          have r3 := xr.cell 7
          simp only [List.getElem?_toArray, List.getElem?_cons_zero, List.getElem?_cons_succ] at r2 r3
          by_cases k6 : kind = 6
          · subst k6
            obtain ⟨s1, s2, s3, s4⟩ := HSG.out rfl
            have cs := fun W => sign_c lo hi s1 s2 s3 s4 W
            have hsl := sign_len lo hi
            have htl : tailT 6 lo hi = signB lo hi := if_pos rfl
            rw [htl] at hT2
            have cw := wstr_c B b T ⟨(signB lo hi).toArray⟩ wr hIT (by simp [ByteArray.size]; omega) zr
            have HT2 := Lib.hid hT2
            clear hT2
            go_wp2_with fail
            (with_reducible refine (cs _).mono ?_)
            rintro e w2 ⟨rfl, rfl⟩
            go_wp2_with fail
            (with_reducible refine cw.mono ?_)
            rintro e w3 ⟨rfl, I3, W3⟩
            go_wp2
            go_end0
            exact ⟨rfl, by rw [HT2.out]; exact I3, hWr.trans W3⟩
          have d6 : (kind == 6) = false := by simp [k6]
          by_cases k7 : kind = 7
          · subst k7
            have htl : tailT 7 lo hi = [41] := by unfold tailT; rw [if_neg k6, if_pos rfl]
            rw [htl] at hT2
            have cw := wbyte_c B b T 41 wr hIT (by omega) zr
            rw [show (((41 : UInt8).toNat : Nat) : Int) = 41 from rfl] at cw
            have HT2 := Lib.hid hT2
            clear hT2
            go_wp2_with fail
            (with_reducible refine cw.mono ?_)
            rintro e w3 ⟨rfl, I3, W3⟩
            go_wp2
            go_end0
            exact ⟨rfl, by rw [HT2.out]; exact I3, hWr.trans W3⟩
          have d7 : (kind == 7) = false := by simp [k7]
          have htl : tailT kind lo hi = [] := by unfold tailT; rw [if_neg k6, if_neg k7]
          rw [htl, List.append_nil] at hT2
          have HT2 := Lib.hid hT2
          clear hT2
          go_wp2
          go_end0
          exact ⟨rfl, by rw [HT2.out]; exact hIT, hWr⟩
end EreX
end Go.Proofs.YtpdmjegbjcefjaaDoor
