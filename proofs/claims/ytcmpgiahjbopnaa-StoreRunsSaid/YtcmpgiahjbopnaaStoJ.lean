/- The walk of the law StoreRuns. Conditions: none. -/
import Derived.Test.YtcmpgiahjbopnaaStoI
import Derived.Deep.CutBlock
namespace Go.Proofs.Ytcmpgiahjbopnaa
set_option linter.unusedVariables false
set_option linter.unusedSimpArgs false
open Go.RowKit Go.Shelf
attribute [local go_sem] Oper.semAt_some
namespace StoW
open StoP
/-- How the law's loop stands: the store, and the document's texts beside it. -/
structure RunI (N : Nat) (V sa : Int) (da ka R Wb : Nat) (X : List ByteArray) (wr : World) (T : Value) (g : Nat) (sl : List Nat) (A' : Option Addr) (c' : Nat) : Prop where
  st : St wr R V sa da ka T g X sl
  ox : ∀ k, ow R g T k → N ≤ k ∧ k ≠ Wb
  wb : Blk wr Wb 25 #[.slice A' X.length c']
  hN : N ≤ Wb
  rd : Rd wr wr.heap.size 1 A' X.length (X.map Value.string)
  ad : ∀ a, A' = some a → 0 < X.length → ¬ ow R g T a.block ∧ a.block ≠ Wb
theorem rd_tch {w w' : World} {S : Nat → Prop} {B B' n : Nat} {A : Option Addr} {xs : List Value} (h : Rd w B 1 A n xs) (k : Tch S w w') (hs : ∀ a, A = some a → 0 < n → ¬ S a.block) (hB : B ≤ B') : Rd w' B' 1 A n xs := by
  refine ⟨h.1, fun hn => ?_⟩
  obtain ⟨ad, e, hb, hc⟩ := h.2 hn
  exact ⟨ad, e, Nat.lt_of_lt_of_le hb hB, fun j u hu => tch_cell k (hc j u hu) (by rw [add_block]; exact hs ad e hn)⟩
/-- Behind an Add. -/
theorem RunI.add {N : Nat} {V sa : Int} {da ka R Wb : Nat} {X X2 : List ByteArray} {wr w' : World} {T T2 : Value} {g g2 : Nat} {sl sl2 : List Nat} {A' : Option Addr} {c' : Nat} (h : RunI N V sa da ka R Wb X wr T g sl A' c') (hN : N ≤ wr.heap.size)
    (hS : St w' R V sa da ka T2 g2 X2 sl2) (hT : Tch (ow R g T) wr w') (hO : ∀ k, ow R g2 T2 k → ow R g T k ∨ wr.heap.size ≤ k) :
    (∀ k, ow R g2 T2 k → N ≤ k ∧ k ≠ Wb) ∧ Blk w' Wb 25 #[.slice A' X.length c'] ∧ Rd w' w'.heap.size 1 A' X.length (X.map Value.string) ∧ ∀ a, A' = some a → 0 < X.length → ¬ ow R g2 T2 a.block ∧ a.block ≠ Wb ∧ a.block < wr.heap.size := by
  have hw := h.wb.lt
  refine ⟨?_, h.wb.tch hT (fun hk => (h.ox Wb hk).2 rfl), rd_tch h.rd hT (fun a e hn => (h.ad a e hn).1) hT.size, ?_⟩
  · intro k hk
    rcases hO k hk with h1 | h1
    · exact h.ox k h1
    · exact ⟨by omega, by omega⟩
  · intro a e hn
    obtain ⟨ad, e2, hb, _⟩ := h.rd.2 hn
    rw [e] at e2
    injection e2 with e2
    rw [← e2] at hb
    refine ⟨fun hk => ?_, (h.ad a e hn).2, hb⟩
    rcases hO a.block hk with h1 | h1
    · exact (h.ad a e hn).1 h1
    · omega
abbrev SJ (Nb Sb N2 : Nat) (k : Nat) : Prop := k = Nb ∨ k = Sb ∨ N2 ≤ k
/-- How the law's last loop stands. -/
structure RunJ (Nb Sb N2 : Nat) (X : List ByteArray) (w2 : World) (pre : List (Fin X.length)) (W : World) (b : Bool) : Prop where
  nb : Blk W Nb 3 #[.int .i64 (pre.length : Nat)]
  sb : Blk W Sb 4 #[.bool b]
  ok : pre = pref X.length pre.length → b = true
  tch : Tch (SJ Nb Sb N2) w2 W
theorem RunJ.own {Nb Sb : Nat} {X : List ByteArray} {w2 : World} (h1 : Nb < w2.heap.size) (h2 : Sb < w2.heap.size) : OwnFrom w2.heap.size (fun pre W => ∃ b, RunJ Nb Sb w2.heap.size X w2 pre W b) := by
  rintro pre W W' row ⟨b, h⟩ hgr hr
  exact ⟨b, (hgr.block Nb h.nb.lt (fun e => by have := (hr Nb e.symm).1; omega)).trans h.nb, (hgr.block Sb h.sb.lt (fun e => by have := (hr Sb e.symm).1; omega)).trans h.sb, h.ok, h.tch.trans (Tch.of_grown hgr (fun k e => .inr (.inr (hr k e).1)))⟩
theorem RunJ.step {Nb Sb N2 : Nat} {X : List ByteArray} {w2 W : World} {pre : List (Fin X.length)} {b b' : Bool} {x : Fin X.length} (h : RunJ Nb Sb N2 X w2 pre W b) (hne : Nb ≠ Sb) (hb : b' = (b && decide (x.val = pre.length))) :
    KeepsOthers W ((W.setCell ⟨Sb, 0, none⟩ (.bool b')).setCell ⟨Nb, 0, none⟩ (.int .i64 ((pre.length : Nat) + 1))) ∧ Tch (SJ Nb Sb N2) W ((W.setCell ⟨Sb, 0, none⟩ (.bool b')).setCell ⟨Nb, 0, none⟩ (.int .i64 ((pre.length : Nat) + 1))) ∧
      ∃ b2, RunJ Nb Sb N2 X w2 (pre ++ [x]) ((W.setCell ⟨Sb, 0, none⟩ (.bool b')).setCell ⟨Nb, 0, none⟩ (.int .i64 ((pre.length : Nat) + 1))) b2 := by
  have ht : Tch (SJ Nb Sb N2) W ((W.setCell ⟨Sb, 0, none⟩ (.bool b')).setCell ⟨Nb, 0, none⟩ (.int .i64 ((pre.length : Nat) + 1))) := ((Tch.refl _ W).setCell (p := ⟨Sb, 0, none⟩) (.inr (.inl rfl)) _).setCell (p := ⟨Nb, 0, none⟩) (.inl rfl) _
  refine ⟨(KeepsOthers.setCell _ _ _).trans (KeepsOthers.setCell _ _ _), ht, b', ?_, ?_, ?_, h.tch.trans ht⟩
  · have := (h.nb.far (p := ⟨Sb, 0, none⟩) hne (.bool b')).set_ 0 (.int .i64 ((pre.length : Nat) + 1))
    rw [List.length_append, List.length_singleton, Int.natCast_add]
    exact this
  · exact (h.sb.set_ 0 (.bool b')).far (p := ⟨Nb, 0, none⟩) (fun e => hne e.symm) _
  · intro hc
    obtain ⟨h1, h2⟩ := pref_cut hc
    rw [hb, h.ok h1, decide_eq_true h2]; rfl
/-- What Get answers. -/
def GetIs (X : List ByteArray) (ai : Int) (s : ByteArray) (b : Bool) : Prop := (b = true ∧ ∃ k : Nat, ai = k ∧ X[k]? = some s) ∨ (b = false ∧ s = ByteArray.empty ∧ (ai < 0 ∨ (X.length : Int) ≤ ai))
set_option maxRecDepth 100000 in
set_option maxHeartbeats 4000000 in
theorem runs_c (ma sa : Int) (da ka : Nat) (A : Option Addr) (n c : Nat) (l : List ByteArray) (ak : ByteArray) (ai : Int) (w : World) (hda : da < 18446744073709551616) (hka : ka < 18446744073709551616)
    (hl : Rd w w.heap.size 1 A n (l.map Value.string)) (hll : l.length = n) (hn : n ≤ 9223372036854775807) (hak : ak.size ≤ 9223372036854775807) (hlv : ∀ x ∈ l, x.size ≤ 9223372036854775807) (hai : -9223372036854775808 ≤ ai ∧ ai < 9223372036854775808) :
    Calls Try.prog 3 #[.agg (tbC ma da ka sa), .slice A n c, .agg #[.string ak, .int .i64 ai]] w fun e w' => e = .returned (.bool true) ∧ Below w.heap.size w w' := by
  obtain ⟨w3, hw3⟩ : ∃ q, (w.alloc (.cells (tbC ma da ka sa) 24)).alloc (.cells #[.string ak, .int .i64 ai] 27) = q := ⟨_, rfl⟩
  have xa : Blk w3 w.heap.size 24 (tbC ma da ka sa) := by rw [← hw3]; exact (Blk.new _ _ _).alloc _
  have xb : Blk w3 (w.heap.size + 1) 27 #[.string ak, .int .i64 ai] := by rw [← hw3]; exact Blk.new1 _ _ _ _
  have B3 : Below w.heap.size w w3 := by rw [← hw3]; go_grown
  have hz3 : w3.heap.size = w.heap.size + 2 := by rw [← hw3]; simp
  have ca := awake_c w3
  refine calls_of_wp_marks Try.func3 rfl ?_
  simp only [Try.ntmps3, List.size_toArray, List.length_cons, List.length_nil, Nat.reduceAdd, Nat.reduceSub, Array.replicate_succ, Array.replicate_zero, List.push_toArray, List.append_toArray, List.nil_append, List.cons_append]
  go_wp2_with fail
  (with_reducible refine ca.mono ?_)
  clear ca
  rintro e w4 ⟨rfl, b4⟩
  have xa4 := xa.next b4
  have xb4 := xb.next b4
  have B4 := via b4 B3
  have hz4 : w.heap.size + 2 ≤ w4.heap.size := by have := b4.size; omega
  clear xa xb B3 b4 hz3 hw3
  have q0 := xb4.cell 0
  have q1 := xb4.cell 1
  have p0 := xa4.cell 0
  have p1 := xa4.cell 1
  have p2 := xa4.cell 2
  have p3 := xa4.cell 3
  simp only [List.getElem?_toArray, List.getElem?_cons_zero, List.getElem?_cons_succ] at q0 q1 p0 p1 p2 p3
  by_cases hbig : 60 < n
  · have d1 : decide ((60 : Int) < (n : Int)) = true := decide_eq_true (by omega)
    have d2 : decide ((n : Int) > 60) = true := decide_eq_true (by omega)
    go_wp2_with fail
    exact ⟨_, results_tmp rfl _ _ _, rfl, B4⟩
  have d1 : decide ((60 : Int) < (n : Int)) = false := decide_eq_false (by omega)
  have d2 : decide ((n : Int) > 60) = false := decide_eq_false (by omega)
  by_cases hbk : 30 < ak.size
  · have d3 : decide ((30 : Int) < (ak.size : Int)) = true := decide_eq_true (by omega)
    have d4 : decide ((ak.size : Int) > 30) = true := decide_eq_true (by omega)
    go_wp2_with fail
    exact ⟨_, results_tmp rfl _ _ _, rfl, B4⟩
  have d3 : decide ((30 : Int) < (ak.size : Int)) = false := decide_eq_false (by omega)
  have d4 : decide ((ak.size : Int) > 30) = false := decide_eq_false (by omega)
  have cn := new_c ma sa da ka w4
  go_wp2_with fail
  (with_reducible refine cn.mono ?_)
  clear cn
  rintro e w5 ⟨R, g, m, rfl, hS, hB5, hR, hg⟩
  clear d1 d2 d3 d4 p0 p1 p2 p3 q0 q1
  go_wp2_with fail
  obtain ⟨w6, hw6⟩ : ∃ q, w5.alloc (.cells #[.slice none 0 0] 25) = q := ⟨_, rfl⟩
  have xw := Blk.new w5 25 #[.slice none 0 0]
  have B5 := via hB5 B4
  have B6 : Below w.heap.size w w6 := by rw [← hw6]; exact B5.alloc B5.size _
  have xb6 : Blk w6 (w.heap.size + 1) 27 #[.string ak, .int .i64 ai] := by rw [← hw6]; exact (xb4.next hB5).alloc _
  have xa6 : Blk w6 w.heap.size 24 (tbC ma da ka sa) := by rw [← hw6]; exact (xa4.next hB5).alloc _
  have hz6 : w5.heap.size < w6.heap.size := by rw [← hw6]; simp
  have h45 := hB5.size
  have H0 : Hid (RunI w4.heap.size (mostI ma) sa da ka R w5.heap.size [] w6 (.slice none 0 0) g (List.replicate m 0) none 0) := Lib.hid (by
    have e1 := hS.blk.lt
    have e2 := hS.slo.lt
    refine ⟨?_, ?_, ?_, h45, Rd.nil, fun a e => by cases e⟩
    · rw [← hw6]; exact hS.tch (S := fun _ => False) ((Tch.refl _ _).alloc _) (fun _ _ h => h)
    · rintro k (e | e | e)
      · exact ⟨by omega, by omega⟩
      · exact ⟨by omega, by omega⟩
      · cases e
    · rw [← hw6]; exact xw)
  rw [hw6]
  clear hw6 xw hS hB5 hR hg xa4 xb4 B4 B5
  obtain ⟨Wb, hWb⟩ : ∃ q, w5.heap.size = q := ⟨_, rfl⟩
  rw [hWb] at H0 hz6 h45 ⊢
  clear hWb
  obtain ⟨N, hNN⟩ : ∃ q, w4.heap.size = q := ⟨_, rfl⟩
  rw [hNN] at H0 h45 hz4
  clear hNN w5 w4 w3
  have HL := Lib.hid hl
  have HLV := Lib.hid hlv
  have HLL := Lib.hid hll
  clear hl hlv hll
  go_loopw [43] (fun iv wr => ∃ (i : Nat) (X : List ByteArray) (T : Value) (g : Nat) (sl : List Nat) (A' : Option Addr) (c' : Nat), iv = .int .i64 i ∧ i ≤ n ∧ Hid (RunI N (mostI ma) sa da ka R Wb X wr T g sl A' c') ∧ X.length ≤ i ∧ Hid (∀ x ∈ X, x.size ≤ 30) ∧ Tch (fun k => N ≤ k) w6 wr) (fun iv _ => n - (intOf iv).toNat)
  case atStart => exact ⟨0, [], _, g, _, none, 0, rfl, by omega, H0, by simp, Lib.hid (by simp), Tch.refl _ _⟩
  case round =>
    clear H0
    obtain ⟨i, X, T, g, sl, A', c', rfl, hi, H, hXi, HX2, hT6⟩ := hrel
    have xbr := xb6.tch hT6 (by omega)
    have xar := xa6.tch hT6 (by omega)
    have Br : Below w.heap.size w wr := hT6.below B6 (fun k hk => by omega) B6.size
    by_cases hlt : i < n
    · obtain ⟨ad, key, rfl, hadb, hx, cx⟩ := (HL.out.below Br).str hlt
      have hks := HLV.out key (List.mem_of_getElem? hx)
      clear hx
      by_cases hkb : 30 < key.size
      · have e1 : decide ((30 : Int) < (key.size : Int)) = true := decide_eq_true (by omega)
        have e2 : decide ((key.size : Int) > 30) = true := decide_eq_true (by omega)
        go_wp2_with fail
        exact ⟨_, results_tmp rfl _ _ _, rfl, Br⟩
      have e1 : decide ((30 : Int) < (key.size : Int)) = false := decide_eq_false (by omega)
      have e2 : decide ((key.size : Int) > 30) = false := decide_eq_false (by omega)
      obtain ⟨⟨ai', af, aer, X'⟩, hA⟩ : ∃ r, addS X (mostI ma) key = r := ⟨_, rfl⟩
      have HA := Lib.hid hA
      obtain ⟨haer, hXl', hXm'⟩ := addS_er hA
      have HX3 : Hid (∀ x ∈ X', x.size ≤ 30) := Lib.hid (fun x hx => by
        rcases hXm' x hx with h | h
        · exact HX2.out x h
        · rw [h]; omega)
      have ca := add_at H.out.st hA hda hka (by omega) (by omega) (fun x hx => by have := HX2.out x hx; omega)
      clear hA hXm'
      go_wp2_with fail
      (with_reducible refine ca.mono ?_)
      clear ca
      rintro e z1 ⟨rfl, T1, g1, sl1, hS1, hT1, hO1⟩
      have hzr : N ≤ wr.heap.size := by have := hT6.size; omega
      obtain ⟨ox1, wb1, rd1, ad1⟩ := H.out.add hzr hS1 hT1 hO1
      have hT61 : Tch (fun k => N ≤ k) w6 z1 := hT6.trans (hT1.more (fun k hk => (H.out.ox k hk).1))
      have cr := radd_c A' c' X ma key z1 rd1 (by omega)
      have xb1 := xb6.tch hT61 (by omega)
      have xa1 := xa6.tch hT61 (by omega)
      have p0 := xa1.cell 0
      have r0 := wb1.cell 0
      simp only [List.getElem?_toArray, List.getElem?_cons_zero, List.getElem?_cons_succ] at p0 r0
      have HS1 := Lib.hid hS1
      have HO1 := Lib.hid ox1
      have HAD1 := Lib.hid ad1
      have hz1 : wr.heap.size ≤ z1.heap.size := hT1.size
      have HNW : Hid (N ≤ Wb) := Lib.hid H.out.hN
      clear hS1 hT1 hO1 ox1 ad1 rd1 H xbr xar hT6 HX2
      go_wp2_with fail
      (with_reducible refine cr.mono ?_)
      clear cr
      rintro e z2 ⟨i2, f2, er2, X2, A2, c2, hA2, rfl, rd2, b2, hfr⟩
      rw [HA.out] at hA2
      injection hA2 with h1 h2
      injection h2 with h2 h3
      injection h3 with h3 h4
      subst h1 h2 h3 h4
      have HS2 : Hid (St z2 R (mostI ma) sa da ka T1 g1 X' sl1) := Lib.hid (HS1.out.tch (S := fun _ => False) (Tch.of_below b2) (fun _ _ h => h))
      have wb2 := wb1.next b2
      have xb2 := xb1.next b2
      have r0 := wb2.cell 0
      have rl := wb2.loose 0
      simp only [List.getElem?_toArray, List.getElem?_cons_zero, List.getElem?_cons_succ] at r0
      have hwl := wb1.lt
      have HAD2 : Hid (∀ a, A2 = some a → 0 < X'.length → ¬ ow R g1 T1 a.block ∧ a.block ≠ Wb) := Lib.hid (by
        intro a e hn
        rcases hfr with ⟨h, hXX⟩ | h
        · rw [h] at e
          have := HAD1.out a e (by rw [← hXX]; exact hn)
          exact ⟨this.1, this.2.1⟩
        · have h9 := h a e
          refine ⟨fun hk => ?_, by omega⟩
          have := ow_lt HS1.out a.block hk
          omega)
      have hT62 : Tch (fun k => N ≤ k) w6 z2 := hT61.trans (Tch.of_below b2)
      clear HS1 HAD1 hT61 wb1 xb1 xa1 p0 hfr b2
      obtain ⟨z3, hz3⟩ : ∃ q, z2.setCell ⟨Wb, 0, none⟩ (.slice A2 X'.length c2) = q := ⟨_, rfl⟩
      have HR3 : Hid (RunI N (mostI ma) sa da ka R Wb X' z3 T1 g1 sl1 A2 c2) := Lib.hid (by
        have ht : Tch (fun k => k = Wb) z2 z3 := by rw [← hz3]; exact Tch.setCell (S := fun k => k = Wb) (Tch.refl _ _) (p := ⟨Wb, 0, none⟩) rfl _
        refine ⟨HS2.out.tch ht (fun b hb e => (HO1.out b hb).2 e), HO1.out, ?_, HNW.out, rd_tch rd2 ht (fun a e hn => (HAD2.out a e hn).2) ht.size, HAD2.out⟩
        rw [← hz3]; exact wb2.set_ 0 _)
      have xb3 : Blk z3 (w.heap.size + 1) 27 #[.string ak, .int .i64 ai] := by rw [← hz3]; exact xb2.far (by simp; omega) _
      have hT63 : Tch (fun k => N ≤ k) w6 z3 := by rw [← hz3]; exact hT62.setCell (p := ⟨Wb, 0, none⟩) HNW.out _
      have q0 := xb3.cell 0
      simp only [List.getElem?_toArray, List.getElem?_cons_zero, List.getElem?_cons_succ] at q0
      have cf := find_c R g1 (mostI ma) sa da ka T1 X' sl1 ak z3 HR3.out.st hda hka (by omega) (by omega)
      clear HS2 wb2 xb2 HAD2 hT62 rd2 HO1
      go_wp2_with fail
      (with_reducible refine cf.mono ?_)
      clear cf
      rintro e z4 ⟨rfl, nq, hz4'⟩
      clear hz3
      have HR4 : Hid (RunI N (mostI ma) sa da ka R Wb X' z4 T1 g1 sl1 A2 c2) := Lib.hid (by
        rw [hz4']
        have h := HR3.out
        exact ⟨h.st.drewN nq, h.ox, h.wb.drewN nq, h.hN, h.rd, h.ad⟩)
      have hT64 : Tch (fun k => N ≤ k) w6 z4 := by rw [hz4']; exact hT63.drewN nq
      have xb4 : Blk z4 (w.heap.size + 1) 27 #[.string ak, .int .i64 ai] := by rw [hz4']; exact xb3.drewN nq
      clear hz4' HR3 hT63 xb3 q0
      have q0 := xb4.cell 0
      have r0 := HR4.out.wb.cell 0
      simp only [List.getElem?_toArray, List.getElem?_cons_zero, List.getElem?_cons_succ] at q0 r0
      have cg := rfind_c A2 _ c2 X' ak z4 HR4.out.rd (by omega)
      obtain ⟨A1, e1', rfl, _, _, _, _⟩ := ows_rd HR4.out.st.row
      have cl : ∀ m, Calls Try.prog 11 #[.pointer (some ⟨R, 0, none⟩)] (z4.drewN m) fun e w'' => e = .returned (.int .i64 X'.length) ∧ ∃ q, w'' = z4.drewN q := fun m =>
        (len_c R _ A1 X'.length e1' (z4.drewN m) HR4.out.st.blk rfl).mono (fun e w'' ⟨h, h'⟩ => ⟨h, m, h'.symm⟩)
      obtain ⟨F, hF⟩ : ∃ F, findI (X'.map bs) (bs ak) = F := ⟨_, rfl⟩
      have hF2 : F = -1 ∨ ∃ k : Nat, F = k ∧ k ≤ 100 := by
        rw [← hF]
        unfold findI
        split
        · next hm =>
          right
          have := List.idxOf_lt_length_iff.2 hm
          rw [List.length_map] at this
          exact ⟨_, rfl, by omega⟩
        · exact .inl rfl
      rw [hF] at cg ⊢
      clear hF
      have hX60 : X'.length ≤ 61 := by omega
      go_wp2_with fail
      (with_reducible refine cg.mono ?_)
      clear cg
      rintro e z5 ⟨rfl, rfl⟩
      rcases hF2 with rfl | ⟨k, rfl, hk⟩
      · have d1 : decide ((0 : Int) ≤ -1) = false := by decide
        have d2 : max (-1 : Int) 0 = 0 := by decide
        rw [d1, d2]
        go_wp2_with fail
        go_quiet (with_reducible exact cl _)
        go_wp2_with fail
        go_roundw
        case rel => exact ⟨i + 1, X', _, g1, sl1, A2, c2, by go_num, by omega, Lib.hid ⟨HR4.out.st.drewN nq, HR4.out.ox, HR4.out.wb.drewN nq, HR4.out.hN, HR4.out.rd, HR4.out.ad⟩, by omega, HX3, hT64.drewN nq⟩
        case measure => simp [intOf]; omega
      · have d1 : decide ((0 : Int) ≤ (k : Int)) = true := by simp
        have d2 : max (k : Int) 0 = (k : Int) := by omega
        have d3 : (0 : Int) ≤ (k : Int) := by omega
        rw [d1, d2]
        clear d2
        go_wp2_with fail
        go_quiet (with_reducible exact cl _)
        go_wp2_with fail
        go_roundw
        case rel => exact ⟨i + 1, X', _, g1, sl1, A2, c2, by go_num, by omega, Lib.hid ⟨HR4.out.st.drewN nq, HR4.out.ox, HR4.out.wb.drewN nq, HR4.out.hN, HR4.out.rd, HR4.out.ad⟩, by omega, HX3, hT64.drewN nq⟩
        case measure => simp [intOf]; omega
    · have hin : i = n := by omega
      have di : decide ((i : Int) < (n : Int)) = false := decide_eq_false (by omega)
      have hX60 : X.length ≤ 60 := by omega
      have q0 := xbr.cell 0
      have q1 := xbr.cell 1
      have r0 := H.out.wb.cell 0
      simp only [List.getElem?_toArray, List.getElem?_cons_zero, List.getElem?_cons_succ] at q0 q1 r0
      obtain ⟨A1, e1', rfl, _, _, hX1, _⟩ := ows_rd H.out.st.row
      clear hin hXi hi xar
      go_upto_region 22 with fail
      go_cut [21, 22] from 110 to 116 (fun v21 v22 wx => ∃ (s : ByteArray) (b : Bool), v21 = .string s ∧ v22 = .bool b ∧ GetIs X ai s b ∧ wx = wr)
      case first =>
        by_cases hth : 0 ≤ ai ∧ ai < X.length
        · obtain ⟨k, rfl⟩ : ∃ k : Nat, ai = k := ⟨ai.toNat, by omega⟩
          have hkX : k < X.length := by omega
          have cg := get_yes R _ A1 e1' k X X[k] wr H.out.st.blk rfl hX1 (List.getElem?_eq_getElem hkX) (by omega)
          have hgi : Hid (GetIs X k X[k] true) := Lib.hid (.inl ⟨rfl, k, rfl, List.getElem?_eq_getElem hkX⟩)
          generalize X[k] = y at *
          go_wp2_with fail
          (with_reducible refine cg.mono ?_)
          clear cg
          rintro e w' ⟨rfl, rfl⟩
          go_wp2_with fail
          go_meet
          case rel => exact ⟨y, true, rfl, rfl, hgi.out, rfl⟩
        · have cg := get_no R _ A1 X.length e1' ai wr H.out.st.blk rfl (by omega)
          have hgi : Hid (GetIs X ai ByteArray.empty false) := Lib.hid (.inr ⟨rfl, rfl, by omega⟩)
          go_wp2_with fail
          (with_reducible refine cg.mono ?_)
          clear cg
          rintro e w' ⟨rfl, rfl⟩
          go_wp2_with fail
          go_meet
          case rel => exact ⟨_, false, rfl, rfl, hgi.out, rfl⟩
      obtain ⟨gs, gb, rfl, rfl, hgi, hwc⟩ := hcut
      rw [hwc]
      clear hwc
      have HGI := Lib.hid hgi
      clear hgi
      go_upto_region 23 with fail
      go_cut [23] from 117 to 126 (fun v23 wx => v23 = .bool gb ∧ wx = wr)
      case first =>
        rcases HGI.out with ⟨rfl, k, rfl, hk⟩ | ⟨rfl, rfl, hk | hk⟩
        · have hkX := (List.getElem?_eq_some_iff.1 hk).1
          have d1 : decide ((k : Int) < (X.length : Int)) = true := decide_eq_true (by omega)
          have d2 : decide ((0 : Int) ≤ (k : Int)) = true := by simp
          clear hk
          go_wp2_with fail
          go_meet
          case rel => exact ⟨rfl, rfl⟩
        · have d2 : decide (0 ≤ ai) = false := decide_eq_false (by omega)
          go_wp2_with fail
          go_meet
          case rel => exact ⟨rfl, rfl⟩
        · have d2 : decide (0 ≤ ai) = true := decide_eq_true (by omega)
          have d1 : decide (ai < (X.length : Int)) = false := decide_eq_false (by omega)
          go_wp2_with fail
          go_meet
          case rel => exact ⟨rfl, rfl⟩
      obtain ⟨rfl, hwc⟩ := hcut
      rw [hwc]
      clear hwc
      go_upto_region 24 with fail
      go_cut [149] from 127 to 148 (fun v149 wx => v149 = .bool false ∧ wx = wr)
      case first =>
        rcases HGI.out with ⟨rfl, k, rfl, hk⟩ | ⟨rfl, rfl, hk⟩
        · have hkX := (List.getElem?_eq_some_iff.1 hk).1
          obtain ⟨ad, y, hA', _, hy, cy⟩ := H.out.rd.str hkX
          have hxy : gs = y := by rw [hk] at hy; injection hy
          subst hxy hA'
          clear hk hy
          go_wp2_with fail
          go_meet
          case rel => exact ⟨rfl, rfl⟩
        · clear hk
          go_wp2_with fail
          go_meet
          case rel => exact ⟨rfl, rfl⟩
      obtain ⟨rfl, hwc⟩ := hcut
      rw [hwc]
      clear hwc
      have ca := all_c (some ⟨R, 0, none⟩) ((wr.alloc (.cells #[.int .i64 0] 3)).alloc (.cells #[.bool true] 4))
      go_wp2_with fail
      (with_reducible refine ca.mono ?_)
      clear ca
      rintro e w8 ⟨rfl, hw8⟩
      have hw8' : w8 = ((wr.alloc (.cells #[.int .i64 0] 3)).alloc (.cells #[.bool true] 4)).alloc (.cells #[.pointer (some ⟨R, 0, none⟩)] 29) := hw8
      clear hw8
      have jn : Blk w8 wr.heap.size 3 #[.int .i64 0] := by rw [hw8']; exact ((Blk.new _ _ _).alloc _).alloc _
      have js : Blk w8 (wr.heap.size + 1) 4 #[.bool true] := by rw [hw8']; exact (Blk.new1 _ _ _ _).alloc _
      have jb : Blk w8 (wr.heap.size + 2) 29 #[.pointer (some ⟨R, 0, none⟩)] := by rw [hw8']; exact Blk.new2 _ _ _ _ _
      have hz8 : w8.heap.size = wr.heap.size + 3 := by rw [hw8']; simp
      have T8 : Tch (fun _ => False) wr w8 := by rw [hw8']; exact (((Tch.refl _ _).alloc _).alloc _).alloc _
      have hSt8 : St w8 R (mostI ma) sa da ka (.slice A1 X.length e1') g X sl := H.out.st.tch T8 (fun _ _ h => h)
      have jw : Blk w8 Wb 25 #[.slice A' X.length c'] := H.out.wb.tch T8 (fun h => h)
      have jr : Rd w8 wr.heap.size 1 A' X.length (X.map Value.string) := rd_tch H.out.rd T8 (fun _ _ _ h => h) (Nat.le_refl _)
      have B8 : Below w.heap.size w w8 := T8.below Br (fun _ h => h.elim) Br.size
      have jX : Rd w8 w8.heap.size 1 A1 X.length (X.map Value.string) := by
        obtain ⟨A9, c9, e9, _, _, hX8, _⟩ := ows_rd hSt8.row
        injection e9 with h1 h2 h3
        rw [h1]; exact hX8
      have hAf : ∀ a, A1 = some a → 0 < X.length → a.block < wr.heap.size := fun a e hn => by
        obtain ⟨a', e', hb', _⟩ := hX1.2 hn
        rw [e] at e'; injection e' with e'; rw [e']; exact hb'
      have hRlt := H.out.st.blk.lt
      have hWlt := H.out.wb.lt
      have v8 := jb.cell 0
      simp only [List.getElem?_toArray, List.getElem?_cons_zero, List.getElem?_cons_succ] at v8
      clear hw8' T8
      go_wp2_with fail
      refine (wpIn_wide (n := 9)).1 ?_
      refine' wpIn_rangeFunc_ownF rfl (by omega) (gf := 17) (lb := #[.pointer (some ⟨wr.heap.size + 2, 0, none⟩)]) rfl trivial (enters_of Try.func17 (by kernel_rfl) rfl)
        (all_stops 8 (by omega) (wr.heap.size + 2) R e1' _ A1 X (SJ wr.heap.size (wr.heap.size + 1) w8.heap.size) (by rintro (h | h | h) <;> omega) (by rintro (h | h | h) <;> omega) (fun a e hn => by have := hAf a e hn; rintro (h | h | h) <;> omega) (by omega) w8 v8 hSt8.blk rfl jX)
        (fun h k => Tch.trans h k) (fun W l o o' hl _ _ _ => tch_putObj W l o' (.inr (.inr hl))) (Below.refl _ _) (fun _ => rfl)
        (fun pre W => ∃ b, RunJ wr.heap.size (wr.heap.size + 1) w8.heap.size X w8 pre W b) (fun _ _ _ => False) (RunJ.own (by omega) (by omega)) (fun _ _ _ _ _ hs _ _ => hs)
        ⟨true, jn, js, fun _ => rfl, Tch.refl _ _⟩ _ _ _ _ _
      case refine'_2 =>
        intro l x W K hK
        gi_wp2
        exact hK
      case refine'_5 =>
        rintro D c pre W _ _ h _
        exact h.elim
      case refine'_3 =>
        rintro l pre x W ⟨b, hJ⟩ hpl
        have hxl := x.isLt
        have hAf' : ∀ a, A' = some a → 0 < X.length → a.block < wr.heap.size := fun a e hn => by
          obtain ⟨a', e', hb', _⟩ := jr.2 hn
          rw [e] at e'; injection e' with e'; rw [e']; exact hb'
        have jwW : Blk W Wb 25 #[.slice A' X.length c'] := jw.tch hJ.tch (by rintro (h | h | h) <;> omega)
        have jrW : Rd W wr.heap.size 1 A' X.length (X.map Value.string) := rd_tch jr hJ.tch (fun a e hn => by have := hAf' a e hn; rintro (h | h | h) <;> omega) (Nat.le_refl _)
        have n0 := hJ.nb.cell 0
        have n1 := hJ.nb.loose 0
        have s0 := hJ.sb.cell 0
        have s1 := hJ.sb.loose 0
        have k0 := jwW.cell 0
        simp only [List.getElem?_toArray, List.getElem?_cons_zero, List.getElem?_cons_succ] at n0 s0 k0
        have HJ := Lib.hid hJ
        have hdd : 1 ≤ 9 - 1 - 1 := by omega
        clear hJ jwW jw jr jX jb jn js hSt8 v8 B8 q0 q1 r0 hX1 Br xbr hT6 xa6 xb6 B6
        cases b with
        | false =>
          gi_wp2
          exact HJ.out.step (x := x) (b' := false) (by omega) (by simp)
        | true =>
          by_cases hxp : x.val = pre.length
          · obtain ⟨ad, y, hA', _, hy, cy⟩ := jrW.str hpl
            have hxy : X[x.val] = y := by
              have e1 : X[pre.length]? = some X[x.val] := by rw [← hxp]; exact List.getElem?_eq_getElem hxl
              rw [e1] at hy
              injection hy
            subst hA'
            have t1 : ((x.val : Int) == (pre.length : Int)) = true := by rw [hxp]; simp
            have t2 : decide ((pre.length : Int) < (X.length : Int)) = true := decide_eq_true (by omega)
            have hst := HJ.out.step (x := x) (b' := true) (by omega) (by rw [decide_eq_true hxp]; rfl)
            have HST := Lib.hid hst
            clear hst hy hxp
            simp only [hxy]
            clear hxy
            gi_wp2
            exact HST.out
          · have t1 : ((x.val : Int) == (pre.length : Int)) = false := by simp; omega
            have hst := HJ.out.step (x := x) (b' := false) (by omega) (by rw [decide_eq_false hxp]; rfl)
            have HST := Lib.hid hst
            clear hst hxp
            gi_wp2
            exact HST.out
      case refine'_4 =>
        rintro D ys W hD rfl ⟨b, hJ⟩ hK
        have hbt := hJ.ok (by rw [pref_length (Nat.le_refl _)])
        subst hbt
        have n0 := hJ.nb.cell 0
        have s0 := hJ.sb.cell 0
        rw [pref_length (Nat.le_refl _)] at n0
        have jwW : Blk W Wb 25 #[.slice A' X.length c'] := jw.tch hJ.tch (by rintro (h | h | h) <;> omega)
        have k0 := jwW.cell 0
        simp only [List.getElem?_toArray, List.getElem?_cons_zero, List.getElem?_cons_succ] at n0 s0 k0
        have BW : Below w.heap.size w W := hJ.tch.below B8 (by have := Br.size; rintro k (h | h | h) <;> omega) B8.size
        clear jwW jw jr jX jb jn js hSt8 v8 q0 q1 r0 hX1 xbr hT6 xa6 xb6 B6
        go_wp2_with fail
        refine ⟨by simp, .inl ⟨_, _, rfl, run_takeDeferred hK, ?_⟩⟩
        refine ⟨_, results_tmp rfl _ _ _, ?_, BW.grown (grownBy_putObj' _ D (.deferred none)) BW.size (fun k e => by have := B8.size; cases e; omega)⟩
        rfl
end StoW
end Go.Proofs.Ytcmpgiahjbopnaa
