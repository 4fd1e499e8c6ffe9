/- The reference's Decode: the walk. Condition: a text that fits. -/
import Derived.Test.YtooinkhjoppijaaDoorTraE
import Derived.Deep.DeepCutAuto
namespace Go.Proofs.YtooinkhjoppijaaDoor
set_option linter.unusedVariables false
set_option linter.unusedSimpArgs false
open Go.RowKit
namespace TraW
open TraP NumP NumW
/-- What is told, behind the first line. -/
def finP (k n : Int) (G : List Ch × Int × Int) : Tr × Int × Int := if G.2.2 ≠ 0 then ((0, 0, []), G.2.1, G.2.2) else ((k, n, G.1), 0, 0)
theorem decP_fin {l : Bs} {a t : Bs} {k n : Int} (hl : l = a ++ 10 :: t) (ha : (10 : UInt8) ∉ a) (hp : purP a = some (k, n)) : decP l = finP k n (goP l.length t []) := by
  have hc : Lib.cut l [10] = (a, t, true) := by rw [hl]; exact cut_at _ _ _ ha
  rw [decP_yes (k := k) (n := n) (by rw [hc]) (by rw [hc]; exact hp), hc]; rfl
theorem decP_bad0 {l : Bs} (h : (10 : UInt8) ∉ l) : decP l = ((0, 0, []), 0, 1) := decP_no (.inl (by rw [cut_no _ _ h]))
theorem decP_bad1 {l a t : Bs} (hl : l = a ++ 10 :: t) (ha : (10 : UInt8) ∉ a) (hp : purP a = none) : decP l = ((0, 0, []), 0, 1) := decP_no (.inr (by rw [hl, cut_at _ _ _ ha]; exact hp))
theorem fin_no {l : Bs} {k n : Int} {i : Nat} {acc : List Ch} (h : decP l = finP k n (goP l.length (l.drop i) acc)) (hi : i < l.length) (hn : (10 : UInt8) ∉ l.drop i) : decP l = ((0, 0, []), (i : Int), 1) := by
  rw [h, goP_no _ _ _ (by intro e; have := congrArg List.length e; simp at this; omega) hn]
  unfold finP
  simp only [ne_eq, show ¬ (1 : Int) = 0 by decide, not_false_eq_true, if_true, List.length_drop]
  rw [show (l.length : Int) - ((l.length - i : Nat) : Int) = i by omega]
theorem fin_bad {l a t : Bs} {k n : Int} {i : Nat} {acc : List Ch} {er : Int} (h : decP l = finP k n (goP l.length (l.drop i) acc)) (hi : i < l.length) (hl : l.drop i = a ++ 10 :: t) (ha : (10 : UInt8) ∉ a) (he : lineP a acc = ([], er)) (hr : er ≠ 0) : decP l = ((0, 0, []), (i : Int), er) := by
  rw [h, hl, goP_at _ _ _ _ ha, he, if_pos hr]
  unfold finP
  simp only
  rw [if_pos hr, ← hl, List.length_drop, show (l.length : Int) - ((l.length - i : Nat) : Int) = i by omega]
theorem fin_go {l a t : Bs} {k n : Int} {i : Nat} {acc L : List Ch} (h : decP l = finP k n (goP l.length (l.drop i) acc)) (hl : l.drop i = a ++ 10 :: t) (ha : (10 : UInt8) ∉ a) (he : lineP a acc = (L, 0)) : decP l = finP k n (goP l.length (l.drop (i + a.length + 1)) L) := by
  have ht : l.drop (i + a.length + 1) = t := by
    rw [show i + a.length + 1 = i + (a.length + 1) by omega, ← List.drop_drop, hl, List.drop_append]; simp
  rw [h, hl, goP_at _ _ _ _ ha, he, ht]; simp
theorem fin_end {l : Bs} {k n : Int} {i : Nat} {acc : List Ch} (h : decP l = finP k n (goP l.length (l.drop i) acc)) (hi : l.length ≤ i) : decP l = ((k, n, acc), 0, 0) := by
  rw [h, List.drop_of_length_le hi, goP_end]; rfl
/-- Where a byte stands first, found step by step. -/
theorem scan_step {l : Bs} {b : UInt8} {i j : Nat} (h : b ∉ (l.drop i).take (j - i)) (hij : i ≤ j) (hj : j < l.length) (hb : l[j]'hj ≠ b) : b ∉ (l.drop i).take (j + 1 - i) := by
  rw [show j + 1 - i = (j - i) + 1 by omega, List.take_add_one, List.mem_append, not_or]
  refine ⟨h, ?_⟩
  rw [List.getElem?_drop, show i + (j - i) = j by omega, List.getElem?_eq_getElem hj]
  simp; exact fun e => hb e.symm
theorem scan_hit {l : Bs} {b : UInt8} {i j : Nat} (hij : i ≤ j) (hj : j < l.length) (hb : l[j]'hj = b) : l.drop i = (l.drop i).take (j - i) ++ b :: l.drop (j + 1) := by
  have h1 : l.drop i = (l.drop i).take (j - i) ++ (l.drop i).drop (j - i) := (List.take_append_drop _ _).symm
  rw [List.drop_drop, show i + (j - i) = j by omega, List.drop_eq_getElem_cons hj, hb] at h1
  exact h1
theorem extract_ba (s : ByteArray) (i j : Nat) : s.extract i j = ba ((s.data.toList.drop i).take (j - i)) := by
  apply bytes_ext
  rw [ba_list, Lib.extract_data]
theorem byte_at (s : ByteArray) (j : Nat) (h : j < s.size) : s.data.toList[j]'(by rw [← Lib.size_eq]; exact h) = s[j]'h := rfl
theorem own_cells {w : World} {B n c : Nat} {A : Option Addr} {l : List Ch} (h : w.ownsRow B 39 3 (.slice A n c) n (ccs l)) (hn : l.length = n) : ∀ k p, l[k]? = some p → ∃ g, A = some ⟨g, 0, none⟩ ∧ B ≤ g ∧ g < w.heap.size ∧ w.cell? ⟨g, k * 3, none⟩ = some (.int .i64 p.1) ∧ w.cell? ⟨g, k * 3 + 1, none⟩ = some (.int .i64 p.2.1) ∧ w.cell? ⟨g, k * 3 + 2, none⟩ = some (.int .i64 p.2.2) := by
  intro k p hp
  have hk := (List.getElem?_eq_some_iff.1 hp).1
  obtain ⟨g, cap, e, h1, h2⟩ := h.form (by omega)
  cases e
  obtain ⟨a1, a2, a3⟩ := ccs_at l k p hp
  have hlen := ccs_len l
  exact ⟨g, rfl, h1, h2, (h.cellAt _ (by omega)).trans a1, (h.cellAt _ (by omega)).trans a2, (h.cellAt _ (by omega)).trans a3⟩
theorem lineP_bad {text : Bs} {acc : List Ch} (h : choP (Lib.cut text [32]).2.1 = none ∨ (∃ c, acc.getLast? = some c ∧ choP (Lib.cut text [32]).2.1 = some c) ∨ formB (Lib.cut text [32]).1 = false ∨ pv (Lib.cut text [32]).1 < 1) : lineP text acc = ([], 1) := by
  unfold lineP
  cases e : choP (Lib.cut text [32]).2.1 with
  | none => rfl
  | some c =>
    simp only
    rw [if_pos]
    rcases h with h | ⟨d, h1, h2⟩ | h | h
    · rw [e] at h; cases h
    · rw [e] at h2; cases h2; exact .inl h1
    · exact .inr (.inl h)
    · exact .inr (.inr h)
theorem lineP_long {text : Bs} {acc : List Ch} {c : Ch} (h1 : choP (Lib.cut text [32]).2.1 = some c) (h2 : acc.getLast? ≠ some c) (h3 : formB (Lib.cut text [32]).1 = true) (h4 : 4000 - (acc.length : Int) < pv (Lib.cut text [32]).1) (h5 : 1 ≤ pv (Lib.cut text [32]).1) : lineP text acc = ([], 2) := by
  unfold lineP
  rw [h1]
  simp only
  rw [if_neg, if_pos h4]
  rintro (h | h | h)
  · exact h2 h
  · rw [h3] at h; cases h
  · omega
/-- Where a scan for a byte comes to an end. -/
def ScanR (l : Bs) (b : UInt8) (i : Nat) (ev : Value) : Prop := ∃ j : Nat, ev = .int .i64 j ∧ i ≤ j ∧ j ≤ l.length ∧ Hid (b ∉ (l.drop i).take (j - i)) ∧ (j = l.length ∨ ∃ h : j < l.length, l[j]'h = b)
theorem ne_byte {a : UInt8} {n : UInt8} (h : ¬ a = n) : ((a.toNat : Int) != (n.toNat : Int)) = true := by
  rw [bne_iff_ne]
  intro e
  exact h (UInt8.toNat_inj.1 (by omega))
theorem ba_byte (l : Bs) (q : Nat) (h : q < (ba l).size) (h2 : q < l.length) : (ba l)[q]'h = l[q]'h2 := rfl
/-- Whether a line is refused, and what else is known of it. -/
def BadR (tx : Bs) (acc : List Ch) (a b : Bs) (c : Ch) (pn pe : Int) (bv : Value) : Prop := ∃ bb : Bool, bv = .bool bb ∧ (bb = true → lineP tx acc = ([], 1)) ∧
  (bb = false → choP b = some c ∧ acc.getLast? ≠ some c ∧ formB a = true ∧ ((pe = 0 ∧ pn = pv a ∧ 1 ≤ pn) ∨ (pe = 3 ∧ 9223372036854775807 < pv a)))
theorem badr_yes {tx : Bs} {acc : List Ch} {a b : Bs} {c : Ch} {pn pe : Int} (h : lineP tx acc = ([], 1)) : BadR tx acc a b c pn pe (.bool true) := ⟨true, rfl, fun _ => h, fun e => by cases e⟩
theorem badr_no {tx : Bs} {acc : List Ch} {a b : Bs} {c : Ch} {pn pe : Int} (h : choP b = some c ∧ acc.getLast? ≠ some c ∧ formB a = true ∧ ((pe = 0 ∧ pn = pv a ∧ 1 ≤ pn) ∨ (pe = 3 ∧ 9223372036854775807 < pv a))) : BadR tx acc a b c pn pe (.bool false) := ⟨false, rfl, fun e => (by cases e), fun _ => h⟩
set_option maxHeartbeats 12800000 in
set_option maxRecDepth 100000 in
theorem rdecode_c (s : ByteArray) (w : World) (hs : s.size ≤ 281474976) : Calls Tryd.prog 13 #[.string s] w (DecPost s.data.toList w) := by
  obtain ⟨l, hl⟩ : ∃ l, s.data.toList = l := ⟨_, rfl⟩
  rw [hl]
  have HS := Lib.hid hl
  have hsz : l.length = s.size := by rw [← hl, Lib.size_eq]
  have HZ := Lib.hid hsz
  clear hl hsz
  go_enter Tryd.func13, Tryd.ntmps13
  go_wp2_with fail
  have R1 := (Blk.new w 24 #[.int .i64 0, .int .i64 0, .slice none 0 0]).alloc (.cells #[.int .i64 0, .int .i64 0, .slice none 0 0] 24)
  have T1 := Blk.new1 w (.cells #[.int .i64 0, .int .i64 0, .slice none 0 0] 24) 24 #[.int .i64 0, .int .i64 0, .slice none 0 0]
  have B1 : Below w.heap.size w ((w.alloc (.cells #[.int .i64 0, .int .i64 0, .slice none 0 0] 24)).alloc (.cells #[.int .i64 0, .int .i64 0, .slice none 0 0] 24)) := by go_grown
  obtain ⟨w1, hw1⟩ : ∃ q, (w.alloc (.cells #[.int .i64 0, .int .i64 0, .slice none 0 0] 24)).alloc (.cells #[.int .i64 0, .int .i64 0, .slice none 0 0] 24) = q := ⟨_, rfl⟩
  rw [hw1] at R1 T1 B1 ⊢
  have hz1 : w1.heap.size = w.heap.size + 2 := by rw [← hw1]; simp
  clear hw1
  (with_reducible refine (all_c _).mono ?_)
  rintro e w2 ⟨ev, rfl, hall, b2⟩
  have R2 := R1.next b2
  have T2 := T1.next b2
  have B2 := via b2 B1
  obtain ⟨A8, c8, rfl, hlt8, hcell8⟩ := own_shape hall
  have hz2 := b2.size
  clear R1 T1 B1 b2
  obtain ⟨N8, hN8⟩ : ∃ N, (allC 8).length = N := ⟨_, rfl⟩
  have hN8z : N8 ≤ 5000 := by have := allC_len 8; omega
  unfold OwnC at hall
  rw [hN8] at hall hlt8
  rw [hN8]
  have HN8 := Lib.hid hN8
  have HC8 := Lib.hid hcell8
  clear hN8 hcell8 hlt8
  obtain ⟨g8, rfl, hg8a, hg8b, _⟩ := own_cells hall HN8.out 0 (1, 0, 0) rfl
  go_wp2
  go_loopw [6, 7] (fun av fv wr => ∃ (i : Nat), av = .int .i64 i ∧ i ≤ s.size ∧ Blk wr w.heap.size 24 #[.int .i64 0, .int .i64 0, .slice none 0 0] ∧ w2.heap.size ≤ wr.heap.size ∧ Below w.heap.size w wr ∧ (wr).ownsRow w1.heap.size 39 3 (.slice (some ⟨g8, 0, none⟩) N8 c8) N8 (ccs (allC 8)) ∧
      ((fv = .bool true ∧ i = 0 ∧ Blk wr (w.heap.size + 1) 24 #[.int .i64 0, .int .i64 0, .slice none 0 0]) ∨
       (fv = .bool false ∧ ∃ (k n : Int) (acc : List Ch) (v : Value), acc.length ≤ 4000 ∧ Blk wr (w.heap.size + 1) 24 #[.int .i64 k, .int .i64 n, v] ∧ OwnC wr w2.heap.size v acc ∧ Hid (decP l = finP k n (goP l.length (l.drop i) acc)))))
    (fun av fv _ => s.size + 1 - (intOf av).toNat)
  case atStart => exact ⟨0, rfl, by omega, R2, Nat.le_refl _, B2, hall, .inl ⟨rfl, rfl, T2⟩⟩
  case round =>
    clear R2 T2 B2 hall
    obtain ⟨i, rfl, hi, R3, hz3, hB, E3, hcase⟩ := hrel
    obtain ⟨wq, rfl⟩ : ∃ q : World, q = wr := ⟨_, rfl⟩
    have r0 := R3.cell 0
    have r1 := R3.cell 1
    have r2 := R3.cell 2
    have l0 := R3.loose 0
    have l1 := R3.loose 1
    have l2 := R3.loose 2
    simp only [List.getElem?_toArray, List.getElem?_cons_zero, List.getElem?_cons_succ] at r0 r1 r2
    rcases hcase with ⟨rfl, rfl, T3⟩ | ⟨rfl, k, n, acc, v, hal, T3, hown, HD⟩
    · as_aux_lemma =>
      have t0 := T3.cell 0
      have t1 := T3.cell 1
      have t2 := T3.cell 2
      have lt0 := T3.loose 0
      have lt1 := T3.loose 1
      simp only [List.getElem?_toArray, List.getElem?_cons_zero, List.getElem?_cons_succ] at t0 t1 t2
      go_wp2
      go_loop [9] (fun ev => ∃ j : Nat, ev = .int .i64 j ∧ j ≤ s.size ∧ Hid ((10 : UInt8) ∉ (l.drop 0).take (j - 0))) (fun ev => s.size - (intOf ev).toNat)
      case atStart => exact ⟨0, rfl, by omega, Lib.hid (by simp)⟩
      case round =>
        obtain ⟨j, rfl, hj, hx⟩ := hrel
        by_cases hjl : j < s.size
        · have dj : decide ((j : Int) < (s.size : Int)) = true := decide_eq_true (by omega)
          have hjl2 : j < l.length := by rw [HZ.out]; exact hjl
          have hbyte : l[j]'hjl2 = s[j]'hjl := by
            have := byte_at s j hjl
            simp only [HS.out] at this
            exact this
          have HBY := Lib.hid hbyte
          clear hbyte
          by_cases h10 : s[j]'hjl = 10
          · have e10 : (((s[j]'hjl).toNat : Int) != 10) = false := by rw [h10]; rfl
            have hhit := scan_hit (l := l) (b := 10) (i := 0) (j := j) (by omega) hjl2 (by rw [HBY.out]; exact h10)
            obtain ⟨tx, htx⟩ : ∃ tx, (l.drop 0).take (j - 0) = tx := ⟨_, rfl⟩
            rw [htx] at hhit
            have hx2 : (10 : UInt8) ∉ tx := by rw [← htx]; exact hx.out
            have hex : s.extract 0 j = ba tx := by rw [extract_ba, HS.out, htx]
            have dej : ((j : Int) == (s.size : Int)) = false := by rw [beq_eq_false_iff_ne]; omega
            have HH := Lib.hid hhit
            have HX := Lib.hid hx2
            have HEX := Lib.hid hex
            clear hhit hx2 hex htx hx h10
            have cf := fun W => find_c (ba tx) W
            rw [ba_list] at cf
            have c1 : (0 : Int) ≤ (j : Int) := by omega
            have c2 : (j : Int) ≤ (s.size : Int) := by omega
            go_wp2_with fail
            rw [HEX.out]
            (with_reducible refine (cf _).mono ?_)
            rintro e w4 ⟨rfl, b4⟩
            have T4 := ((T3.next b4).set_ 0 (.int .i64 ((purP tx).getD (-1, 0)).1)).set_ 1 (.int .i64 ((purP tx).getD (-1, 0)).2)
            have T4x := T3.next b4
            have R4 := R3.next b4
            have E4 := own_next E3 b4
            have B4 := via b4 hB
            have hz4 := Nat.le_trans hz3 b4.size
            clear b4 R3 T3 E3 hB hz3 r0 r1 r2 l0 l1 l2 t0 t1 t2 lt0 lt1 cf
            have t0 := T4x.cell 0
            have t1 := T4x.cell 1
            have lt0 := T4x.loose 0
            have lt1 := T4x.loose 1
            simp only [List.setIfInBounds_toArray, List.set_cons_zero, List.set_cons_succ, List.getElem?_toArray, List.getElem?_cons_zero, List.getElem?_cons_succ] at t0 t1 T4
            cases hp : purP tx with
            | none =>
              rw [hp] at T4
              simp only [Option.getD_none] at T4 ⊢
              have HB := Lib.hid (decP_bad1 (show l = tx ++ 10 :: l.drop (j + 1) from HH.out) HX.out hp)
              clear hp
              have R5 := (R4.far (p := ⟨w.heap.size + 1, 0, none⟩) (by simp) (.int .i64 (-1))).far (p := ⟨w.heap.size + 1, 1, none⟩) (by simp) (.int .i64 0)
              have B5 := (B4.setCell (p := ⟨w.heap.size + 1, 0, none⟩) (by simp) (.int .i64 (-1))).setCell (p := ⟨w.heap.size + 1, 1, none⟩) (by simp) (.int .i64 0)
              have q0 := T4.cell 0
              have r0 := R5.cell 0
              have r1 := R5.cell 1
              have r2 := R5.cell 2
              have l0 := R5.loose 0
              have l1 := R5.loose 1
              have l2 := R5.loose 2
              have R6 := ((R5.set_ 0 (.int .i64 0)).set_ 1 (.int .i64 0)).set_ 2 (.slice none 0 0)
              have k0 := R6.cell 0
              have k1 := R6.cell 1
              have k2 := R6.cell 2
              simp only [List.setIfInBounds_toArray, List.set_cons_zero, List.set_cons_succ, List.getElem?_toArray, List.getElem?_cons_zero, List.getElem?_cons_succ] at q0 r0 r1 r2 k0 k1 k2
              clear R6 R5 T4 T4x
              go_wp2
              refine bodyPost_ret (v := .tuple #[.agg #[.int .i64 0, .int .i64 0, .slice none 0 0], .int .i64 0, .int .i64 1]) (by simp [results, Tryd.results13, go_sem, k0, k1, k2]) rfl ?_
              exact dec_bad HB.out (by go_grown)
            | some kn =>
              obtain ⟨k, n⟩ := kn
              rw [hp] at T4
              simp only [Option.getD_some] at T4 ⊢
              have hkn : 0 ≤ k := by
                have := (purP_some hp).1
                rcases head_cases this with ⟨rfl, _⟩ | ⟨rfl, _⟩ | ⟨rfl, _⟩ <;> omega
              have HD := Lib.hid (decP_fin (l := l) (by rw [← HH.out]; rfl) HX.out hp)
              clear hp
              have R5 := (R4.far (p := ⟨w.heap.size + 1, 0, none⟩) (by simp) (.int .i64 k)).far (p := ⟨w.heap.size + 1, 1, none⟩) (by simp) (.int .i64 n)
              have B5 := (B4.setCell (p := ⟨w.heap.size + 1, 0, none⟩) (by simp) (.int .i64 k)).setCell (p := ⟨w.heap.size + 1, 1, none⟩) (by simp) (.int .i64 n)
              have hfar8 : ∀ g, (Value.slice (some ⟨g8, 0, none⟩) N8 c8).ownBlock = some g → g ≠ w.heap.size + 1 := fun g hg => by (have : g8 = g := (by simpa [Value.ownBlock] using hg)); omega
              have E5 := own_far (own_far E4 ⟨w.heap.size + 1, 0, none⟩ hfar8 (.int .i64 k)) ⟨w.heap.size + 1, 1, none⟩ hfar8 (.int .i64 n)
              have hz5 : w2.heap.size ≤ ((w4.setCell ⟨w.heap.size + 1, 0, none⟩ (.int .i64 k)).setCell ⟨w.heap.size + 1, 1, none⟩ (.int .i64 n)).heap.size := by simpa [World.setCell] using hz4
              have q0 := T4.cell 0
              simp only [List.getElem?_toArray, List.getElem?_cons_zero, List.getElem?_cons_succ] at q0
              have dk : decide (k < 0) = false := decide_eq_false (by omega)
              clear T4x R4 E4 B4
              go_wp2
              go_roundw
              case rel => exact ⟨j + 1, by go_num, by omega, R5, hz5, B5, E5, .inr ⟨rfl, k, n, [], .slice none 0 0, by simp, T4, World.ownsRow_nil _ _ _ _, HD⟩⟩
              case measure => simp [intOf]; omega
          · have e10 : (((s[j]'hjl).toNat : Int) != 10) = true := by
              rw [bne_iff_ne]
              intro e
              exact h10 (UInt8.toNat_inj.1 (by have e2 : (s[j]'hjl).toNat = 10 := by omega
                                               rw [e2]; first | done | rfl))
            have hstep := scan_step (l := l) (b := 10) (i := 0) hx.out (by omega) hjl2 (by rw [HBY.out]; exact h10)
            have HST := Lib.hid hstep
            clear hstep h10
            go_wp2
            go_round
            case rel => exact ⟨j + 1, by go_num, by omega, HST⟩
            case measure => simp [intOf]; omega
        · have hjs : j = s.size := by omega
          have dj : decide ((j : Int) < (s.size : Int)) = false := decide_eq_false (by omega)
          have dej : ((j : Int) == (s.size : Int)) = true := by rw [beq_iff_eq]; omega
          have hb0 : decP l = ((0, 0, []), 0, 1) := decP_bad0 (by
            have := hx.out
            rw [List.drop_zero, Nat.sub_zero, List.take_of_length_le (by rw [HZ.out]; omega)] at this
            exact this)
          have HB := Lib.hid hb0
          clear hb0 hjs
          have R4 := ((R3.set_ 0 (.int .i64 0)).set_ 1 (.int .i64 0)).set_ 2 (.slice none 0 0)
          have k0 := R4.cell 0
          have k1 := R4.cell 1
          have k2 := R4.cell 2
          simp only [List.setIfInBounds_toArray, List.set_cons_zero, List.set_cons_succ, List.getElem?_toArray, List.getElem?_cons_zero, List.getElem?_cons_succ] at k0 k1 k2
          clear R4
          go_wp2
          refine bodyPost_ret (v := .tuple #[.agg #[.int .i64 0, .int .i64 0, .slice none 0 0], .int .i64 0, .int .i64 1]) (by simp [results, Tryd.results13, go_sem, k0, k1, k2]) rfl ?_
          exact dec_bad HB.out (by go_grown)
    · obtain ⟨A0, c0, rfl, hlt0, hcell0⟩ := own_shape hown
      obtain ⟨N, hN⟩ : ∃ N, acc.length = N := ⟨_, rfl⟩
      unfold OwnC at hown
      rw [hN] at hown T3 hlt0 hal
      have HN := Lib.hid hN
      have HLT := Lib.hid hlt0
      have HCL := Lib.hid hcell0
      clear hN hlt0 hcell0
      have t0 := T3.cell 0
      have t1 := T3.cell 1
      have t2 := T3.cell 2
      simp only [List.getElem?_toArray, List.getElem?_cons_zero, List.getElem?_cons_succ] at t0 t1 t2
      by_cases hend : i < s.size
      · have dend : decide ((i : Int) < (s.size : Int)) = true := decide_eq_true (by omega)
        go_upto_block 2 with fail
        go_cut [9] (fun ev wx => ScanR l 10 i ev ∧ wq = wx)
        case first => as_aux_lemma =>
          go_wp2_with fail
          go_loop [9] (fun ev => ∃ j : Nat, ev = .int .i64 j ∧ i ≤ j ∧ j ≤ s.size ∧ Hid ((10 : UInt8) ∉ (l.drop i).take (j - i))) (fun ev => s.size - (intOf ev).toNat)
          case atStart => exact ⟨i, rfl, by omega, by omega, Lib.hid (by simp)⟩
          case round =>
            obtain ⟨j, rfl, hij, hj, hx⟩ := hrel
            by_cases hjl : j < s.size
            · have dj : decide ((j : Int) < (s.size : Int)) = true := decide_eq_true (by omega)
              have hjl2 : j < l.length := by rw [HZ.out]; exact hjl
              have hbyte : l[j]'hjl2 = s[j]'hjl := by
                have := byte_at s j hjl
                simp only [HS.out] at this
                exact this
              have HBY := Lib.hid hbyte
              clear hbyte
              by_cases h10 : s[j]'hjl = 10
              · have e10 : (((s[j]'hjl).toNat : Int) != 10) = false := by rw [h10]; rfl
                have END : ScanR l 10 i (.int .i64 (j : Int)) := ⟨j, rfl, hij, by omega, hx, .inr ⟨hjl2, by rw [HBY.out]; exact h10⟩⟩
                clear h10
                go_wp2_with fail
                go_meet
                case rel => exact ⟨END, rfl⟩
              · have e10 : (((s[j]'hjl).toNat : Int) != 10) = true := ne_byte h10
                have hstep := scan_step (l := l) (b := 10) (i := i) hx.out hij hjl2 (by rw [HBY.out]; exact h10)
                have HST := Lib.hid hstep
                clear hstep h10
                go_wp2_with fail
                go_round
                case rel => exact ⟨j + 1, by go_num, by omega, by omega, HST⟩
                case measure => simp [intOf]; omega
            · have dj : decide ((j : Int) < (s.size : Int)) = false := decide_eq_false (by omega)
              have END : ScanR l 10 i (.int .i64 (j : Int)) := ⟨j, rfl, hij, by rw [HZ.out]; omega, hx, .inl (by rw [HZ.out]; omega)⟩
              go_wp2_with fail
              go_meet
              case rel => exact ⟨END, rfl⟩
        case rest =>
          obtain ⟨⟨j, rfl, hij, hj, hx, hstop⟩, rfl⟩ := hcut
          rw [HZ.out] at hj
          rcases hstop with hje | ⟨hjl2, h10⟩
          · rw [HZ.out] at hje
            have dej : ((j : Int) == (s.size : Int)) = true := by rw [beq_iff_eq]; omega
            have hb := fin_no HD.out (by rw [HZ.out]; exact hend) (by
              have := hx.out
              rwa [List.take_of_length_le (by rw [List.length_drop, HZ.out]; omega)] at this)
            have HB := Lib.hid hb
            clear hb hje
            have R4 := ((R3.set_ 0 (.int .i64 0)).set_ 1 (.int .i64 0)).set_ 2 (.slice none 0 0)
            have k0 := R4.cell 0
            have k1 := R4.cell 1
            have k2 := R4.cell 2
            simp only [List.setIfInBounds_toArray, List.set_cons_zero, List.set_cons_succ, List.getElem?_toArray, List.getElem?_cons_zero, List.getElem?_cons_succ] at k0 k1 k2
            clear R4
            go_wp2
            refine bodyPost_ret (v := .tuple #[.agg #[.int .i64 0, .int .i64 0, .slice none 0 0], .int .i64 (i : Int), .int .i64 1]) (by simp [results, Tryd.results13, go_sem, k0, k1, k2]) rfl ?_
            exact dec_bad HB.out (by go_grown)
          have hjs : j < s.size := by rw [← HZ.out]; exact hjl2
          have dej : ((j : Int) == (s.size : Int)) = false := by rw [beq_eq_false_iff_ne]; omega
          have hhit := scan_hit (l := l) (b := 10) (i := i) (j := j) hij hjl2 h10
          obtain ⟨tx, htx⟩ : ∃ tx, (l.drop i).take (j - i) = tx := ⟨_, rfl⟩
          rw [htx] at hhit
          have hx2 : (10 : UInt8) ∉ tx := by rw [← htx]; exact hx.out
          have hex : s.extract i j = ba tx := by rw [extract_ba, HS.out, htx]
          have htl : tx.length = j - i := by rw [← htx, List.length_take, List.length_drop, HZ.out]; omega
          have hbz : (ba tx).size = tx.length := ba_size tx
          have hbz2 : (ba tx).size ≤ 281474976 := by omega
          have HTL := Lib.hid htl
          have HBZ := Lib.hid hbz
          have HH := Lib.hid hhit
          have HX := Lib.hid hx2
          have HEX := Lib.hid hex
          clear hhit hx2 hex htx hx h10 htl hbz
          have c1 : (0 : Int) ≤ (i : Int) := by omega
          have c2 : (i : Int) ≤ (j : Int) := by omega
          have c3 : (j : Int) ≤ (s.size : Int) := by omega
          go_upto_block 4 with fail
          rw [HEX.out]
          go_cut [11] (fun kv wx => ScanR tx 32 0 kv ∧ wq = wx)
          case first => as_aux_lemma =>
            go_wp2_with fail
            go_loop [11] (fun ev => ∃ q : Nat, ev = .int .i64 q ∧ q ≤ (ba tx).size ∧ Hid ((32 : UInt8) ∉ (tx.drop 0).take (q - 0))) (fun ev => (ba tx).size - (intOf ev).toNat)
            case atStart => exact ⟨0, rfl, by omega, Lib.hid (by simp)⟩
            case round =>
              obtain ⟨q, rfl, hq, hx⟩ := hrel
              by_cases hql : q < (ba tx).size
              · have dq : decide ((q : Int) < ((ba tx).size : Int)) = true := decide_eq_true (by omega)
                have hql2 : q < tx.length := by rw [← HBZ.out]; exact hql
                have hbyte := ba_byte tx q hql hql2
                have HBY := Lib.hid hbyte
                clear hbyte
                by_cases h10 : (ba tx)[q]'hql = 32
                · have e10 : ((((ba tx)[q]'hql).toNat : Int) != 32) = false := by rw [h10]; rfl
                  have END : ScanR tx 32 0 (.int .i64 (q : Int)) := ⟨q, rfl, by omega, by omega, hx, .inr ⟨hql2, by rw [← HBY.out]; exact h10⟩⟩
                  clear h10
                  go_wp2_with fail
                  go_meet
                  case rel => exact ⟨END, rfl⟩
                · have e10 : ((((ba tx)[q]'hql).toNat : Int) != 32) = true := ne_byte h10
                  have hstep := scan_step (l := tx) (b := 32) (i := 0) hx.out (by omega) hql2 (by rw [← HBY.out]; exact h10)
                  have HST := Lib.hid hstep
                  clear hstep h10
                  go_wp2_with fail
                  go_round
                  case rel => exact ⟨q + 1, by go_num, by omega, HST⟩
                  case measure => simp [intOf]; omega
              · have dq : decide ((q : Int) < ((ba tx).size : Int)) = false := decide_eq_false (by omega)
                have END : ScanR tx 32 0 (.int .i64 (q : Int)) := ⟨q, rfl, by omega, by rw [← HBZ.out]; omega, hx, .inl (by rw [← HBZ.out]; omega)⟩
                go_wp2_with fail
                go_meet
                case rel => exact ⟨END, rfl⟩
          case rest =>
            obtain ⟨⟨q, rfl, _, hq, hx, hstop⟩, rfl⟩ := hcut
            rw [← HBZ.out] at hq
            have hx := hx.out
            rw [List.drop_zero, Nat.sub_zero] at hx
            have hcut2 : ∃ b z, Lib.cut tx [32] = (tx.take q, b, z) ∧ ((q = tx.length ∧ b = []) ∨ (q < tx.length ∧ b = tx.drop (q + 1))) := by
              rcases hstop with h | ⟨h1, h2⟩
              · subst h
                rw [List.take_of_length_le (Nat.le_refl _)] at hx ⊢
                exact ⟨[], false, cut_no _ _ hx, .inl ⟨rfl, rfl⟩⟩
              · have := scan_hit (l := tx) (b := 32) (i := 0) (j := q) (by omega) h1 h2
                rw [List.drop_zero, Nat.sub_zero] at this
                refine ⟨tx.drop (q + 1), true, ?_, .inr ⟨h1, rfl⟩⟩
                have hc := cut_at 32 (tx.take q) (tx.drop (q + 1)) hx
                rw [← this] at hc
                exact hc
            obtain ⟨b, zz, hc, hbq⟩ := hcut2
            obtain ⟨a, ha⟩ : ∃ a, tx.take q = a := ⟨_, rfl⟩
            rw [ha] at hc
            have hea : (ba tx).extract 0 q = ba a := by rw [extract_ba, ba_list, List.drop_zero, Nat.sub_zero, ha]
            have haz : (ba a).size ≤ 281474976 := by rw [ba_size, ← ha, List.length_take]; have := HBZ.out; omega
            have HC := Lib.hid hc
            have HEA := Lib.hid hea
            have HA := Lib.hid (ba_list a)
            clear hc hea ha hx hstop
            have cp := fun W => rparse_c (ba a) W (by omega)
            rw [ba_list] at cp
            obtain ⟨PR, hPR⟩ : ∃ x, pr a = x := ⟨_, rfl⟩
            rw [hPR] at cp
            have HPR := Lib.hid hPR
            clear hPR
            have hpt : ∃ m k : Int, PR = .tuple #[.int .i64 m, .int .i64 k] := by
              rw [← HPR.out]
              rcases pr_is a with ⟨v, e, _⟩ | ⟨k, e, _⟩
              · exact ⟨v, 0, e⟩
              · exact ⟨0, k, e⟩
            obtain ⟨pn, pe, rfl⟩ := hpt
            have c4 : (0 : Int) ≤ (q : Int) := by omega
            have c5 : (q : Int) ≤ ((ba tx).size : Int) := by omega
            go_wp2_with fail
            rw [HEA.out]
            (with_reducible refine (cp _).mono ?_)
            rintro e w5 ⟨rfl, rfl⟩
            clear cp
            go_upto_if 87 with fail
            go_cut [14] (fun rv wx => rv = .string (ba b) ∧ wq = wx)
            case first => as_aux_lemma =>
              rcases hbq with ⟨h1, rfl⟩ | ⟨h1, rfl⟩
              · have dq : decide ((q : Int) < ((ba tx).size : Int)) = false := decide_eq_false (by have := HBZ.out; omega)
                have dq2 : ¬ q < (ba tx).size := by have := HBZ.out; omega
                clear h1
                go_wp2_with fail
                go_meet
                case rel => exact ⟨rfl, rfl⟩
              · have dq : decide ((q : Int) < ((ba tx).size : Int)) = true := decide_eq_true (by have := HBZ.out; omega)
                have dq2 : q < (ba tx).size := by have := HBZ.out; omega
                have c6 : (0 : Int) ≤ (q : Int) + 1 := by omega
                have c7 : (q : Int) + 1 ≤ ((ba tx).size : Int) := by have := HBZ.out; omega
                have heb : (ba tx).extract (q + 1) (ba tx).size = ba (tx.drop (q + 1)) := by
                  rw [extract_ba, ba_list, List.take_of_length_le (by rw [List.length_drop]; have := HBZ.out; omega)]
                have HEB := Lib.hid heb
                clear heb h1
                go_wp2_with fail
                go_meet
                case rel => exact ⟨by first | exact congrArg Value.string HEB.out | rfl, rfl⟩
            case rest =>
              obtain ⟨rfl, rfl⟩ := hcut
              go_upto_block 6 with fail
              obtain ⟨wc, hwc⟩ : ∃ x, wq.alloc (.cells #[.int .i64 0, .int .i64 0, .int .i64 0] 39) = x := ⟨_, rfl⟩
              have C6 : Blk wc wq.heap.size 39 #[.int .i64 0, .int .i64 0, .int .i64 0] := by rw [← hwc]; exact Blk.new _ _ _
              have Bc : Below wq.heap.size wq wc := by rw [← hwc]; go_grown
              rw [hwc]
              clear hwc
              go_cut [] (fun wx => Blk wx wq.heap.size 39 (chC (lastM b (allC 8))).toArray ∧ Below wq.heap.size wq wx)
              case first => as_aux_lemma =>
                go_wp2_with fail
                go_loopw [16] (fun jv wr => ∃ e : Nat, jv = .int .i64 e ∧ e ≤ N8 ∧ Blk wr wq.heap.size 39 (chC (lastM b ((allC 8).take e))).toArray ∧ Below wq.heap.size wq wr) (fun jv _ => N8 - (intOf jv).toNat)
                case atStart => exact ⟨0, rfl, by omega, C6, Bc⟩
                case round =>
                  clear C6 Bc
                  obtain ⟨e, rfl, he, C7, B7⟩ := hrel
                  obtain ⟨w7, rfl⟩ : ∃ x : World, x = wr := ⟨_, rfl⟩
                  by_cases hel : e < N8
                  · have de : decide ((e : Int) < (N8 : Int)) = true := decide_eq_true (by omega)
                    obtain ⟨⟨p0, p1, p2⟩, hp⟩ : ∃ p, (allC 8)[e]? = some p := ⟨_, List.getElem?_eq_getElem (by rw [HN8.out]; exact hel)⟩
                    have hone := allC_one _ (List.mem_of_getElem? hp)
                    have hstep : lastM b ((allC 8).take (e + 1)) = if lineL (p0, p1, p2) = b then (p0, p1, p2) else lastM b ((allC 8).take e) := by
                      rw [List.take_add_one, hp]; exact lastM_snoc _ _ _
                    have HST := Lib.hid hstep
                    have E7 := own_next E3 B7
                    obtain ⟨gg, hgg, _, _, y0, y1, y2⟩ := own_cells E7 HN8.out e _ hp
                    obtain rfl : g8 = gg := by simpa using hgg
                    simp only at y0 y1 y2
                    have cl := fun W => rline_c (p0, p1, p2) W hone
                    simp only [chV] at cl
                    obtain ⟨LT, hLT⟩ : ∃ x, ba (lineL (p0, p1, p2)) = x := ⟨_, rfl⟩
                    rw [hLT] at cl
                    have HLT2 := Lib.hid hLT
                    clear hLT hone hstep hp hgg E7
                    obtain ⟨tt, htt⟩ : ∃ x, (LT.toList == (ba b).toList) = x := ⟨_, rfl⟩
                    have HTT := Lib.hid htt
                    go_wp2_with fail
                    (with_reducible refine (cl _).mono ?_)
                    rintro ed w8 ⟨rfl, b8⟩
                    have C8 := C7.next b8
                    have B8 := B7.trans (b8.mono B7.size)
                    have y0 := (b8.cell (p := ⟨g8, e * 3, none⟩) (World.block_lt_of_cell? w7 _ y0)).trans y0
                    have y1 := (b8.cell (p := ⟨g8, e * 3 + 1, none⟩) (World.block_lt_of_cell? w7 _ y1)).trans y1
                    have y2 := (b8.cell (p := ⟨g8, e * 3 + 2, none⟩) (World.block_lt_of_cell? w7 _ y2)).trans y2
                    have x0 := C8.cell 0
                    have x1 := C8.cell 1
                    have x2 := C8.cell 2
                    have lx0 := C8.loose 0
                    have lx1 := C8.loose 1
                    have lx2 := C8.loose 2
                    simp only [List.getElem?_toArray, List.getElem?_cons_zero, List.getElem?_cons_succ] at x0 x1 x2
                    clear C7 B7 cl b8
                    cases tt
                    · have hne : ¬ lineL (p0, p1, p2) = b := by
                        intro h
                        have := HTT.out
                        rw [← HLT2.out, toList_ba, toList_ba, h] at this
                        simp at this
                      have C9 : Blk w8 wq.heap.size 39 (chC (lastM b ((allC 8).take (e + 1)))).toArray := by rw [HST.out, if_neg hne]; exact C8
                      clear hne C8
                      go_wp2_with fail
                      go_roundw
                      case rel => exact ⟨e + 1, by go_num, by omega, C9, B8⟩
                      case measure => simp [intOf]; omega
                    · have heq : lineL (p0, p1, p2) = b := by
                        have := HTT.out
                        rw [← HLT2.out, toList_ba, toList_ba] at this
                        simpa using this
                      have C9 : Blk (((w8.setCell ⟨wq.heap.size, 0, none⟩ (.int .i64 p0)).setCell ⟨wq.heap.size, 1, none⟩ (.int .i64 p1)).setCell ⟨wq.heap.size, 2, none⟩ (.int .i64 p2)) wq.heap.size 39 (chC (lastM b ((allC 8).take (e + 1)))).toArray := by
                        rw [HST.out, if_pos heq]
                        exact ((C8.set_ 0 _).set_ 1 _).set_ 2 _
                      have B9 := ((B8.setCell (p := ⟨wq.heap.size, 0, none⟩) (Nat.le_refl _) (.int .i64 p0)).setCell (p := ⟨wq.heap.size, 1, none⟩) (Nat.le_refl _) (.int .i64 p1)).setCell (p := ⟨wq.heap.size, 2, none⟩) (Nat.le_refl _) (.int .i64 p2)
                      clear heq C8 B8
                      go_wp2_with fail
                      go_roundw
                      case rel => exact ⟨e + 1, by go_num, by omega, C9, B9⟩
                      case measure => simp [intOf]; omega
                  · have hen : e = N8 := by omega
                    have de : decide ((e : Int) < (N8 : Int)) = false := decide_eq_false (by omega)
                    have C8 : Blk w7 wq.heap.size 39 (chC (lastM b (allC 8))).toArray := by
                      rw [List.take_of_length_le (by rw [HN8.out]; omega)] at C7; exact C7
                    clear hen C7
                    go_wp2_with fail
                    go_meet
                    case rel => exact ⟨C8, B7⟩
              case rest =>
                obtain ⟨C6, B6⟩ := hcut
                have hcc : lastM b (allC 8) = (choP b).getD (0, 0, 0) := lastM_all b
                obtain ⟨c, hc⟩ : ∃ c, lastM b (allC 8) = c := ⟨_, rfl⟩
                rw [hc] at C6 hcc
                have HCC := Lib.hid hcc
                clear hc hcc Bc
                have R := R3.next B6
                have T := T3.next B6
                have E := own_next E3 B6
                have own := own_next hown B6
                have B := via B6 hB
                have hz := Nat.le_trans hz3 B6.size
                have hqz : w2.heap.size ≤ wq.heap.size := hz3
                clear R3 T3 E3 hown hB hz3 r0 r1 r2 l0 l1 l2 t0 t1 t2
                obtain ⟨AG, hAG⟩ : ∃ AG : Bool, AG = true ↔ acc.getLast? = some c := ⟨decide (acc.getLast? = some c), by simp⟩
                have HAG := Lib.hid hAG
                have HSE : Hid (∀ d, choP b = some d → c = d ∧ d.1 ≠ 0) := Lib.hid (fun d hd => by
                  have := HCC.out
                  rw [hd] at this
                  exact ⟨this, choP_zero hd⟩)
                have HNO : Hid (choP b = none → c = (0, 0, 0)) := Lib.hid (fun hd => by
                  have := HCC.out
                  rw [hd] at this
                  exact this)
                clear hAG hbq hq c4 c5 HEA
                go_upto_region 31 with fail
                go_cut [151] (fun bv wx => BadR tx acc a b c pn pe bv ∧ ∃ nq, wx = wc.drewN nq)
                case first => as_aux_lemma =>
                  have t0 := T.cell 0
                  have t1 := T.cell 1
                  have t2 := T.cell 2
                  have x0 := C6.cell 0
                  have x1 := C6.cell 1
                  have x2 := C6.cell 2
                  simp only [List.getElem?_toArray, List.getElem?_cons_zero, List.getElem?_cons_succ] at t0 t1 t2 x0 x1 x2
                  clear T C6 R E B
                  rcases pr_is a with ⟨v, e, h1, h2, h3, h4⟩ | ⟨er, e, hk, h1, h2⟩
                  · rw [HPR.out] at e
                    simp only [Value.tuple.injEq, Array.mk.injEq, List.cons.injEq, Value.int.injEq, true_and, and_true] at e
                    obtain ⟨rfl, rfl⟩ := e
                    have H1 := Lib.hid h1
                    have H2 := Lib.hid h2
                    clear h1 h2
                    by_cases hv : pn < 1
                    · have dv : decide (pn < 1) = true := decide_eq_true hv
                      as_aux_lemma =>
                        go_quiet (fail)
                        go_wp2_with fail
                        go_meet
                        case rel => exact ⟨badr_yes (lineP_bad (by rw [HC.out]; exact .inr (.inr (.inr (by rw [← H2.out]; exact hv))))), _, rfl⟩
                    have dv : decide (pn < 1) = false := decide_eq_false hv
                    cases hcb : choP b with
                    | none =>
                      have HCB := Lib.hid hcb
                      obtain rfl := HNO.out hcb
                      clear hcb
                      as_aux_lemma =>
                        go_quiet (fail)
                        go_wp2_with fail
                        go_meet
                        case rel => exact ⟨badr_yes (lineP_bad (by rw [HC.out]; exact .inl HCB.out)), _, rfl⟩
                    | some d =>
                      obtain ⟨rfl, hcz⟩ := HSE.out d hcb
                      have HCB := Lib.hid hcb
                      clear hcb
                      have dz : (c.1 == 0) = false := by simpa using hcz
                      clear hcz
                      cases N with
                      | zero =>
                        have hAG : AG = false := by
                          cases AG with
                          | false => rfl
                          | true =>
                            have h1 := HAG.out.1 rfl
                            rw [List.eq_nil_of_length_eq_zero HN.out] at h1; cases h1
                        subst hAG
                        as_aux_lemma =>
                          go_quiet (fail)
                          go_wp2_with fail
                          go_meet
                          case rel => exact ⟨badr_no ⟨HCB.out, fun e => (by have := HAG.out.2 e; cases this), H1.out, .inl ⟨rfl, H2.out, by omega⟩⟩, _, rfl⟩
                      | succ m =>
                        obtain ⟨p, hp1, hp2⟩ := last_at HN.out
                        obtain ⟨gl, rfl, _, _, y0, y1, y2⟩ := own_cells own HN.out m p hp1
                        have ew : IntKind.i64.wrap ((m : Int) + 1 - 1) = (m : Int) := by rw [Int.add_sub_cancel]; exact IntWalk.i64_in _ (by omega)
                        have qe := fun W => ch_eq p c W
                        have hAG : decide (p = c) = AG := by
                          cases AG with
                          | true => have h1 := HAG.out.1 rfl; rw [hp2] at h1; simpa using h1
                          | false =>
                            rw [decide_eq_false_iff_not]
                            intro e
                            have := HAG.out.2 (by rw [hp2, e])
                            cases this
                        rw [hAG] at qe
                        clear hAG hp1 hp2 own
                        have d0 : decide ((0 : Int) < (m : Int) + 1) = true := decide_eq_true (by omega)
                        cases AG with
                        | true =>
                          as_aux_lemma =>
                            go_quiet (fail)
                            go_wp2_with fail
                            go_meet
                            case rel => exact ⟨badr_yes (lineP_bad (by rw [HC.out]; exact .inr (.inl ⟨c, HAG.out.1 (by trivial), HCB.out⟩))), _, rfl⟩
                        | false =>
                          as_aux_lemma =>
                            go_quiet (fail)
                            go_wp2_with fail
                            go_meet
                            case rel => exact ⟨badr_no ⟨HCB.out, fun e => (by have := HAG.out.2 e; cases this), H1.out, .inl ⟨rfl, H2.out, by omega⟩⟩, _, rfl⟩
                  · rw [HPR.out] at e
                    simp only [Value.tuple.injEq, Array.mk.injEq, List.cons.injEq, Value.int.injEq, true_and, and_true] at e
                    obtain ⟨rfl, rfl⟩ := e
                    rcases hk with rfl | rfl
                    · have H1 := Lib.hid (h1.1 rfl)
                      clear h1 h2
                      as_aux_lemma =>
                        go_quiet (fail)
                        go_wp2_with fail
                        go_meet
                        case rel => exact ⟨badr_yes (lineP_bad (by rw [HC.out]; exact .inr (.inr (.inl H1.out)))), _, rfl⟩
                    · obtain ⟨h3, h4⟩ := h2 rfl
                      have hane : a ≠ [] := by
                        intro e
                        rw [e, form_ne] at h3; cases h3
                      have hah : tx.head? = a.head? := by
                        rcases cut_cases 32 tx with ⟨h0, e⟩ | ⟨a2, t2x, e0, h0, e⟩
                        · have := HC.out.symm.trans e
                          rw [(Prod.mk.inj this).1]
                        · have := HC.out.symm.trans e
                          rw [(Prod.mk.inj this).1] at hane ⊢
                          rw [e0]
                          cases a2 with
                          | nil => exact absurd rfl hane
                          | cons _ _ => rfl
                      have hne : 0 < (ba tx).size := by
                        rw [HBZ.out]
                        rcases tx with _ | ⟨x, tx⟩
                        · rcases a with _ | ⟨y, a⟩
                          · exact absurd rfl hane
                          · cases hah
                        · simp
                      have hbq := byte_eq (ba tx) hne 45
                      rw [ba_list, hah] at hbq
                      have H3 := Lib.hid h3
                      have H4 := Lib.hid h4
                      clear h1 h2 h3 h4 hah hane
                      cases hq : (a.head? == some 45)
                      · rw [hq] at hbq
                        have hpos : 9223372036854775807 < pv a := by
                          have := H4.out
                          have hnn : 0 ≤ pv a := by
                            unfold pv
                            rw [if_neg (by intro e; rw [e] at hq; simp at hq)]; omega
                          omega
                        have HP := Lib.hid hpos
                        clear hpos hq
                        change ((((ba tx)[0]'hne).toNat : Int) == 45) = false at hbq
                        cases hcb : choP b with
                        | none =>
                          have HCB := Lib.hid hcb
                          obtain rfl := HNO.out hcb
                          clear hcb
                          as_aux_lemma =>
                            go_quiet (fail)
                            go_wp2_with fail
                            go_meet
                            case rel => exact ⟨badr_yes (lineP_bad (by rw [HC.out]; exact .inl HCB.out)), _, rfl⟩
                        | some d =>
                          obtain ⟨rfl, hcz⟩ := HSE.out d hcb
                          have HCB := Lib.hid hcb
                          clear hcb
                          have dz : (c.1 == 0) = false := by simpa using hcz
                          clear hcz
                          cases N with
                          | zero =>
                            have hAG : AG = false := by
                              cases AG with
                              | false => rfl
                              | true =>
                                have h1 := HAG.out.1 rfl
                                rw [List.eq_nil_of_length_eq_zero HN.out] at h1; cases h1
                            subst hAG
                            as_aux_lemma =>
                              go_quiet (fail)
                              go_wp2_with fail
                              go_meet
                              case rel => exact ⟨badr_no ⟨HCB.out, fun e => (by have := HAG.out.2 e; cases this), H3.out, .inr ⟨rfl, HP.out⟩⟩, _, rfl⟩
                          | succ m =>
                            obtain ⟨p, hp1, hp2⟩ := last_at HN.out
                            obtain ⟨gl, rfl, _, _, y0, y1, y2⟩ := own_cells own HN.out m p hp1
                            have ew : IntKind.i64.wrap ((m : Int) + 1 - 1) = (m : Int) := by rw [Int.add_sub_cancel]; exact IntWalk.i64_in _ (by omega)
                            have qe := fun W => ch_eq p c W
                            have hAG : decide (p = c) = AG := by
                              cases AG with
                              | true => have h1 := HAG.out.1 rfl; rw [hp2] at h1; simpa using h1
                              | false =>
                                rw [decide_eq_false_iff_not]
                                intro e
                                have := HAG.out.2 (by rw [hp2, e])
                                cases this
                            rw [hAG] at qe
                            clear hAG hp1 hp2 own
                            have d0 : decide ((0 : Int) < (m : Int) + 1) = true := decide_eq_true (by omega)
                            cases AG with
                            | true =>
                              as_aux_lemma =>
                                go_quiet (fail)
                                go_wp2_with fail
                                go_meet
                                case rel => exact ⟨badr_yes (lineP_bad (by rw [HC.out]; exact .inr (.inl ⟨c, HAG.out.1 (by trivial), HCB.out⟩))), _, rfl⟩
                            | false =>
                              as_aux_lemma =>
                                go_quiet (fail)
                                go_wp2_with fail
                                go_meet
                                case rel => exact ⟨badr_no ⟨HCB.out, fun e => (by have := HAG.out.2 e; cases this), H3.out, .inr ⟨rfl, HP.out⟩⟩, _, rfl⟩
                      · rw [hq] at hbq
                        have hneg : pv a < 1 := by
                          unfold pv
                          rw [if_pos (by simpa using hq)]; omega
                        have HP := Lib.hid hneg
                        clear hneg hq
                        change ((((ba tx)[0]'hne).toNat : Int) == 45) = true at hbq
                        as_aux_lemma =>
                          go_quiet (fail)
                          go_wp2_with fail
                          go_meet
                          case rel => exact ⟨badr_yes (lineP_bad (by rw [HC.out]; exact .inr (.inr (.inr HP.out)))), _, rfl⟩
                case rest =>
                  obtain ⟨⟨bb, rfl, hby, hbn⟩, nq, rfl⟩ := hcut
                  have HBY := Lib.hid hby
                  have HBN := Lib.hid hbn
                  clear hby hbn
                  have R9 := R.drewN nq
                  have T9 := T.drewN nq
                  have C9 := C6.drewN nq
                  have B9 := below_dn B nq
                  have E9 : (wc.drewN nq).ownsRow w1.heap.size 39 3 (.slice (some ⟨g8, 0, none⟩) N8 c8) N8 (ccs (allC 8)) := E
                  have own9 : (wc.drewN nq).ownsRow w2.heap.size 39 3 (.slice A0 N c0) N (ccs acc) := own
                  have hz9 : w2.heap.size ≤ (wc.drewN nq).heap.size := hz
                  obtain ⟨w9, hw9⟩ : ∃ x, wc.drewN nq = x := ⟨_, rfl⟩
                  rw [hw9] at R9 T9 C9 B9 E9 own9 hz9 ⊢
                  clear hw9 R T C6 B E own hz
                  cases bb
                  rotate_left
                  · have r0 := R9.cell 0
                    have r1 := R9.cell 1
                    have r2 := R9.cell 2
                    have l0 := R9.loose 0
                    have l1 := R9.loose 1
                    have l2 := R9.loose 2
                    have t0 := T9.cell 0
                    have t1 := T9.cell 1
                    have t2 := T9.cell 2
                    have R10 := ((R9.set_ 0 (.int .i64 0)).set_ 1 (.int .i64 0)).set_ 2 (.slice none 0 0)
                    have k0 := R10.cell 0
                    have k1 := R10.cell 1
                    have k2 := R10.cell 2
                    simp only [List.setIfInBounds_toArray, List.set_cons_zero, List.set_cons_succ, List.getElem?_toArray, List.getElem?_cons_zero, List.getElem?_cons_succ] at r0 r1 r2 t0 t1 t2 k0 k1 k2
                    clear R10
                    have HLN : Hid (lineP tx acc = ([], 1)) := Lib.hid (HBY.out rfl)
                    go_upto_region 32 with fail
                    repeat go_step
                    refine bodyPost_ret (v := .tuple #[.agg #[.int .i64 0, .int .i64 0, .slice none 0 0], .int .i64 (i : Int), .int .i64 1]) (by simp [results, Tryd.results13, go_sem, k0, k1, k2]) rfl ?_
                    exact dec_bad (fin_bad HD.out (by rw [HZ.out]; exact hend) HH.out HX.out HLN.out (by decide)) (by go_grown)
                  obtain ⟨hcb, hls, hf, hcase⟩ := HBN.out rfl
                  have HCB := Lib.hid hcb
                  have HLS := Lib.hid hls
                  have H1 := Lib.hid hf
                  clear hcb hls hf
                  rcases hcase with ⟨rfl, h2, hv⟩ | ⟨rfl, hp⟩
                  rotate_left
                  · have HP := Lib.hid hp
                    clear hp
                    have r0 := R9.cell 0
                    have r1 := R9.cell 1
                    have r2 := R9.cell 2
                    have l0 := R9.loose 0
                    have l1 := R9.loose 1
                    have l2 := R9.loose 2
                    have t0 := T9.cell 0
                    have t1 := T9.cell 1
                    have t2 := T9.cell 2
                    have R10 := ((R9.set_ 0 (.int .i64 0)).set_ 1 (.int .i64 0)).set_ 2 (.slice none 0 0)
                    have k0 := R10.cell 0
                    have k1 := R10.cell 1
                    have k2 := R10.cell 2
                    simp only [List.setIfInBounds_toArray, List.set_cons_zero, List.set_cons_succ, List.getElem?_toArray, List.getElem?_cons_zero, List.getElem?_cons_succ] at r0 r1 r2 t0 t1 t2 k0 k1 k2
                    clear R10
                    have HLN : Hid (lineP tx acc = ([], 2)) := Lib.hid (lineP_long (c := c) (by rw [HC.out]; exact HCB.out) HLS.out (by rw [HC.out]; exact H1.out) (by rw [HC.out]; have := HP.out; show 4000 - (acc.length : Int) < pv a; omega) (by rw [HC.out]; have := HP.out; show 1 ≤ pv a; omega))
                    go_upto_region 34 with fail
                    repeat go_step
                    refine bodyPost_ret (v := .tuple #[.agg #[.int .i64 0, .int .i64 0, .slice none 0 0], .int .i64 (i : Int), .int .i64 2]) (by simp [results, Tryd.results13, go_sem, k0, k1, k2]) rfl ?_
                    exact dec_bad (fin_bad HD.out (by rw [HZ.out]; exact hend) HH.out HX.out HLN.out (by decide)) (by go_grown)
                  have H2 := Lib.hid h2
                  clear h2
                  obtain ⟨num, rfl⟩ : ∃ num : Nat, pn = num := ⟨pn.toNat, by omega⟩
                  by_cases hm : 4000 - (N : Int) < (num : Int)
                  · have dm : decide (4000 - (N : Int) < (num : Int)) = true := decide_eq_true hm
                    have r0 := R9.cell 0
                    have r1 := R9.cell 1
                    have r2 := R9.cell 2
                    have l0 := R9.loose 0
                    have l1 := R9.loose 1
                    have l2 := R9.loose 2
                    have t0 := T9.cell 0
                    have t1 := T9.cell 1
                    have t2 := T9.cell 2
                    have R10 := ((R9.set_ 0 (.int .i64 0)).set_ 1 (.int .i64 0)).set_ 2 (.slice none 0 0)
                    have k0 := R10.cell 0
                    have k1 := R10.cell 1
                    have k2 := R10.cell 2
                    simp only [List.setIfInBounds_toArray, List.set_cons_zero, List.set_cons_succ, List.getElem?_toArray, List.getElem?_cons_zero, List.getElem?_cons_succ] at r0 r1 r2 t0 t1 t2 k0 k1 k2
                    clear R10
                    have HLN : Hid (lineP tx acc = ([], 2)) := Lib.hid (lineP_long (c := c) (by rw [HC.out]; exact HCB.out) HLS.out (by rw [HC.out]; exact H1.out) (by rw [HC.out, HN.out, ← H2.out]; exact hm) (by rw [HC.out, ← H2.out]; omega))
                    go_upto_region 34 with fail
                    repeat go_step
                    refine bodyPost_ret (v := .tuple #[.agg #[.int .i64 0, .int .i64 0, .slice none 0 0], .int .i64 (i : Int), .int .i64 2]) (by simp [results, Tryd.results13, go_sem, k0, k1, k2]) rfl ?_
                    exact dec_bad (fin_bad HD.out (by rw [HZ.out]; exact hend) HH.out HX.out HLN.out (by decide)) (by go_grown)
                  have dm : decide (4000 - (N : Int) < (num : Int)) = false := decide_eq_false hm
                  have HG := Lib.hid (line_good (text := tx) (acc := acc) (c := c) (by rw [HC.out]; exact HCB.out) HLS.out (by rw [HC.out]; exact H1.out) (by rw [HC.out, HN.out, ← H2.out]; omega) (by rw [HC.out, ← H2.out]; omega))
                  obtain ⟨i0, hi0, hz0, hz1, hz2⟩ := info_parts info_C
                  have hfar : ∀ gg, (Value.slice A0 N c0).ownBlock = some gg → gg ≠ wq.heap.size := fun gg hg => by have := (HLT.out gg hg).2; omega
                  have t0 := T9.cell 0
                  have t1 := T9.cell 1
                  have t2 := T9.cell 2
                  simp only [List.getElem?_toArray, List.getElem?_cons_zero, List.getElem?_cons_succ] at t0 t1 t2
                  have hTi : w.heap.size + 1 < w2.heap.size := by omega
                  go_wp2_with fail
                  clear t0 t1 t2
                  go_loopw [17] (fun qv wr => ∃ e : Nat, qv = .int .i64 e ∧ e ≤ num ∧ ∃ v : Value, Blk wr (w.heap.size + 1) 24 #[.int .i64 k, .int .i64 n, v] ∧ OwnC wr w2.heap.size v (acc ++ List.replicate e c) ∧ (∀ gg, v.ownBlock = some gg → gg ≠ wq.heap.size) ∧ Blk wr wq.heap.size 39 (chC c).toArray ∧ Blk wr w.heap.size 24 #[.int .i64 0, .int .i64 0, .slice none 0 0] ∧ wr.ownsRow w1.heap.size 39 3 (.slice (some ⟨g8, 0, none⟩) N8 c8) N8 (ccs (allC 8)) ∧ w2.heap.size ≤ wr.heap.size ∧ Below w.heap.size w wr) (fun qv _ => num - (intOf qv).toNat)
                  case atStart => exact ⟨0, rfl, by omega, _, T9, by rw [List.replicate_zero, List.append_nil]; unfold OwnC; rw [HN.out]; exact own9, hfar, C9, R9, E9, hz9, B9⟩
                  case round =>
                    clear own9 hfar C9 R9 E9 hz9 B9 T9
                    obtain ⟨e, rfl, he, v, T7, own7, hfar, C7, R7, E7, hz7, B7⟩ := hrel
                    obtain ⟨w7, rfl⟩ : ∃ x : World, x = wr := ⟨_, rfl⟩
                    obtain ⟨L1, hL1⟩ : ∃ L, acc ++ List.replicate e c = L := ⟨_, rfl⟩
                    rw [hL1] at own7
                    have hlen : L1.length ≤ 4000 := by
                      have := HN.out
                      rw [← hL1, List.length_append, List.length_replicate]; omega
                    have HL1 := Lib.hid hL1
                    clear hL1
                    obtain ⟨A1, c1x, rfl, hlt1, _⟩ := own_shape own7
                    obtain ⟨M, hM⟩ : ∃ M, L1.length = M := ⟨_, rfl⟩
                    unfold OwnC at own7
                    rw [hM] at own7 hlt1 hlen hfar T7
                    have HM := Lib.hid hM
                    clear hM
                    have x0 := C7.cell 0
                    have x1 := C7.cell 1
                    have x2 := C7.cell 2
                    have t2 := T7.cell 2
                    have lt2 := T7.loose 2
                    simp only [List.getElem?_toArray, List.getElem?_cons_zero, List.getElem?_cons_succ] at x0 x1 x2 t2
                    by_cases hlt : e < num
                    · have dk : decide ((e : Int) < (num : Int)) = true := decide_eq_true (by omega)
                      have hcl := C7.lt
                      go_wp2_with (at_builtin; refine wpList_append_lies _ rfl (.tmp 172) (.tmp 174) 22 rfl w2.heap.size 39 i0 (.agg #[.int .i64 0, .int .i64 0, .int .i64 0]) 3 24 Tryd.underlying22 hi0 hz0 hz1 hz2 rfl (by decide) _ M (ccs L1) rfl (own7.alloc _) ⟨_, 0, none⟩ 1 1 [.int .i64 c.1, .int .i64 c.2.1, .int .i64 c.2.2] rfl rfl (World.news_of_block (heap_alloc_new _ _)) one_ints (by omega) (by unfold maxLen; omega) (by omega) (by simp; omega) _ rfl ?_)
                      intro g10 cap10 w10 own10 hgrow10 hat10 hlt10
                      have B10 : Below w.heap.size w w10 := (B7.alloc B7.size _).grown hgrow10 (by have := B7.size; simp; omega) (fun k hk => by have := (own7.lt k hk).1; omega)
                      have keep : ∀ {g : Nat} {t : TypeId} {cs : Array Value}, Blk w7 g t cs → (∀ gg, (Value.slice A1 M c1x).ownBlock = some gg → gg ≠ g) → Blk w10 g t cs := fun h hne => (hgrow10.block _ (h.alloc _).lt (fun e => hne _ e.symm rfl)).trans (h.alloc _)
                      have C10 := keep C7 hfar
                      have R10 := keep R7 (fun gg hg => by have := (hlt1 gg hg).1; omega)
                      have T10 := keep T7 (fun gg hg => by have := (hlt1 gg hg).1; omega)
                      have E10 : w10.ownsRow w1.heap.size 39 3 (.slice (some ⟨g8, 0, none⟩) N8 c8) N8 (ccs (allC 8)) := (E7.alloc _).kept hgrow10 (.inr (fun e => by have := (hlt1 g8 (by rw [← e]; rfl)).1; omega))
                      have hfar10 : ∀ gg, (Value.slice (some ⟨g10, 0, none⟩) (M + 1) cap10).ownBlock = some gg → gg ≠ wq.heap.size := by
                        intro gg hg
                        cases hg
                        rcases hat10 with h | h
                        · exact hfar _ h
                        · rw [h]; simp only [World.size_alloc]; omega
                      have own11 := own_snoc (v := .slice (some ⟨g10, 0, none⟩) (M + 1) cap10) (l := L1) (by rw [HM.out]; exact own10)
                      have hg10 := (own10.lt g10 rfl).1
                      have T11 := T10.set_ 2 (.slice (some ⟨g10, 0, none⟩) (M + 1) cap10)
                      simp only [List.setIfInBounds_toArray, List.set_cons_zero, List.set_cons_succ] at T11
                      have C11 := C10.far (p := ⟨w.heap.size + 1, 2, none⟩) (by simp only; omega) (.slice (some ⟨g10, 0, none⟩) (M + 1) cap10)
                      have R11 := R10.far (p := ⟨w.heap.size + 1, 2, none⟩) (by simp only; omega) (.slice (some ⟨g10, 0, none⟩) (M + 1) cap10)
                      have E11 := own_far E10 ⟨w.heap.size + 1, 2, none⟩ (fun g hg => by (have : g8 = g := (by simpa [Value.ownBlock] using hg)); simp only; omega) (.slice (some ⟨g10, 0, none⟩) (M + 1) cap10)
                      have own12 := own_far own11 ⟨w.heap.size + 1, 2, none⟩ (fun g hg => by (have : g10 = g := (by simpa [Value.ownBlock] using hg)); simp only; omega) (.slice (some ⟨g10, 0, none⟩) (M + 1) cap10)
                      have B11 := B10.setCell (p := ⟨w.heap.size + 1, 2, none⟩) (by simp only; omega) (.slice (some ⟨g10, 0, none⟩) (M + 1) cap10)
                      have hz11 : w2.heap.size ≤ (w10.setCell ⟨w.heap.size + 1, 2, none⟩ (.slice (some ⟨g10, 0, none⟩) (M + 1) cap10)).heap.size := by
                        have := hgrow10.size; simp only [World.size_alloc] at this; simp [World.setCell]; omega
                      have t2 := T10.cell 2
                      have lt2 := T10.loose 2
                      simp only [List.getElem?_toArray, List.getElem?_cons_zero, List.getElem?_cons_succ] at t2
                      clear own10 hgrow10 hat10 hlt10 own7 hfar C7 R7 T7 E7 x0 x1 x2 own11 T10 C10 R10 E10 B10 keep hcl hlt1
                      go_wp2
                      go_roundw
                      case rel => exact ⟨e + 1, by go_num, by omega, _, T11, by rw [List.replicate_succ', ← List.append_assoc, HL1.out]; exact own12, hfar10, C11, R11, E11, hz11, B11⟩
                      case measure => simp [intOf]; omega
                    · have hkn : e = num := by omega
                      subst hkn
                      have dk : decide ((e : Int) < (e : Int)) = false := decide_eq_false (by omega)
                      have HD2 : Hid (decP l = finP k n (goP l.length (l.drop (j + 1)) L1)) := Lib.hid (by
                        have := fin_go HD.out HH.out HX.out (L := L1) (by rw [HG.out, HC.out, ← H2.out, ← HL1.out]; simp)
                        rwa [show i + tx.length + 1 = j + 1 by have := HTL.out; omega] at this)
                      go_wp2
                      go_roundw
                      case rel => exact ⟨j + 1, by go_num, by omega, R7, hz7, B7, E7, .inr ⟨rfl, k, n, L1, _, by rw [HM.out]; exact hlen, T7, by unfold OwnC; rw [HM.out]; exact own7, HD2⟩⟩
                      case measure => simp [intOf]; omega
      · have hie : i = s.size := by omega
        have hde := fin_end HD.out (by rw [HZ.out]; omega)
        have HE := Lib.hid hde
        clear hde HD
        have dend : decide ((i : Int) < (s.size : Int)) = false := decide_eq_false (by omega)
        clear hie
        have R4 := ((R3.set_ 0 (.int .i64 k)).set_ 1 (.int .i64 n)).set_ 2 (.slice A0 N c0)
        have k0 := R4.cell 0
        have k1 := R4.cell 1
        have k2 := R4.cell 2
        simp only [List.setIfInBounds_toArray, List.set_cons_zero, List.set_cons_succ, List.getElem?_toArray, List.getElem?_cons_zero, List.getElem?_cons_succ] at k0 k1 k2
        clear R4
        go_wp2
        have hfar : ∀ g, (Value.slice A0 N c0).ownBlock = some g → g ≠ w.heap.size := fun g hg => by have := (HLT.out g hg).1; have := hz2; omega
        have ho2 := own_far (own_far (own_far hown ⟨w.heap.size, 0, none⟩ hfar (.int .i64 k)) ⟨w.heap.size, 1, none⟩ hfar (.int .i64 n)) ⟨w.heap.size, 2, none⟩ hfar (.slice A0 N c0)
        rw [← HN.out] at ho2
        refine bodyPost_ret (v := .tuple #[.agg #[.int .i64 k, .int .i64 n, .slice A0 N c0], .int .i64 0, .int .i64 0]) (by simp [results, Tryd.results13, go_sem, k0, k1, k2]) rfl ?_
        rw [← HN.out]
        exact dec_good HE.out ho2 (by omega) (by rw [HN.out]; exact hal) (by go_grown)
end TraW
end Go.Proofs.YtooinkhjoppijaaDoor
