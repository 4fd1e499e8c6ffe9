/- A line behind the first read: the walk. Conditions: texts that fit; the tables of strconv. -/
import Derived.Test.YtooinkhjoppijaaDoorTraB
namespace Go.Proofs.YtooinkhjoppijaaDoor
set_option linter.unusedVariables false
set_option linter.unusedSimpArgs false
open Go.RowKit
namespace TraW
open TraP NumP NumW
theorem three_eq (a b c x y z : Int) : (a == x && (b == y && c == z)) = decide (((a, b, c) : Ch) = (x, y, z)) := by
  rw [Bool.eq_iff_iff]
  simp
theorem ch_eq (p q : Ch) (w : World) : (binOp .eql 39 (.agg #[.int .i64 p.1, .int .i64 p.2.1, .int .i64 p.2.2]) (.agg #[.int .i64 q.1, .int .i64 q.2.1, .int .i64 q.2.2])).run Tryd.prog w = .ok (.bool (decide (p = q))) w := by
  have u := Tryd.underlying3
  have hS : Tryd.prog.underlying 39 = some (.struct (Tryd.prog.fieldsOf 39)) := by kernel_rfl
  rw [run_eql_struct, show (10000 : Nat) = 9998 + 1 + 1 from rfl, run_equalIn_agg w (9998 + 1) 39 _ _ hS (by kernel_rfl)]
  simp only [Program.fieldsOf, Tryd.underlying39]
  go_simp
  obtain ⟨a, b, c⟩ := p
  obtain ⟨x, y, z⟩ := q
  rw [← three_eq]
  by_cases h1 : a = x <;> by_cases h2 : b = y <;> by_cases h3 : c = z <;> simp [h1, h2, h3]
theorem ch_ne (p q : Ch) (w : World) : (binOp .neq 39 (.agg #[.int .i64 p.1, .int .i64 p.2.1, .int .i64 p.2.2]) (.agg #[.int .i64 q.1, .int .i64 q.2.1, .int .i64 q.2.2])).run Tryd.prog w = .ok (.bool (!decide (p = q))) w := by
  have u := Tryd.underlying3
  have hS : Tryd.prog.underlying 39 = some (.struct (Tryd.prog.fieldsOf 39)) := by kernel_rfl
  rw [run_neq_struct, show (10000 : Nat) = 9998 + 1 + 1 from rfl, run_equalIn_agg w (9998 + 1) 39 _ _ hS (by kernel_rfl)]
  simp only [Program.fieldsOf, Tryd.underlying39]
  go_simp
  obtain ⟨a, b, c⟩ := p
  obtain ⟨x, y, z⟩ := q
  rw [← three_eq]
  by_cases h1 : a = x <;> by_cases h2 : b = y <;> by_cases h3 : c = z <;> simp [h1, h2, h3]
/-- Choices of the call's own, as a slice. -/
theorem own_shape {w : World} {B : Nat} {v : Value} {l : List Ch} (h : OwnC w B v l) : ∃ A c, v = .slice A l.length c ∧ (∀ g, v.ownBlock = some g → B ≤ g ∧ g < w.heap.size) ∧
    ∀ k p, l[k]? = some p → ∃ g, A = some ⟨g, 0, none⟩ ∧ w.cell? ⟨g, k * 3, none⟩ = some (.int .i64 p.1) ∧ w.cell? ⟨g, k * 3 + 1, none⟩ = some (.int .i64 p.2.1) ∧ w.cell? ⟨g, k * 3 + 2, none⟩ = some (.int .i64 p.2.2) := by
  have hlt := h.lt
  rcases h.2 with ⟨h1, h2⟩ | ⟨g, cap, cur, h1, _⟩
  · exact ⟨none, 0, by rw [h1, h2], hlt, fun k p hp => by
      have := (List.getElem?_eq_some_iff.1 hp).1
      omega⟩
  · refine ⟨some ⟨g, 0, none⟩, cap, h1, hlt, fun k p hp => ⟨g, rfl, ?_⟩⟩
    subst h1
    have hk := (List.getElem?_eq_some_iff.1 hp).1
    obtain ⟨a1, a2, a3⟩ := ccs_at l k p hp
    have hlen := ccs_len l
    exact ⟨(h.cellAt _ (by omega)).trans a1, (h.cellAt _ (by omega)).trans a2, (h.cellAt _ (by omega)).trans a3⟩
theorem last_at {l : List Ch} {m : Nat} (h : l.length = m + 1) : ∃ p, l[m]? = some p ∧ l.getLast? = some p := by
  rw [List.getLast?_eq_getElem?, h, Nat.add_sub_cancel]
  exact ⟨l[m]'(by omega), List.getElem?_eq_getElem (by omega), List.getElem?_eq_getElem (by omega)⟩
/-- What a line gives. -/
def LinePost (B : Nat) (text : Bs) (acc : List Ch) (w : World) (e : Ending) (w' : World) : Prop :=
  (∃ k : Int, k ≠ 0 ∧ lineP text acc = ([], k) ∧ e = .returned (.tuple #[.slice none 0 0, .int .i64 k]) ∧ Below w.heap.size w w') ∨
  (∃ v, ∃ L : List Ch, lineP text acc = (L, 0) ∧ L.length ≤ 4000 ∧ e = .returned (.tuple #[v, .int .i64 0]) ∧ OwnC w' B v L ∧ Below B w w')
theorem line_bad {B : Nat} {text : Bs} {acc : List Ch} {w w' : World} (h : choP (Lib.cut text [32]).2.1 = none ∨ (∃ c, acc.getLast? = some c ∧ choP (Lib.cut text [32]).2.1 = some c) ∨ formB (Lib.cut text [32]).1 = false ∨ pv (Lib.cut text [32]).1 < 1) (hb : Below w.heap.size w w') :
    LinePost B text acc w (.returned (.tuple #[.slice none 0 0, .int .i64 1])) w' := by
  refine .inl ⟨1, by omega, ?_, rfl, hb⟩
  unfold lineP
  cases e : choP (Lib.cut text [32]).2.1 with
  | none => rfl
  | some c =>
    simp only
    rw [if_pos]
    rcases h with h | ⟨d, h1, h2⟩ | h | h
    · rw [e] at h; cases h
    · rw [e] at h2; cases h2; exact .inl h1
    · exact .inr (.inl h)
    · exact .inr (.inr h)
theorem line_long {B : Nat} {text : Bs} {acc : List Ch} {c : Ch} {w w' : World} (h1 : choP (Lib.cut text [32]).2.1 = some c) (h2 : acc.getLast? ≠ some c) (h3 : formB (Lib.cut text [32]).1 = true) (h4 : 4000 - (acc.length : Int) < pv (Lib.cut text [32]).1) (hl : acc.length ≤ 4000) (h5 : 1 ≤ pv (Lib.cut text [32]).1) (hb : Below w.heap.size w w') :
    LinePost B text acc w (.returned (.tuple #[.slice none 0 0, .int .i64 2])) w' := by
  refine .inl ⟨2, by omega, ?_, rfl, hb⟩
  unfold lineP
  rw [h1]
  simp only
  rw [if_neg, if_pos h4]
  rintro (h | h | h)
  · exact h2 h
  · rw [h3] at h; cases h
  · omega
theorem line_good {text : Bs} {acc : List Ch} {c : Ch} (h1 : choP (Lib.cut text [32]).2.1 = some c) (h2 : acc.getLast? ≠ some c) (h3 : formB (Lib.cut text [32]).1 = true) (h4 : ¬ 4000 - (acc.length : Int) < pv (Lib.cut text [32]).1) (h5 : 1 ≤ pv (Lib.cut text [32]).1) :
    lineP text acc = (acc ++ List.replicate (pv (Lib.cut text [32]).1).toNat c, 0) := by
  unfold lineP
  rw [h1]
  simp only
  rw [if_neg, if_neg h4]
  rintro (h | h | h)
  · exact h2 h
  · rw [h3] at h; cases h
  · omega
set_option maxHeartbeats 3200000 in
set_option maxRecDepth 100000 in
theorem line_r (s : ByteArray) (B : Nat) (v : Value) (acc : List Ch) (w : World) (hs : s.size ≤ 281474976) (hw : Rdy w) (hB : B ≤ w.heap.size) (ho : OwnC w B v acc) (hl : acc.length ≤ 4000) :
    Calls Tryd.prog 27 #[.string s, v] w (LinePost B s.data.toList acc w) := by
  obtain ⟨A0, c0, rfl, hlt0, hcell⟩ := own_shape ho
  have HCL := Lib.hid hcell
  clear hcell
  have cc := fun W => cut_c s 32 W (by omega)
  have hle := cut_le s.data.toList 32
  rw [← Lib.size_eq] at hle
  have HBAD := Lib.hid (fun w' => @line_bad B s.data.toList acc w w')
  have HLONG := Lib.hid (fun c w' => @line_long B s.data.toList acc c w w')
  have HGOOD := Lib.hid (fun c => @line_good s.data.toList acc c)
  obtain ⟨a, ha⟩ : ∃ a, (Lib.cut s.data.toList [32]).1 = a := ⟨_, rfl⟩
  obtain ⟨b, hb⟩ : ∃ b, (Lib.cut s.data.toList [32]).2.1 = b := ⟨_, rfl⟩
  obtain ⟨z, hz⟩ : ∃ z, (Lib.cut s.data.toList [32]).2.2 = z := ⟨_, rfl⟩
  rw [ha, hb, hz] at cc
  rw [ha, hb] at hle HBAD HLONG HGOOD
  have haz : (ba a).size ≤ 281474976 := by rw [ba_size]; omega
  have hbz : (ba b).size ≤ 281474976 := by rw [ba_size]; omega
  clear ha hb hz hle
  have HW := Lib.hid hw
  clear hw
  have cp := fun W h => parse_c (ba a) W (by omega) h
  have cq := fun W h => choice_c (ba b) W (by omega) h
  rw [ba_list] at cp cq
  have HA := Lib.hid (ba_list a)
  generalize ba a = xa at *
  generalize ba b = xb at *
  obtain ⟨PR, hPR⟩ : ∃ x, pr a = x := ⟨_, rfl⟩
  rw [hPR] at cp
  have HPR := Lib.hid hPR
  clear hPR
  have hpt : ∃ m k : Int, PR = .tuple #[.int .i64 m, .int .i64 k] := by
    rw [← HPR.out]
    rcases pr_is a with ⟨v, e, _⟩ | ⟨k, e, _⟩
    · exact ⟨v, 0, e⟩
    · exact ⟨0, k, e⟩
  obtain ⟨pn, pe, rfl⟩ := hpt
  have HO := Lib.hid ho
  have HL := Lib.hid hlt0
  clear ho hlt0
  go_enter Tryd.func27, Tryd.ntmps27
  go_wp2_with fail
  (with_reducible refine (cc _).mono ?_)
  rintro e w2 ⟨rfl, b2⟩
  go_wp2_with fail
  (with_reducible refine (cp _ (HW.out.below b2)).mono ?_)
  rintro e w3 ⟨rfl, b3⟩
  have B3 := via b3 b2
  go_wp2_with fail
  (with_reducible refine (cq _ (HW.out.below B3)).mono ?_)
  rintro e w4 ⟨c, rfl, hc, b4⟩
  have B4 := via b4 B3
  have HC := Lib.hid hc
  clear b2 b3 b4 B3 hc cc cp cq
  obtain ⟨ok, hok⟩ : ∃ ok, (choP b).isSome = ok := ⟨_, rfl⟩
  rw [hok]
  have HOK := Lib.hid hok
  clear hok
  simp only [chV]
  go_wp2_with fail
  have C5 := Blk.new w4 39 #[.int .i64 c.1, .int .i64 c.2.1, .int .i64 c.2.2]
  have B5 := B4.alloc B4.size (.cells #[.int .i64 c.1, .int .i64 c.2.1, .int .i64 c.2.2] 39)
  obtain ⟨w5, hw5⟩ : ∃ z, w4.alloc (.cells #[.int .i64 c.1, .int .i64 c.2.1, .int .i64 c.2.2] 39) = z := ⟨_, rfl⟩
  rw [hw5] at C5 B5 ⊢
  have hz5 := hw5
  clear hw5
  have x0 := C5.cell 0
  have x1 := C5.cell 1
  have x2 := C5.cell 2
  simp only [List.getElem?_toArray, List.getElem?_cons_zero, List.getElem?_cons_succ] at x0 x1 x2
  obtain ⟨N, hN⟩ : ∃ N, acc.length = N := ⟨_, rfl⟩
  rw [hN] at HO HL hl HLONG HGOOD ⊢
  have HN := Lib.hid hN
  clear hN
  obtain ⟨AG, hAG⟩ : ∃ AG : Bool, AG = true ↔ acc.getLast? = some c := ⟨decide (acc.getLast? = some c), by simp⟩
  have HAG := Lib.hid hAG
  clear hAG
  cases N with
  | zero =>
    have hAG : AG = false := by
      cases AG with
      | false => rfl
      | true =>
        have h1 := HAG.out.1 rfl
        rw [List.eq_nil_of_length_eq_zero HN.out] at h1; cases h1
    subst hAG
    go_quiet (fail)
    have B6 := below_dn B5 nq
    have C6 := C5.drewN nq
    have RD6 : w4.heap.size < (w5.drewN nq).heap.size := C6.lt
    obtain ⟨w6, hw6⟩ : ∃ z, w5.drewN nq = z := ⟨_, rfl⟩
    rw [hw6] at B6 C6 RD6 ⊢
    clear hw6 x0 x1 x2 C5 B5 hz5
    cases ok
    · have hcb : choP b = none := by
        have := HOK.out
        cases e : choP b with
        | none => rfl
        | some d => rw [e] at this; cases this
      have HCB := Lib.hid hcb
      clear hcb
      go_wp2
      go_ret2
      exact HBAD.out _ (.inl HCB.out) B6
    have hcb : choP b = some c := by
      have := HOK.out
      cases e : choP b with
      | none => rw [e] at this; cases this
      | some d => rw [HC.out d e]
    have HCB := Lib.hid hcb
    clear hcb
    have HLS : Hid (acc.getLast? ≠ some c) := Lib.hid (fun e => by have := HAG.out.2 e; cases this)
    rcases pr_is a with ⟨v, e, h1, h2, h3, h4⟩ | ⟨k, e, hk, h1, h2⟩
    · rw [HPR.out] at e
      simp only [Value.tuple.injEq, Array.mk.injEq, List.cons.injEq, Value.int.injEq, true_and, and_true] at e
      obtain ⟨rfl, rfl⟩ := e
      have H1 := Lib.hid h1
      have H2 := Lib.hid h2
      clear h1 h2
      by_cases hv : pn < 1
      · go_wp2
        go_ret2
        exact HBAD.out _ (.inr (.inr (.inr (by rw [← H2.out]; exact hv)))) B6
      obtain ⟨n, rfl⟩ : ∃ n : Nat, pn = n := ⟨pn.toNat, by omega⟩
      by_cases hm : 4000 - ((0 : Nat) : Int) < (n : Int)
      · have dm : decide (4000 - ((0 : Nat) : Int) < (n : Int)) = true := decide_eq_true hm
        go_wp2
        go_ret2
        exact HLONG.out c _ HCB.out HLS.out H1.out (by rw [← H2.out]; exact hm) hl (by rw [← H2.out]; omega) B6
      have dm : decide (4000 - ((0 : Nat) : Int) < (n : Int)) = false := decide_eq_false hm
      have HG := Lib.hid (HGOOD.out c HCB.out HLS.out H1.out (by rw [← H2.out]; omega) (by rw [← H2.out]; omega))
      obtain ⟨i0, hi0, hz0, hz1, hz2⟩ := info_parts info_C
      have hown : OwnC w6 B (.slice A0 (0) c0) acc := by
        have := HO.out
        refine this.kept (row := none) ⟨B6.os, B6.tape, B6.output, B6.size, fun j hj _ => B6.block j hj⟩ ?_
        cases e : (Value.slice A0 (0) c0).ownBlock with
        | none => exact .inl rfl
        | some g => exact .inr (by simp)
      have hfar : ∀ gg, (Value.slice A0 (0) c0).ownBlock = some gg → gg ≠ w4.heap.size := fun gg hg => by
        have := (HL.out gg hg).2
        have := B4.size
        omega
      have BB : Below B w w6 := B6.mono hB
      go_wp2
      go_loopw [1, 81] (fun v kv wr => ∃ k : Nat, kv = .int .i64 k ∧ k ≤ n ∧ OwnC wr B v (acc ++ List.replicate k c) ∧ (∀ gg, v.ownBlock = some gg → gg ≠ w4.heap.size) ∧ Blk wr w4.heap.size 39 #[.int .i64 c.1, .int .i64 c.2.1, .int .i64 c.2.2] ∧ Below B w wr) (fun _ kv _ => n - (intOf kv).toNat)
      case atStart => exact ⟨0, rfl, by omega, by rw [List.replicate_zero, List.append_nil]; exact hown, hfar, C6, BB⟩
      case round =>
        clear hown hfar C6 BB B6 RD6
        obtain ⟨k, rfl, hk, hown, hfar, C7, B7⟩ := hrel
        have hB7 : B ≤ _ := Nat.le_trans hB B7.size
        obtain ⟨L1, hL1⟩ : ∃ L, acc ++ List.replicate k c = L := ⟨_, rfl⟩
        rw [hL1] at hown
        have hlen : L1.length ≤ 4000 := by
          have := HN.out
          rw [← hL1, List.length_append, List.length_replicate]; omega
        have HL1 := Lib.hid hL1
        clear hL1
        have x0 := C7.cell 0
        have x1 := C7.cell 1
        have x2 := C7.cell 2
        simp only [List.getElem?_toArray, List.getElem?_cons_zero, List.getElem?_cons_succ] at x0 x1 x2
        by_cases hlt : k < n
        · have dk : decide ((k : Int) < (n : Int)) = true := decide_eq_true (by omega)
          have hcl := C7.lt
          go_wp2_with (at_builtin; refine wpList_append_lies _ rfl (.tmp 83) (.tmp 85) 22 rfl B 39 i0 (.agg #[.int .i64 0, .int .i64 0, .int .i64 0]) 3 24 Tryd.underlying22 hi0 hz0 hz1 hz2 rfl (by decide) _ L1.length (ccs L1) rfl (hown.alloc _) ⟨_, 0, none⟩ 1 1 [.int .i64 c.1, .int .i64 c.2.1, .int .i64 c.2.2] rfl rfl (World.news_of_block (heap_alloc_new _ _)) one_ints (by omega) (by unfold maxLen; omega) (by omega) (by simp; omega) _ rfl ?_)
          intro g7 cap7 w7 hown7 hgrow7 hat7 hlt7
          have hB8 : Below B w w7 := (B7.alloc hB7 _).grown hgrow7 (by simp; omega) (fun k hk => (hown.lt k hk).1)
          have C8 := (C7.alloc (.cells #[.int .i64 c.1, .int .i64 c.2.1, .int .i64 c.2.2] 39))
          have C9 : Blk w7 w4.heap.size 39 #[.int .i64 c.1, .int .i64 c.2.1, .int .i64 c.2.2] := (hgrow7.block _ C8.lt (fun e => hfar _ e.symm rfl)).trans C8
          have hfar8 : ∀ g, (Value.slice (some ⟨g7, 0, none⟩) (L1.length + 1) cap7).ownBlock = some g → g ≠ w4.heap.size := by
            intro g hg
            cases hg
            rcases hat7 with h | h
            · exact hfar _ h
            · rw [h]; simp only [World.size_alloc]; omega
          have hown8 := own_snoc hown7
          clear hown7 hgrow7 hat7 hlt7 hown hfar C7 C8 x0 x1 x2
          go_wp2
          go_roundw
          case rel => exact ⟨k + 1, by go_num, by omega, by rw [List.replicate_succ', ← List.append_assoc, HL1.out]; exact hown8, hfar8, C9, hB8⟩
          case measure => simp [intOf]; omega
        · have hkn : k = n := by omega
          subst hkn
          have dk : decide ((k : Int) < (k : Int)) = false := decide_eq_false (by omega)
          go_wp2
          go_ret2
          refine .inr ⟨_, L1, ?_, hlen, rfl, hown, B7⟩
          rw [HG.out, ← H2.out, ← HL1.out]; simp
    · rw [HPR.out] at e
      simp only [Value.tuple.injEq, Array.mk.injEq, List.cons.injEq, Value.int.injEq, true_and, and_true] at e
      obtain ⟨rfl, rfl⟩ := e
      rcases hk with rfl | rfl
      · have H1 := Lib.hid (h1.1 rfl)
        clear h1 h2
        go_wp2
        go_ret2
        exact HBAD.out _ (.inr (.inr (.inl H1.out))) B6
      · obtain ⟨h3, h4⟩ := h2 rfl
        have hne : 0 < xa.size := by
          rw [Lib.size_eq, HA.out]
          cases a with
          | nil => rw [form_ne] at h3; cases h3
          | cons _ _ => simp
        have hbq := byte_eq xa hne 45
        rw [HA.out] at hbq
        have H3 := Lib.hid h3
        have H4 := Lib.hid h4
        clear h1 h2 h3 h4
        cases hq : (a.head? == some 45)
        · rw [hq] at hbq
          have hpos : 9223372036854775807 < pv a := by
            have := H4.out
            have hnn : 0 ≤ pv a := by
              unfold pv
              rw [if_neg (by intro e; rw [e] at hq; simp at hq)]; omega
            omega
          have HP := Lib.hid hpos
          clear hpos hq
          change (((xa[0]'hne).toNat : Int) == 45) = false at hbq
          go_wp2
          go_ret2
          exact HLONG.out c _ HCB.out HLS.out H3.out (by have := HP.out; omega) hl (by have := HP.out; omega) B6
        · rw [hq] at hbq
          have hneg : pv a < 1 := by
            unfold pv
            rw [if_pos (by simpa using hq)]; omega
          have HP := Lib.hid hneg
          clear hneg hq
          change (((xa[0]'hne).toNat : Int) == 45) = true at hbq
          go_wp2
          go_ret2
          exact HBAD.out _ (.inr (.inr (.inr HP.out))) B6
  | succ m =>
    obtain ⟨p, hp1, hp2⟩ := last_at HN.out
    obtain ⟨g, rfl, y0, y1, y2⟩ := HCL.out m p hp1
    have hg : g < w.heap.size := World.block_lt_of_cell? w _ y0
    have y0 := (B5.cell (p := ⟨g, m * 3, none⟩) hg).trans y0
    have y1 := (B5.cell (p := ⟨g, m * 3 + 1, none⟩) hg).trans y1
    have y2 := (B5.cell (p := ⟨g, m * 3 + 2, none⟩) hg).trans y2
    have ew : IntKind.i64.wrap ((m : Int) + 1 - 1) = (m : Int) := by rw [Int.add_sub_cancel]; exact IntWalk.i64_in _ (by omega)
    have q := fun W => ch_eq p c W
    have hAG : decide (p = c) = AG := by
      cases AG with
      | true => have h1 := HAG.out.1 rfl; rw [hp2] at h1; simpa using h1
      | false =>
        rw [decide_eq_false_iff_not]
        intro e
        have := HAG.out.2 (by rw [hp2, e])
        cases this
    rw [hAG] at q
    clear hAG hp1 hp2
    have d0 : decide ((0 : Int) < (m : Int) + 1) = true := decide_eq_true (by omega)
    go_quiet (fail)
    have B6 := below_dn B5 nq
    have C6 := C5.drewN nq
    have RD6 : w4.heap.size < (w5.drewN nq).heap.size := C6.lt
    obtain ⟨w6, hw6⟩ : ∃ z, w5.drewN nq = z := ⟨_, rfl⟩
    rw [hw6] at B6 C6 RD6 ⊢
    clear hw6 x0 x1 x2 C5 B5 hz5
    cases ok
    · have hcb : choP b = none := by
        have := HOK.out
        cases e : choP b with
        | none => rfl
        | some d => rw [e] at this; cases this
      have HCB := Lib.hid hcb
      clear hcb
      go_wp2
      go_ret2
      exact HBAD.out _ (.inl HCB.out) B6
    have hcb : choP b = some c := by
      have := HOK.out
      cases e : choP b with
      | none => rw [e] at this; cases this
      | some d => rw [HC.out d e]
    have HCB := Lib.hid hcb
    clear hcb
    cases AG with
    | true =>
      go_wp2
      go_ret2
      exact HBAD.out _ (.inr (.inl ⟨c, HAG.out.1 (by trivial), HCB.out⟩)) B6
    | false =>
        have HLS : Hid (acc.getLast? ≠ some c) := Lib.hid (fun e => by have := HAG.out.2 e; cases this)
        rcases pr_is a with ⟨v, e, h1, h2, h3, h4⟩ | ⟨k, e, hk, h1, h2⟩
        · rw [HPR.out] at e
          simp only [Value.tuple.injEq, Array.mk.injEq, List.cons.injEq, Value.int.injEq, true_and, and_true] at e
          obtain ⟨rfl, rfl⟩ := e
          have H1 := Lib.hid h1
          have H2 := Lib.hid h2
          clear h1 h2
          by_cases hv : pn < 1
          · go_wp2
            go_ret2
            exact HBAD.out _ (.inr (.inr (.inr (by rw [← H2.out]; exact hv)))) B6
          obtain ⟨n, rfl⟩ : ∃ n : Nat, pn = n := ⟨pn.toNat, by omega⟩
          by_cases hm : 4000 - ((m + 1 : Nat) : Int) < (n : Int)
          · have dm : decide (4000 - ((m + 1 : Nat) : Int) < (n : Int)) = true := decide_eq_true hm
            go_wp2
            go_ret2
            exact HLONG.out c _ HCB.out HLS.out H1.out (by rw [← H2.out]; exact hm) hl (by rw [← H2.out]; omega) B6
          have dm : decide (4000 - ((m + 1 : Nat) : Int) < (n : Int)) = false := decide_eq_false hm
          have HG := Lib.hid (HGOOD.out c HCB.out HLS.out H1.out (by rw [← H2.out]; omega) (by rw [← H2.out]; omega))
          obtain ⟨i0, hi0, hz0, hz1, hz2⟩ := info_parts info_C
          have hown : OwnC w6 B (.slice (some ⟨g, 0, none⟩) (m + 1) c0) acc := by
            have := HO.out
            refine this.kept (row := none) ⟨B6.os, B6.tape, B6.output, B6.size, fun j hj _ => B6.block j hj⟩ ?_
            cases e : (Value.slice (some ⟨g, 0, none⟩) (m + 1) c0).ownBlock with
            | none => exact .inl rfl
            | some g => exact .inr (by simp)
          have hfar : ∀ gg, (Value.slice (some ⟨g, 0, none⟩) (m + 1) c0).ownBlock = some gg → gg ≠ w4.heap.size := fun gg hg => by
            have := (HL.out gg hg).2
            have := B4.size
            omega
          have BB : Below B w w6 := B6.mono hB
          go_wp2
          go_loopw [1, 81] (fun v kv wr => ∃ k : Nat, kv = .int .i64 k ∧ k ≤ n ∧ OwnC wr B v (acc ++ List.replicate k c) ∧ (∀ gg, v.ownBlock = some gg → gg ≠ w4.heap.size) ∧ Blk wr w4.heap.size 39 #[.int .i64 c.1, .int .i64 c.2.1, .int .i64 c.2.2] ∧ Below B w wr) (fun _ kv _ => n - (intOf kv).toNat)
          case atStart => exact ⟨0, rfl, by omega, by rw [List.replicate_zero, List.append_nil]; exact hown, hfar, C6, BB⟩
          case round =>
            clear hown hfar C6 BB B6 RD6
            obtain ⟨k, rfl, hk, hown, hfar, C7, B7⟩ := hrel
            have hB7 : B ≤ _ := Nat.le_trans hB B7.size
            obtain ⟨L1, hL1⟩ : ∃ L, acc ++ List.replicate k c = L := ⟨_, rfl⟩
            rw [hL1] at hown
            have hlen : L1.length ≤ 4000 := by
              have := HN.out
              rw [← hL1, List.length_append, List.length_replicate]; omega
            have HL1 := Lib.hid hL1
            clear hL1
            have x0 := C7.cell 0
            have x1 := C7.cell 1
            have x2 := C7.cell 2
            simp only [List.getElem?_toArray, List.getElem?_cons_zero, List.getElem?_cons_succ] at x0 x1 x2
            by_cases hlt : k < n
            · have dk : decide ((k : Int) < (n : Int)) = true := decide_eq_true (by omega)
              have hcl := C7.lt
              go_wp2_with (at_builtin; refine wpList_append_lies _ rfl (.tmp 83) (.tmp 85) 22 rfl B 39 i0 (.agg #[.int .i64 0, .int .i64 0, .int .i64 0]) 3 24 Tryd.underlying22 hi0 hz0 hz1 hz2 rfl (by decide) _ L1.length (ccs L1) rfl (hown.alloc _) ⟨_, 0, none⟩ 1 1 [.int .i64 c.1, .int .i64 c.2.1, .int .i64 c.2.2] rfl rfl (World.news_of_block (heap_alloc_new _ _)) one_ints (by omega) (by unfold maxLen; omega) (by omega) (by simp; omega) _ rfl ?_)
              intro g7 cap7 w7 hown7 hgrow7 hat7 hlt7
              have hB8 : Below B w w7 := (B7.alloc hB7 _).grown hgrow7 (by simp; omega) (fun k hk => (hown.lt k hk).1)
              have C8 := (C7.alloc (.cells #[.int .i64 c.1, .int .i64 c.2.1, .int .i64 c.2.2] 39))
              have C9 : Blk w7 w4.heap.size 39 #[.int .i64 c.1, .int .i64 c.2.1, .int .i64 c.2.2] := (hgrow7.block _ C8.lt (fun e => hfar _ e.symm rfl)).trans C8
              have hfar8 : ∀ g, (Value.slice (some ⟨g7, 0, none⟩) (L1.length + 1) cap7).ownBlock = some g → g ≠ w4.heap.size := by
                intro g hg
                cases hg
                rcases hat7 with h | h
                · exact hfar _ h
                · rw [h]; simp only [World.size_alloc]; omega
              have hown8 := own_snoc hown7
              clear hown7 hgrow7 hat7 hlt7 hown hfar C7 C8 x0 x1 x2
              go_wp2
              go_roundw
              case rel => exact ⟨k + 1, by go_num, by omega, by rw [List.replicate_succ', ← List.append_assoc, HL1.out]; exact hown8, hfar8, C9, hB8⟩
              case measure => simp [intOf]; omega
            · have hkn : k = n := by omega
              subst hkn
              have dk : decide ((k : Int) < (k : Int)) = false := decide_eq_false (by omega)
              go_wp2
              go_ret2
              refine .inr ⟨_, L1, ?_, hlen, rfl, hown, B7⟩
              rw [HG.out, ← H2.out, ← HL1.out]; simp
        · rw [HPR.out] at e
          simp only [Value.tuple.injEq, Array.mk.injEq, List.cons.injEq, Value.int.injEq, true_and, and_true] at e
          obtain ⟨rfl, rfl⟩ := e
          rcases hk with rfl | rfl
          · have H1 := Lib.hid (h1.1 rfl)
            clear h1 h2
            go_wp2
            go_ret2
            exact HBAD.out _ (.inr (.inr (.inl H1.out))) B6
          · obtain ⟨h3, h4⟩ := h2 rfl
            have hne : 0 < xa.size := by
              rw [Lib.size_eq, HA.out]
              cases a with
              | nil => rw [form_ne] at h3; cases h3
              | cons _ _ => simp
            have hbq := byte_eq xa hne 45
            rw [HA.out] at hbq
            have H3 := Lib.hid h3
            have H4 := Lib.hid h4
            clear h1 h2 h3 h4
            cases hq : (a.head? == some 45)
            · rw [hq] at hbq
              have hpos : 9223372036854775807 < pv a := by
                have := H4.out
                have hnn : 0 ≤ pv a := by
                  unfold pv
                  rw [if_neg (by intro e; rw [e] at hq; simp at hq)]; omega
                omega
              have HP := Lib.hid hpos
              clear hpos hq
              change (((xa[0]'hne).toNat : Int) == 45) = false at hbq
              go_wp2
              go_ret2
              exact HLONG.out c _ HCB.out HLS.out H3.out (by have := HP.out; omega) hl (by have := HP.out; omega) B6
            · rw [hq] at hbq
              have hneg : pv a < 1 := by
                unfold pv
                rw [if_pos (by simpa using hq)]; omega
              have HP := Lib.hid hneg
              clear hneg hq
              change (((xa[0]'hne).toNat : Int) == 45) = true at hbq
              go_wp2
              go_ret2
              exact HBAD.out _ (.inr (.inr (.inr HP.out))) B6
end TraW
end Go.Proofs.YtooinkhjoppijaaDoor
