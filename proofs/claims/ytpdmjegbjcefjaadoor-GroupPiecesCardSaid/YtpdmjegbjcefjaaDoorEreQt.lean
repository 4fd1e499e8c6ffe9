/- The walk of the reference's setText. Conditions: none. -/
import Derived.Test.YtpdmjegbjcefjaaDoorEreQa
import Derived.Test.YtpdmjegbjcefjaaDoorEreBp
import Derived.Deep.AppendLies
import Derived.Deep.DeepCutAuto
namespace Go.Proofs.YtpdmjegbjcefjaaDoor
set_option linter.unusedVariables false
set_option linter.unusedSimpArgs false
open Go.RowKit
namespace EreX
open EreP EreW
attribute [local go_sem] conv_one
/-- An own row of spans: its block. -/
theorem row_blk {w : World} {B n g o m cap : Nat} {sp : Option Nat} {xs : List Value} (h : w.ownsRow B 120 2 (.slice (some ⟨g, o, sp⟩) m cap) n xs) :
    o = 0 ∧ sp = none ∧ m = n ∧ B ≤ g ∧ n ≤ cap ∧ cap ≤ maxLen ∧ ∃ cs, Blk w g 120 cs ∧ cs.size = cap * 2 ∧ cs.toList.take (n * 2) = xs := by
  rcases h.2 with ⟨h1, _⟩ | ⟨g', cap', cur, h1, h2, h3, h4, h5, h6, h7⟩
  · cases h1
  · injection h1 with h1 h8 h9
    injection h1 with h1
    injection h1 with e1 e2 e3
    subst e1 e2 e3 h8 h9
    exact ⟨rfl, rfl, rfl, h2, h4, h5, cur, h3, h6, h7⟩
theorem spCells_len (l : List (Nat × Nat)) : (spCells l).length = l.length * 2 := by
  induction l with
  | nil => rfl
  | cons p l ih => show (.int .u8 p.1 :: .int .u8 p.2 :: spCells l : List Value).length = _; simp [ih]; omega
theorem spCells_cat (l m : List (Nat × Nat)) : spCells (l ++ m) = spCells l ++ spCells m := by simp [spCells]
/-- The last span's end is put. -/
theorem row_put {w : World} {B g cap n : Nat} (l : List (Nat × Nat)) (a b c : Nat) (hn : n = (l ++ [(a, b)]).length) (h : w.ownsRow B 120 2 (.slice (some ⟨g, 0, none⟩) n cap) n (spCells (l ++ [(a, b)]))) :
    (w.setCell ⟨g, l.length * 2 + 1, none⟩ (.int .u8 c)).ownsRow B 120 2 (.slice (some ⟨g, 0, none⟩) n cap) n (spCells (l ++ [(a, c)])) := by
  obtain ⟨_, _, _, hb, hc, hm, cs, hB, hs, ht⟩ := row_blk h
  have hn2 : n = l.length + 1 := by rw [hn]; simp
  refine ⟨by rw [spCells_len, hn2]; simp, .inr ⟨g, cap, cs.setIfInBounds (l.length * 2 + 1) (.int .u8 c), rfl, hb, hB.set_ _ _, hc, hm, by simpa using hs, ?_⟩⟩
  have hl : (spCells l).length = l.length * 2 := spCells_len l
  have e1 : spCells (l ++ [(a, b)]) = spCells l ++ [.int .u8 a, .int .u8 b] := spCells_app l a b
  have e2 : spCells (l ++ [(a, c)]) = spCells l ++ [.int .u8 a, .int .u8 c] := spCells_app l a c
  rw [e1] at ht
  rw [e2, Array.toList_setIfInBounds, List.take_set, ht]
  rw [List.set_append_right _ _ (by omega), hl]
  simp
/-- Its texts. -/
theorem it_span (a b : Nat) (ha : a < 256) (hb : b < 256) : spanB (a, b) = (if a = 94 then [92] else []) ++ (if a ≠ b ∧ b = 94 then itB a a ++ [45, 92, 94] else itB a b) := by
  have e : ∀ c k : Nat, c < 256 → k < 256 → (UInt8.ofNat c = UInt8.ofNat k ↔ c = k) := by
    intro c k hc hk
    constructor
    · intro h
      have := congrArg UInt8.toNat h
      simpa [Nat.mod_eq_of_lt hc, Nat.mod_eq_of_lt hk] using this
    · rintro rfl; rfl
  have told : ∀ c : Nat, c < 256 → toldB (UInt8.ofNat c) endsL = if c = 94 then [92, 94] else inB (UInt8.ofNat c) := by
    intro c hc
    unfold toldB inB
    by_cases h94 : c = 94
    · subst h94; rfl
    · rw [if_neg h94]
      have h1 := e c 93 hc (by decide)
      have h2 := e c 45 hc (by decide)
      have h3 := e c 92 hc (by decide)
      have h4 := e c 94 hc (by decide)
      by_cases hx : UInt8.ofNat c = 93 ∨ UInt8.ofNat c = 45 ∨ UInt8.ofNat c = 92
      · rw [if_pos hx, if_pos (by simp only [endsL, List.contains_cons, Bool.or_eq_true, beq_iff_eq]; rcases hx with h | h | h <;> simp [h])]
      · rw [if_neg hx, if_neg (by
          simp only [endsL, List.contains_cons, Bool.or_eq_true, beq_iff_eq, List.contains_nil, Bool.false_eq_true, or_false]
          rintro (h | h | h | h)
          · exact hx (Or.inl h)
          · exact hx (Or.inr (Or.inl h))
          · exact hx (Or.inr (Or.inr h))
          · exact h94 (h4.1 h))]
  show toldB (UInt8.ofNat a) endsL ++ (if b = a then [] else 45 :: toldB (UInt8.ofNat b) endsL) = _
  rw [told a ha, told b hb]
  unfold itB
  have h94 : inB (UInt8.ofNat 94) = [94] := by decide
  by_cases h1 : a = 94
  · subst h1
    by_cases h2 : b = 94
    · subst h2; rw [h94]; rfl
    · rw [if_pos rfl, if_pos rfl, if_neg h2, if_neg h2, if_neg (fun h => h2 h.2), if_neg h2, h94]; rfl
  · rw [if_neg h1, if_neg h1]
    by_cases h2 : b = a
    · subst h2
      rw [if_pos rfl, if_pos rfl, if_neg (fun h => h.1 rfl)]; rfl
    · rw [if_neg h2]
      by_cases h3 : b = 94
      · rw [if_pos (show a ≠ b ∧ b = 94 from ⟨fun h => h2 h.symm, h3⟩), if_pos h3, if_pos rfl]; simp
      · rw [if_neg (show ¬ (a ≠ b ∧ b = 94) from fun h => h3 h.2), if_neg h3, if_neg h2]; rfl
theorem acc_last (s c : Nat) (hne : accS s c ≠ []) : ∃ l a b, accS s c = l ++ [(a, b)] ∧ b < 256 + c := by
  refine ⟨(accS s c).dropLast, ((accS s c).getLast hne).1, ((accS s c).getLast hne).2, (List.dropLast_concat_getLast hne).symm, ?_⟩
  have := acc_lt s c _ (List.getLast_mem hne)
  omega
theorem span_bytes (s : Nat) : ∀ c, c ≤ 256 → ∀ p ∈ accS s c, p.1 < 256 := by
  intro c
  induction c with
  | zero => intro _ p hp; cases hp
  | succ c ih =>
    intro hc p hp
    rw [acc_succ] at hp
    split at hp
    · unfold stretch at hp
      split at hp
      · next a b e =>
        split at hp
        · rcases List.mem_append.1 hp with hp | hp
          · exact ih (by omega) p (List.dropLast_subset _ hp)
          · rw [List.mem_singleton] at hp; subst hp; exact ih (by omega) (a, b) (List.mem_of_getLast? e)
        · rcases List.mem_append.1 hp with hp | hp
          · exact ih (by omega) p hp
          · rw [List.mem_singleton] at hp; subst hp; show c < 256; omega
      · rcases List.mem_append.1 hp with hp | hp
        · exact ih (by omega) p hp
        · rw [List.mem_singleton] at hp; subst hp; show c < 256; omega
    · exact ih (by omega) p hp
/-- What the first loop of setText keeps. -/
def QL (S : Nat) (w wa : World) (lv v : Value) (wr : World) : Prop := ∃ (c : Nat), v = .int .i64 c ∧ c ≤ 256 ∧ wr.ownsRow wa.heap.size 120 2 lv (accS S c).length (spCells (accS S c)) ∧ Below wa.heap.size wa wr
theorem all_one : (0 ||| rangeS 0 255) = allS := by decide +kernel
theorem spans_all : spansS allS = [(0, 255)] := by kernel_rfl
/-- The ways of setText. -/
theorem text_ways (S : Nat) (hS : S < 2 ^ 256) (l : List (Nat × Nat)) (hl : spansS S = l) (hn : l ≠ []) :
    (l = [(0, 255)] ∧ setB S = [46]) ∨ (∃ a, l = [(a, a)] ∧ setB S = toldB (UInt8.ofNat a) specL) ∨ ((¬ ∃ a, l = [(a, a)]) ∧ l ≠ [(0, 255)] ∧ setB S = [91] ++ l.flatMap spanB ++ [93]) := by
  have hf := fold_spans S hS
  rw [hl] at hf
  by_cases h1 : l = [(0, 255)]
  · left
    refine ⟨h1, ?_⟩
    have hs : S = allS := by
      rw [h1] at hf
      simp only [List.foldl_cons, List.foldl_nil] at hf
      rw [all_one] at hf
      exact hf.symm
    unfold setB
    rw [hl, if_neg hn, if_pos hs]
  have h2 : S ≠ allS := by
    intro e
    rw [e, spans_all] at hl
    exact h1 hl.symm
  right
  unfold setB
  rw [hl, if_neg hn, if_neg h2]
  clear hf hl h2
  match l, hn, h1 with
  | [(a, b)], _, h1 =>
    by_cases hab : a = b
    · left
      subst hab
      exact ⟨a, rfl, by simp⟩
    · right
      refine ⟨?_, h1, by simp [hab]⟩
      rintro ⟨x, hx⟩
      injection hx with hx _
      injection hx with e1 e2
      exact hab (e1.trans e2.symm)
  | p :: q :: l, _, h1 =>
    right
    refine ⟨?_, h1, rfl⟩
    rintro ⟨x, hx⟩
    simp at hx
set_option maxHeartbeats 3200000 in
set_option maxRecDepth 100000 in
theorem settext_c (S : Nat) (hS : S < 2 ^ 256) (w : World) : Calls Tryd.prog 58 #[setV S] w fun x w' => x = .returned (.string ⟨(setB S).toArray⟩) ∧ Below w.heap.size w w' := by
  obtain ⟨i0, hi0, hz0, hz1, hz2⟩ := info_parts info_sp
  obtain ⟨wa, hwa⟩ : ∃ z : World, z = w.alloc (.cells #[.int .u64 (word S 0), .int .u64 (word S 1), .int .u64 (word S 2), .int .u64 (word S 3)] 24) := ⟨_, rfl⟩
  have xa : Blk wa w.heap.size 24 #[.int .u64 (word S 0), .int .u64 (word S 1), .int .u64 (word S 2), .int .u64 (word S 3)] := by rw [hwa]; exact Blk.new _ _ _
  have ba : Below w.heap.size w wa := by rw [hwa]; go_grown
  have za : wa.heap.size = w.heap.size + 1 := by rw [hwa, World.size_alloc]
  obtain ⟨SB, hSB⟩ : ∃ SB, setB S = SB := ⟨_, rfl⟩
  rw [hSB]
  have HSB := Lib.hid hSB
  clear hSB
  go_enter Tryd.func58, Tryd.ntmps58
  go_wp2
  rw [← hwa]
  clear hwa
  go_loopw [3, 4] (fun lv v wr => QL S w wa lv v wr) (fun _ v _ => 256 - (intOf v).toNat)
  case atStart => exact ⟨0, rfl, by omega, World.ownsRow_nil _ _ _ _, Below.refl _ _⟩
  case round =>
    obtain ⟨z0, rfl⟩ : ∃ z : World, z = wr := ⟨_, rfl⟩
    obtain ⟨lv, rfl⟩ : ∃ z : Value, z = u3 := ⟨_, rfl⟩
    obtain ⟨c, rfl, hc, hown, hB⟩ := hrel
    have zB := hB.size
    have xr := xa.next hB
    by_cases hlt : c < 256
    · have d0 : decide ((c : Int) < 256) = true := by simp; omega
      have uc : IntKind.u8.wrap (c : Int) = (c : Int) := by simp [IntKind.wrap, IntKind.bits, IntKind.signed]; omega
      have q0 := xr.cell 0
      have q1 := xr.cell 1
      have q2 := xr.cell 2
      have q3 := xr.cell 3
      simp only [List.getElem?_toArray, List.getElem?_cons_zero, List.getElem?_cons_succ] at q0 q1 q2 q3
      have hh := hasq_c S c hlt z0
      have hstep := acc_succ S c
      cases hb : hasS S c
      · rw [hb] at hh hstep
        have hstep : accS S (c + 1) = accS S c := hstep
        go_wp2_with fail
        (with_reducible refine hh.mono ?_)
        rintro e w2 ⟨rfl, hb2⟩
        have hown2 := own_below hown hb2
        have hB2 : Below wa.heap.size wa w2 := via hb2 hB
        go_wp2
        go_roundw
        case rel => exact ⟨c + 1, by go_num, by omega, by rw [hstep]; exact hown2, hB2⟩
        case measure => simp [intOf]; omega
      · rw [hb] at hh hstep
        have HSTEP := Lib.hid (show accS S (c + 1) = stretch (accS S c) c from hstep)
        clear hstep
        have hlen := acc_len S c
        have hby := span_bytes S c hc
        have hal := acc_lt S c
        go_wp2_with fail
        (with_reducible refine hh.mono ?_)
        rintro e w2 ⟨rfl, hb2⟩
        have hown2 := own_below hown hb2
        have hB2 : Below wa.heap.size wa w2 := via hb2 hB
        have zB2 := hB2.size
        clear hh hown hB xr q0 q1 q2 q3 zB hb2 hb
        obtain ⟨acc, hacc⟩ : ∃ acc, accS S c = acc := ⟨_, rfl⟩
        have hstep := HSTEP.out
        rw [hacc] at hown2 hstep hlen hby hal
        clear hacc HSTEP
        by_cases hne : acc = []
        · subst hne
          obtain ⟨A, cp, rfl⟩ : ∃ A cp, lv = .slice A 0 cp := by
            rcases hown2.2 with ⟨h, _⟩ | ⟨g, cap, cur, h, _⟩
            · exact ⟨_, _, h⟩
            · exact ⟨_, _, h⟩
          have HST := Lib.hid (show accS S (c + 1) = [] ++ [(c, c)] from hstep)
          clear hstep hby hal
          go_wp2_with (at_builtin; refine wpList_append_lies _ rfl _ _ 118 rfl wa.heap.size 120 i0 (.agg #[.int .u8 0, .int .u8 0]) 2 2 Tryd.underlying118 hi0 hz0 hz1 hz2 rfl (by decide) _ ([] : List (Nat × Nat)).length (spCells ([] : List (Nat × Nat))) rfl (hown2.alloc _) ⟨World.heap w2 |>.size, 0, none⟩ 1 1 [.int .u8 c, .int .u8 c] rfl rfl (World.news_of_block (heap_alloc_new w2 _)) (by intro u hu; simp at hu; rcases hu with rfl | rfl <;> rfl) (by simp; try omega) (by unfold maxLen; simp; try omega) (by simp; try omega) (by rw [World.size_alloc]; omega) ((w2).heap.size + 1) (by rw [World.size_alloc]) ?_)
          intro g5 cap5 w5 hown5 hgrow hat hlt5
          have hB5 : Below wa.heap.size wa w5 := (hB2.alloc (by omega) _).grown hgrow (by rw [World.size_alloc]; omega) (fun b hb => (hown2.lt b hb).1)
          have HOWN := Lib.hid hown5
          clear hgrow hat hlt5 hown5
          go_wp2
          go_roundw
          case rel =>
            refine ⟨c + 1, by go_num, by omega, ?_, hB5⟩
            rw [HST.out, spCells_app, List.length_append]
            first | exact HOWN.out | (rw [za]; exact HOWN.out)
          case measure => simp [intOf]; omega
        · obtain ⟨l, a, b, rfl⟩ : ∃ l a b, acc = l ++ [(a, b)] := ⟨acc.dropLast, (acc.getLast hne).1, (acc.getLast hne).2, (List.dropLast_concat_getLast hne).symm⟩
          have hll : (l ++ [(a, b)]).length = l.length + 1 := by simp
          have ha := hby (a, b) (List.mem_append_right _ (List.mem_singleton.2 rfl))
          have hbc := hal (a, b) (List.mem_append_right _ (List.mem_singleton.2 rfl))
          simp only at ha hbc
          obtain ⟨g, cap, rfl⟩ : ∃ g cap, lv = .slice (some ⟨g, 0, none⟩) (l.length + 1) cap := by
            rcases hown2.2 with ⟨_, h⟩ | ⟨g, cap, cur, h, _⟩
            · rw [hll] at h; omega
            · rw [hll] at h; exact ⟨_, _, h⟩
          rw [hll] at hown2 hlen
          obtain ⟨_, _, _, hbg, _, _, cs, hbk, _, _⟩ := row_blk hown2
          have kc0 := World.ownsRow.cellAt hown2 (l.length * 2 + 1) (by omega)
          have kc : w2.cell? ⟨g, l.length * 2 + 1, none⟩ = some (.int .u8 b) := by
            refine kc0.trans ?_
            rw [spCells_app, List.getElem?_append_right (by rw [spCells_len]; omega), spCells_len]
            simp
          clear kc0
          have kf := hbk.loose (l.length * 2 + 1)
          have dl : decide ((0 : Int) < ((l.length + 1 : Nat) : Int)) = true := by simp
          by_cases hbc1 : b + 1 = c
          · have HST := Lib.hid (show accS S (c + 1) = l ++ [(a, c)] by rw [hstep, ← hbc1]; exact stretch_near _ _ _)
            have d : (((b : Nat) : Int) == ((c : Nat) : Int) - 1) = true := by simp; omega
            have hput := row_put l a b c (n := l.length + 1) (by simp) hown2
            have hB3 : Below wa.heap.size wa (w2.setCell ⟨g, l.length * 2 + 1, none⟩ (.int .u8 c)) := hB2.setCell (p := ⟨g, l.length * 2 + 1, none⟩) hbg _
            clear hstep hby hal
            go_wp2
            go_roundw
            case rel =>
              refine ⟨c + 1, by go_num, by omega, ?_, hB3⟩
              rw [HST.out, List.length_append]
              exact hput
            case measure => simp [intOf]; omega
          · have HST := Lib.hid (show accS S (c + 1) = (l ++ [(a, b)]) ++ [(c, c)] by rw [hstep]; exact stretch_far _ _ (by intro a' b' e; rw [List.getLast?_append] at e; simp at e; omega))
            have d : (((b : Nat) : Int) == ((c : Nat) : Int) - 1) = false := by simp; omega
            clear hstep hby hal
            go_wp2_with (at_builtin; refine wpList_append_lies _ rfl _ _ 118 rfl wa.heap.size 120 i0 (.agg #[.int .u8 0, .int .u8 0]) 2 2 Tryd.underlying118 hi0 hz0 hz1 hz2 rfl (by decide) _ (l.length + 1) (spCells (l ++ [(a, b)])) rfl (hown2.alloc _) ⟨World.heap w2 |>.size, 0, none⟩ 1 1 [.int .u8 c, .int .u8 c] rfl rfl (World.news_of_block (heap_alloc_new w2 _)) (by intro u hu; simp at hu; rcases hu with rfl | rfl <;> rfl) (by omega) (by unfold maxLen; omega) (by omega) (by rw [World.size_alloc]; omega) ((w2).heap.size + 1) (by rw [World.size_alloc]) ?_)
            intro g5 cap5 w5 hown5 hgrow hat hlt5
            have hB5 : Below wa.heap.size wa w5 := (hB2.alloc (by omega) _).grown hgrow (by rw [World.size_alloc]; omega) (fun b hb => (hown2.lt b hb).1)
            have HOWN := Lib.hid hown5
            clear hgrow hat hlt5 hown5
            go_wp2
            go_roundw
            case rel =>
              refine ⟨c + 1, by go_num, by omega, ?_, hB5⟩
              rw [HST.out, spCells_app, List.length_append, List.length_append]
              first | exact HOWN.out | (rw [za]; exact HOWN.out)
            case measure => simp [intOf]; omega
    · have hc2 : c = 256 := by omega
      subst hc2
      rw [acc_all] at hown
      obtain ⟨hin, hlen⟩ := spansF_ok S 257 0
      rw [show spansF S 257 0 = spansS S from rfl] at hin hlen
      obtain ⟨l, hl⟩ : ∃ l, spansS S = l := ⟨_, rfl⟩
      have ways := fun h => text_ways S hS l hl h
      rw [hl] at hown hin hlen
      rw [show ((256 : Nat) : Int) = 256 from rfl]
      have hB0 : Below w.heap.size w z0 := via hB ba
      by_cases hnil : l = []
      · subst hnil
        obtain ⟨A, cp, rfl⟩ : ∃ A cp, lv = .slice A 0 cp := by
          rcases hown.2 with ⟨h, _⟩ | ⟨g, cap, cur, h, _⟩
          · exact ⟨_, _, h⟩
          · exact ⟨_, _, h⟩
        have hz : SB = [91, 94, 0, 45, 255, 93] := by rw [← HSB.out]; unfold setB; rw [if_pos hl]
        subst hz
        clear hown hin hlen ways xr
        go_wp2
        go_ret
        exact ⟨rfl, hB0⟩
      have hn : 0 < l.length := List.length_pos_iff.2 hnil
      have ways := ways hnil
      rw [HSB.out] at ways
      obtain ⟨g, cap, rfl⟩ : ∃ g cap, lv = .slice (some ⟨g, 0, none⟩) l.length cap := by
        rcases hown.2 with ⟨_, h⟩ | ⟨g, cap, cur, h, _⟩
        · omega
        · exact ⟨g, cap, h⟩
      have hcell : ∀ (W : World), Below z0.heap.size z0 W → ∀ (i : Nat) (h : i < l.length), W.cell? ⟨g, i * 2, none⟩ = some (.int .u8 (l[i]'h).1) ∧ W.cell? ⟨g, i * 2 + 1, none⟩ = some (.int .u8 (l[i]'h).2) := by
        intro W hW i h
        have ho := own_below hown hW
        have h1 := World.ownsRow.cellAt ho (i * 2) (by omega)
        have h2 := World.ownsRow.cellAt ho (i * 2 + 1) (by omega)
        obtain ⟨h3, h4⟩ := sp_at l i h
        exact ⟨h1.trans h3, h2.trans h4⟩
      have HC := Lib.hid hcell
      have HIN := Lib.hid hin
      clear hcell hin hown hl HSB xr
      obtain ⟨e0, e1⟩ := HC.out z0 (Below.refl _ _) 0 hn
      simp only [Nat.zero_mul, Nat.zero_add] at e0 e1
      rcases ways with ⟨rfl, hz⟩ | ⟨a, rfl, hz⟩ | ⟨w1, w2, hz⟩
      · subst hz
        have e0 : z0.cell? ⟨g, 0, none⟩ = some (.int .u8 0) := e0
        have e1 : z0.cell? ⟨g, 1, none⟩ = some (.int .u8 255) := e1
        clear HC HIN
        go_wp2
        go_ret
        exact ⟨rfl, hB0⟩
      · have ha := HIN.out (a, a) (List.mem_singleton.2 rfl)
        have e0 : z0.cell? ⟨g, 0, none⟩ = some (.int .u8 a) := e0
        have e1 : z0.cell? ⟨g, 1, none⟩ = some (.int .u8 a) := e1
        have hl1 : ([(a, a)] : List (Nat × Nat)).length = 1 := rfl
        have HZ := Lib.hid hz
        clear hz HC HIN
        simp only at ha
        rw [hl1]
        have d1 : (((a : Nat) : Int) == ((a : Nat) : Int)) = true := by simp
        have hw : (((a : Nat) : Int) == 0) = false ∨ ((((a : Nat) : Int) == 0) = true ∧ (((a : Nat) : Int) == 255) = false) := by
          by_cases h : a = 0
          · right; exact ⟨by simp [h], by simp; omega⟩
          · left; simp; omega
        rcases hw with d2 | ⟨d2, d3⟩
        all_goals
          go_wp2_with fail
          go_simp
          go_quiet (fail)
          go_wp2_with fail
          have hB3 : Below w.heap.size w (z0.drewN nq) := below_dn hB0 nq
          clear e0 e1 hB hB0
          generalize z0.drewN nq = z3 at *
          generalize hSP : (⟨#[92, 124, 40, 41, 42, 43, 63, 123, 46, 91, 94, 36]⟩ : ByteArray) = SP
          have hsz : SP.size = 12 := by rw [← hSP]; rfl
          have HSP := Lib.hid (show SP.data.toList = specL by rw [← hSP])
          clear hSP
          go_loopw [7] (fun v wr => ∃ i : Nat, v = .int .i64 i ∧ i ≤ SP.size ∧ Hid (∀ x ∈ SP.data.toList.take i, x ≠ UInt8.ofNat a) ∧ Below w.heap.size w wr) (fun v _ => SP.size - (intOf v).toNat)
          case atStart => exact ⟨0, rfl, by omega, Lib.hid (by simp), hB3⟩
          case round =>
            obtain ⟨i, rfl, hi, HT, hBr⟩ := hrel
            by_cases hlt : i < SP.size
            · by_cases hq : (SP[i]'hlt).toNat = a
              · have d5 : (((SP[i]'hlt).toNat : Int) == ((a : Nat) : Int)) = true := by simp [hq]
                have hz : SB = [92, UInt8.ofNat a] := by
                  rw [HZ.out]
                  unfold toldB
                  rw [if_pos]
                  rw [← HSP.out]
                  have hm : SP[i]'hlt ∈ SP.data.toList := List.getElem_mem (l := SP.data.toList) (n := i) (by simpa using hlt)
                  have he : SP[i]'hlt = UInt8.ofNat a := by rw [← hq]; simp
                  rw [he] at hm
                  exact List.elem_eq_true_of_mem hm
                subst hz
                clear hq HT HSP
                go_wp2
                go_ret
                exact ⟨ret_str (bytes_ext (by simp [ByteArray.data_append])), hBr.alloc hBr.size _⟩
              · have d5 : (((SP[i]'hlt).toNat : Int) == ((a : Nat) : Int)) = false := by simp; omega
                have HT2 := Lib.hid (show ∀ x ∈ SP.data.toList.take (i + 1), x ≠ UInt8.ofNat a from by
                  intro x hx
                  rw [List.take_add_one, List.mem_append] at hx
                  rcases hx with hx | hx
                  · exact HT.out x hx
                  · rw [List.getElem?_eq_getElem (by simpa using hlt)] at hx
                    simp at hx
                    intro e
                    rw [e] at hx
                    have he : (SP[i]'hlt) = UInt8.ofNat a := hx.symm
                    exact hq (by rw [he]; simp; omega))
                clear hq HT
                go_wp2
                go_roundw
                case rel => exact ⟨i + 1, by go_num, by omega, HT2, hBr⟩
                case measure => simp [intOf]; omega
            · have hi2 : i = SP.size := by omega
              have hz : SB = [UInt8.ofNat a] := by
                rw [HZ.out]
                unfold toldB
                rw [if_neg]
                intro hc
                rw [← HSP.out] at hc
                have hm := List.mem_of_elem_eq_true hc
                exact HT.out _ (by rw [hi2, List.take_of_length_le (by simp)]; exact hm) rfl
              subst hz
              clear HT HSP
              go_wp2
              go_ret
              exact ⟨ret_str (bytes_ext (by simp)), hBr.alloc hBr.size _⟩
      · have HZ := Lib.hid hz
        clear hz
        have hw : (((l.length : Nat) : Int) == 1) = false ∨ ((((l.length : Nat) : Int) == 1) = true ∧ ((((l[0]'hn).1 : Nat) : Int) == (((l[0]'hn).2 : Nat) : Int)) = false ∧ (((((l[0]'hn).1 : Nat) : Int) == 0) = false ∨ (((((l[0]'hn).1 : Nat) : Int) == 0) = true ∧ ((((l[0]'hn).2 : Nat) : Int) == 255) = false))) := by
          by_cases h1 : l.length = 1
          · right
            obtain ⟨⟨a, b⟩, rfl⟩ := List.length_eq_one_iff.1 h1
            refine ⟨by simp, ?_, ?_⟩
            · simp only [List.getElem_cons_zero, beq_eq_false_iff_ne]
              intro e
              exact w1 ⟨a, by rw [show b = a by omega]⟩
            · simp only [List.getElem_cons_zero]
              by_cases h2 : a = 0
              · right
                refine ⟨by simp [h2], ?_⟩
                rw [beq_eq_false_iff_ne]
                intro e
                exact w2 (by rw [h2, show b = 255 by omega])
              · left; rw [beq_eq_false_iff_ne]; omega
          · left; rw [beq_eq_false_iff_ne]; omega
        have hp0 := HIN.out (l[0]'hn) (List.getElem_mem hn)
        clear w1 w2
        generalize hP : l[0]'hn = P at *
        obtain ⟨a0, b0⟩ := P
        simp only at e0 e1 hw hp0
        clear hP
        rcases hw with h1 | ⟨h1, h2, h3 | ⟨h3, h4⟩⟩
        all_goals
          go_wp2_with fail
          go_simp
          go_quiet (fail)
          go_wp2_with fail
          have hB3 : Below z0.heap.size z0 (z0.drewN nq) := below_dn (Below.refl _ _) nq
          clear e0 e1 hp0
          generalize z0.drewN nq = z3 at *
          go_loopw [8, 9] (fun o v wr => ∃ (i : Nat) (O : ByteArray), v = .int .i64 i ∧ i ≤ l.length ∧ o = .string O ∧ Hid (O.data.toList = 91 :: (l.take i).flatMap spanB) ∧ O.size ≤ 1 + 5 * i ∧ Below z0.heap.size z0 wr) (fun _ v _ => l.length - (intOf v).toNat)
          case atStart => exact ⟨0, ⟨#[91]⟩, rfl, by omega, rfl, Lib.hid rfl, by decide, hB3⟩
          case round =>
            obtain ⟨i, O, rfl, hi, rfl, HO, hOs, hBr⟩ := hrel
            clear hB3
            by_cases hlt : i < l.length
            · obtain ⟨e0, e1⟩ := HC.out wr hBr i hlt
              have hp := HIN.out (l[i]'hlt) (List.getElem_mem hlt)
              have htk : (l.take (i + 1)).flatMap spanB = (l.take i).flatMap spanB ++ spanB (l[i]'hlt) := by
                rw [List.take_succ_eq_append_getElem hlt, List.flatMap_append]; simp
              obtain ⟨P, hP⟩ : ∃ P, l[i]'hlt = P := ⟨_, rfl⟩
              rw [hP] at e0 e1 hp htk
              clear hP
              obtain ⟨a, b⟩ := P
              simp only at e0 e1 hp
              rw [it_span a b hp.1 hp.2] at htk
              have HTK := Lib.hid htk
              clear htk
              have itl : ∀ x y, (itB x y).length ≤ 5 := by
                intro x y
                unfold itB
                have h1 := inB_len (UInt8.ofNat x)
                have h2 := inB_len (UInt8.ofNat y)
                rw [List.length_append]
                split
                · simp; omega
                · simp; omega
              have tw : ∃ U : ByteArray, (a = 94 ∧ U = O ++ ⟨#[92]⟩) ∨ (a ≠ 94 ∧ U = O) := by
                by_cases h : a = 94
                · exact ⟨_, Or.inl ⟨h, rfl⟩⟩
                · exact ⟨_, Or.inr ⟨h, rfl⟩⟩
              have hbw : (((a : Nat) : Int) != ((b : Nat) : Int)) = false ∨ ((((a : Nat) : Int) != ((b : Nat) : Int)) = true ∧ ((((b : Nat) : Int) == 94) = true ∨ (((b : Nat) : Int) == 94) = false)) := by
                by_cases h : a = b
                · left; simp [h]
                · right
                  refine ⟨by simp; omega, ?_⟩
                  cases hh : (((b : Nat) : Int) == 94)
                  · right; rfl
                  · left; rfl
              have ci := fun (x y : Nat) (hx : x < 256) (hy : y < 256) (W : World) => items1_c x y hx hy W.heap.size 1 1 (W.alloc (.cells #[.int .u8 x, .int .u8 y] 120)) (by rw [(Blk.new W 120 _).cell 0]; rfl) (by rw [(Blk.new W 120 _).cell 1]; rfl)
              have z92 : (⟨#[92]⟩ : ByteArray).size = 1 := rfl
              have z45 : (⟨#[45, 92, 94]⟩ : ByteArray).size = 3 := rfl
              have zit : ∀ x y, (⟨(itB x y).toArray⟩ : ByteArray).size ≤ 5 := by
                intro x y
                have := itl x y
                simpa [ByteArray.size] using this
              clear itl
              have Z92 := Lib.hid z92
              by_cases ca : a = 94
              · have d1 : (((a : Nat) : Int) == 94) = true := by simp [ca]
                have HCA := Lib.hid ca
                clear ca tw
                rcases hbw with d2 | ⟨d2, d3 | d3⟩
                rotate_left
                · exfalso
                  have := HCA.out
                  simp at d2 d3
                  omega
                all_goals
                  have hcond : ¬ (a ≠ b ∧ b = 94) := by
                    simp at d2
                    first
                      | (intro h; exact h.1 (by omega))
                      | (simp at d3; intro h; omega)
                  have HTK2 := Lib.hid (show (l.take (i + 1)).flatMap spanB = (l.take i).flatMap spanB ++ ([92] ++ itB a b) by rw [HTK.out, if_pos HCA.out, if_neg hcond])
                  have ct := ci a b hp.1 hp.2
                  have zt := zit a b
                  obtain ⟨T, hT⟩ : ∃ T : ByteArray, T = ⟨(itB a b).toArray⟩ := ⟨_, rfl⟩
                  rw [← hT] at ct zt
                  have HT := Lib.hid (show T.data.toList = itB a b by rw [hT])
                  clear hT ci zit hcond
                  go_wp2_with fail
                  go_simp
                  go_quiet (fail)
                  have hB4 : Below z0.heap.size z0 (wr.drewN nq) := below_dn hBr nq
                  have e0 : (wr.drewN nq).cell? ⟨g, i * 2, none⟩ = some (.int .u8 a) := e0
                  have e1 : (wr.drewN nq).cell? ⟨g, i * 2 + 1, none⟩ = some (.int .u8 b) := e1
                  generalize wr.drewN nq = w4 at *
                  go_wp2_with fail
                  (with_reducible refine (ct _).mono ?_)
                  rintro x w5 ⟨rfl, b5⟩
                  have hB5 : Below z0.heap.size z0 w5 := via b5 (hB4.alloc hB4.size _)
                  go_wp2
                  go_roundw
                  case rel =>
                    refine ⟨i + 1, _, by go_num, by omega, rfl, Lib.hid ?_, ?_, hB5⟩
                    · rw [HTK2.out]; simp only [ByteArray.data_append, Array.toList_append, HO.out, HT.out]; simp
                    · have hd : ((O ++ ⟨#[92]⟩) ++ T).data.toList.length ≤ 1 + 5 * (i + 1) := by
                        have h1 := flat_span (l.take (i + 1))
                        rw [HTK2.out] at h1
                        simp only [ByteArray.data_append, Array.toList_append, HO.out, HT.out]
                        simp only [List.length_append, List.length_cons, List.length_nil, List.length_take] at h1 ⊢
                        omega
                      rw [← Lib.size_eq] at hd
                      exact hd
                  case measure => simp [intOf]; omega
              · have d1 : (((a : Nat) : Int) == 94) = false := by simp; omega
                have HCA := Lib.hid ca
                clear ca tw
                rcases hbw with d2 | ⟨d2, d3 | d3⟩
                rotate_left
                · have hcond : a ≠ b ∧ b = 94 := by
                    simp at d2 d3
                    exact ⟨by omega, by omega⟩
                  have HTK2 := Lib.hid (show (l.take (i + 1)).flatMap spanB = (l.take i).flatMap spanB ++ (itB a a ++ [45, 92, 94]) by rw [HTK.out, if_neg HCA.out, if_pos hcond]; rfl)
                  have ct := ci a a hp.1 hp.1
                  have zt := zit a a
                  obtain ⟨T, hT⟩ : ∃ T : ByteArray, T = ⟨(itB a a).toArray⟩ := ⟨_, rfl⟩
                  rw [← hT] at ct zt
                  have HT := Lib.hid (show T.data.toList = itB a a by rw [hT])
                  clear hT ci zit hcond
                  go_wp2_with fail
                  go_simp
                  go_quiet (fail)
                  have hB4 : Below z0.heap.size z0 (wr.drewN nq) := below_dn hBr nq
                  have e0 : (wr.drewN nq).cell? ⟨g, i * 2, none⟩ = some (.int .u8 a) := e0
                  have e1 : (wr.drewN nq).cell? ⟨g, i * 2 + 1, none⟩ = some (.int .u8 b) := e1
                  generalize wr.drewN nq = w4 at *
                  have ct2 : Calls Tryd.prog 75 #[.slice (some ⟨w4.heap.size, 0, none⟩) 1 1] ((w4.alloc (.cells #[.int .u8 a, .int .u8 a] 120)).drew) fun x w' => x = .returned (.string T) ∧ Below w4.heap.size w4 w' :=
                    (ct w4.drew).mono (fun x w' h => ⟨h.1, via h.2 ((Below.refl _ w4).drew.alloc (Nat.le_refl _) _)⟩)
                  clear ct
                  go_wp2_with fail
                  go_region_law (first
                    | (go_simp
                       go_at_call 75
                       (with_reducible refine ct2.mono ?_)
                       rintro x w5 ⟨rfl, b5⟩))
                  all_goals
                    have hB5 : Below z0.heap.size z0 w5 := via b5 hB4
                    go_wp2
                    go_roundw
                    case rel =>
                      refine ⟨i + 1, _, by go_num, by omega, rfl, Lib.hid ?_, ?_, hB5⟩
                      · rw [HTK2.out]; simp only [ByteArray.data_append, Array.toList_append, HO.out, HT.out]; simp
                      · have hd : ((O ++ T) ++ ⟨#[45, 92, 94]⟩).data.toList.length ≤ 1 + 5 * (i + 1) := by
                          have h1 := flat_span (l.take (i + 1))
                          rw [HTK2.out] at h1
                          simp only [ByteArray.data_append, Array.toList_append, HO.out, HT.out]
                          simp only [List.length_append, List.length_cons, List.length_nil, List.length_take] at h1 ⊢
                          omega
                        rw [← Lib.size_eq] at hd
                        exact hd
                    case measure => simp [intOf]; omega
                all_goals
                  have hcond : ¬ (a ≠ b ∧ b = 94) := by
                    simp at d2
                    first
                      | (intro h; exact h.1 (by omega))
                      | (simp at d3; intro h; omega)
                  have HTK2 := Lib.hid (show (l.take (i + 1)).flatMap spanB = (l.take i).flatMap spanB ++ itB a b by rw [HTK.out, if_neg HCA.out, if_neg hcond]; rfl)
                  have ct := ci a b hp.1 hp.2
                  have zt := zit a b
                  obtain ⟨T, hT⟩ : ∃ T : ByteArray, T = ⟨(itB a b).toArray⟩ := ⟨_, rfl⟩
                  rw [← hT] at ct zt
                  have HT := Lib.hid (show T.data.toList = itB a b by rw [hT])
                  clear hT ci zit hcond
                  go_wp2_with fail
                  go_simp
                  go_quiet (fail)
                  have hB4 : Below z0.heap.size z0 (wr.drewN nq) := below_dn hBr nq
                  have e0 : (wr.drewN nq).cell? ⟨g, i * 2, none⟩ = some (.int .u8 a) := e0
                  have e1 : (wr.drewN nq).cell? ⟨g, i * 2 + 1, none⟩ = some (.int .u8 b) := e1
                  generalize wr.drewN nq = w4 at *
                  go_wp2_with fail
                  (with_reducible refine (ct _).mono ?_)
                  rintro x w5 ⟨rfl, b5⟩
                  have hB5 : Below z0.heap.size z0 w5 := via b5 (hB4.alloc hB4.size _)
                  go_wp2
                  go_roundw
                  case rel =>
                    refine ⟨i + 1, _, by go_num, by omega, rfl, Lib.hid ?_, ?_, hB5⟩
                    · rw [HTK2.out]; simp only [ByteArray.data_append, Array.toList_append, HO.out, HT.out]; simp
                    · have hd : (O ++ T).data.toList.length ≤ 1 + 5 * (i + 1) := by
                        have h1 := flat_span (l.take (i + 1))
                        rw [HTK2.out] at h1
                        simp only [ByteArray.data_append, Array.toList_append, HO.out, HT.out]
                        simp only [List.length_append, List.length_cons, List.length_nil, List.length_take] at h1 ⊢
                        omega
                      rw [← Lib.size_eq] at hd
                      exact hd
                  case measure => simp [intOf]; omega
            · have hi2 : i = l.length := by omega
              subst hi2
              have hSB : SB = O.data.toList ++ [93] := by rw [HO.out, HZ.out, List.take_length]; simp
              have z93 : (⟨#[93]⟩ : ByteArray).size = 1 := rfl
              subst hSB
              clear HO HZ
              go_wp2
              go_ret
              exact ⟨ret_str (bytes_ext (by simp [ByteArray.data_append])), via hBr hB0⟩
end EreX
end Go.Proofs.YtpdmjegbjcefjaaDoor
