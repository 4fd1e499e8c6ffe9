/- The walk of set. Conditions: none. -/
import Derived.Test.YtpdmjegbjcefjaaDoorEreSp
import Derived.Deep.DeepCutAuto
import Derived.Deep.CutBlock
namespace Go.Proofs.YtpdmjegbjcefjaaDoor
set_option linter.unusedVariables false
set_option linter.unusedSimpArgs false
open Go.RowKit
namespace EreX
open EreP EreW
abbrev specialB : ByteArray := ⟨#[92, 124, 40, 41, 42, 43, 63, 123, 46, 91, 94, 36]⟩
abbrev endsB : ByteArray := ⟨#[93, 45, 92, 94]⟩
/-- A span's text. -/
def spanB (p : Nat × Nat) : Bs := toldB (UInt8.ofNat p.1) endsB.data.toList ++ (if p.2 = p.1 then [] else 45 :: toldB (UInt8.ofNat p.2) endsB.data.toList)
/-- A set's text. -/
def setB (s : Nat) : Bs :=
  if spansS s = [] then [91, 94, 0, 45, 255, 93] else if s = allS then [46]
  else match spansS s with
    | [(a, b)] => if a = b then toldB (UInt8.ofNat a) specialB.data.toList else [91] ++ spanB (a, b) ++ [93]
    | l => [91] ++ l.flatMap spanB ++ [93]
theorem endS_in (s : Nat) : ∀ f c, c ≤ 256 → endS s f c ≤ 256 := fun f c h => (endS_le s f c h).2
theorem spansF_ok (s : Nat) : ∀ f c, (∀ p ∈ spansF s f c, p.1 < 256 ∧ p.2 < 256) ∧ (spansF s f c).length ≤ f := by
  intro f
  induction f with
  | zero => intro c; simp [spansF]
  | succ f ih =>
    intro c
    unfold spansF
    split
    · next hc =>
      have h1 := endS_in s (256 - c) c (by omega)
      obtain ⟨h2, h3⟩ := ih (endS s (256 - c) c + 1)
      split
      · next hlt =>
        refine ⟨fun p hp => ?_, ?_⟩
        · simp only [List.cons_append, List.nil_append, List.mem_cons] at hp
          rcases hp with rfl | hp
          · exact ⟨hc, by simp; omega⟩
          · exact h2 p hp
        · simp; omega
      · refine ⟨fun p hp => h2 p (by simpa using hp), by simp; omega⟩
    · simp
theorem told_len (c : UInt8) (m : Bs) : (toldB c m).length ≤ 2 := by unfold toldB; split <;> simp
theorem span_len (p : Nat × Nat) : (spanB p).length ≤ 5 := by
  unfold spanB
  have h1 := told_len (UInt8.ofNat p.1) endsB.data.toList
  have h2 := told_len (UInt8.ofNat p.2) endsB.data.toList
  rw [List.length_append]
  split
  · rw [List.length_nil]; omega
  · rw [List.length_cons]; omega
theorem told_n (a : Nat) (ha : a < 256) (m : ByteArray) (w : World) : Calls Tryd.prog 83 #[.int .u8 a, .string m] w fun x w' => x = .returned (.string ⟨(toldB (UInt8.ofNat a) m.data.toList).toArray⟩) ∧ Below w.heap.size w w' := by
  have := told_c (UInt8.ofNat a) m w
  rwa [show (UInt8.ofNat a).toNat = a by simp; omega] at this
theorem not_0 (w : World) : Calls Tryd.prog 82 #[.agg #[.int .u64 0, .int .u64 0, .int .u64 0, .int .u64 0]] w fun x w' => x = .returned (setV allS) ∧ Below w.heap.size w w' := by
  have := not_c 0 w
  rw [show notS 0 = allS by unfold notS; simp] at this
  exact this
theorem sp_at (l : List (Nat × Nat)) : ∀ (i : Nat) (h : i < l.length), (spCells l)[i * 2]? = some (.int .u8 (l[i]'h).1) ∧ (spCells l)[i * 2 + 1]? = some (.int .u8 (l[i]'h).2) := by
  induction l with
  | nil => intro i h; exact absurd h (Nat.not_lt_zero _)
  | cons p l ih =>
    intro i h
    cases i with
    | zero => simp [spCells]
    | succ i =>
      have := ih i (by simpa using h)
      have e : spCells (p :: l) = .int .u8 p.1 :: .int .u8 p.2 :: spCells l := rfl
      rw [e, show (i + 1) * 2 = i * 2 + 1 + 1 by omega]
      exact this
set_option maxHeartbeats 3200000 in
set_option maxRecDepth 100000 in
theorem set_c (S : Nat) (hS : S < 2 ^ 256) (w : World) : Calls Tryd.prog 70 #[setV S] w fun x w' => x = .returned (.string ⟨(setB S).toArray⟩) ∧ Below w.heap.size w w' := by
  obtain ⟨wa, hwa⟩ : ∃ z : World, z = w.alloc (.cells #[.int .u64 (word S 0), .int .u64 (word S 1), .int .u64 (word S 2), .int .u64 (word S 3)] 24) := ⟨_, rfl⟩
  have xa : Blk wa w.heap.size 24 #[.int .u64 (word S 0), .int .u64 (word S 1), .int .u64 (word S 2), .int .u64 (word S 3)] := by rw [hwa]; exact Blk.new _ _ _
  have ba : Below w.heap.size w wa := by rw [hwa]; go_grown
  have cs := spans_c S wa
  obtain ⟨hin, hlen⟩ := spansF_ok S 257 0
  have hset := fun W => set_same S allS hS (by decide) W
  simp only [wordsV] at hset
  obtain ⟨SB, hSB⟩ : ∃ SB, setB S = SB := ⟨_, rfl⟩
  rw [hSB]
  have HSB := Lib.hid hSB
  clear hSB
  unfold SpPost at cs
  rw [show spansF S 257 0 = spansS S from rfl] at hin hlen
  obtain ⟨l, hl⟩ : ∃ l, spansS S = l := ⟨_, rfl⟩
  rw [hl] at cs hin hlen
  have HL := Lib.hid hl
  clear hl
  go_enter Tryd.func70, Tryd.ntmps70
  go_wp2_with fail
  rw [← hwa]
  clear hwa
  (with_reducible refine cs.mono ?_)
  rintro x w1 ⟨lv, rfl, hown, hb1⟩
  have b1 : Below w.heap.size w w1 := via hb1 ba
  have x1 := xa.next hb1
  have z1 := b1.size
  have q0 := x1.cell 0
  have q1 := x1.cell 1
  have q2 := x1.cell 2
  have q3 := x1.cell 3
  simp only [List.getElem?_toArray, List.getElem?_cons_zero, List.getElem?_cons_succ] at q0 q1 q2 q3
  clear cs
  have hrest : 0 < l.length → ∃ g cap, lv = .slice (some ⟨g, 0, none⟩) l.length cap ∧ ∀ (W : World), Below w1.heap.size w1 W → ∀ (i : Nat) (h : i < l.length), W.cell? ⟨g, i * 2, none⟩ = some (.int .u8 (l[i]'h).1) ∧ W.cell? ⟨g, i * 2 + 1, none⟩ = some (.int .u8 (l[i]'h).2) := by
    intro hn
    obtain ⟨g, cap, rfl⟩ : ∃ g cap, lv = .slice (some ⟨g, 0, none⟩) l.length cap := by
      rcases hown.2 with ⟨_, h⟩ | ⟨g, cap, cur, h, _⟩
      · omega
      · exact ⟨g, cap, h⟩
    refine ⟨g, cap, rfl, fun W hW i h => ?_⟩
    have ho := own_below hown hW
    have h1 := World.ownsRow.cellAt ho (i * 2) (by omega)
    have h2 := World.ownsRow.cellAt ho (i * 2 + 1) (by omega)
    obtain ⟨h3, h4⟩ := sp_at l i h
    exact ⟨h1.trans h3, h2.trans h4⟩
  have HREST := Lib.hid hrest
  clear hrest
  have HIN0 := Lib.hid hin
  go_upto_block 0 with fail
  go_cut [] (fun wx => Below w1.heap.size w1 wx ∧ 0 < l.length ∧ Hid (SB = [91] ++ l.flatMap spanB ++ [93]))
  case first =>
    by_cases hnil : l = []
    · subst hnil
      have hz : SB = [91, 94, 0, 45, 255, 93] := by rw [← HSB.out]; unfold setB; rw [if_pos HL.out]
      subst hz
      rcases hown.2 with ⟨rfl, _⟩ | ⟨g, cap, cur, rfl, _⟩
      all_goals
        clear hown hin hlen
        go_wp2
        go_ret
        exact ⟨rfl, b1⟩
    have hn : 0 < l.length := List.length_pos_iff.2 hnil
    obtain ⟨g, cap, rfl⟩ : ∃ g cap, lv = .slice (some ⟨g, 0, none⟩) l.length cap := by
      rcases hown.2 with ⟨_, h⟩ | ⟨g, cap, cur, h, _⟩
      · omega
      · exact ⟨g, cap, h⟩
    have hcell : ∀ (W : World), Below w1.heap.size w1 W → ∀ (i : Nat) (h : i < l.length), W.cell? ⟨g, i * 2, none⟩ = some (.int .u8 (l[i]'h).1) ∧ W.cell? ⟨g, i * 2 + 1, none⟩ = some (.int .u8 (l[i]'h).2) := by
      intro W hW i h
      have ho := own_below hown hW
      have h1 := World.ownsRow.cellAt ho (i * 2) (by omega)
      have h2 := World.ownsRow.cellAt ho (i * 2 + 1) (by omega)
      obtain ⟨h3, h4⟩ := sp_at l i h
      exact ⟨h1.trans h3, h2.trans h4⟩
    have HC := Lib.hid hcell
    have HIN := Lib.hid hin
    clear hcell hin hown
    have n0 : (((l.length : Nat) : Int) == 0) = false := by simp; omega
    have cn := not_0 w1.drew
    have xd : Blk w1.drew w.heap.size 24 #[.int .u64 (word S 0), .int .u64 (word S 1), .int .u64 (word S 2), .int .u64 (word S 3)] := x1
    cases hall : (S == allS)
    rotate_left
    · rw [hall] at hset
      have hz : SB = [46] := by rw [← HSB.out]; unfold setB; rw [if_neg (by rw [HL.out]; exact hnil), if_pos (by simpa using hall)]
      subst hz
      go_wp2_with fail
      go_region_law (first
        | (go_simp
           go_at_call 82
           (with_reducible refine cn.mono ?_)
           rintro e w2 ⟨rfl, hb2⟩
           have x2 := xd.next hb2
           have k0 := x2.cell 0
           have k1 := x2.cell 1
           have k2 := x2.cell 2
           have k3 := x2.cell 3
           simp only [List.getElem?_toArray, List.getElem?_cons_zero, List.getElem?_cons_succ] at k0 k1 k2 k3
           clear x2))
      all_goals
        have hB2 : Below w.heap.size w w2 := via hb2 b1.drew
        go_wp2
        go_ret
        exact ⟨rfl, hB2⟩
    rw [hall] at hset
    have hS2 : S ≠ allS := by simpa using hall
    have hgen : (¬ ∃ a, l = [(a, a)]) → SB = [91] ++ l.flatMap spanB ++ [93] := by
      intro hno
      rw [← HSB.out]; unfold setB
      rw [HL.out, if_neg hnil, if_neg hS2]
      match l, hno with
      | [], _ => rfl
      | [(a, b)], hno =>
        have : ¬ a = b := fun e => hno ⟨a, by rw [e]⟩
        simp [this]
      | _ :: _ :: _, _ => rfl
    have hone : ∀ a, l = [(a, a)] → SB = toldB (UInt8.ofNat a) specialB.data.toList := by
      intro a e
      rw [← HSB.out]; unfold setB
      rw [HL.out, if_neg hnil, if_neg hS2, e]; simp
    have HGEN := Lib.hid hgen
    have HONE := Lib.hid hone
    clear hgen hone hS2
    go_wp2_with fail
    go_region_law (first
      | (go_simp
         go_at_call 82
         (with_reducible refine cn.mono ?_)
         rintro e w2 ⟨rfl, hb2⟩
         have x2 := xd.next hb2
         have k0 := x2.cell 0
         have k1 := x2.cell 1
         have k2 := x2.cell 2
         have k3 := x2.cell 3
         simp only [List.getElem?_toArray, List.getElem?_cons_zero, List.getElem?_cons_succ] at k0 k1 k2 k3
         clear x2))
    all_goals
      have hB2 : Below w.heap.size w w2 := via hb2 b1.drew
      have hB12 : Below w1.heap.size w1 w2 := via hb2 (Below.refl _ _).drew
      obtain ⟨e0, e1⟩ := HC.out w2 hB12 0 hn
      have hp0 := HIN.out (l[0]'hn) (List.getElem_mem hn)
      have hlast : (l.length = 1 ∧ (l[0]'hn).1 = (l[0]'hn).2) ∨ (((((l.length : Nat) : Int) == 1) = true ∧ ((((l[0]'hn).1 : Nat) : Int) == (((l[0]'hn).2 : Nat) : Int)) = false) ∨ (((l.length : Nat) : Int) == 1) = false) := by
        by_cases h1 : l.length = 1
        · by_cases h2 : (l[0]'hn).1 = (l[0]'hn).2
          · exact Or.inl ⟨h1, h2⟩
          · exact Or.inr (Or.inl ⟨by simp; omega, by simp; omega⟩)
        · exact Or.inr (Or.inr (by simp; omega))
      simp only [Nat.zero_mul, Nat.zero_add] at e0 e1
      generalize hP : l[0]'hn = P at *
      obtain ⟨a, b⟩ := P
      simp only at e0 e1 hlast hp0
      rcases hlast with ⟨h1, rfl⟩ | h1
      · have hl1 : l = [(a, a)] := by
          match l, h1, hn, hP with
          | [p], _, _, hP => have : p = (a, a) := hP; rw [this]
        have hz := HONE.out a hl1
        subst hz
        have n1 : (((l.length : Nat) : Int) == 1) = true := by simp; omega
        have n2 : (((a : Nat) : Int) == ((a : Nat) : Int)) = true := by simp
        have ct := fun W => told_n a hp0.1 specialB W
        clear hl1 h1
        go_wp2_with fail
        go_quiet (fail)
        go_wp2_with fail
        (with_reducible refine (ct _).mono ?_)
        rintro e w5 ⟨rfl, hb5⟩
        go_wp2
        go_ret
        exact ⟨rfl, via hb5 (show Below w.heap.size w (w2.drewN _) from ⟨hB2.os, hB2.tape, hB2.output, hB2.size, hB2.block⟩)⟩
      · have hz : SB = [91] ++ l.flatMap spanB ++ [93] := HGEN.out (by
          rintro ⟨x, hx⟩
          subst hx
          have : (a, b) = (x, x) := hP.symm
          injection this with e1 e2
          subst e1
          subst e2
          rcases h1 with ⟨_, h1⟩ | h1
          · simp at h1
          · simp at h1)
        have HZ := Lib.hid hz
        clear hz hP HC HIN HL HGEN HONE HSB hb2 hlen cn xd b1
        rcases h1 with ⟨h1, h2⟩ | h1
        all_goals
          go_wp2_with fail
          go_simp
          go_big_quiet (fail)
          clear hset q0 q1 q2 q3 k0 k1 k2 k3 x1
          go_wp2_with fail
          go_meet
          case rel => exact ⟨⟨hB12.os, hB12.tape, hB12.output, hB12.size, hB12.block⟩, hn, HZ⟩
  case rest =>
    obtain ⟨hB1, hn, HZ⟩ := hcut
    obtain ⟨g, cap, rfl, hc⟩ := HREST.out hn
    have HC := Lib.hid hc
    clear hc hown HREST HSB HL hset q0 q1 q2 q3 hin
    have hB : Below w.heap.size w wc := via hB1 b1
    go_wp2_with fail
    go_loopw [4, 40] (fun o v wr => ∃ (i : Nat) (O : ByteArray), v = .int .i64 i ∧ i ≤ l.length ∧ o = .string O ∧ Hid (O.data.toList = 91 :: (l.take i).flatMap spanB) ∧ O.size ≤ 1 + 5 * i ∧ Below w1.heap.size w1 wr) (fun _ v _ => l.length - (intOf v).toNat)
    case atStart => exact ⟨0, ⟨#[91]⟩, rfl, by omega, rfl, Lib.hid rfl, by decide, hB1⟩
    case round =>
      obtain ⟨i, O, rfl, hi, rfl, HO, hOs, hBr⟩ := hrel
      clear hB1 hB
      by_cases hlt : i < l.length
      · obtain ⟨e0, e1⟩ := HC.out wr hBr i hlt
        have hp := HIN0.out (l[i]'hlt) (List.getElem_mem hlt)
        have htk : (l.take (i + 1)).flatMap spanB = (l.take i).flatMap spanB ++ spanB (l[i]'hlt) := by
          rw [List.take_succ_eq_append_getElem hlt, List.flatMap_append]; simp
        obtain ⟨P, hP⟩ : ∃ P, l[i]'hlt = P := ⟨_, rfl⟩
        rw [hP] at e0 e1 hp htk
        clear hP
        obtain ⟨a, b⟩ := P
        simp only at e0 e1 hp
        have ct0 := fun W => told_n a hp.1 endsB W
        have ct1 := fun W => told_n b hp.2 endsB W
        have HTK := Lib.hid htk
        clear htk
        have hl0 := told_len (UInt8.ofNat a) endsB.data.toList
        have hl1 := told_len (UInt8.ofNat b) endsB.data.toList
        have hsp : spanB (a, b) = toldB (UInt8.ofNat a) endsB.data.toList ++ (if b = a then [] else 45 :: toldB (UInt8.ofNat b) endsB.data.toList) := rfl
        generalize toldB (UInt8.ofNat a) endsB.data.toList = ta at *
        generalize toldB (UInt8.ofNat b) endsB.data.toList = tb at *
        obtain ⟨T0, hT0⟩ : ∃ T : ByteArray, T = ⟨ta.toArray⟩ := ⟨_, rfl⟩
        obtain ⟨T1, hT1⟩ : ∃ T : ByteArray, T = ⟨tb.toArray⟩ := ⟨_, rfl⟩
        rw [← hT0] at ct0
        rw [← hT1] at ct1
        have hs0 : T0.size ≤ 2 := by rw [hT0]; simpa [ByteArray.size] using hl0
        have hs1 : T1.size ≤ 2 := by rw [hT1]; simpa [ByteArray.size] using hl1
        have hd0 : T0.data.toList = ta := by rw [hT0]
        have hd1 : T1.data.toList = tb := by rw [hT1]
        have HD0 := Lib.hid hd0
        have HD1 := Lib.hid hd1
        have HSP := Lib.hid hsp
        clear hT0 hT1 hd0 hd1 hl0 hl1 hsp
        have xb : Blk (wr.alloc (.cells #[.int .u8 a, .int .u8 b] 120)) wr.heap.size 120 #[.int .u8 a, .int .u8 b] := Blk.new _ _ _
        go_wp2_with fail
        (with_reducible refine (ct0 _).mono ?_)
        rintro e w5 ⟨rfl, hb5⟩
        have x5 := xb.next hb5
        have hB5 : Below w1.heap.size w1 w5 := via hb5 (hBr.alloc hBr.size _)
        have k0 := x5.cell 0
        have k1 := x5.cell 1
        simp only [List.getElem?_toArray, List.getElem?_cons_zero, List.getElem?_cons_succ] at k0 k1
        clear hb5 xb e0 e1
        by_cases hab : b = a
        · have d : (((b : Nat) : Int) != ((a : Nat) : Int)) = false := by simp [hab]
          go_wp2
          go_roundw
          case rel =>
            refine ⟨i + 1, O ++ T0, by go_num, by omega, rfl, Lib.hid ?_, ?_, hB5⟩
            · rw [HTK.out, HSP.out, if_pos hab, ByteArray.data_append, Array.toList_append, HO.out, HD0.out]; simp
            · rw [ByteArray.size_append]; omega
          case measure => simp [intOf]; omega
        · have d : (((b : Nat) : Int) != ((a : Nat) : Int)) = true := by simp; omega
          go_wp2_with fail
          (with_reducible refine (ct1 _).mono ?_)
          rintro e w6 ⟨rfl, hb6⟩
          have hB6 : Below w1.heap.size w1 w6 := via hb6 hB5
          have z0 : (⟨#[45]⟩ : ByteArray).size = 1 := rfl
          go_wp2
          go_roundw
          case rel =>
            refine ⟨i + 1, _, by go_num, by omega, rfl, Lib.hid ?_, ?_, hB6⟩
            · rw [HTK.out, HSP.out, if_neg hab, ByteArray.data_append, Array.toList_append, ByteArray.data_append, Array.toList_append, ByteArray.data_append, Array.toList_append, HO.out, HD0.out, HD1.out]; simp
            · rw [ByteArray.size_append, ByteArray.size_append, ByteArray.size_append]; omega
          case measure => simp [intOf]; omega
      · have hi2 : i = l.length := by omega
        subst hi2
        have hSB : SB = O.data.toList ++ [93] := by rw [HO.out, HZ.out, List.take_length]; simp
        have z0 : (⟨#[93]⟩ : ByteArray).size = 1 := rfl
        subst hSB
        clear HO HZ
        go_wp2
        go_ret
        refine ⟨?_, via hBr b1⟩
        congr 2
end EreX
end Go.Proofs.YtpdmjegbjcefjaaDoor
