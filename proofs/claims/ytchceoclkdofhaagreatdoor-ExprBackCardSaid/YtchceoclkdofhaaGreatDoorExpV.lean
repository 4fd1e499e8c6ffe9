/- The reference's scanner of tokens: the walk of Scan. No condition. -/
import Derived.Test.YtchceoclkdofhaaGreatDoorExpU
import Derived.Deep.AppendLies
namespace Go.Proofs.YtchceoclkdofhaaGreatDoor
set_option linter.unusedVariables false
set_option linter.unusedSimpArgs false
open Go.RowKit
namespace ExpT
open QuoP CalP CalW ExpP ExpW
open QuoW (drop_cons)
/-- The tokens from a place on. -/
def scanX (s : ByteArray) : Nat → Nat → Option (List Tk)
  | 0, _ => some []
  | f + 1, i => match s.data.toList[i]? with
    | none => some []
    | some c =>
      if c = 32 ∨ c = 9 ∨ c = 10 then scanX s f (i + 1)
      else if c = 35 then scanX s f (runN (fun b => decide (b ≠ 10)) s i)
      else match oneX s i with
        | none => none
        | some (t, e) => match scanX s f e with
          | none => none
          | some l => some (t :: l)
def appX (l : List Tk) : Option (List Tk) → Option (List Tk)
  | none => none
  | some r => some (l ++ r)
abbrev tkRow (t : Tk) (P : Option Addr) (m c q : Nat) : List Value := [.int .i64 t.kind, .string t.word, .int .i64 t.n, .slice P m c, .int .i64 q]
/-- A row's cells, five to a token. -/
inductive TC : List Tk → List Value → Prop where
  | nil : TC [] []
  | snoc {l : List Tk} {xs : List Value} (h : TC l xs) (t : Tk) (P : Option Addr) (m c q : Nat) (hn : I64 t.n) (hw : t.word.size ≤ maxLen) : TC (l ++ [t]) (xs ++ tkRow t P m c q)
theorem TC.len {l : List Tk} {xs : List Value} (h : TC l xs) : xs.length = l.length * 5 := by
  induction h with
  | nil => rfl
  | snoc h t P m c q hn hw ih => simp [ih]; omega
theorem TC.at_ {l : List Tk} {xs : List Value} (h : TC l xs) : ∀ (i : Nat) (hi : i < l.length), ∃ P m c q, I64 (l[i]'hi).n ∧ (l[i]'hi).word.size ≤ maxLen ∧ ∀ j u, (tkRow (l[i]'hi) P m c q)[j]? = some u → xs[i * 5 + j]? = some u := by
  induction h with
  | nil => intro i hi; exact absurd hi (Nat.not_lt_zero _)
  | snoc h t P m c q hn hw ih =>
    intro i hi
    have hl := h.len
    rename_i l xs
    by_cases hlt : i < l.length
    · obtain ⟨P', m', c', q', h1, h2, h3⟩ := ih i hlt
      rw [List.getElem_append_left hlt]
      refine ⟨P', m', c', q', h1, h2, fun j u hu => ?_⟩
      have := h3 j u hu
      rw [List.getElem?_append_left (List.getElem?_eq_some_iff.1 this).1]; exact this
    · have hi2 : i = l.length := by simp at hi; omega
      subst hi2
      rw [List.getElem_append_right (Nat.le_refl _)]
      simp only [Nat.sub_self, List.getElem_cons_zero]
      refine ⟨P, m, c, q, hn, hw, fun j u hu => ?_⟩
      rw [List.getElem?_append_right (by omega), hl, show l.length * 5 + j - l.length * 5 = j by omega]; exact hu
/-- An own row of tokens is a slice of tokens. -/
theorem tks_of {w : World} {B : Nat} {v : Value} {l : List Tk} {xs : List Value} (ho : w.ownsRow B 47 5 v l.length xs) (h : TC l xs) : ∃ A c, v = .slice A l.length c ∧ Tks w w.heap.size A l := by
  have hl := h.len
  rcases ho.2 with ⟨rfl, h0⟩ | ⟨g, cap, cur, rfl, hrest⟩
  · exact ⟨none, 0, by rw [h0], fun hp => absurd hp (by omega)⟩
  · refine ⟨_, _, rfl, fun hp => ⟨g, 0, rfl, ?_, fun i hi => ?_⟩⟩
    · exact (ho.lt g rfl).2
    · obtain ⟨P, m, c, q, h1, h2, h3⟩ := h.at_ i hi
      have hc : ∀ j u, (tkRow (l[i]'hi) P m c q)[j]? = some u → w.cell? ⟨g, 0 + i * 5 + j, none⟩ = some u := fun j u hu => by
        have hx := h3 j u hu
        have := World.ownsRow.cellAt ho (i * 5 + j) (by rw [← hl]; exact (List.getElem?_eq_some_iff.1 hx).1)
        rw [Nat.zero_add]; exact this.trans hx
      exact ⟨hc 0 _ rfl, hc 1 _ rfl, hc 2 _ rfl, h1, h2, P, m, c, q, hc 3 _ rfl, hc 4 _ rfl⟩
theorem own_bel {B : Nat} {t : TypeId} {sz n : Nat} {v : Value} {xs : List Value} {w w' : World} (h : w.ownsRow B t sz v n xs) (hb : Below w.heap.size w w') : w'.ownsRow B t sz v n xs :=
  h.kept (row := none) ⟨hb.os, hb.tape, hb.output, hb.size, fun k hk _ => hb.block k hk⟩ (by
    cases hv : v.ownBlock with
    | none => exact Or.inl rfl
    | some b => right; simp)
def ScanPost (s : ByteArray) (w : World) (x : Ending) (w' : World) : Prop := Below w.heap.size w w' ∧
  ((∃ (A : Option Addr) (c : Nat) (l : List Tk), scanX s (s.size + 1) 0 = some l ∧ l.length ≤ s.size ∧ x = .returned (.tuple #[.slice A l.length c, .int .i64 0, .int .i64 0]) ∧ Tks w' w'.heap.size A l) ∨
   (∃ b er : Int, (scanX s (s.size + 1) 0 = none ∨ 2000 < s.size) ∧ er ≠ 0 ∧ x = .returned (.tuple #[.slice none 0 0, .int .i64 b, .int .i64 er])))
set_option maxRecDepth 100000 in
set_option maxHeartbeats 3200000 in
theorem scan_c (s : ByteArray) (w : World) : Calls Tryz.prog 13 #[.string s] w (ScanPost s w) := by
  unfold ScanPost
  by_cases hbig : 2000 < s.size
  · have d : decide ((2000 : Int) < (s.size : Int)) = true := decide_eq_true (by omega)
    go_enter Tryz.func13, Tryz.ntmps13
    go_wp2_with fail
    go_ret3
    exact ⟨Below.refl _ _, .inr ⟨_, 2, .inr hbig, by decide, rfl⟩⟩
  have hs : s.size ≤ 2000 := by omega
  have d : decide ((2000 : Int) < (s.size : Int)) = false := decide_eq_false (by omega)
  obtain ⟨SP, hSP⟩ : ∃ z, scanX s (s.size + 1) 0 = z := ⟨_, rfl⟩
  rw [hSP]
  have HSP := Lib.hid (show appX [] (scanX s (s.size + 1) 0) = SP by rw [hSP]; cases SP <;> rfl)
  clear hSP
  have hi := (show ∃ i, Tryz.prog.info? 47 = some i ∧ i.zero = some (.agg zT) ∧ i.size = 5 ∧ i.bytes = 64 from ⟨_, rfl, by kernel_rfl, by kernel_rfl, by kernel_rfl⟩)
  obtain ⟨i0, hi0, hz0, hz1, hz2⟩ := hi
  go_enter Tryz.func13, Tryz.ntmps13
  go_wp2_with fail
  go_loopg [5, 6] (s.size + 1) (fun F ov iv wr => ∃ (l : List Tk) (xs : List Value) (i : Nat), iv = .int .i64 i ∧ i ≤ s.size ∧ l.length ≤ i ∧ wr.ownsRow w.heap.size 47 5 ov l.length xs ∧ TC l xs ∧ Below w.heap.size w wr ∧
    Hid (appX l (scanX s F i) = SP) ∧ s.size < i + F)
  case atStart => exact ⟨[], [], 0, rfl, by omega, by simp, World.ownsRow_nil _ _ _ _, .nil, Below.refl _ _, HSP, by omega⟩
  case round =>
    clear HSP
    obtain ⟨l, xs, i, rfl, hi, hli, hown, htc, hb, HF, hf⟩ := hrel
    by_cases hlt : i < s.size
    rotate_left
    · have hz : SP = some l := by
        rw [← HF.out]
        cases gk with
        | zero => simp [scanX, appX]
        | succ F =>
          have : s.data.toList[i]? = none := List.getElem?_eq_none (by rw [← Lib.size_eq]; omega)
          rw [scanX, this]; simp [appX]
      have d2 : decide ((i : Int) < (s.size : Int)) = false := decide_eq_false (by omega)
      obtain ⟨A, c, rfl, hT⟩ := tks_of hown htc
      have HZ := Lib.hid hz
      clear hz hown HF htc
      go_wp2_with fail
      go_ret3
      exact ⟨hb, .inl ⟨A, c, l, HZ.out, by omega, rfl, hT⟩⟩
    have d2 : decide ((i : Int) < (s.size : Int)) = true := decide_eq_true (by omega)
    obtain ⟨F, rfl⟩ : ∃ F, gk = F + 1 := ⟨gk - 1, by omega⟩
    have hsc : s.data.toList[i]? = some (s[i]'hlt) := List.getElem?_eq_getElem (by rw [← Lib.size_eq]; exact hlt)
    have q32 := eqc (s[i]'hlt) 32
    have q9 := eqc (s[i]'hlt) 9
    have q10 := eqc (s[i]'hlt) 10
    have q35 := eqc (s[i]'hlt) 35
    rw [show ((32 : UInt8).toNat : Int) = 32 from rfl] at q32
    rw [show ((9 : UInt8).toNat : Int) = 9 from rfl] at q9
    rw [show ((10 : UInt8).toNat : Int) = 10 from rfl] at q10
    rw [show ((35 : UInt8).toNat : Int) = 35 from rfl] at q35
    have hfo := HF.out
    rw [scanX, hsc] at hfo
    dsimp only at hfo
    clear HF hsc
    by_cases hbl : s[i]'hlt = 32 ∨ s[i]'hlt = 9 ∨ s[i]'hlt = 10
    · rw [if_pos hbl] at hfo
      have HF := Lib.hid hfo
      have hx : (decide (s[i]'hlt = 32) = true) ∨ (decide (s[i]'hlt = 32) = false ∧ decide (s[i]'hlt = 9) = true) ∨ (decide (s[i]'hlt = 32) = false ∧ decide (s[i]'hlt = 9) = false ∧ decide (s[i]'hlt = 10) = true) := by
        by_cases h1 : s[i]'hlt = 32
        · exact .inl (decide_eq_true h1)
        · by_cases h2 : s[i]'hlt = 9
          · exact .inr (.inl ⟨decide_eq_false h1, decide_eq_true h2⟩)
          · exact .inr (.inr ⟨decide_eq_false h1, decide_eq_false h2, decide_eq_true (by rcases hbl with h | h | h; exact absurd h h1; exact absurd h h2; exact h)⟩)
      clear hfo hbl q35
      rcases hx with x1 | ⟨x1, x2⟩ | ⟨x1, x2, x3⟩
      · rw [x1] at q32
        clear x1 q9 q10
        go_wp2_with fail
        go_roundg F
        case rel => exact ⟨l, xs, i + 1, by go_num, by omega, by omega, hown, htc, hb, HF, by omega⟩
        case measure => omega
      · rw [x1] at q32
        rw [x2] at q9
        clear x1 x2 q10
        go_wp2_with fail
        go_roundg F
        case rel => exact ⟨l, xs, i + 1, by go_num, by omega, by omega, hown, htc, hb, HF, by omega⟩
        case measure => omega
      · rw [x1] at q32
        rw [x2] at q9
        rw [x3] at q10
        clear x1 x2 x3
        go_wp2_with fail
        go_roundg F
        case rel => exact ⟨l, xs, i + 1, by go_num, by omega, by omega, hown, htc, hb, HF, by omega⟩
        case measure => omega
    rw [if_neg hbl] at hfo
    rw [decide_eq_false (fun h => hbl (.inl h))] at q32
    rw [decide_eq_false (fun h => hbl (.inr (.inl h)))] at q9
    rw [decide_eq_false (fun h => hbl (.inr (.inr h)))] at q10
    clear hbl
    by_cases h35 : s[i]'hlt = 35
    · rw [decide_eq_true h35] at q35
      rw [if_pos h35] at hfo
      have HF := Lib.hid hfo
      have hne10 : decide (s[i]'hlt ≠ 10) = true := by rw [h35]; decide
      have hst := run_step hlt (p := fun b => decide (b ≠ 10)) hne10
      have hle2 := run_le (fun b => decide (b ≠ 10)) s (i + 1) (by omega)
      obtain ⟨R, hR⟩ : ∃ R, runN (fun b => decide (b ≠ 10)) s i = R := ⟨_, rfl⟩
      have hRb : i < R ∧ R ≤ s.size := by omega
      have HF2 := HF
      rw [hR] at HF2
      have HR := Lib.hid hR
      clear hfo h35 HF hst hle2 hR hne10
      go_wp2_with fail
      go_loopw [6] (fun v wx => ∃ (k : Nat), v = .int .i64 k ∧ k ≤ s.size ∧ Hid (runN (fun b => decide (b ≠ 10)) s k = R) ∧ wr = wx) (fun v _ => s.size - (intOf v).toNat)
      case atStart => exact ⟨i, rfl, hi, HR, rfl⟩
      case round =>
        clear HR
        obtain ⟨k, rfl, hk, HR, rfl⟩ := hrel
        clear q32 q9 q10 q35 d2
        by_cases hk2 : k < s.size
        rotate_left
        · have d3 : decide ((k : Int) < (s.size : Int)) = false := decide_eq_false (by omega)
          have hkR := (run_end hk2).symm.trans HR.out
          subst hkR
          clear HR
          go_wp2_with fail
          go_roundg F
          case rel => exact ⟨l, xs, k, rfl, by omega, by omega, hown, htc, hb, HF2, by omega⟩
          case measure => omega
        have d3 : decide ((k : Int) < (s.size : Int)) = true := decide_eq_true (by omega)
        have q10 := eqc (s[k]'hk2) 10
        rw [show ((10 : UInt8).toNat : Int) = 10 from rfl] at q10
        by_cases h10 : s[k]'hk2 = 10
        · rw [decide_eq_true h10] at q10
          have hkR := (run_stop hk2 (by rw [h10]; decide)).symm.trans HR.out
          subst hkR
          clear HR h10
          go_wp2_with fail
          go_roundg F
          case rel => exact ⟨l, xs, k, rfl, by omega, by omega, hown, htc, hb, HF2, by omega⟩
          case measure => omega
        · rw [decide_eq_false h10] at q10
          have HR2 := Lib.hid ((run_step hk2 (p := fun b => decide (b ≠ 10)) (decide_eq_true h10)).symm.trans HR.out)
          clear HR h10
          go_wp2_with fail
          go_roundw
          case rel => exact ⟨k + 1, by go_num, by omega, HR2, trivial⟩
          case measure => simp [intOf]; omega
    · rw [decide_eq_false h35] at q35
      rw [if_neg h35] at hfo
      have HF := Lib.hid hfo
      have ct := tok_c s i hlt hs wr
      unfold OnePost at ct
      clear hfo h35
      go_wp2_with fail
      (with_reducible refine ct.mono ?_)
      clear ct
      rintro x9 w2 ⟨b2, ⟨t, sl, q, e, ho, hle, rfl, -, -, hn, hw, P, m, c, rfl⟩ | ⟨b, er, ho, hne, rfl⟩⟩
      · have hf2 := HF.out
        rw [ho] at hf2
        dsimp only at hf2
        have HF2 := Lib.hid (show appX (l ++ [t]) (scanX s F e) = SP by
          rw [← hf2]
          cases scanX s F e with
          | none => rfl
          | some r => simp [appX])
        have hn' := hn
        have hw' : t.word.size ≤ maxLen := by unfold maxLen; omega
        have hown2 := own_bel hown b2
        have hownlt := hown.lt
        have hb2 := via b2 hb
        clear HF hf2 ho hown hb hn hw
        obtain ⟨w3, hw3⟩ : ∃ z : World, w2.alloc (.cells #[.int .i64 t.kind, .string t.word, .int .i64 t.n, .slice P m c, .int .i64 q] 47) = z := ⟨_, rfl⟩
        have K3 : Blk w3 w2.heap.size 47 #[.int .i64 t.kind, .string t.word, .int .i64 t.n, .slice P m c, .int .i64 q] := by rw [← hw3]; exact Blk.new _ _ _
        have b3 : Below w2.heap.size w2 w3 := by rw [← hw3]; go_grown
        have hown3 := own_bel hown2 b3
        have hb3 := via b3 hb2
        have p0 := K3.cell 0
        have p1 := K3.cell 1
        have p2 := K3.cell 2
        have p3 := K3.cell 3
        have p4 := K3.cell 4
        simp only [List.getElem?_toArray, List.getElem?_cons_zero, List.getElem?_cons_succ] at p0 p1 p2 p3 p4
        have hsz3 := hb3.size
        clear hown2 hb2 b3
        go_wp2_with (at_builtin; refine wpList_append_lies _ rfl _ _ 31 rfl w.heap.size 47 i0 (.agg zT) 5 64 Tryz.underlying31 hi0 hz0 hz1 hz2 rfl (by decide) _ l.length xs rfl (hown3.alloc _) ⟨w3.heap.size, 0, none⟩ 1 1 (tkRow t P m c q) rfl rfl (World.news_of_block (heap_alloc_new w3 _)) (by intro u hu; simp at hu; rcases hu with rfl | rfl | rfl | rfl | rfl <;> rfl) (by omega) (by unfold maxLen; omega) (by omega) (by rw [World.size_alloc]; omega) (w3.heap.size + 1) (by rw [World.size_alloc]) ?_)
        intro g5 cap w5 hown5 hgrow hat hlt5
        have hb5 : Below w.heap.size w w5 := by
          refine ⟨hgrow.os.trans hb3.os, hgrow.tape.trans hb3.tape, hgrow.output.trans hb3.output, ?_, fun b hbl => ?_⟩
          · have := hgrow.size; rw [World.size_alloc] at this; omega
          · exact (hgrow.block b (by rw [World.size_alloc]; omega) (fun ee => by have := (hown3.lt b ee.symm).1; omega)).trans ((Below.heap_alloc w3 _ b (by omega)).trans (hb3.block b hbl))
        have hown6 : w5.ownsRow w.heap.size 47 5 (.slice (some ⟨g5, 0, none⟩) (l.length + 1) cap) (l ++ [t]).length (xs ++ tkRow t P m c q) := by rw [List.length_append]; exact hown5
        clear hown3 hb3 hown5 hgrow K3 p0 p1 p2 p3 p4 hownlt hw3
        go_wp2_with fail
        go_roundg F
        case rel => exact ⟨l ++ [t], xs ++ tkRow t P m c q, e, rfl, hle.2, by simp; omega, hown6, .snoc htc t P m c q hn' hw', hb5, HF2, by omega⟩
        case measure => omega
      · have hz : SP = none := by rw [← HF.out, ho]; rfl
        have HZ := Lib.hid hz
        have qe : (er == 0) = false := by simpa using hne
        have qe2 : (er != 0) = true := by simpa using hne
        have hb2 := via b2 hb
        have HNE := Lib.hid hne
        clear hz HF ho hown htc hne hb b2
        go_wp2_with fail
        go_ret3
        exact ⟨hb2.alloc hb2.size _, .inr ⟨b, er, .inl HZ.out, HNE.out, rfl⟩⟩
end ExpT
end Go.Proofs.YtchceoclkdofhaaGreatDoor
