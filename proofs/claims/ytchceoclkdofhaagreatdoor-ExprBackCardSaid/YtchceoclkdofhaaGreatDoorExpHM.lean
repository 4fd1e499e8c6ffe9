/- The text of a token of an expression: the program's walk. Conditions: its kinds; the table of strconv. -/
import Derived.Test.YtchceoclkdofhaaGreatDoorExpB
import Derived.Test.YtchceoclkdofhaaGreatDoorExpU
import Derived.Test.YtchceoclkdofhaaGreatDoorShelf
import Derived.Lib.AppendIntMem
import Derived.Test.YtchceoclkdofhaaGreatDoorExpN
import Derived.Test.YtchceoclkdofhaaGreatDoorExpV
import Derived.Test.YtchceoclkdofhaaGreatDoorExpM
import Derived.Test.YtchceoclkdofhaaGreatDoorCalQ
import Derived.Test.YtchceoclkdofhaaGreatDoorExpG
import Derived.Test.YtchceoclkdofhaaGreatDoorCalM
import Derived.Lib.ItoaLen
import Derived.Test.YtchceoclkdofhaaGreatDoorExpRM
import Derived.Test.YtchceoclkdofhaaGreatDoorExpEq
namespace Go.Proofs.YtchceoclkdofhaaGreatDoor
set_option linter.unusedVariables false
set_option linter.unusedSimpArgs false
open Go.RowKit
namespace ExpW
open CalP CalW ExpP ExpT QuoP
theorem psigns_c (w : World) : Calls Tryz.prog 88 #[] w fun e w' => e = .returned (.slice (some ⟨w.heap.size, 0, none⟩) 18 18) ∧ Blk w' w.heap.size 9 sigV ∧ Below w.heap.size w w' := by
  go_enter Tryz.func88, Tryz.ntmps88
  go_wp2_with fail
  go_ret
  exact ⟨rfl, Blk.new _ _ _, by go_grown⟩
set_option maxRecDepth 100000 in
set_option maxHeartbeats 1600000 in
theorem text6_c (s : ByteArray) (q : Int) (hs : s.size ≤ 1000) (hn : nameB s.data.toList = true) (w : World) :
    Calls Tryz.prog 55 #[.agg #[.int .i64 6, .string s, .int .i64 0, .slice none 0 0, .int .i64 q]] w fun x w' => ∃ t : ByteArray, t.data.toList = 36 :: s.data.toList ∧ x = .returned (.tuple #[.string t, .int .i64 0]) ∧ Below w.heap.size w w' := by
  obtain ⟨wa, hwa⟩ : ∃ z : World, w.alloc (.cells #[.int .i64 6, .string s, .int .i64 0, .slice none 0 0, .int .i64 q] 47) = z := ⟨_, rfl⟩
  have xa : Blk wa w.heap.size 47 #[.int .i64 6, .string s, .int .i64 0, .slice none 0 0, .int .i64 q] := by rw [← hwa]; exact Blk.new _ _ _
  have ba : Below w.heap.size w wa := by rw [← hwa]; go_grown
  have cb := tbare_c 6 0 s q (by decide) (fun h => absurd h (by decide)) (fun _ => rfl) wa
  have cn := fun W => QuoW.name_c s W (by omega)
  rw [hn] at cn
  have p0 := xa.cell 0
  have p1 := xa.cell 1
  have p2 := xa.cell 2
  have p3 := xa.cell 3
  have p4 := xa.cell 4
  simp only [List.getElem?_toArray, List.getElem?_cons_zero, List.getElem?_cons_succ] at p0 p1 p2 p3 p4
  go_enter Tryz.func55, Tryz.ntmps55
  go_wp2_with fail
  (with_reducible refine cb.mono ?_)
  clear cb p0 p1 p2 p3 p4 hwa
  rintro x w2 ⟨rfl, b2⟩
  have x2 := xa.next b2
  have B2 := via b2 ba
  have p0 := x2.cell 0
  have p1 := x2.cell 1
  have p2 := x2.cell 2
  simp only [List.getElem?_toArray, List.getElem?_cons_zero, List.getElem?_cons_succ] at p0 p1 p2
  go_upto_region 9 with fail
  go_quiet (fail)
  have B3 : Below w.heap.size w (w2.drewN nq) := ⟨B2.os, B2.tape, B2.output, B2.size, B2.block⟩
  have x3 := x2.drewN nq
  obtain ⟨w3, hw3⟩ : ∃ z, w2.drewN nq = z := ⟨_, rfl⟩
  rw [hw3] at B3 x3 ⊢
  clear hw3 x2 B2 p0 p1 p2 b2
  have p0 := x3.cell 0
  have p1 := x3.cell 1
  have p2 := x3.cell 2
  simp only [List.getElem?_toArray, List.getElem?_cons_zero, List.getElem?_cons_succ] at p0 p1 p2
  go_wp2_with fail
  (with_reducible refine (cn _).mono ?_)
  clear cn
  rintro x w9 ⟨rfl, hw9⟩
  subst hw9
  go_wp2_with fail
  go_ret2
  exact ⟨_, rfl, rfl, B3⟩
set_option maxRecDepth 100000 in
set_option maxHeartbeats 3200000 in
theorem text4_c (u : Bs) (q : Int) (hu : u ∈ signL) (w : World) :
    Calls Tryz.prog 55 #[.agg #[.int .i64 4, .string (baS u), .int .i64 0, .slice none 0 0, .int .i64 q]] w fun x w' => x = .returned (.tuple #[.string (baS u), .int .i64 0]) ∧ Below w.heap.size w w' := by
  obtain ⟨s, hs⟩ : ∃ s, baS u = s := ⟨_, rfl⟩
  have hin : s ∈ signL.map baS := hs ▸ List.mem_map_of_mem hu
  rw [hs]
  clear hs hu
  obtain ⟨wa, hwa⟩ : ∃ z : World, w.alloc (.cells #[.int .i64 4, .string s, .int .i64 0, .slice none 0 0, .int .i64 q] 47) = z := ⟨_, rfl⟩
  have xa : Blk wa w.heap.size 47 #[.int .i64 4, .string s, .int .i64 0, .slice none 0 0, .int .i64 q] := by rw [← hwa]; exact Blk.new _ _ _
  have ba : Below w.heap.size w wa := by rw [← hwa]; go_grown
  have cb := tbare_c 4 0 s q (by decide) (fun h => absurd h (by decide)) (fun _ => rfl) wa
  have p0 := xa.cell 0
  have p1 := xa.cell 1
  have p2 := xa.cell 2
  have p3 := xa.cell 3
  have p4 := xa.cell 4
  simp only [List.getElem?_toArray, List.getElem?_cons_zero, List.getElem?_cons_succ] at p0 p1 p2 p3 p4
  go_enter Tryz.func55, Tryz.ntmps55
  go_wp2_with fail
  (with_reducible refine cb.mono ?_)
  clear cb p0 p1 p2 p3 p4 hwa
  rintro x w2 ⟨rfl, b2⟩
  have x2 := xa.next b2
  have B2 := via b2 ba
  have p0 := x2.cell 0
  have p1 := x2.cell 1
  have p2 := x2.cell 2
  simp only [List.getElem?_toArray, List.getElem?_cons_zero, List.getElem?_cons_succ] at p0 p1 p2
  have hcont : ∀ (W : World) (g : Nat), Blk W g 9 sigV → Calls Tryz.prog 87 #[.slice (some ⟨g, 0, none⟩) 18 18, .string s] W fun e w' => e = .returned (.bool true) ∧ W = w' := fun W g hg => by
    refine (Tryz.slices_Contains_string g 0 18 18 (signL.map baS) s W (by decide) (by decide) (fun j hj => ?_)).mono ?_
    · rw [Nat.zero_add, hg.cell, List.getElem?_toArray, List.getElem?_map]
      have hj2 : j < signL.length := by simpa using hj
      rw [List.getElem?_eq_getElem hj2, List.getD_eq_getElem?_getD, List.getElem?_map, List.getElem?_eq_getElem hj2]
      rfl
    · rintro e w' ⟨rfl, rfl⟩
      refine ⟨?_, rfl⟩
      have : Lib.containsS ((signL.map baS).take 18) s = true := by
        rw [List.take_of_length_le (by decide)]
        exact (Lib.containsS_iff _ _).2 hin
      rw [this]
  have HC := Lib.hid hcont
  clear hcont
  go_upto_region 9 with fail
  go_cut [45] (fun v wx => v = .bool true ∧ Below w2.heap.size w2 wx)
  case first =>
    go_region_law (first
      | (go_simp; go_at_call 88; (with_reducible refine (psigns_c _).mono ?_); rintro e w3 ⟨rfl, G3, b3⟩; have x3 := (show Blk w2.drew w.heap.size 47 #[.int .i64 4, .string s, .int .i64 0, .slice none 0 0, .int .i64 q] from x2).next b3; have P1 := x3.cell 1; have P0 := x3.cell 0; simp only [List.getElem?_toArray, List.getElem?_cons_zero, List.getElem?_cons_succ] at P0 P1; have c3 := HC.out w3 w2.heap.size G3)
      | (go_simp; go_at_call 87; (with_reducible refine c3.mono ?_); rintro e w4 ⟨rfl, rfl⟩))
    all_goals
      go_wp2_with fail
      go_meet
      exact ⟨rfl, ⟨b3.os, b3.tape, b3.output, b3.size, b3.block⟩⟩
  case rest =>
    obtain ⟨rfl, b9⟩ := hcut
    have x9 := x2.next b9
    have B9 := via b9 B2
    clear x2 B2 p0 p1 p2 b9
    have p1 := x9.cell 1
    simp only [List.getElem?_toArray, List.getElem?_cons_zero, List.getElem?_cons_succ] at p1
    go_wp2_with fail
    go_ret2
    exact ⟨rfl, B9⟩
/-- The table of powers of ten stands. -/
def Tab (w : World) : Prop := Lib.TabIs Tryz.prog w "internal/strconv.uint64pow10" .u64 Lib.pow10Tab
theorem Tab.bel {w w' : World} (h : Tab w) (hb : Below w.heap.size w w') : Tab w' := Lib.tabBelow_of_tabIs h w' hb
theorem nprint_c (n : Int) (h0 : 0 ≤ n) (h1 : n ≤ 9223372036854775807) (w : World) (ht : Tab w) : Calls Tryz.prog 85 #[.int .i64 n] w fun x w' => x = .returned (.string ⟨(Lib.itoa n).toArray⟩) ∧ Below w.heap.size w w' := by
  have cp := Tryz.strconv_FormatInt_10 n (by omega) h1 w ht
  generalize (Lib.itoa n).toArray = t at *
  go_enter Tryz.func85, Tryz.ntmps85
  go_wp2_with fail
  (with_reducible refine cp.mono ?_)
  rintro x w9 ⟨rfl, k, os, rfl⟩
  go_wp2_with fail
  go_ret
  exact ⟨rfl, Go.Lib.below_grow _ _ (Nat.le_refl _) _ _⟩
set_option maxRecDepth 100000 in
set_option maxHeartbeats 1600000 in
theorem text2_c (i : Int) (h0 : 0 ≤ i) (h1 : i ≤ 9223372036854775807) (q : Int) (w : World) (ht : Tab w) :
    Calls Tryz.prog 55 #[.agg #[.int .i64 2, .string noB, .int .i64 i, .slice none 0 0, .int .i64 q]] w fun x w' => x = .returned (.tuple #[.string ⟨(Lib.itoa i).toArray⟩, .int .i64 0]) ∧ Below w.heap.size w w' := by
  obtain ⟨wa, hwa⟩ : ∃ z : World, w.alloc (.cells #[.int .i64 2, .string noB, .int .i64 i, .slice none 0 0, .int .i64 q] 47) = z := ⟨_, rfl⟩
  have xa : Blk wa w.heap.size 47 #[.int .i64 2, .string noB, .int .i64 i, .slice none 0 0, .int .i64 q] := by rw [← hwa]; exact Blk.new _ _ _
  have ba : Below w.heap.size w wa := by rw [← hwa]; go_grown
  have cb := tbare_c 2 i noB q (by decide) (fun _ => rfl) (fun h => absurd rfl h) wa
  have cn := fun W hW => nprint_c i h0 h1 W hW
  obtain ⟨S, hS⟩ : ∃ S : ByteArray, ⟨(Lib.itoa i).toArray⟩ = S := ⟨_, rfl⟩
  rw [hS] at cn ⊢
  clear hS
  have d0 : decide ((0 : Int) ≤ i) = true := decide_eq_true h0
  have p0 := xa.cell 0
  have p1 := xa.cell 1
  have p2 := xa.cell 2
  have p3 := xa.cell 3
  have p4 := xa.cell 4
  simp only [List.getElem?_toArray, List.getElem?_cons_zero, List.getElem?_cons_succ] at p0 p1 p2 p3 p4
  go_enter Tryz.func55, Tryz.ntmps55
  go_wp2_with fail
  (with_reducible refine cb.mono ?_)
  clear cb p0 p1 p2 p3 p4 hwa
  rintro x w2 ⟨rfl, b2⟩
  have x2 := xa.next b2
  have B2 := via b2 ba
  have ht2 := (ht.bel ba).bel b2
  have p0 := x2.cell 0
  have p1 := x2.cell 1
  have p2 := x2.cell 2
  simp only [List.getElem?_toArray, List.getElem?_cons_zero, List.getElem?_cons_succ] at p0 p1 p2
  go_wp2_with fail
  (with_reducible refine (cn _ ht2).mono ?_)
  clear cn
  rintro x w9 ⟨rfl, hw9⟩
  replace B2 := via hw9 B2
  go_wp2_with fail
  go_ret2
  exact ⟨rfl, B2⟩
end ExpW
end Go.Proofs.YtchceoclkdofhaaGreatDoor
namespace Go.Proofs.YtchceoclkdofhaaGreatDoor
set_option linter.unusedVariables false
set_option linter.unusedSimpArgs false
open Go.RowKit
namespace ExpW
open CalP CalW ExpP ExpT QuoP
/-- A token that an expression may tell. -/
def OkT (t : Tk) : Prop := (t.kind = 2 ∧ t.word = noB ∧ 0 ≤ t.n ∧ t.n ≤ 9223372036854775807) ∨ (t.kind = 4 ∧ t.n = 0 ∧ ∃ u ∈ signL, t.word = baS u) ∨ (t.kind = 6 ∧ t.n = 0 ∧ t.word.size ≤ 1000 ∧ nameB t.word.data.toList = true)
def txtS (t : Tk) : ByteArray := if t.kind = 2 then ⟨(Lib.itoa t.n).toArray⟩ else if t.kind = 6 then ⟨(36 :: t.word.data.toList).toArray⟩ else t.word
theorem text_c (t : Tk) (q : Int) (ht : OkT t) (w : World) (hw : Tab w) :
    Calls Tryz.prog 55 #[.agg #[.int .i64 t.kind, .string t.word, .int .i64 t.n, .slice none 0 0, .int .i64 q]] w fun x w' => x = .returned (.tuple #[.string (txtS t), .int .i64 0]) ∧ Below w.heap.size w w' := by
  obtain ⟨k, s, n⟩ := t
  rcases ht with ⟨h1, h2, h3, h4⟩ | ⟨h1, h2, u, hu, h3⟩ | ⟨h1, h2, h3, h4⟩
  · dsimp only at h1 h2 h3 h4
    subst h1 h2
    exact text2_c n h3 h4 q w hw
  · dsimp only at h1 h2 h3
    subst h1 h2 h3
    exact text4_c u q hu w
  · dsimp only at h1 h2 h3 h4
    subst h1 h2
    refine (text6_c s q h3 h4 w).mono ?_
    rintro x w' ⟨t, ht, rfl, hb⟩
    have : t = txtS ⟨6, s, 0⟩ := bytes_ext (by rw [ht]; rfl)
    rw [this]
    exact ⟨rfl, hb⟩
/-- A slice of tokens as tell makes it. -/
def Tok0 (w : World) (A : Option Addr) (l : List Tk) : Prop := 0 < l.length → ∃ g o, A = some ⟨g, o, none⟩ ∧ ∀ i (h : i < l.length), ∃ q : Int,
  ∀ j u, ([.int .i64 (l[i]'h).kind, .string (l[i]'h).word, .int .i64 (l[i]'h).n, .slice none 0 0, .int .i64 q] : List Value)[j]? = some u → w.cell? ⟨g, o + i * 5 + j, none⟩ = some u
theorem Tok0.bel {w w' : World} {A : Option Addr} {l : List Tk} (h : Tok0 w A l) (hb : Below w.heap.size w w') : Tok0 w' A l := fun hl => by
  obtain ⟨g, o, e, hc⟩ := h hl
  refine ⟨g, o, e, fun i hi => ?_⟩
  obtain ⟨q, hq⟩ := hc i hi
  exact ⟨q, fun j u hu => (World.cell?_of_block (a := ⟨g, o + i * 5 + j, none⟩) (hb.block g (World.block_lt_of_cell? w _ (hq j u hu)))).trans (hq j u hu)⟩
def joinS (l : List Tk) : List UInt8 := Lib.join (l.map fun t => (txtS t).data.toList) [32]
set_option maxRecDepth 100000 in
set_option maxHeartbeats 3200000 in
theorem join_c (A : Option Addr) (c : Nat) (l : List Tk) (w : World) (ht : Tok0 w A l) (hok : ∀ t ∈ l, OkT t) (hl : l.length ≤ 1000) (h0 : 0 < l.length) (hj : (joinS l).length ≤ 10000000) (hw : Tab w) :
    Calls Tryz.prog 32 #[.slice A l.length c] w fun x w' => x = .returned (if 2000 < (joinS l).length then .tuple #[.string noB, .int .i64 2] else .tuple #[.string ⟨(joinS l).toArray⟩, .int .i64 0]) ∧ Below w.heap.size w w' := by
  rw [show (joinS l).length = (⟨(joinS l).toArray⟩ : ByteArray).size by rw [Lib.size_eq]]
  obtain ⟨i0, hi0, hz0, hz1, hz2⟩ := (show ∃ i, Tryz.prog.info? 9 = some i ∧ i.zero = some (.string noB) ∧ i.size = 1 ∧ i.bytes = 16 from ⟨_, rfl, by kernel_rfl, by kernel_rfl, by kernel_rfl⟩)
  have HT := Lib.hid ht
  have HOK := Lib.hid hok
  have HJ := Lib.hid hj
  obtain ⟨S, hS⟩ : ∃ S : ByteArray, ⟨(joinS l).toArray⟩ = S := ⟨_, rfl⟩
  rw [hS]
  have HS := Lib.hid hS
  clear hS
  obtain ⟨RES, hRES⟩ : ∃ z : Value, (if 2000 < S.size then .tuple #[.string noB, .int .i64 2] else .tuple #[.string S, .int .i64 0]) = z := ⟨_, rfl⟩
  rw [hRES]
  have HRES := Lib.hid hRES
  clear hRES
  obtain ⟨N, hN⟩ : ∃ N, l.length = N := ⟨_, rfl⟩
  rw [hN] at hl h0 ⊢
  clear ht hok hj
  go_enter Tryz.func32, Tryz.ntmps32
  go_wp2_with fail
  go_loopw [4, 12] (fun ov iv wr => ∃ (i : Nat), iv = .int .i64 i ∧ i ≤ N ∧ OwnS wr w.heap.size ov ((l.take i).map txtS) ∧ Below w.heap.size w wr) (fun _ iv _ => N - (intOf iv).toNat)
  case atStart => exact ⟨0, rfl, by omega, by simpa [OwnS] using World.ownsRow_nil _ _ _ _, Below.refl _ _⟩
  case round =>
    obtain ⟨i, rfl, hi, hown, hb⟩ := hrel
    by_cases hlt : i < N
    rotate_left
    · have hiN : i = N := by omega
      subst hiN
      rw [List.take_of_length_le (by omega)] at hown
      unfold OwnS at hown
      have hxl : (l.map txtS).length = i := by simp [hN]
      rcases hown.2 with ⟨rfl, h00⟩ | ⟨g, cap, cur, rfl, hBg, hhg, hncap, hcapm, hcur, htake⟩
      · omega
      · have hcl := fun j (hj : j < (l.map txtS).length) => World.ownsRow.cellAt hown j (show j < (l.map txtS).length * 1 by omega)
        have hbk : g < wr.heap.size := (Array.getElem?_eq_some_iff.1 hhg).1
        have cj := fun W (hW : wr = W) => Tryz.strings_Join g 0 cap (l.map txtS) ⟨#[32]⟩ W (fun j x hx => by
          rw [← hW, Nat.zero_add, hcl j (List.getElem?_eq_some_iff.1 hx).1, List.getElem?_map, hx]; rfl) (by rw [← hW]; exact hbk) (by rw [hxl]; omega) hncap (by
          have := HJ.out; unfold joinS at this; rw [List.map_map]
          exact Nat.le_trans this (by decide))
        have cj := cj wr rfl
        have hjs : Lib.join ((l.map txtS).map (·.data.toList)) (ByteArray.mk #[32]).data.toList = joinS l := by unfold joinS; rw [List.map_map]; rfl
        rw [hjs, hxl] at cj
        have hsz : S.size ≤ 10000000 := by rw [← HS.out, Lib.size_eq]; simpa using HJ.out
        rw [HS.out] at cj
        rw [hxl]
        clear hown hcl hBg hhg hncap hcapm hcur htake hjs
        by_cases hbig : 2000 < S.size
        · have hr := HRES.out
          rw [if_pos hbig] at hr
          subst hr
          clear HRES
          have d2 : decide ((2000 : Int) < (S.size : Int)) = true := decide_eq_true (by omega)
          go_wp2_with fail
          (with_reducible refine cj.mono ?_)
          clear cj
          rintro x w9 ⟨rfl, b9⟩
          have B9 := via b9 hb
          go_wp2_with fail
          go_ret2
          exact ⟨rfl, B9⟩
        · have hr := HRES.out
          rw [if_neg hbig] at hr
          subst hr
          clear HRES
          have d2 : decide ((2000 : Int) < (S.size : Int)) = false := decide_eq_false (by omega)
          go_wp2_with fail
          (with_reducible refine cj.mono ?_)
          clear cj
          rintro x w9 ⟨rfl, b9⟩
          have B9 := via b9 hb
          go_wp2_with fail
          go_ret2
          exact ⟨rfl, B9⟩
    · obtain ⟨g, o, rfl, hc⟩ := (HT.out.bel hb) (by omega)
      obtain ⟨q, hq⟩ := hc i (by omega)
      have fk0 := hq 0 _ rfl
      have fk1 := hq 1 _ rfl
      have fk2 := hq 2 _ rfl
      have fk3 := hq 3 _ rfl
      have fk4 := hq 4 _ rfl
      simp only [Nat.add_zero] at fk0
      have hot := HOK.out (l[i]'(by omega)) (List.getElem_mem _)
      have htk : (l.take (i + 1)).map txtS = (l.take i).map txtS ++ [txtS (l[i]'(by omega))] := by rw [List.take_succ_eq_append_getElem (by omega), List.map_append]; rfl
      obtain ⟨t, htt⟩ : ∃ t, l[i]'(by omega) = t := ⟨_, rfl⟩
      rw [htt] at fk0 fk1 fk2 hot htk
      clear hc hq htt
      have hwr : Tab wr := hw.bel hb
      have ct := text_c t q hot (wr.alloc (.cells #[.int .i64 t.kind, .string t.word, .int .i64 t.n, .slice none 0 0, .int .i64 q] 47)) (hwr.bel (by go_grown))
      obtain ⟨X, hX⟩ : ∃ X, txtS t = X := ⟨_, rfl⟩
      rw [hX] at ct htk
      clear hX hot
      have b3 : Below wr.heap.size wr (wr.alloc (.cells #[.int .i64 t.kind, .string t.word, .int .i64 t.n, .slice none 0 0, .int .i64 q] 47)) := by go_grown
      generalize t.kind = t0 at *
      generalize t.word = t1 at *
      generalize t.n = t2 at *
      go_wp2_with fail
      (with_reducible refine ct.mono ?_)
      clear ct
      rintro x w3 ⟨rfl, b4⟩
      have b5 := via b4 b3
      have hown3 : OwnS w3 w.heap.size _ ((l.take i).map txtS) := own_bel hown b5
      have hb3 := via b5 hb
      obtain ⟨ys, hys⟩ : ∃ ys, (l.take i).map txtS = ys := ⟨_, rfl⟩
      have hlen : ys.length = i := by rw [← hys]; simp; omega
      rw [hys] at hown3 htk
      have HTK := Lib.hid htk
      unfold OwnS at hown3
      clear hys htk
      clear b3 b4 b5 hown fk0 fk1 fk2 fk3 fk4
      go_wp2_with (at_builtin; refine wpList_append_lies _ rfl _ _ 27 rfl w.heap.size 9 i0 (.string noB) 1 16 Tryz.underlying27 hi0 hz0 hz1 hz2 rfl (by decide) _ ys.length (ys.map Value.string) rfl (hown3.alloc _) ⟨w3.heap.size, 0, none⟩ 1 1 [.string X] rfl rfl (World.news_of_block (heap_alloc_new w3 _)) (by intro u hu; simp at hu; subst hu; rfl) (by omega) (by rw [hlen]; unfold maxLen; omega) (by rw [hlen]; omega) (by rw [World.size_alloc]; have := hb3.size; omega) (w3.heap.size + 1) (by rw [World.size_alloc]) ?_)
      intro g5 cap w5 hown5 hgrow hat hlt5
      have hb5 : Below w.heap.size w w5 := by
        refine ⟨hgrow.os.trans hb3.os, hgrow.tape.trans hb3.tape, hgrow.output.trans hb3.output, ?_, fun b hbl => ?_⟩
        · have := hgrow.size; rw [World.size_alloc] at this; have := hb3.size; omega
        · exact (hgrow.block b (by rw [World.size_alloc]; have := hb3.size; omega) (fun ee => by have := (hown3.lt b ee.symm).1; omega)).trans ((Below.heap_alloc w3 _ b (by have := hb3.size; omega)).trans (hb3.block b hbl))
      have hown6 : OwnS w5 w.heap.size (.slice (some ⟨g5, 0, none⟩) (i + 1) cap) ((l.take (i + 1)).map txtS) := by
        rw [HTK.out]
        unfold OwnS
        rw [List.length_append, List.map_append, hlen]; exact hown5
      clear hown5 hgrow hown3 hb3
      go_wp2_with fail
      go_roundw
      case rel => exact ⟨i + 1, by go_num, by omega, hown6, hb5⟩
      case measure => simp [intOf]; omega
end ExpW
end Go.Proofs.YtchceoclkdofhaaGreatDoor
namespace Go.Proofs.YtchceoclkdofhaaGreatDoor
set_option linter.unusedVariables false
set_option linter.unusedSimpArgs false
open Go.RowKit
namespace ExpW
open CalP CalW ExpP ExpT QuoP
abbrev s9 : ByteArray := ⟨#[49, 32, 43, 32, 50, 32, 42, 32, 40, 36, 97, 32, 45, 32, 52, 41, 32, 125]⟩
abbrev a9 : ByteArray := ⟨#[97]⟩
abbrev l9 : List Tk := [⟨2, noB, 1⟩, ⟨4, ⟨#[43]⟩, 0⟩, ⟨2, noB, 2⟩, ⟨4, ⟨#[42]⟩, 0⟩, ⟨4, ⟨#[40]⟩, 0⟩, ⟨6, a9, 0⟩, ⟨4, ⟨#[45]⟩, 0⟩, ⟨2, noB, 4⟩, ⟨4, ⟨#[41]⟩, 0⟩, ⟨4, ⟨#[125]⟩, 0⟩]
abbrev x9 : Ex := .mk 4 0 noB ⟨#[43]⟩ [.mk 0 1 noB noB [], .mk 4 0 noB ⟨#[42]⟩ [.mk 0 2 noB noB [], .mk 4 0 noB ⟨#[45]⟩ [.mk 1 0 a9 noB [], .mk 0 4 noB noB []]]]
theorem scan9 : scanX s9 (s9.size + 1) 0 = some l9 := by kernel_rfl
theorem parse9 : parseX l9 0 = (x9, 9, 0) := by kernel_rfl
theorem right9 : rightE x9 0 = true := by kernel_rfl
theorem tell9 : joinS (tellE x9 0) = [49, 32, 43, 32, 50, 32, 42, 32, 40, 32, 36, 97, 32, 45, 32, 52, 32, 41] := by kernel_rfl
theorem names9 : namesE x9 = [[97]] := by
  unfold namesE
  rw [show (gathE x9).map (·.data.toList) = [[97]] by kernel_rfl, List.mergeSort_singleton]
  kernel_rfl
end ExpW
end Go.Proofs.YtchceoclkdofhaaGreatDoor
namespace Go.Proofs.YtchceoclkdofhaaGreatDoor
set_option linter.unusedVariables false
set_option linter.unusedSimpArgs false
open Go.RowKit
namespace ExpT
open QuoP CalP CalW ExpP ExpW
theorem ext_le (s : ByteArray) (i e : Nat) : (s.extract i e).size ≤ e - i := by rw [ByteArray.size_extract]; omega
theorem name_len {l : Bs} (h : nameB l = true) : l.length ≤ 8 := by
  unfold nameB at h
  split at h
  · simp
  · simp
  · simp only [Bool.and_eq_true, decide_eq_true_eq] at h; exact h.2
theorem flag_len {l : Bs} (h : flagB l = true) : l.length ≤ 8 := by
  unfold flagB at h
  simp only [Bool.or_eq_true, beq_iff_eq] at h
  rcases h with ((h | h) | h) | h <;> rw [h] <;> decide
theorem one_word {s : ByteArray} {i : Nat} {t : Tk} {e : Nat} (h : oneX s i = some (t, e)) : t.word.size ≤ 14 := by
  unfold oneX at h
  split at h
  · cases h
  · split at h
    · split at h
      · cases h
      · next h14 =>
        injection h with h; injection h with h1 h2
        rw [← h1]
        have := ext_le s i (runN withB s i)
        show (s.extract i (runN withB s i)).size ≤ 14
        omega
    · split at h
      · split at h
        · injection h with h; injection h with h1 h2; rw [← h1]; exact (show noB.size ≤ 14 by decide)
        · cases h
      · split at h
        · split at h
          · cases h
          · injection h with h; injection h with h1 h2; rw [← h1]; decide
        · split at h
          · split at h
            · next hn =>
              injection h with h; injection h with h1 h2; rw [← h1]
              have := name_len hn
              rw [← Lib.size_eq] at this
              show (s.extract (i + 1) (runN withB s (i + 1))).size ≤ 14
              omega
            · cases h
          · split at h
            · split at h
              · next hn =>
                injection h with h; injection h with h1 h2; rw [← h1]
                have := flag_len hn
                rw [← Lib.size_eq] at this
                show (s.extract (i + 1) (runN letterB s (i + 1))).size ≤ 14
                omega
              · cases h
            · split at h
              · next u hu =>
                injection h with h; injection h with h1 h2; rw [← h1]
                have := sig_len u (List.mem_of_find?_eq_some hu)
                show (baS u).size ≤ 14
                rw [Lib.size_eq]; simp [baS]; omega
              · cases h
/-- All words that are scanned are short. -/
theorem scan_words {s : ByteArray} : ∀ (f i : Nat) (l : List Tk), scanX s f i = some l → ∀ t ∈ l, t.word.size ≤ 14
  | 0, i, l => fun h => by rw [scanX] at h; injection h with h; subst h; intro t ht; cases ht
  | f + 1, i, l => fun h => by
    rw [scanX] at h
    split at h
    · injection h with h; subst h; intro t ht; cases ht
    · split at h
      · exact scan_words f _ l h
      · split at h
        · exact scan_words f _ l h
        · split at h
          · cases h
          · next t e ho =>
            split at h
            · cases h
            · next r hr =>
              injection h with h
              subst h
              intro x hx
              rcases List.mem_cons.1 hx with rfl | hx
              · exact one_word ho
              · exact scan_words f _ r hr x hx
def Words (l : List Tk) : Prop := ∀ t ∈ l, t.word.size ≤ 14
theorem sign_short {l : List Tk} (h : Words l) (i : Nat) : (signS l i).size ≤ 60 := by
  unfold signS
  split
  · next t ht =>
    split
    · have := h t (List.mem_of_getElem? ht); omega
    · decide
  · decide
def ShortP (o : Option Par) : Prop := ∀ p, o = some p → (∀ i x k, p.one i = .ok (x, k) → shortE x) ∧ (∀ s i x k, p.some s i = .ok (x, k) → shortE x)
theorem nb60 : noB.size ≤ 60 := by decide
theorem one_short {l : List Tk} {o : Option Par} (hw : Words l) (ho : ShortP o) (i : Nat) (x : Ex) (k : Nat) (h : mkOne l o i = .ok (x, k)) : shortE x := by
  unfold mkOne at h
  split at h
  · cases o with
    | none => cases h
    | some p =>
      dsimp only at h
      cases hp : p.one (i + 1) with
      | error e => rw [hp] at h; cases h
      | ok r =>
        obtain ⟨y, j⟩ := r
        rw [hp] at h
        injection h with h; injection h with h1 h2
        rw [← h1, shortE]
        exact ⟨nb60, nb60, (ho p rfl).1 _ y j hp, trivial⟩
  · split at h
    · cases o with
      | none => cases h
      | some p =>
        dsimp only at h
        cases hp : p.some 1 (i + 1) with
        | error e => rw [hp] at h; cases h
        | ok r =>
          obtain ⟨y, j⟩ := r
          rw [hp] at h
          dsimp only at h
          split at h
          · injection h with h; injection h with h1 h2
            rw [← h1]; exact (ho p rfl).2 _ _ y j hp
          · cases h
    · cases hi : l[i]? with
      | none => rw [hi] at h; cases h
      | some t =>
        rw [hi] at h
        dsimp only at h
        have ht := hw t (List.mem_of_getElem? hi)
        split at h
        · injection h with h; injection h with h1 h2
          rw [← h1, shortE]; exact ⟨nb60, nb60, trivial⟩
        · split at h
          · injection h with h; injection h with h1 h2
            rw [← h1, shortE]; exact ⟨by omega, nb60, trivial⟩
          · cases h
theorem loop_short {l : List Tk} {o : Option Par} (hw : Words l) (ho : ShortP o) (s : Nat) : ∀ (f : Nat) (x : Ex) (i : Nat), shortE x → ∀ y k, loopS l o s f x i = .ok (y, k) → shortE y
  | 0, x, i, hx => fun y k h => by rw [loop_0] at h; injection h with h; injection h with h1 h2; rw [← h1]; exact hx
  | f + 1, x, i, hx => fun y k h => by
    rw [loop_s] at h
    split at h
    · cases o with
      | none => cases h
      | some p =>
        dsimp only at h
        cases hp : p.some (strength (signS l i) + 1) (i + 1) with
        | error e => rw [hp] at h; cases h
        | ok r =>
          obtain ⟨z, j⟩ := r
          rw [hp] at h
          refine loop_short hw ho s f _ j ?_ y k h
          rw [shortE]
          exact ⟨nb60, sign_short hw i, hx, (ho p rfl).2 _ _ z j hp, trivial⟩
    · injection h with h; injection h with h1 h2; rw [← h1]; exact hx
theorem some_short {l : List Tk} {o : Option Par} (hw : Words l) (ho : ShortP o) (s i : Nat) (x : Ex) (k : Nat) (h : mkSome l o s i = .ok (x, k)) : shortE x := by
  unfold mkSome at h
  cases hp : mkOne l o i with
  | error e => rw [hp] at h; cases h
  | ok r =>
    obtain ⟨y, j⟩ := r
    rw [hp] at h
    exact loop_short hw ho s _ y j (one_short hw ho i y j hp) x k h
theorem up_short {l : List Tk} (hw : Words l) : ∀ n, ShortP (up l n)
  | 0 => fun p h => by cases h
  | n + 1 => fun p h => by
    injection h with h; subst h
    exact ⟨fun i x k hx => by rw [one_mk] at hx; exact one_short hw (up_short hw n) i x k hx, fun s i x k hx => by rw [some_mk] at hx; exact some_short hw (up_short hw n) s i x k hx⟩
/-- What is parsed of short words has short names. -/
theorem parse_short {l : List Tk} (hw : Words l) (i : Int) : shortE (parseX l i).1 := by
  have hz : shortE zEx := by rw [shortE]; exact ⟨nb60, nb60, trivial⟩
  unfold parseX
  split
  · split
    · exact hz
    · next x k hx => rw [some_mk] at hx; exact some_short hw (up_short hw 64) _ _ x k hx
  · exact hz
end ExpT
end Go.Proofs.YtchceoclkdofhaaGreatDoor
namespace Go.Proofs.YtchceoclkdofhaaGreatDoor
set_option linter.unusedVariables false
set_option linter.unusedSimpArgs false
open Go.RowKit
namespace ExpW
open CalP CalW ExpP ExpT QuoP Tok
theorem tell_len : ∀ (r : Ex) (d : Nat), (tellE r d).length ≤ 3 * nodesE r
  | .mk k n nm op l, d => by
    have hb : ∀ s t, (tellH l s).length + (tellT l t).length ≤ 3 * nodesL l := fun s t => by
      match l with
      | [] => simp [tellH, tellT]
      | [x] => have := tell_len x s; simp [tellH, tellT, nodesL]; omega
      | x :: y :: _ => have := tell_len x s; have := tell_len y t; simp [tellH, tellT, nodesL]; omega
    have h7 := hb 7 0
    have hs := hb (strength op) (strength op + 1)
    simp only [tellE, nodesE]
    repeat' split
    all_goals simp
    all_goals omega
mutual
def numsE : Ex → Prop
  | .mk _ n _ _ l => CalW.I64 n ∧ numsL l
def numsL : List Ex → Prop
  | [] => True
  | x :: l => numsE x ∧ numsL l
end
theorem numsL_of : ∀ (l : List Ex), (∀ i (h : i < l.length), numsE (l[i]'h)) → numsL l
  | [], _ => trivial
  | x :: l, h => ⟨h 0 (by simp), numsL_of l (fun i hi => h (i + 1) (by simpa using hi))⟩
theorem et_nums {w : World} {K : Nat → Prop} {r : Ex} {cs : List Value} (h : Et w K r cs) : numsE r := by
  induction h with
  | mk kind n nm op kids A c css h0 h1 h2 h3 h4 _ hA ih => exact ⟨h1, numsL_of kids ih⟩
theorem strength_sign {op : ByteArray} (h : 0 < strength op) : op.data.toList ∈ signL := by
  unfold strength strengthL at h
  generalize op.data.toList = l at *
  split at h
  · next e => subst e; decide
  split at h
  · next e => subst e; decide
  split at h
  · next e => rcases e with rfl | rfl <;> decide
  split at h
  · next e => rcases e with rfl | rfl | rfl | rfl <;> decide
  split at h
  · next e => rcases e with rfl | rfl <;> decide
  split at h
  · next e => rcases e with rfl | rfl | rfl <;> decide
  · omega
theorem ok_kinds {k n : Int} {nm op : ByteArray} {d : Nat} (h1 : okE k n nm op d = true) : k = 0 ∨ k = 1 ∨ k = 2 ∨ k = 3 ∨ k = 4 := by
  unfold okE at h1
  by_cases e0 : k = 0
  · exact .inl e0
  by_cases e1 : k = 1
  · exact .inr (.inl e1)
  by_cases e2 : k = 2
  · exact .inr (.inr (.inl e2))
  by_cases e3 : k = 3
  · exact .inr (.inr (.inr (.inl e3)))
  by_cases e4 : k = 4
  · exact .inr (.inr (.inr (.inr e4)))
  rw [if_neg e0, if_neg e1, if_neg (by omega), if_neg e4] at h1; cases h1
theorem okT_sign {u : Bs} (h : u ∈ signL) : OkT ⟨4, baS u, 0⟩ := .inr (.inl ⟨rfl, rfl, u, h, rfl⟩)
/-- What tell tells are tokens. -/
theorem tell_ok : ∀ (r : Ex) (q : Nat), rightE r q = true → numsE r → ∀ d, ∀ t ∈ tellE r d, OkT t
  | .mk k n nm op l, q, hr, hn, d => by
    rw [right_eq] at hr
    simp only [Bool.and_eq_true, decide_eq_true_eq] at hr
    obtain ⟨⟨⟨h1, h2⟩, h3⟩, h4⟩ := hr
    rw [numsE] at hn
    have hbody : ∀ t ∈ tellE (.mk k n nm op l) 0, OkT t := by
      rcases ok_kinds h1 with rfl | rfl | rfl | rfl | rfl
      · rw [tell_0]
        intro t ht
        rw [List.mem_singleton] at ht
        subst ht
        have h0 : 0 ≤ n := by unfold okE at h1; simpa using h1
        exact .inl ⟨rfl, rfl, h0, hn.1.2⟩
      · rw [tell_1]
        intro t ht
        rw [List.mem_singleton] at ht
        subst ht
        have h0 : nameB nm.data.toList = true := by unfold okE at h1; simpa using h1
        have := name_len h0
        rw [← Lib.size_eq] at this
        exact .inr (.inr ⟨rfl, rfl, by show nm.size ≤ 1000; omega, h0⟩)
      · match l, h3, h4, hn with
        | [x], _, h4, hn =>
          rw [rightL, Bool.and_eq_true] at h4
          rw [tell_2]
          intro t ht
          rcases List.mem_cons.1 ht with rfl | ht
          · exact okT_sign (u := [45]) (by decide)
          · exact tell_ok x _ h4.1 hn.2.1 7 t ht
      · match l, h3, h4, hn with
        | [x], _, h4, hn =>
          rw [rightL, Bool.and_eq_true] at h4
          rw [tell_3]
          intro t ht
          rcases List.mem_cons.1 ht with rfl | ht
          · exact okT_sign (u := [33]) (by decide)
          · exact tell_ok x _ h4.1 hn.2.1 7 t ht
      · match l, h3, h4, hn with
        | [x, y], _, h4, hn =>
          simp only [rightL, Bool.and_eq_true] at h4
          rw [tell_4]
          intro t ht
          rcases List.mem_append.1 ht with ht | ht
          · exact tell_ok x _ h4.1 hn.2.1 _ t ht
          rcases List.mem_cons.1 ht with rfl | ht
          · have hs : 0 < strength op := by
              unfold okE at h1
              simp at h1; exact h1.2
            exact okT_sign (strength_sign hs)
          · exact tell_ok y _ h4.2.1 hn.2.2.1 _ t ht
    by_cases hd : d ≤ bindsK k op
    · rw [tell_open hd]; exact hbody
    · rw [tell_shut (by omega)]
      intro t ht
      simp only [List.mem_append, List.mem_cons, List.not_mem_nil, or_false] at ht
      rcases ht with (rfl | ht) | rfl
      · exact okT_sign (u := [40]) (by decide)
      · exact hbody t ht
      · exact okT_sign (u := [41]) (by decide)
theorem own_tok0 {w : World} {B : Nat} {v : Value} {l : List Tk} (ho : OwnT w B v l) : ∃ A c, v = .slice A l.length c ∧ Tok0 w A l := by
  have hl := tk0_len l
  rcases ho.2 with ⟨rfl, h0⟩ | ⟨g, cap, cur, rfl, hrest⟩
  · exact ⟨none, 0, by rw [h0], fun hp => absurd hp (by omega)⟩
  · refine ⟨_, _, rfl, fun hp => ⟨g, 0, rfl, fun i hi => ⟨0, fun j u hu => ?_⟩⟩⟩
    have hx : (l.flatMap tk0)[i * 5 + j]? = some u := by
      clear ho hl hrest hp
      induction l generalizing i with
      | nil => exact absurd hi (Nat.not_lt_zero _)
      | cons t l ih =>
        rw [List.flatMap_cons]
        cases i with
        | zero =>
          have hj : j < (tk0 t).length := (List.getElem?_eq_some_iff.1 hu).1
          rw [Nat.zero_mul, Nat.zero_add, List.getElem?_append_left hj]; exact hu
        | succ i =>
          rw [List.getElem?_append_right (by simp; omega)]
          have := ih i (by simpa using hi) hu
          rw [show (i + 1) * 5 + j - (tk0 t).length = i * 5 + j by simp; omega]; exact this
    have := World.ownsRow.cellAt ho (i * 5 + j) (by rw [← hl]; exact (List.getElem?_eq_some_iff.1 hx).1)
    rw [Nat.zero_add]; exact this.trans hx
theorem txt_len {t : Tk} (h : OkT t) : (txtS t).data.toList.length ≤ 1010 := by
  rcases h with ⟨h1, h2, h3, h4⟩ | ⟨h1, h2, u, hu, h3⟩ | ⟨h1, h2, h3, h4⟩
  · have := Lib.itoa_length_le t.n (by omega) h4
    unfold txtS
    rw [if_pos h1]
    simp; omega
  · have := sig_len u hu
    unfold txtS
    rw [if_neg (by omega), if_neg (by omega), h3]
    simp [baS]; omega
  · unfold txtS
    rw [if_neg (by omega), if_pos h1]
    have : t.word.data.toList.length ≤ 1000 := by rw [← Lib.size_eq]; exact h3
    simp at this ⊢; omega
theorem lens_le {L : List (List UInt8)} {m : Nat} (h : ∀ x ∈ L, x.length ≤ m) : Lib.lens L ≤ m * L.length := by
  induction L with
  | nil => simp [Lib.lens]
  | cons x L ih =>
    have h1 := h x (by simp)
    have h2 := ih (fun y hy => h y (by simp [hy]))
    simp only [Lib.lens, List.length_cons] at *
    rw [Nat.mul_add]; simp at *; omega
theorem join_len {l : List Tk} (h : ∀ t ∈ l, OkT t) : (joinS l).length ≤ 1011 * l.length := by
  unfold joinS
  cases l with
  | nil => simp [Lib.join_nil]
  | cons t l =>
    rw [List.map_cons, Lib.join_length]
    have := lens_le (L := (t :: l).map fun t => (txtS t).data.toList) (m := 1010) (by
      intro x hx
      obtain ⟨t, ht, rfl⟩ := List.mem_map.1 hx
      exact txt_len (h t ht))
    simp at this ⊢; omega
def TokensPost (R : Bool) (TL : List Tk) (w : World) (x : Ending) (w' : World) : Prop := Below w.heap.size w w' ∧
  ((R = true ∧ ∃ v, x = .returned (.tuple #[v, .int .i64 0]) ∧ OwnT w' w.heap.size v TL) ∨ (R = false ∧ x = .returned (.tuple #[.slice none 0 0, .int .i64 5])))
set_option maxRecDepth 100000 in
set_option maxHeartbeats 1600000 in
theorem tokens_c (r : Ex) (w : World) (cs : List Value) (h : Et w (· < w.heap.size) r cs) (hs : shortE r) (hn : nodesE r ≤ 200000) : Calls Tryz.prog 15 #[.agg cs.toArray] w (TokensPost (rightE r 0) (tellE r 0) w) := by
  obtain ⟨wa, hwa⟩ : ∃ z : World, w.alloc (.cells cs.toArray 24) = z := ⟨_, rfl⟩
  have ba : Below w.heap.size w wa := by rw [← hwa]; go_grown
  have cm := may_c r wa cs (h.bel ba) hs
  have ct : rightE r 0 = true → ∀ W, Below w.heap.size w W → Calls Tryz.prog 31 #[.slice none 0 0, .agg cs.toArray, .int .i64 0] W (TellPost w.heap.size W (.slice none 0 0) [] (tellE r 0)) := fun hr W hb => tell_c (B := w.heap.size) (nodesE r) r (Nat.le_refl _) 0 hr 0 W cs (.slice none 0 0) [] (et_bB h hb) (World.ownsRow_nil _ _ _ _) hb.size (by have := tell_len r 0; simp; omega)
  have xa : Blk wa w.heap.size 24 cs.toArray := by rw [← hwa]; exact Blk.new _ _ _
  obtain ⟨A, c, rfl⟩ := h.shape
  generalize tellE r 0 = TL at *
  generalize hR : rightE r 0 = R at *
  clear h hs hn hR
  generalize r.kind = k0 at *
  generalize r.n = k1 at *
  generalize r.name = k3 at *
  generalize r.op = k4 at *
  generalize r.kids.length = k2 at *
  have HCT := Lib.hid ct
  clear ct
  have p0 := xa.cell 0
  have p1 := xa.cell 1
  have p2 := xa.cell 2
  have p3 := xa.cell 3
  have p4 := xa.cell 4
  simp only [List.getElem?_toArray, List.getElem?_cons_zero, List.getElem?_cons_succ] at p0 p1 p2 p3 p4
  go_enter Tryz.func15, Tryz.ntmps15
  go_wp2_with fail
  (with_reducible refine cm.mono ?_)
  clear cm p0 p1 p2 p3 p4 hwa
  rintro x w2 ⟨rfl, b2⟩
  have x2 := xa.next b2
  have B2 := ba.trans (b2.mono ba.size)
  clear xa ba b2
  cases R with
  | false =>
    go_wp2_with fail
    go_ret2
    exact ⟨B2, .inr ⟨rfl, rfl⟩⟩
  | true =>
    have p0 := x2.cell 0
    have p1 := x2.cell 1
    have p2 := x2.cell 2
    have p3 := x2.cell 3
    have p4 := x2.cell 4
    simp only [List.getElem?_toArray, List.getElem?_cons_zero, List.getElem?_cons_succ] at p0 p1 p2 p3 p4
    have ct := HCT.out rfl w2 B2
    clear HCT
    go_wp2_with fail
    (with_reducible refine ct.mono ?_)
    clear ct p0 p1 p2 p3 p4 x2
    rintro x w3 ⟨v, rfl, ho, hg⟩
    have B3 := hg.below B2 B2.size (fun g e => by cases e)
    rw [List.nil_append] at ho
    go_wp2_with fail
    go_ret2
    exact ⟨B3, .inl ⟨rfl, v, rfl, ho⟩⟩
def printE (r : Ex) : Value := if rightE r 0 = true then (if 2000 < (joinS (tellE r 0)).length then .tuple #[.string noB, .int .i64 2] else .tuple #[.string ⟨(joinS (tellE r 0)).toArray⟩, .int .i64 0]) else .tuple #[.string noB, .int .i64 5]
theorem tell_pos (r : Ex) (d : Nat) : rightE r 0 = true → 0 < (tellE r d).length := by
  obtain ⟨k, n, nm, op, l⟩ := r
  intro h
  rw [right_eq] at h
  simp only [Bool.and_eq_true, decide_eq_true_eq] at h
  simp only [tellE]
  repeat' split
  all_goals simp
  all_goals (try omega)
set_option maxRecDepth 100000 in
set_option maxHeartbeats 1600000 in
theorem print_c (r : Ex) (w : World) (cs : List Value) (h : Et w (· < w.heap.size) r cs) (hs : shortE r) (hn : nodesE r ≤ 300) (ht : Tab w) : Calls Tryz.prog 16 #[.agg cs.toArray] w fun x w' => x = .returned (printE r) ∧ Below w.heap.size w w' := by
  unfold printE
  obtain ⟨wa, hwa⟩ : ∃ z : World, w.alloc (.cells cs.toArray 24) = z := ⟨_, rfl⟩
  have ba : Below w.heap.size w wa := by rw [← hwa]; go_grown
  have cm := tokens_c r wa cs ((h.bel ba).keep (fun b hb => Nat.lt_of_lt_of_le hb ba.size) (fun _ _ _ => rfl)) hs (by omega)
  unfold TokensPost at cm
  have hok := fun hr => tell_ok r 0 hr (et_nums h) 0
  have hpos := tell_pos r 0
  have hln := tell_len r 0
  have hjl := fun hr => join_len (hok hr)
  have xa : Blk wa w.heap.size 24 cs.toArray := by rw [← hwa]; exact Blk.new _ _ _
  obtain ⟨A, c, rfl⟩ := h.shape
  generalize tellE r 0 = TL at *
  generalize hR : rightE r 0 = R at *
  clear h hs hR
  generalize nodesE r = NN at *
  generalize r.kind = k0 at *
  generalize r.n = k1 at *
  generalize r.name = k3 at *
  generalize r.op = k4 at *
  generalize r.kids.length = k2 at *
  have HOK := Lib.hid hok
  have HPOS := Lib.hid hpos
  have HJL := Lib.hid hjl
  obtain ⟨RES, hRES⟩ : ∃ z : Value, (if R = true then (if 2000 < (joinS TL).length then .tuple #[.string noB, .int .i64 2] else .tuple #[.string ⟨(joinS TL).toArray⟩, .int .i64 0]) else .tuple #[.string noB, .int .i64 5]) = z := ⟨_, rfl⟩
  rw [hRES]
  have HRES := Lib.hid hRES
  clear hok hpos hjl hRES
  have p0 := xa.cell 0
  have p1 := xa.cell 1
  have p2 := xa.cell 2
  have p3 := xa.cell 3
  have p4 := xa.cell 4
  simp only [List.getElem?_toArray, List.getElem?_cons_zero, List.getElem?_cons_succ] at p0 p1 p2 p3 p4
  go_enter Tryz.func16, Tryz.ntmps16
  go_wp2_with fail
  (with_reducible refine cm.mono ?_)
  clear cm p0 p1 p2 p3 p4 hwa xa
  rintro x w2 ⟨b2, ⟨rfl, v, rfl, ho⟩ | ⟨rfl, rfl⟩⟩
  · have B2 := via b2 ba
    obtain ⟨A2, c2, rfl, hT⟩ := own_tok0 ho
    have hjl := HJL.out rfl
    have cj := join_c A2 c2 TL w2 hT (HOK.out rfl) (by omega) (HPOS.out rfl) (by omega) ((ht.bel ba).bel b2)
    have hr := HRES.out
    rw [if_pos rfl] at hr
    clear HRES hjl ho hT
    by_cases hbig : 2000 < (joinS TL).length
    · rw [if_pos hbig] at cj hr
      subst hr
      go_wp2_with fail
      (with_reducible refine cj.mono ?_)
      clear cj
      rintro x w3 ⟨rfl, b3⟩
      have B3 := via b3 B2
      go_wp2_with fail
      go_ret2
      exact ⟨rfl, B3⟩
    · rw [if_neg hbig] at cj hr
      subst hr
      go_wp2_with fail
      (with_reducible refine cj.mono ?_)
      clear cj
      rintro x w3 ⟨rfl, b3⟩
      have B3 := via b3 B2
      go_wp2_with fail
      go_ret2
      exact ⟨rfl, B3⟩
  · have B2 := via b2 ba
    have hr := HRES.out
    rw [if_neg (by decide)] at hr
    subst hr
    clear HRES
    go_wp2_with fail
    go_ret2
    exact ⟨rfl, B2⟩
end ExpW
end Go.Proofs.YtchceoclkdofhaaGreatDoor
namespace Go.Proofs.YtchceoclkdofhaaGreatDoor
set_option linter.unusedVariables false
set_option linter.unusedSimpArgs false
open Go.RowKit
namespace ExpW
open CalP CalW ExpP ExpT QuoP Tok
theorem print9 : printE x9 = .tuple #[.string ⟨#[49, 32, 43, 32, 50, 32, 42, 32, 40, 32, 36, 97, 32, 45, 32, 52, 32, 41]⟩, .int .i64 0] := by
  unfold printE
  rw [right9, if_pos rfl, tell9, if_neg (by decide)]
/-- A slice of tokens lies below a bound; behind a call too. -/
theorem tks_more {w : World} {B B' : Nat} {A : Option Addr} {l : List Tk} (h : Tks w B A l) (hB : B ≤ B') : Tks w B' A l := h.keep hB (fun _ _ _ => rfl)
theorem et_more {w : World} {K K' : Nat → Prop} {r : Ex} {cs : List Value} (h : Et w K r cs) (hK : ∀ b, K b → K' b) : Et w K' r cs := h.keep hK (fun _ _ _ => rfl)
/-- Every block of a tree's is there. -/
theorem et_lt {w : World} {K : Nat → Prop} {r : Ex} {cs : List Value} (h : Et w K r cs) : Et w (· < w.heap.size) r cs := by
  induction h with
  | mk kind n nm op kids A c css h0 h1 h2 h3 h4 _ hA ih =>
    refine .mk kind n nm op kids A c css h0 h1 h2 h3 h4 ih (fun hn => ?_)
    obtain ⟨g, o, e, hg, hc⟩ := hA hn
    refine ⟨g, o, e, ?_, hc⟩
    obtain ⟨A2, c2, e2⟩ := (ih 0 hn).shape
    have := hc 0 hn 0 _ (by rw [e2]; rfl)
    exact World.block_lt_of_cell? w _ this
/-- A tree's cells. -/
theorem et_both {w : World} {K : Nat → Prop} {y : Ex} {cs : List Value} (h : Et w K y cs) : ∃ k0 k1 k3 k4 A k2 c, cs = exC k0 k1 k3 k4 A k2 c := by
  obtain ⟨A, c, e⟩ := h.shape
  exact ⟨_, _, _, _, _, _, _, e⟩
theorem rmay_c {K : Nat → Prop} : ∀ (N : Nat) (r : Ex), nodesE r ≤ N → ∀ (w : World) (cs : List Value) (d : Nat), Et w K r cs → shortE r → d ≤ 64 →
    Calls Tryz.prog 17 #[.agg cs.toArray, .int .i64 d] w fun x w' => x = .returned (.bool (rightE r d)) ∧ Below w.heap.size w w' := by
  intro N
  induction N with
  | zero => intro r h; have := nodes_pos r; omega
  | succ N ih =>
    intro r hN w cs d h hs hd
    obtain ⟨k, n, nm, op, kids⟩ := r
    obtain ⟨A, c, rfl⟩ := h.shape
    rw [shortE] at hs
    rw [nodesE] at hN
    refine rmay_step k n nm op kids A c w d h hs.1 hd (fun i hi W cs2 h2 hd2 => ?_)
    exact ih _ (by have := nodes_kid kids i hi; omega) W cs2 (d + 1) h2 (short_kid kids i hi hs.2.2) hd2
set_option maxRecDepth 100000 in
set_option maxHeartbeats 3200000 in
theorem awake_c (w : World) (ht : Tab w) : Calls Tryz.prog 7 #[] w fun x w' => x = .returned (.bool true) ∧ Below w.heap.size w w' := by
  have c1 := scan_c s9 w
  unfold ScanPost at c1
  rw [scan9] at c1
  have hs9 : ¬ 2000 < s9.size := by decide
  go_enter Tryz.func7, Tryz.ntmps7
  go_wp2_with fail
  (with_reducible refine c1.mono ?_)
  clear c1
  rintro x w1 ⟨b1, ⟨A, c, l, e, _, rfl, hT⟩ | ⟨b, er, e | e, _, _⟩⟩
  rotate_left
  · cases e
  · exact absurd e hs9
  injection e with e
  subst e
  have c2 : Calls Tryz.prog 14 #[.slice A 10 c, .int .i64 0] w1 (PaX l9 0 w1) := parse_c A c l9 0 w1 hT (by decide)
  unfold PaX at c2
  rw [parse9] at c2
  clear hT
  go_wp2_with fail
  (with_reducible refine c2.mono ?_)
  clear c2
  rintro x w2 ⟨b2, y, cs, k, e, rfl, hE, hp⟩
  injection hp with hp1 hp2
  injection hp2 with hp2 hp3
  subst hp2 hp3
  have B2 := via b2 b1
  have hE2 := et_lt hE
  clear hE b2 b1
  obtain ⟨w3, hw3⟩ : ∃ z : World, w2.alloc (.cells cs.toArray 24) = z := ⟨_, rfl⟩
  have b3 : Below w2.heap.size w2 w3 := by rw [← hw3]; go_grown
  have x3 : Blk w3 w2.heap.size 24 cs.toArray := by rw [← hw3]; exact Blk.new _ _ _
  have hE3 := et_lt (hE2.bel b3)
  have hs : shortE y := by
    have := parse_short (l := l9) (by unfold Words; decide) 0
    rw [parse9] at this
    rw [← hp1]; exact this
  have hnd : nodesE y = 7 := by rw [← hp1]; rfl
  have hpr : printE y = _ := hp1 ▸ print9
  have hnm : namesE y = [[97]] := by rw [← hp1]; exact names9
  have B3 := via b3 B2
  have c3 := print_c y w3 cs hE3 hs (by omega) (ht.bel B3)
  rw [hpr] at c3
  have c4 := fun W (hb : Below w3.heap.size w3 W) => names_c y W cs (et_lt (hE3.bel hb)) (by omega)
  rw [hnm] at c4
  have c5 := fun W (hb : Below w3.heap.size w3 W) => same_c (nodesE y) y (Nat.le_refl _) (by omega) y W cs cs (hE3.bel hb) (hE3.bel hb)
  rw [(same_iff y y).2 rfl] at c5
  clear hpr hnm hs hnd hp1 b3 hE2
  have HC4 := Lib.hid c4
  have HC5 := Lib.hid c5
  clear c4 c5
  obtain ⟨A2, c2, rfl⟩ := hE3.shape
  clear hE3
  generalize y.kind = k0 at *
  generalize y.n = k1 at *
  generalize y.name = k3 at *
  generalize y.op = k4 at *
  generalize y.kids.length = k2 at *
  have p0 := x3.cell 0
  have p1 := x3.cell 1
  have p2 := x3.cell 2
  have p3 := x3.cell 3
  have p4 := x3.cell 4
  simp only [List.getElem?_toArray, List.getElem?_cons_zero, List.getElem?_cons_succ] at p0 p1 p2 p3 p4
  go_wp2_with fail
  (with_reducible refine c3.mono ?_)
  clear c3 hw3 p0 p1 p2 p3 p4
  rintro x w4 ⟨rfl, b4⟩
  have x4 := x3.next b4
  have B4 := via b4 B3
  have c4 := HC4.out w4 b4
  have p0 := x4.cell 0
  have p1 := x4.cell 1
  have p2 := x4.cell 2
  have p3 := x4.cell 3
  have p4 := x4.cell 4
  simp only [List.getElem?_toArray, List.getElem?_cons_zero, List.getElem?_cons_succ] at p0 p1 p2 p3 p4
  go_wp2_with fail
  (with_reducible refine c4.mono ?_)
  clear c4 p0 p1 p2 p3 p4
  rintro x w5 ⟨v, rfl, ho, b5⟩
  obtain ⟨A5, c5, rfl⟩ : ∃ A5 c5, v = .slice A5 1 c5 := by
    rcases ho.2 with ⟨rfl, h0⟩ | ⟨g, cap, cur, rfl, _⟩
    · cases h0
    · exact ⟨_, _, rfl⟩
  have x5 := x4.next b5
  have B5 := via b5 B4
  have c5' := HC5.out w5 (via b5 b4)
  have p0 := x5.cell 0
  have p1 := x5.cell 1
  have p2 := x5.cell 2
  have p3 := x5.cell 3
  have p4 := x5.cell 4
  simp only [List.getElem?_toArray, List.getElem?_cons_zero, List.getElem?_cons_succ] at p0 p1 p2 p3 p4
  go_wp2_with fail
  (with_reducible refine c5'.mono ?_)
  clear c5' p0 p1 p2 p3 p4
  rintro x w6 ⟨rfl, b6⟩
  have B6 := via b6 B5
  go_wp2_with fail
  go_ret
  exact ⟨rfl, B6⟩
end ExpW
end Go.Proofs.YtchceoclkdofhaaGreatDoor
