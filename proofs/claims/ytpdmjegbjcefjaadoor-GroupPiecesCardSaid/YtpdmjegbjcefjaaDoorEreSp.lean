/- The text of a tree, in plain words; the walks of has, told. Conditions: none. -/
import Derived.Test.YtpdmjegbjcefjaaDoorEreF
import Derived.Test.YtpdmjegbjcefjaaDoorShelf
import Derived.Deep.AppendLies
import Derived.Deep.Onto
namespace Go.Proofs.YtpdmjegbjcefjaaDoor
set_option linter.unusedVariables false
set_option linter.unusedSimpArgs false
open Go.RowKit
namespace EreX
open EreP EreW
/-- Is a byte in a set? -/
def hasS (s c : Nat) : Bool := s.testBit c
theorem word_bit (S c : Nat) : (word S (c / 64)).testBit (c % 64) = S.testBit c := by
  unfold word
  rw [show (18446744073709551616 : Nat) = 2 ^ 64 from rfl, Nat.testBit_mod_two_pow, Nat.testBit_shiftRight]
  have : c % 64 < 64 := Nat.mod_lt _ (by decide)
  simp [this]
  congr 1; omega
@[local go_sem] theorem conv_one (W : World) (z : Int) : (convert 98 9 (.slice (some ⟨W.heap.size, 0, none⟩) 1 1)).run Tryd.prog (W.alloc (.cells #[.int .u8 z] 5)) = .ok (.string ⟨#[UInt8.ofNat z.toNat]⟩) (W.alloc (.cells #[.int .u8 z] 5)) := by
  have := run_convert_bytes_arg (P := Tryd.prog) (W.alloc (.cells #[.int .u8 z] 5)) 98 5 (by kernel_rfl) (by kernel_rfl) W.heap.size 0 1 1 [z] rfl (fun i hi => by
    obtain rfl : i = 0 := by omega
    rw [cell_of_row _ _ _ _ _ _ (heap_alloc_new W _)]; rfl) 9 (by kernel_rfl)
  rw [this]; rfl
@[local go_sem] theorem conv_two (W : World) (y z : Int) : (convert 98 9 (.slice (some ⟨W.heap.size, 0, none⟩) 2 2)).run Tryd.prog (W.alloc (.cells #[.int .u8 y, .int .u8 z] 5)) = .ok (.string ⟨#[UInt8.ofNat y.toNat, UInt8.ofNat z.toNat]⟩) (W.alloc (.cells #[.int .u8 y, .int .u8 z] 5)) := by
  have := run_convert_bytes_arg (P := Tryd.prog) (W.alloc (.cells #[.int .u8 y, .int .u8 z] 5)) 98 5 (by kernel_rfl) (by kernel_rfl) W.heap.size 0 2 2 [y, z] rfl (fun i hi => by
    rw [cell_of_row _ _ _ _ _ _ (heap_alloc_new W _)]
    match i, hi with
    | 0, _ => rfl
    | 1, _ => rfl) 9 (by kernel_rfl)
  rw [this]; rfl
theorem bit_test (x m : Nat) (h : x < 18446744073709551616) : (bits .and .u64 ((x : Int) / 2 ^ m) 1 == 1) = x.testBit m := by
  have h1 : ((x : Int) / 2 ^ m) = ((x / 2 ^ m : Nat) : Int) := by simp
  have h2 : x / 2 ^ m < 18446744073709551616 := Nat.lt_of_le_of_lt (Nat.div_le_self _ _) h
  rw [h1, show (1 : Int) = ((1 : Nat) : Int) from rfl, bits_and_u64_nat _ _ h2 (by decide), Nat.and_one_is_mod, Nat.testBit_eq_decide_div_mod_eq]
  rw [Bool.eq_iff_iff]; simp; omega
/-- A byte's text, with a stroke ahead of some. -/
def toldB (c : UInt8) (means : Bs) : Bs := if means.contains c then [92, c] else [c]
set_option maxHeartbeats 1600000 in
set_option maxRecDepth 100000 in
theorem told_c (c : UInt8) (m : ByteArray) (w : World) : Calls Tryd.prog 83 #[.int .u8 c.toNat, .string m] w fun x w' => x = .returned (.string ⟨(toldB c m.data.toList).toArray⟩) ∧ Below w.heap.size w w' := by
  have ci := fun W => idx_c c W m
  have hi := idx_any m.data.toList c
  generalize Lib.indexByte m.data.toList c = K at *
  have hb := back c
  unfold toldB
  cases hm : m.data.toList.contains c
  · rw [hm] at hi
    go_enter Tryd.func83, Tryd.ntmps83
    go_wp2_with fail
    (with_reducible refine (ci _).mono ?_)
    rintro e w' ⟨rfl, rfl⟩
    go_wp2
    go_ret
    refine ⟨?_, by go_grown⟩
    simp
  · rw [hm] at hi
    go_enter Tryd.func83, Tryd.ntmps83
    go_wp2_with fail
    (with_reducible refine (ci _).mono ?_)
    rintro e w' ⟨rfl, rfl⟩
    go_wp2
    go_ret
    refine ⟨?_, by go_grown⟩
    simp
set_option maxHeartbeats 1600000 in
set_option maxRecDepth 100000 in
theorem has_c (S c : Nat) (hc : c < 256) (w : World) : Calls Tryd.prog 92 #[wordsV S, .int .i64 c] w fun x w' => x = .returned (.bool (hasS S c)) ∧ Below w.heap.size w w' := by
  have h6 : (c : Int) >>> 6 = ((c / 64 : Nat) : Int) := by
    rw [Int.shiftRight_eq_div_pow]; omega
  have a63 := and63 c (by omega)
  have hq : c / 64 = 0 ∨ c / 64 = 1 ∨ c / 64 = 2 ∨ c / 64 = 3 := by omega
  have hbit := word_bit S c
  have hlt := fun k => word_lt S k
  have hm : c % 64 < 64 := Nat.mod_lt _ (by decide)
  rcases hq with hq | hq | hq | hq
  all_goals
    rw [hq] at hbit
    go_enter Tryd.func92, Tryd.ntmps92
    go_wp2
    go_ret
    refine ⟨?_, by go_grown⟩
    rw [bit_test _ _ (hlt _), hbit]; rfl
end EreX
end Go.Proofs.YtpdmjegbjcefjaaDoor
namespace Go.Proofs.YtpdmjegbjcefjaaDoor
set_option linter.unusedVariables false
set_option linter.unusedSimpArgs false
open Go.RowKit
namespace EreX
open EreP EreW
def digB (n : Int) : Bs := [UInt8.ofNat (48 + n.toNat)]
def signB (lo hi : Int) : Bs :=
  if lo = 0 ∧ hi = -1 then [42] else if lo = 1 ∧ hi = -1 then [43] else if lo = 0 ∧ hi = 1 then [63] else if lo = hi then [123] ++ digB lo ++ [125]
  else if hi = -1 then [123] ++ digB lo ++ [44, 125] else [123] ++ digB lo ++ [44] ++ digB hi ++ [125]
theorem itoa_c (n : Int) (h0 : 0 ≤ n) (h1 : n ≤ 8) (w : World) : Calls Tryd.prog 84 #[.int .i64 n] w fun x w' => x = .returned (.string ⟨(digB n).toArray⟩) ∧ w' = w := by
  obtain ⟨k, rfl⟩ : ∃ k : Nat, n = k := ⟨n.toNat, by omega⟩
  have := Tryd.strconv_Itoa_small k (by omega) w
  refine this.mono ?_
  rintro e w' ⟨rfl, rfl⟩
  have : ∀ k : Fin 9, Lib.decDigits k.val = [UInt8.ofNat (48 + k.val)] := by decide +kernel
  exact ⟨by rw [this ⟨k, by omega⟩]; rfl, rfl⟩
set_option maxHeartbeats 1600000 in
set_option maxRecDepth 100000 in
theorem sign_c (lo hi : Int) (h0 : 0 ≤ lo) (h1 : lo ≤ 8) (h2 : -1 ≤ hi) (h3 : hi ≤ 8) (w : World) :
    Calls Tryd.prog 72 #[.int .i64 lo, .int .i64 hi] w fun x w' => x = .returned (.string ⟨(signB lo hi).toArray⟩) ∧ w' = w := by
  have cl := fun W => itoa_c lo h0 h1 W
  have ch := fun (hh : 0 ≤ hi) W => itoa_c hi hh h3 W
  generalize hdl : digB lo = dl at *
  generalize hdh : digB hi = dh at *
  by_cases a1 : lo = 0 ∧ hi = -1
  · obtain ⟨rfl, rfl⟩ := a1
    go_enter Tryd.func72, Tryd.ntmps72
    go_wp2
    go_ret
    exact ⟨rfl, rfl⟩
  by_cases a2 : lo = 1 ∧ hi = -1
  · obtain ⟨rfl, rfl⟩ := a2
    go_enter Tryd.func72, Tryd.ntmps72
    go_wp2
    go_ret
    exact ⟨rfl, rfl⟩
  by_cases a3 : lo = 0 ∧ hi = 1
  · obtain ⟨rfl, rfl⟩ := a3
    go_enter Tryd.func72, Tryd.ntmps72
    go_wp2
    go_ret
    exact ⟨rfl, rfl⟩
  have hsg : signB lo hi = if lo = hi then [123] ++ dl ++ [125] else if hi = -1 then [123] ++ dl ++ [44, 125] else [123] ++ dl ++ [44] ++ dh ++ [125] := by
    unfold signB; rw [if_neg a1, if_neg a2, if_neg a3, hdl, hdh]
  have hl1 : dl.length = 1 := by rw [← hdl]; rfl
  have hh1 : dh.length = 1 := by rw [← hdh]; rfl
  have hl2 : (⟨dl.toArray⟩ : ByteArray).size = 1 := by show dl.toArray.size = 1; simpa using hl1
  have hh2 : (⟨dh.toArray⟩ : ByteArray).size = 1 := by show dh.toArray.size = 1; simpa using hh1
  have HSG := Lib.hid hsg
  obtain ⟨x, rfl⟩ : ∃ x, dl = [x] := List.length_eq_one_iff.1 hl1
  obtain ⟨y, rfl⟩ : ∃ x, dh = [x] := List.length_eq_one_iff.1 hh1
  obtain ⟨SG, hSG⟩ : ∃ SG, signB lo hi = SG := ⟨_, rfl⟩
  rw [hSG] at HSG ⊢
  clear hsg hdl hdh hl1 hh1 hSG
  cases c0 : (lo == 0) <;> cases m1 : (hi == -1) <;> cases c1 : (lo == 1) <;> cases p1 : (hi == 1) <;> cases e : (lo == hi)
  all_goals first
    | (exfalso; simp only [beq_iff_eq, beq_eq_false_iff_ne, ne_eq] at c0 m1 c1 p1 e; omega)
    | skip
  all_goals
    have HE : Hid ((SG = [123, x, 125] ∧ lo = hi) ∨ (SG = [123, x, 44, 125] ∧ lo ≠ hi ∧ hi = -1) ∨ (SG = [123, x, 44, y, 125] ∧ lo ≠ hi ∧ hi ≠ -1)) := Lib.hid (by
      rw [HSG.out]
      by_cases g1 : lo = hi
      · left; rw [if_pos g1]; exact ⟨rfl, g1⟩
      · right; rw [if_neg g1]
        by_cases g2 : hi = -1
        · left; rw [if_pos g2]; exact ⟨rfl, g1, g2⟩
        · right; rw [if_neg g2]; exact ⟨rfl, g1, g2⟩)
    clear HSG
    rcases HE.out with ⟨rfl, g1⟩ | ⟨rfl, g1, g2⟩ | ⟨rfl, g1, g2⟩
    all_goals first
      | (exfalso; simp only [beq_iff_eq, beq_eq_false_iff_ne, ne_eq] at c0 m1 c1 p1 e; omega)
      | skip
  all_goals
    have hh0 : hi = -1 ∨ 0 ≤ hi := by omega
    clear a1 a2 a3 HE
    rcases hh0 with hh0 | hh0
    all_goals first
      | (exfalso; simp only [beq_iff_eq, beq_eq_false_iff_ne, ne_eq] at c0 m1 c1 p1 e; omega)
      | (have ch := ch hh0)
      | (clear ch)
  all_goals
    clear g1
    try clear g2
    go_enter Tryd.func72, Tryd.ntmps72
    go_wp2_with (first | ((with_reducible refine (cl _).mono ?_); rintro e w' ⟨rfl, rfl⟩) | ((with_reducible refine (ch _).mono ?_); rintro e w' ⟨rfl, rfl⟩))
    go_ret
    refine ⟨?_, rfl⟩
    refine congrArg (fun z => Ending.returned (Value.string z)) (ByteArray.ext ?_)
    simp [ByteArray.data_append]
end EreX
end Go.Proofs.YtpdmjegbjcefjaaDoor
namespace Go.Proofs.YtpdmjegbjcefjaaDoor
set_option linter.unusedVariables false
set_option linter.unusedSimpArgs false
open Go.RowKit
namespace EreX
open EreP EreW
/-- Where a run ends. -/
def endS (s : Nat) : Nat → Nat → Nat
  | 0, c => c
  | f + 1, c => if c < 256 ∧ hasS s c = true then endS s f (c + 1) else c
theorem endS_le (s : Nat) : ∀ f c, c ≤ 256 → c ≤ endS s f c ∧ endS s f c ≤ 256 := by
  intro f
  induction f with
  | zero => intro c h; simp [endS, h]
  | succ f ih =>
    intro c h
    unfold endS
    split
    · next hh => have := ih (c + 1) (by omega); omega
    · omega
/-- The longest runs, from a place on. -/
def spansF (s : Nat) : Nat → Nat → List (Nat × Nat)
  | 0, _ => []
  | f + 1, c => if c < 256 then (if c < endS s (256 - c) c then [(c, endS s (256 - c) c - 1)] else []) ++ spansF s f (endS s (256 - c) c + 1) else []
def spansS (s : Nat) : List (Nat × Nat) := spansF s 257 0
def spCells (l : List (Nat × Nat)) : List Value := (l.map fun p => [Value.int .u8 p.1, Value.int .u8 p.2]).flatten
theorem spCells_app (l : List (Nat × Nat)) (a b : Nat) : spCells (l ++ [(a, b)]) = spCells l ++ [.int .u8 a, .int .u8 b] := by simp [spCells]
theorem info_sp : (Tryd.prog.info? 120).map (fun i => (i.zero, i.size, i.bytes)) = some (some (.agg #[.int .u8 0, .int .u8 0]), 2, 2) := by kernel_rfl
theorem own_below {B : Nat} {t : TypeId} {sz n : Nat} {v : Value} {xs : List Value} {w w' : World} (h : w.ownsRow B t sz v n xs) (hb : Below w.heap.size w w') : w'.ownsRow B t sz v n xs :=
  h.kept (row := none) ⟨hb.os, hb.tape, hb.output, hb.size, fun k hk _ => hb.block k hk⟩ (by
    cases hv : v.ownBlock with
    | none => exact Or.inl rfl
    | some b => right; simp)
def SpPost (S : Nat) (w : World) (x : Ending) (w' : World) : Prop :=
  ∃ lv, x = .returned lv ∧ w'.ownsRow w.heap.size 120 2 lv (spansS S).length (spCells (spansS S)) ∧ Below w.heap.size w w'
set_option maxHeartbeats 3200000 in
set_option maxRecDepth 100000 in
theorem spans_c (S : Nat) (w : World) : Calls Tryd.prog 81 #[setV S] w (SpPost S w) := by
  obtain ⟨i0, hi0, hz0, hz1, hz2⟩ := info_parts info_sp
  obtain ⟨SP, hSP⟩ : ∃ SP, spansS S = SP := ⟨_, rfl⟩
  have HSP := Lib.hid hSP
  have HF := Lib.hid (show ([] : List (Nat × Nat)) ++ spansF S 257 0 = SP from hSP)
  unfold SpPost
  rw [hSP]
  clear hSP
  obtain ⟨wa, hwa⟩ : ∃ z : World, z = w.alloc (.cells #[.int .u64 (word S 0), .int .u64 (word S 1), .int .u64 (word S 2), .int .u64 (word S 3)] 24) := ⟨_, rfl⟩
  have xa : Blk wa w.heap.size 24 #[.int .u64 (word S 0), .int .u64 (word S 1), .int .u64 (word S 2), .int .u64 (word S 3)] := by rw [hwa]; exact Blk.new _ _ _
  have ba : Below w.heap.size w wa := by rw [hwa]; go_grown
  have za : wa.heap.size = w.heap.size + 1 := by rw [hwa, World.size_alloc]
  go_enter Tryd.func81, Tryd.ntmps81
  go_wp2
  rw [← hwa]
  clear hwa
  go_loopw [3, 4] (fun lv v wr => ∃ (c f : Nat) (acc : List (Nat × Nat)), v = .int .i64 c ∧ c ≤ 257 ∧ 257 ≤ f + c ∧ acc.length ≤ c ∧ Hid (acc ++ spansF S f c = SP) ∧ wr.ownsRow wa.heap.size 120 2 lv acc.length (spCells acc) ∧ Below wa.heap.size wa wr) (fun _ v _ => 257 - (intOf v).toNat)
  case atStart => exact ⟨0, 257, [], rfl, by omega, by omega, by simp, HF, World.ownsRow_nil _ _ _ _, Below.refl _ _⟩
  case round =>
    obtain ⟨z0, rfl⟩ : ∃ z : World, z = wr := ⟨_, rfl⟩
    obtain ⟨lv, rfl⟩ : ∃ z : Value, z = u3 := ⟨_, rfl⟩
    obtain ⟨c, f, acc, rfl, hc, hf, hac, hsp, hown, hB⟩ := hrel
    have zB := hB.size
    have xr := xa.next hB
    by_cases hlt : c < 256
    · obtain ⟨f', rfl⟩ : ∃ f', f = f' + 1 := ⟨f - 1, by omega⟩
      obtain ⟨E, hE⟩ : ∃ E, endS S (256 - c) c = E := ⟨_, rfl⟩
      have hle := endS_le S (256 - c) c (by omega)
      rw [hE] at hle
      have hst : acc ++ ((if c < E then [(c, E - 1)] else []) ++ spansF S f' (E + 1)) = SP := by
        have := hsp.out; rw [spansF, if_pos hlt, hE] at this; exact this
      have HST := Lib.hid hst
      have HE := Lib.hid hE
      clear hst hE hsp
      have d0 : decide ((c : Int) < 256) = true := by simp; omega
      go_wp2
      go_loopw [4] (fun v wi => ∃ k : Nat, v = .int .i64 k ∧ c ≤ k ∧ k ≤ 256 ∧ Hid (endS S (256 - k) k = E) ∧ Below z0.heap.size z0 wi) (fun v _ => 256 - (intOf v).toNat)
      case atStart => exact ⟨c, rfl, by omega, by omega, HE, Below.refl _ _⟩
      case round =>
        obtain ⟨z1, rfl⟩ : ∃ z : World, z = wr := ⟨_, rfl⟩
        obtain ⟨k, rfl, hck, hk, hE2, hBi⟩ := hrel
        have zi := hBi.size
        have xi := xr.next hBi
        have q0 := xi.cell 0
        have q1 := xi.cell 1
        have q2 := xi.cell 2
        have q3 := xi.cell 3
        simp only [List.getElem?_toArray, List.getElem?_cons_zero, List.getElem?_cons_succ] at q0 q1 q2 q3
        by_cases hk2 : k < 256
        · have hh := has_c S k hk2 z1
          have hEe : endS S (256 - k) k = if k < 256 ∧ hasS S k = true then endS S (256 - (k + 1)) (k + 1) else k := by
            rw [show 256 - k = (256 - (k + 1)) + 1 by omega, endS]
          cases hb : hasS S k
          · rw [hb] at hh hEe
            have hkE : k = E := by rw [← hE2.out, hEe]; simp
            subst hkE
            clear hEe
            go_wp2_with fail
            (with_reducible refine hh.mono ?_)
            rintro e w2 ⟨rfl, hb2⟩
            have hBi := via hb2 hBi
            have hown2 := own_below hown hBi
            have hB2 : Below wa.heap.size wa w2 := via hBi hB
            have z2 := hBi.size
            clear hE2
            by_cases hce : c < k
            · have d2 : decide ((c : Int) < (k : Int)) = true := by simp; omega
              have u1 : IntKind.u8.wrap (c : Int) = (c : Int) := by simp [IntKind.wrap, IntKind.bits, IntKind.signed]; omega
              have u2 : IntKind.u8.wrap ((k : Int) - 1) = ((k - 1 : Nat) : Int) := by simp [IntKind.wrap, IntKind.bits, IntKind.signed]; omega
              go_wp2_with (at_builtin; refine wpList_append_lies _ rfl _ _ 118 rfl wa.heap.size 120 i0 (.agg #[.int .u8 0, .int .u8 0]) 2 2 Tryd.underlying118 hi0 hz0 hz1 hz2 rfl (by decide) _ acc.length (spCells acc) rfl (hown2.alloc _) ⟨World.heap w2 |>.size, 0, none⟩ 1 1 [.int .u8 c, .int .u8 ((k - 1 : Nat) : Int)] rfl rfl (World.news_of_block (heap_alloc_new w2 _)) (by intro u hu; simp at hu; rcases hu with rfl | rfl <;> rfl) (by omega) (by unfold maxLen; omega) (by omega) (by rw [World.size_alloc]; omega) ((w2).heap.size + 1) (by rw [World.size_alloc]) ?_)
              intro g5 cap w5 hown5 hgrow hat hlt5
              have hB5 : Below wa.heap.size wa w5 := (hB2.alloc (by omega) _).grown hgrow (by rw [World.size_alloc]; omega) (fun b hb => (hown2.lt b hb).1)
              have HOWN := Lib.hid hown5
              clear hgrow hat hlt5 hown5
              go_wp2
              go_roundw
              case rel =>
                refine ⟨k + 1, f', acc ++ [(c, k - 1)], by go_num, by omega, by omega, by simp; omega, Lib.hid ?_, ?_, hB5⟩
                · have := HST.out; rw [if_pos hce] at this; rw [← this]; simp
                · rw [spCells_app, List.length_append]; first | exact HOWN.out | (rw [za]; exact HOWN.out)
              case measure => simp [intOf]; omega
            · have d2 : decide ((c : Int) < (k : Int)) = false := by simp; omega
              go_wp2
              go_roundw
              case rel =>
                refine ⟨k + 1, f', acc, by go_num, by omega, by omega, by omega, Lib.hid ?_, hown2, hB2⟩
                have := HST.out; rw [if_neg hce] at this; rw [← this]; simp
              case measure => simp [intOf]; omega
          · rw [hb] at hh hEe
            have hE3 := Lib.hid (show endS S (256 - (k + 1)) (k + 1) = E by rw [← hE2.out, hEe]; simp [hk2])
            clear hEe hE2
            go_wp2_with fail
            (with_reducible refine hh.mono ?_)
            rintro e w2 ⟨rfl, hb2⟩
            have hBi := via hb2 hBi
            go_wp2
            go_roundw
            case rel => exact ⟨k + 1, by go_num, by omega, by omega, hE3, hBi⟩
            case measure => simp [intOf]; omega
        · have hk3 : k = 256 := by omega
          have hkE : k = E := by rw [← hE2.out, hk3]; rfl
          have d3 : decide ((k : Int) < 256) = false := by simp; omega
          subst hkE
          clear hk3
          have hown2 := own_below hown hBi
          have hB2 : Below wa.heap.size wa z1 := via hBi hB
          have z2 := hBi.size
          clear hE2
          by_cases hce : c < k
          · have d2 : decide ((c : Int) < (k : Int)) = true := by simp; omega
            have u1 : IntKind.u8.wrap (c : Int) = (c : Int) := by simp [IntKind.wrap, IntKind.bits, IntKind.signed]; omega
            have u2 : IntKind.u8.wrap ((k : Int) - 1) = ((k - 1 : Nat) : Int) := by simp [IntKind.wrap, IntKind.bits, IntKind.signed]; omega
            go_wp2_with (at_builtin; refine wpList_append_lies _ rfl _ _ 118 rfl wa.heap.size 120 i0 (.agg #[.int .u8 0, .int .u8 0]) 2 2 Tryd.underlying118 hi0 hz0 hz1 hz2 rfl (by decide) _ acc.length (spCells acc) rfl (hown2.alloc _) ⟨World.heap z1 |>.size, 0, none⟩ 1 1 [.int .u8 c, .int .u8 ((k - 1 : Nat) : Int)] rfl rfl (World.news_of_block (heap_alloc_new z1 _)) (by intro u hu; simp at hu; rcases hu with rfl | rfl <;> rfl) (by omega) (by unfold maxLen; omega) (by omega) (by rw [World.size_alloc]; omega) ((z1).heap.size + 1) (by rw [World.size_alloc]) ?_)
            intro g5 cap w5 hown5 hgrow hat hlt5
            have hB5 : Below wa.heap.size wa w5 := (hB2.alloc (by omega) _).grown hgrow (by rw [World.size_alloc]; omega) (fun b hb => (hown2.lt b hb).1)
            have HOWN := Lib.hid hown5
            clear hgrow hat hlt5 hown5
            go_wp2
            go_roundw
            case rel =>
              refine ⟨k + 1, f', acc ++ [(c, k - 1)], by go_num, by omega, by omega, by simp; omega, Lib.hid ?_, ?_, hB5⟩
              · have := HST.out; rw [if_pos hce] at this; rw [← this]; simp
              · rw [spCells_app, List.length_append]; first | exact HOWN.out | (rw [za]; exact HOWN.out)
            case measure => simp [intOf]; omega
          · have d2 : decide ((c : Int) < (k : Int)) = false := by simp; omega
            go_wp2
            go_roundw
            case rel =>
              refine ⟨k + 1, f', acc, by go_num, by omega, by omega, by omega, Lib.hid ?_, hown2, hB2⟩
              have := HST.out; rw [if_neg hce] at this; rw [← this]; simp
            case measure => simp [intOf]; omega
    · have hc2 : spansF S f c = [] := by
        cases f with
        | zero => rfl
        | succ f => rw [spansF, if_neg hlt]
      have hz : acc = SP := by have := hsp.out; rw [hc2, List.append_nil] at this; exact this
      subst hz
      clear hsp
      go_wp2
      go_ret
      exact ⟨_, rfl, World.ownsRow.mono hown (by omega), via hB ba⟩
end EreX
end Go.Proofs.YtpdmjegbjcefjaaDoor
