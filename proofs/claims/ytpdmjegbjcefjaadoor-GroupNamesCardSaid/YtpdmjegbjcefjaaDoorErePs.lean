/- The text of a repeat's sign. Conditions: counts that fit. -/
import Derived.Test.YtpdmjegbjcefjaaDoorErePr
namespace Go.Proofs.YtpdmjegbjcefjaaDoor
set_option linter.unusedVariables false
set_option linter.unusedSimpArgs false
open Go.RowKit
namespace EreX
open EreP EreW
def digB (n : Int) : Bs := [UInt8.ofNat (48 + n.toNat)]
def signB (lo hi : Int) : Bs :=
  if lo = 0 ∧ hi = -1 then [42] else if lo = 1 ∧ hi = -1 then [43] else if lo = 0 ∧ hi = 1 then [63] else if lo = hi then [123] ++ digB lo ++ [125]
  else if hi = -1 then [123] ++ digB lo ++ [44, 125] else [123] ++ digB lo ++ [44] ++ digB hi ++ [125]
theorem itoa_c (n : Int) (h0 : 0 ≤ n) (h1 : n ≤ 8) (w : World) : Calls Tryd.prog 84 #[.int .i64 n] w fun x w' => x = .returned (.string ⟨(digB n).toArray⟩) ∧ w' = w := by
  obtain ⟨k, rfl⟩ : ∃ k : Nat, n = k := ⟨n.toNat, by omega⟩
  have := Tryd.strconv_Itoa_small k (by omega) w
  refine this.mono ?_
  rintro e w' ⟨rfl, rfl⟩
  have : ∀ k : Fin 9, Lib.decDigits k.val = [UInt8.ofNat (48 + k.val)] := by decide +kernel
  exact ⟨by rw [this ⟨k, by omega⟩]; rfl, rfl⟩
set_option maxHeartbeats 1600000 in
set_option maxRecDepth 100000 in
theorem sign_c (lo hi : Int) (h0 : 0 ≤ lo) (h1 : lo ≤ 8) (h2 : -1 ≤ hi) (h3 : hi ≤ 8) (w : World) :
    Calls Tryd.prog 72 #[.int .i64 lo, .int .i64 hi] w fun x w' => x = .returned (.string ⟨(signB lo hi).toArray⟩) ∧ w' = w := by
  have cl := fun W => itoa_c lo h0 h1 W
  have ch := fun (hh : 0 ≤ hi) W => itoa_c hi hh h3 W
  generalize hdl : digB lo = dl at *
  generalize hdh : digB hi = dh at *
  by_cases a1 : lo = 0 ∧ hi = -1
  · obtain ⟨rfl, rfl⟩ := a1
    go_enter Tryd.func72, Tryd.ntmps72
    go_wp2
    go_ret
    exact ⟨rfl, rfl⟩
  by_cases a2 : lo = 1 ∧ hi = -1
  · obtain ⟨rfl, rfl⟩ := a2
    go_enter Tryd.func72, Tryd.ntmps72
    go_wp2
    go_ret
    exact ⟨rfl, rfl⟩
  by_cases a3 : lo = 0 ∧ hi = 1
  · obtain ⟨rfl, rfl⟩ := a3
    go_enter Tryd.func72, Tryd.ntmps72
    go_wp2
    go_ret
    exact ⟨rfl, rfl⟩
  have hsg : signB lo hi = if lo = hi then [123] ++ dl ++ [125] else if hi = -1 then [123] ++ dl ++ [44, 125] else [123] ++ dl ++ [44] ++ dh ++ [125] := by
    unfold signB; rw [if_neg a1, if_neg a2, if_neg a3, hdl, hdh]
  have hl1 : dl.length = 1 := by rw [← hdl]; rfl
  have hh1 : dh.length = 1 := by rw [← hdh]; rfl
  have hl2 : (⟨dl.toArray⟩ : ByteArray).size = 1 := by show dl.toArray.size = 1; simpa using hl1
  have hh2 : (⟨dh.toArray⟩ : ByteArray).size = 1 := by show dh.toArray.size = 1; simpa using hh1
  have HSG := Lib.hid hsg
  obtain ⟨x, rfl⟩ : ∃ x, dl = [x] := List.length_eq_one_iff.1 hl1
  obtain ⟨y, rfl⟩ : ∃ x, dh = [x] := List.length_eq_one_iff.1 hh1
  obtain ⟨SG, hSG⟩ : ∃ SG, signB lo hi = SG := ⟨_, rfl⟩
  rw [hSG] at HSG ⊢
  clear hsg hdl hdh hl1 hh1 hSG
  cases c0 : (lo == 0) <;> cases m1 : (hi == -1) <;> cases c1 : (lo == 1) <;> cases p1 : (hi == 1) <;> cases e : (lo == hi)
  all_goals first
    | (exfalso; simp only [beq_iff_eq, beq_eq_false_iff_ne, ne_eq] at c0 m1 c1 p1 e; omega)
    | skip
  all_goals
    have HE : Hid ((SG = [123, x, 125] ∧ lo = hi) ∨ (SG = [123, x, 44, 125] ∧ lo ≠ hi ∧ hi = -1) ∨ (SG = [123, x, 44, y, 125] ∧ lo ≠ hi ∧ hi ≠ -1)) := Lib.hid (by
      rw [HSG.out]
      by_cases g1 : lo = hi
      · left; rw [if_pos g1]; exact ⟨rfl, g1⟩
      · right; rw [if_neg g1]
        by_cases g2 : hi = -1
        · left; rw [if_pos g2]; exact ⟨rfl, g1, g2⟩
        · right; rw [if_neg g2]; exact ⟨rfl, g1, g2⟩)
    clear HSG
    rcases HE.out with ⟨rfl, g1⟩ | ⟨rfl, g1, g2⟩ | ⟨rfl, g1, g2⟩
    all_goals first
      | (exfalso; simp only [beq_iff_eq, beq_eq_false_iff_ne, ne_eq] at c0 m1 c1 p1 e; omega)
      | skip
  all_goals
    have hh0 : hi = -1 ∨ 0 ≤ hi := by omega
    clear a1 a2 a3 HE
    rcases hh0 with hh0 | hh0
    all_goals first
      | (exfalso; simp only [beq_iff_eq, beq_eq_false_iff_ne, ne_eq] at c0 m1 c1 p1 e; omega)
      | (have ch := ch hh0)
      | (clear ch)
  all_goals
    clear g1
    try clear g2
    go_enter Tryd.func72, Tryd.ntmps72
    go_wp2_with (first | ((with_reducible refine (cl _).mono ?_); rintro e w' ⟨rfl, rfl⟩) | ((with_reducible refine (ch _).mono ?_); rintro e w' ⟨rfl, rfl⟩))
    go_ret
    refine ⟨?_, rfl⟩
    refine congrArg (fun z => Ending.returned (Value.string z)) (ByteArray.ext ?_)
    simp [ByteArray.data_append]
end EreX
end Go.Proofs.YtpdmjegbjcefjaaDoor
