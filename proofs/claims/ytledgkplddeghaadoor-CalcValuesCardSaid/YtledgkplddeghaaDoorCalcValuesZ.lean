/- CalcValues returns true for every input. No condition. -/
import Derived.Test.YtledgkplddeghaaDoorFrame
import Derived.Test.YtledgkplddeghaaDoorCards
import Derived.Test.YtledgkplddeghaaDoorTie
import Derived.Deep.DeepHandedRow
import Derived.Test.YtledgkplddeghaaDoorCalL
import Derived.Test.YtledgkplddeghaaDoorCalD
import Derived.Test.YtledgkplddeghaaDoorOpenPm
import Derived.Test.YtledgkplddeghaaDoorOpenVg
import Derived.Test.YtledgkplddeghaaDoorOpen
namespace Go.Proofs.YtledgkplddeghaaDoor
set_option linter.unusedVariables false
set_option linter.unusedSimpArgs false
open Go.ChangeShapes Go.WideShapes Go.ChangeAt Go.RowKit LawFrame
set_option linter.unusedVariables false
namespace calcValues
set_option maxHeartbeats 400000 in
set_option maxRecDepth 100000 in
theorem contract (H : Type) (enc : TypeId × Value → H) (W : World) (base : Nat) (args : Array Value) (ds gs : List (DataW H)) (before : List MemPlace)
    (hval : ∀ (j : Nat) t v, Tryd.f4.params[j]? = some t → args[j]? = some v → Value.okWide Tryd.prog W .any base t v)
    (hW : DataW.Whole enc Tryd.prog Tryd.f4.params.toList Rows.calcValuesSpec.vars false W args.toList ds gs before) (hL : laidMetH Tryd.prog Rows.calcValuesRow.laid W) :
    Calls Tryd.prog 4 args W fun e W' => e = .returned (.bool true) ∧ Below W.heap.size W W' := by
  have hR := NumK.rdy hL
  obtain ⟨p, q, hA0, hV, rfl, hfz, hnd⟩ := hW
  have hA : DataW.TrodAll enc Tryd.prog W 0 (fun _ => true) true Tryd.f4.params.toList args.toList ds p := hA0
  rw [Tryd.params4] at hA hval
  obtain ⟨v0, vs0, d0, ds0, p0, q0, hargs, rfl, rfl, h0, r0⟩ := trodAll_cons hA
  obtain ⟨v1, vs1, d1, ds1, p1, q1, rfl, rfl, rfl, h1, r1⟩ := trodAll_cons r0
  obtain ⟨v2, vs2, d2, ds2, p2, q2, rfl, rfl, rfl, h2, r2⟩ := trodAll_cons r1
  obtain ⟨rfl, rfl, rfl⟩ := trodAll_nil r2
  obtain rfl : args = #[v0, v1, v2] := by cases args; simp_all
  have o0 := hval 0 40 v0 rfl rfl
  have o1 := hval 1 25 v1 rfl rfl
  have o2 := hval 2 26 v2 rfl rfl
  exact (by
    obtain ⟨P, pn, pc, ps, rfl, hpn, hp⟩ := OpenP.arg Tryd.underlying40 Tryd.underlying42 (by kernel_rfl) (by kernel_rfl) (by kernel_rfl) (by kernel_rfl) o0 h0
    obtain ⟨A, n, c, l, rfl, hn, hr, hf⟩ := OpenV.arg Tryd.underlying25 Tryd.underlying53 (by kernel_rfl) (by kernel_rfl) (by kernel_rfl) (by kernel_rfl) o1 h1
    obtain ⟨a2, len2, cap2, rfl⟩ := okWide_slice Tryd.underlying26 o2
    obtain ⟨fuel2, t2⟩ := h2
    obtain ⟨C, m, cm, ls, e2, l2, m2, hls, _, hR2⟩ := Open.strings Tryd.underlying26 Tryd.underlying9 (by kernel_rfl) t2
    rw [e2]
    exact CalW.values_c P pn pc ps A n c l C m cm ls W hR hp (by simp [maxLen] at hpn; omega) hr (by simp [maxLen] at hn; omega) (fun p hp => by have := hf p hp; simp [maxLen] at this; omega) hR2 hls (by simp [maxLen] at m2; omega))
theorem reads (os : Os) {H : Type} (enc : TypeId × Value → H) : ∃ places, DataW.whole enc Tryd.prog ((NumK.laidWorld os).forCall (fun _ _ => 0) ⟨#[], #[.slice none 0 0, .slice none 0 0, .slice none 0 0], []⟩).memory Tryd.f4.params.toList Rows.calcValuesSpec.vars false (#[.slice none 0 0, .slice none 0 0, .slice none 0 0] : Array Value).toList 8 = some ([.nil, .nil, .nil], [], places) :=
  ⟨[], by kernel_rfl⟩
set_option maxRecDepth 100000 in
theorem lifted (os : Os) (started : os.Started) (H : Type) (enc : TypeId × Value → H) (F : Stop.Interp) :
    ReturnsInHanded {} Tryd.checked os 4 .any ((OpenSpec.ofChange Rows.calcValuesSpec).preRow enc Tryd.prog Tryd.f4 Rows.calcValuesRow.domain false Rows.calcValuesRow.laid) (((OpenSpec.ofChange Rows.calcValuesSpec).at F).post enc Tryd.prog Tryd.f4 false true false false) := by
  obtain ⟨places, hx⟩ := reads os enc
  refine returnsInHanded_of_row (C := Tryd.checked) (s := OpenSpec.ofChange Rows.calcValuesSpec) lf_own started (by kernel_rfl) Tryd.func4
    (witness_row_at (enc := enc) (C := Tryd.checked) false (NumK.laidWorld os) #[.slice none 0 0, .slice none 0 0, .slice none 0 0] rfl (by kernel_rfl) (by kernel_rfl) (by kernel_rfl)
      (OpenSpec.preRow_of_cond 8 hx (by kernel_rfl) (fun k hk => by cases hk) (by kernel_rfl) (NumK.laid_met os _))) ?_
  intro W base args ds gs before hval hW _ _ _ hL _ _
  exact lf_step lf_laid (by kernel_rfl) rfl (by kernel_rfl) Tryd.underlying4 (fun ds h => by match ds, h with | [_, _, _], _ => rfl) hW
    (contract H enc W base args ds gs before hval hW hL)
theorem said : Rows.CalcValuesSaid :=
  OpenClaim.holds_of_cond 4 Tryd.f4 rfl rfl rfl rfl rfl rfl rfl ⟨rfl, rfl, rfl, rfl, rfl⟩ rfl rfl rfl rfl rfl (by kernel_rfl) Tryd.func4 (by kernel_rfl)
    (of_decide_eq_true (by kernel_rfl)) (by unfold Func.isWrapper; first | (rw [if_pos (by decide +kernel)]; kernel_rfl) | (rw [if_neg (by decide +kernel)]; exact ⟨rfl, rfl⟩))
    (fun os started H enc _ F => by rw [OpenClaim.pre_eq_preRow]; exact lifted os started H enc F)
theorem plain (f : FuncId) (fn : Func) (hf : Tryd.pinned.checked.prog.funcNamed "souffleur/souffleurlaw15.CalcValues" = some f) (hfn : Tryd.pinned.checked.prog.funcs[f]? = some fn) :
    true = Tryd.pinned.checked.prog.looks [] ∧ ∀ (j : Nat) t, fn.params[j]? = some t → Tryd.pinned.checked.prog.wantsStandIn t = false := by
  obtain rfl : f = 4 := Option.some.inj ((show Tryd.prog.funcNamed "souffleur/souffleurlaw15.CalcValues" = some 4 by kernel_rfl).symm.trans hf) |>.symm
  obtain rfl : fn = Tryd.f4 := (Option.some.inj (Tryd.func4.symm.trans hfn)).symm
  refine ⟨by kernel_rfl, fun j t ht => ?_⟩
  rw [Tryd.params4] at ht
  have hm : t ∈ (#[40, 25, 26] : Array TypeId) := Array.mem_of_getElem? ht
  have ht2 : t = 40 ∨ t = 25 ∨ t = 26 := by simpa using hm
  rcases ht2 with rfl | rfl | rfl
  · exact (show Tryd.prog.wantsStandIn 40 = false by kernel_rfl)
  · exact (show Tryd.prog.wantsStandIn 25 = false by kernel_rfl)
  · exact (show Tryd.prog.wantsStandIn 26 = false by kernel_rfl)
theorem proved : Rows.CalcValuesCardSaid :=
  Claim7.holds_tied_plain_at .later [] _ _ _ _ said (fun _ h => by cases h) (by kernel_rfl) (fun _ h => by cases h) calcValues_row_tie rfl ⟨rfl, rfl⟩ (by kernel_rfl) rfl plain (by kernel_rfl)
end calcValues
end Go.Proofs.YtledgkplddeghaaDoor
