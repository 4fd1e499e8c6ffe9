/- EreBack returns true for every input. No condition. -/
import Derived.Test.YtdonokghemhfiaaDoorFrame
import Derived.Test.YtdonokghemhfiaaDoorCards
import Derived.Test.YtdonokghemhfiaaDoorTie
import Derived.Deep.DeepHandedRow
import Derived.Test.YtdonokghemhfiaaDoorEreL
import Derived.Test.YtdonokghemhfiaaDoorEreQx
import Derived.Test.YtdonokghemhfiaaDoorOpenRe
namespace Go.Proofs.YtdonokghemhfiaaDoor
open Go.ChangeShapes Go.WideShapes Go.ChangeAt Go.RowKit LawFrame
set_option linter.unusedVariables false
namespace ereBack
set_option maxHeartbeats 400000 in
set_option maxRecDepth 100000 in
theorem contract (H : Type) (enc : TypeId × Value → H) (W : World) (base : Nat) (args : Array Value) (ds gs : List (DataW H)) (before : List MemPlace)
    (hval : ∀ (j : Nat) t v, Tryd.f6.params[j]? = some t → args[j]? = some v → Value.okWide Tryd.prog W .any base t v)
    (hW : DataW.Whole enc Tryd.prog Tryd.f6.params.toList Rows.ereBackSpec.vars false W args.toList ds gs before) (hL : laidMetH Tryd.prog Rows.ereBackRow.laid W) :
    Calls Tryd.prog 6 args W fun e W' => e = .returned (.bool true) ∧ Below W.heap.size W W' := by
  obtain ⟨p, q, hA0, hV, rfl, hfz, hnd⟩ := hW
  have hA : DataW.TrodAll enc Tryd.prog W 0 (fun _ => true) true Tryd.f6.params.toList args.toList ds p := hA0
  rw [Tryd.params6] at hA hval
  obtain ⟨v0, vs0, d0, ds0, p0, q0, hargs, rfl, rfl, h0, r0⟩ := trodAll_cons hA
  obtain ⟨rfl, rfl, rfl⟩ := trodAll_nil r0
  obtain rfl : args = #[v0] := by cases args; simp_all
  have o0 := hval 0 28 v0 rfl rfl
  exact (by
    obtain ⟨cs0, rfl, _⟩ := okWide_struct Tryd.underlying28 o0
    obtain ⟨r0, n0⟩ := OpenRe.open_v h0
    exact EreX.back_c r0 W cs0.toList n0)
theorem reads (os : Os) {H : Type} (enc : TypeId × Value → H) : ∃ places, DataW.whole enc Tryd.prog ((EreL.laidWorld os).forCall (fun _ _ => 0) ⟨#[], #[.agg #[.int .i64 0, .int .u64 0, .int .u64 0, .int .u64 0, .int .u64 0, .slice none 0 0, .int .i64 0, .int .i64 0, .int .i64 0]], []⟩).memory Tryd.f6.params.toList Rows.ereBackSpec.vars false (#[.agg #[.int .i64 0, .int .u64 0, .int .u64 0, .int .u64 0, .int .u64 0, .slice none 0 0, .int .i64 0, .int .i64 0, .int .i64 0]] : Array Value).toList 8 = some ([.agg [.lit (.int .i64 0), .agg [.lit (.int .u64 0), .lit (.int .u64 0), .lit (.int .u64 0), .lit (.int .u64 0)], .nil, .lit (.int .i64 0), .lit (.int .i64 0), .lit (.int .i64 0)]], [], places) :=
  ⟨[], by kernel_rfl⟩
set_option maxRecDepth 100000 in
theorem lifted (os : Os) (started : os.Started) (H : Type) (enc : TypeId × Value → H) (F : Stop.Interp) :
    ReturnsInHanded {} Tryd.checked os 6 .any ((OpenSpec.ofChange Rows.ereBackSpec).preRow enc Tryd.prog Tryd.f6 Rows.ereBackRow.domain false Rows.ereBackRow.laid) (((OpenSpec.ofChange Rows.ereBackSpec).at F).post enc Tryd.prog Tryd.f6 false true false false) := by
  obtain ⟨places, hx⟩ := reads os enc
  refine returnsInHanded_of_row (C := Tryd.checked) (s := OpenSpec.ofChange Rows.ereBackSpec) lf_own started (by kernel_rfl) Tryd.func6
    (witness_row_at (enc := enc) (C := Tryd.checked) false (EreL.laidWorld os) #[.agg #[.int .i64 0, .int .u64 0, .int .u64 0, .int .u64 0, .int .u64 0, .slice none 0 0, .int .i64 0, .int .i64 0, .int .i64 0]] rfl (by kernel_rfl) (by kernel_rfl) (by kernel_rfl)
      (OpenSpec.preRow_of_cond 8 hx (by kernel_rfl) (fun k hk => by cases hk) (by kernel_rfl) (EreL.laid_met os _))) ?_
  intro W base args ds gs before hval hW _ _ _ hL _ _
  exact lf_step lf_laid (by kernel_rfl) rfl (by kernel_rfl) Tryd.underlying4 (fun ds h => by match ds, h with | [_], _ => rfl) hW
    (contract H enc W base args ds gs before hval hW hL)
theorem said : Rows.EreBackSaid :=
  OpenClaim.holds_of_cond 6 Tryd.f6 rfl rfl rfl rfl rfl rfl rfl ⟨rfl, rfl, rfl, rfl, rfl⟩ rfl rfl rfl rfl rfl (by kernel_rfl) Tryd.func6 (by kernel_rfl)
    (of_decide_eq_true (by kernel_rfl)) (by unfold Func.isWrapper; first | (rw [if_pos (by decide +kernel)]; kernel_rfl) | (rw [if_neg (by decide +kernel)]; exact ⟨rfl, rfl⟩))
    (fun os started H enc _ F => by rw [OpenClaim.pre_eq_preRow]; exact lifted os started H enc F)
theorem plain (f : FuncId) (fn : Func) (hf : Tryd.pinned.checked.prog.funcNamed "souffleur/souffleurlaw04.EreBack" = some f) (hfn : Tryd.pinned.checked.prog.funcs[f]? = some fn) :
    false = Tryd.pinned.checked.prog.looks [] ∧ ∀ (j : Nat) t, fn.params[j]? = some t → Tryd.pinned.checked.prog.wantsStandIn t = false := by
  obtain rfl : f = 6 := Option.some.inj ((show Tryd.prog.funcNamed "souffleur/souffleurlaw04.EreBack" = some 6 by kernel_rfl).symm.trans hf) |>.symm
  obtain rfl : fn = Tryd.f6 := (Option.some.inj (Tryd.func6.symm.trans hfn)).symm
  refine ⟨by kernel_rfl, fun j t ht => ?_⟩
  rw [Tryd.params6] at ht
  have hm : t ∈ (#[28] : Array TypeId) := Array.mem_of_getElem? ht
  have ht2 : t = 28 := by simpa using hm
  rcases ht2 with rfl
  · exact (show Tryd.prog.wantsStandIn 28 = false by kernel_rfl)
theorem proved : Rows.EreBackCardSaid :=
  Claim7.holds_tied_plain_at .later [] _ _ _ _ said (fun _ h => by cases h) (by kernel_rfl) (fun _ h => by cases h) ereBack_row_tie rfl ⟨rfl, rfl⟩ (by kernel_rfl) rfl plain (by kernel_rfl)
end ereBack
end Go.Proofs.YtdonokghemhfiaaDoor
