/- TraceLines returns true for every input. No condition. -/
import Derived.Test.YtooinkhjoppijaaDoorFrame
import Derived.Test.YtooinkhjoppijaaDoorCards
import Derived.Test.YtooinkhjoppijaaDoorTie
import Derived.Deep.DeepHandedRow
import Derived.Test.YtooinkhjoppijaaDoorTraWd
import Derived.Test.YtooinkhjoppijaaDoorTraJ
import Derived.Test.YtooinkhjoppijaaDoorOpenTr
namespace Go.Proofs.YtooinkhjoppijaaDoor
set_option linter.unusedVariables false
set_option linter.unusedSimpArgs false
open Go.ChangeShapes Go.WideShapes Go.ChangeAt Go.RowKit LawFrame
set_option linter.unusedVariables false
namespace traceLines
set_option maxHeartbeats 400000 in
set_option maxRecDepth 100000 in
theorem contract (H : Type) (enc : TypeId × Value → H) (W : World) (base : Nat) (args : Array Value) (ds gs : List (DataW H)) (before : List MemPlace)
    (hval : ∀ (j : Nat) t v, Tryd.f5.params[j]? = some t → args[j]? = some v → Value.okWide Tryd.prog W .any base t v)
    (hW : DataW.Whole enc Tryd.prog Tryd.f5.params.toList Rows.traceLinesSpec.vars false W args.toList ds gs before) (hL : laidMetH Tryd.prog Rows.traceLinesRow.laid W) :
    Calls Tryd.prog 5 args W fun e W' => e = .returned (.bool true) ∧ Below W.heap.size W W' := by
  have hR := NumK.rdy hL
  obtain ⟨p, q, hA0, hV, rfl, hfz, hnd⟩ := hW
  have hA : DataW.TrodAll enc Tryd.prog W 0 (fun _ => true) true Tryd.f5.params.toList args.toList ds p := hA0
  rw [Tryd.params5] at hA hval
  obtain ⟨v0, vs0, d0, ds0, p0, q0, hargs, rfl, rfl, h0, r0⟩ := trodAll_cons hA
  obtain ⟨rfl, rfl, rfl⟩ := trodAll_nil r0
  obtain rfl : args = #[v0] := by cases args; simp_all
  have o0 := hval 0 39 v0 rfl rfl
  exact (by
    obtain ⟨cs0, rfl, _⟩ := okWide_struct Tryd.underlying39 o0
    obtain ⟨c, e, _⟩ := OpenTr.open_ch (Opn.of h0)
    have e2 : cs0 = (TraW.chC c).toArray := Array.toList_inj.1 (by simpa [Value.cells] using e)
    subst e2
    exact TraW.lines_c c W hR)
theorem reads (os : Os) {H : Type} (enc : TypeId × Value → H) : ∃ places, DataW.whole enc Tryd.prog ((NumK.laidWorld os).forCall (fun _ _ => 0) ⟨#[], #[.agg #[.int .i64 0, .int .i64 0, .int .i64 0]], []⟩).memory Tryd.f5.params.toList Rows.traceLinesSpec.vars false (#[.agg #[.int .i64 0, .int .i64 0, .int .i64 0]] : Array Value).toList 8 = some ([.agg [.lit (.int .i64 0), .lit (.int .i64 0), .lit (.int .i64 0)]], [], places) :=
  ⟨[], by kernel_rfl⟩
set_option maxRecDepth 100000 in
theorem lifted (os : Os) (started : os.Started) (H : Type) (enc : TypeId × Value → H) (F : Stop.Interp) :
    ReturnsInHanded {} Tryd.checked os 5 .any ((OpenSpec.ofChange Rows.traceLinesSpec).preRow enc Tryd.prog Tryd.f5 Rows.traceLinesRow.domain false Rows.traceLinesRow.laid) (((OpenSpec.ofChange Rows.traceLinesSpec).at F).post enc Tryd.prog Tryd.f5 false true false false) := by
  obtain ⟨places, hx⟩ := reads os enc
  refine returnsInHanded_of_row (C := Tryd.checked) (s := OpenSpec.ofChange Rows.traceLinesSpec) lf_own started (by kernel_rfl) Tryd.func5
    (witness_row_at (enc := enc) (C := Tryd.checked) false (NumK.laidWorld os) #[.agg #[.int .i64 0, .int .i64 0, .int .i64 0]] rfl (by kernel_rfl) (by kernel_rfl) (by kernel_rfl)
      (OpenSpec.preRow_of_cond 8 hx (by kernel_rfl) (fun k hk => by cases hk) (by kernel_rfl) (NumK.laid_met os _))) ?_
  intro W base args ds gs before hval hW _ _ _ hL _ _
  exact lf_step lf_laid (by kernel_rfl) rfl (by kernel_rfl) Tryd.underlying4 (fun ds h => by match ds, h with | [_], _ => rfl) hW
    (contract H enc W base args ds gs before hval hW hL)
theorem said : Rows.TraceLinesSaid :=
  OpenClaim.holds_of_cond 5 Tryd.f5 rfl rfl rfl rfl rfl rfl rfl ⟨rfl, rfl, rfl, rfl, rfl⟩ rfl rfl rfl rfl rfl (by kernel_rfl) Tryd.func5 (by kernel_rfl)
    (of_decide_eq_true (by kernel_rfl)) (by unfold Func.isWrapper; first | (rw [if_pos (by decide +kernel)]; kernel_rfl) | (rw [if_neg (by decide +kernel)]; exact ⟨rfl, rfl⟩))
    (fun os started H enc _ F => by rw [OpenClaim.pre_eq_preRow]; exact lifted os started H enc F)
theorem plain (f : FuncId) (fn : Func) (hf : Tryd.pinned.checked.prog.funcNamed "souffleur/souffleurlaw23.TraceLines" = some f) (hfn : Tryd.pinned.checked.prog.funcs[f]? = some fn) :
    true = Tryd.pinned.checked.prog.looks [] ∧ ∀ (j : Nat) t, fn.params[j]? = some t → Tryd.pinned.checked.prog.wantsStandIn t = false := by
  obtain rfl : f = 5 := Option.some.inj ((show Tryd.prog.funcNamed "souffleur/souffleurlaw23.TraceLines" = some 5 by kernel_rfl).symm.trans hf) |>.symm
  obtain rfl : fn = Tryd.f5 := (Option.some.inj (Tryd.func5.symm.trans hfn)).symm
  refine ⟨by kernel_rfl, fun j t ht => ?_⟩
  rw [Tryd.params5] at ht
  have hm : t ∈ (#[39] : Array TypeId) := Array.mem_of_getElem? ht
  have ht2 : t = 39 := by simpa using hm
  rcases ht2 with rfl
  · exact (show Tryd.prog.wantsStandIn 39 = false by kernel_rfl)
theorem proved : Rows.TraceLinesCardSaid :=
  Claim7.holds_tied_plain_at .later [] _ _ _ _ said (fun _ h => by cases h) (by kernel_rfl) (fun _ h => by cases h) traceLines_row_tie rfl ⟨rfl, rfl⟩ (by kernel_rfl) rfl plain (by kernel_rfl)
end traceLines
end Go.Proofs.YtooinkhjoppijaaDoor
