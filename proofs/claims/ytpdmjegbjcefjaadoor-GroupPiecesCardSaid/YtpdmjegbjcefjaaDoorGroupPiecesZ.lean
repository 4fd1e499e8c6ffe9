/- GroupPieces returns true for every input. No condition. -/
import Derived.Test.YtpdmjegbjcefjaaDoorRow
import Derived.Test.YtpdmjegbjcefjaaDoorCards
import Derived.Test.YtpdmjegbjcefjaaDoorTie
import Derived.Deep.DeepHandedRow
import Derived.Test.YtpdmjegbjcefjaaDoorGrpLw
import Derived.Test.YtpdmjegbjcefjaaDoorEreD
namespace Go.Proofs.YtpdmjegbjcefjaaDoor
set_option linter.unusedVariables false
set_option linter.unusedSimpArgs false
open Go.ChangeShapes Go.WideShapes Go.ChangeAt Go.RowKit LawFrame
set_option linter.unusedVariables false
namespace groupPieces
set_option maxHeartbeats 400000 in
set_option maxRecDepth 100000 in
theorem contract (H : Type) (enc : TypeId × Value → H) (W : World) (base : Nat) (args : Array Value) (ds gs : List (DataW H)) (before : List MemPlace)
    (hval : ∀ (j : Nat) t v, Tryd.f3.params[j]? = some t → args[j]? = some v → Value.okWide Tryd.prog W .any base t v)
    (hW : DataW.Whole enc Tryd.prog Tryd.f3.params.toList Rows.groupPiecesSpec.vars false W args.toList ds gs before) (hL : laidMetH Tryd.prog Rows.groupPiecesRow.laid W) :
    Calls Tryd.prog 3 args W fun e W' => e = .returned (.bool true) ∧ Below W.heap.size W W' := by
  obtain ⟨p, q, hA0, hV, rfl, hfz, hnd⟩ := hW
  have hA : DataW.TrodAll enc Tryd.prog W 0 (fun _ => true) true Tryd.f3.params.toList args.toList ds p := hA0
  rw [Tryd.params3] at hA hval
  obtain ⟨v0, vs0, d0, ds0, p0, q0, hargs, rfl, rfl, h0, r0⟩ := trodAll_cons hA
  obtain ⟨v1, vs1, d1, ds1, p1, q1, rfl, rfl, rfl, h1, r1⟩ := trodAll_cons r0
  obtain ⟨v2, vs2, d2, ds2, p2, q2, rfl, rfl, rfl, h2, r2⟩ := trodAll_cons r1
  obtain ⟨rfl, rfl, rfl⟩ := trodAll_nil r2
  obtain rfl : args = #[v0, v1, v2] := by cases args; simp_all
  have o0 := hval 0 27 v0 rfl rfl
  obtain ⟨s1, rfl, rfl, rfl, w1⟩ := ChangeMaps.open_string Tryd.underlying9 (hval 1 9 v1 rfl rfl) h1
  have o2 := hval 2 28 v2 rfl rfl
  exact (by
    obtain ⟨cs0, rfl, _⟩ := okWide_struct Tryd.underlying27 o0
    obtain ⟨cs2, rfl⟩ := OpenGn.okWide_row Tryd.underlying28 o2
    obtain ⟨rr, n0⟩ := OpenRe.open_v h0
    obtain ⟨a, b, ha, hb, e⟩ := OpenGp.open_two (Opn.of h2)
    have e2 : cs2 = #[.int .u8 a, .int .u8 b] := Array.toList_inj.1 (by simpa [Value.cells] using e)
    subst e2
    exact GrpW.pieces_law rr W cs0.toList n0 s1 a b ha hb)
theorem reads (os : Os) {H : Type} (enc : TypeId × Value → H) : ∃ places, DataW.whole enc Tryd.prog ((GrpL.laidWorld os).forCall (fun _ _ => 0) ⟨#[], #[.agg #[.int .i64 0, .int .u64 0, .int .u64 0, .int .u64 0, .int .u64 0, .slice none 0 0, .int .i64 0, .int .i64 0, .int .i64 0], .string ByteArray.empty, .agg #[.int .u8 0, .int .u8 0]], []⟩).memory Tryd.f3.params.toList Rows.groupPiecesSpec.vars false (#[.agg #[.int .i64 0, .int .u64 0, .int .u64 0, .int .u64 0, .int .u64 0, .slice none 0 0, .int .i64 0, .int .i64 0, .int .i64 0], .string ByteArray.empty, .agg #[.int .u8 0, .int .u8 0]] : Array Value).toList 8 = some ([.agg [.lit (.int .i64 0), .agg [.lit (.int .u64 0), .lit (.int .u64 0), .lit (.int .u64 0), .lit (.int .u64 0)], .nil, .lit (.int .i64 0), .lit (.int .i64 0), .lit (.int .i64 0)], .lit (.string []), .agg [.lit (.int .u8 0), .lit (.int .u8 0)]], [], places) :=
  ⟨[], by kernel_rfl⟩
set_option maxRecDepth 100000 in
theorem lifted (os : Os) (started : os.Started) (H : Type) (enc : TypeId × Value → H) (F : Stop.Interp) :
    ReturnsInHanded {} Tryd.checked os 3 .any ((OpenSpec.ofChange Rows.groupPiecesSpec).preRow enc Tryd.prog Tryd.f3 Rows.groupPiecesRow.domain false Rows.groupPiecesRow.laid) (((OpenSpec.ofChange Rows.groupPiecesSpec).at F).post enc Tryd.prog Tryd.f3 false true false false) := by
  obtain ⟨places, hx⟩ := reads os enc
  refine returnsInHanded_of_row (C := Tryd.checked) (s := OpenSpec.ofChange Rows.groupPiecesSpec) lf_own started (by kernel_rfl) Tryd.func3
    (witness_row_at (enc := enc) (C := Tryd.checked) false (GrpL.laidWorld os) #[.agg #[.int .i64 0, .int .u64 0, .int .u64 0, .int .u64 0, .int .u64 0, .slice none 0 0, .int .i64 0, .int .i64 0, .int .i64 0], .string ByteArray.empty, .agg #[.int .u8 0, .int .u8 0]] rfl (by kernel_rfl) (by kernel_rfl) (by kernel_rfl)
      (OpenSpec.preRow_of_cond 8 hx (by kernel_rfl) (fun k hk => by cases hk) (by kernel_rfl) (GrpL.laid_met os _))) ?_
  intro W base args ds gs before hval hW _ _ _ hL _ _
  exact lf_step lf_laid (by kernel_rfl) rfl (by kernel_rfl) Tryd.underlying4 (fun ds h => by match ds, h with | [_, _, _], _ => rfl) hW
    (contract H enc W base args ds gs before hval hW hL)
theorem said : Rows.GroupPiecesSaid :=
  OpenClaim.holds_of_cond 3 Tryd.f3 rfl rfl rfl rfl rfl rfl rfl ⟨rfl, rfl, rfl, rfl, rfl⟩ rfl rfl rfl rfl rfl (by kernel_rfl) Tryd.func3 (by kernel_rfl)
    (of_decide_eq_true (by kernel_rfl)) (by unfold Func.isWrapper; first | (rw [if_pos (by decide +kernel)]; kernel_rfl) | (rw [if_neg (by decide +kernel)]; exact ⟨rfl, rfl⟩))
    (fun os started H enc _ F => by rw [OpenClaim.pre_eq_preRow]; exact lifted os started H enc F)
theorem plain (f : FuncId) (fn : Func) (hf : Tryd.pinned.checked.prog.funcNamed "souffleur/souffleurlaw06.GroupPieces" = some f) (hfn : Tryd.pinned.checked.prog.funcs[f]? = some fn) :
    false = Tryd.pinned.checked.prog.looks [] ∧ ∀ (j : Nat) t, fn.params[j]? = some t → Tryd.pinned.checked.prog.wantsStandIn t = false := by
  obtain rfl : f = 3 := Option.some.inj ((show Tryd.prog.funcNamed "souffleur/souffleurlaw06.GroupPieces" = some 3 by kernel_rfl).symm.trans hf) |>.symm
  obtain rfl : fn = Tryd.f3 := (Option.some.inj (Tryd.func3.symm.trans hfn)).symm
  refine ⟨by kernel_rfl, fun j t ht => ?_⟩
  rw [Tryd.params3] at ht
  have hm : t ∈ (#[27, 9, 28] : Array TypeId) := Array.mem_of_getElem? ht
  have ht2 : t = 27 ∨ t = 9 ∨ t = 28 := by simpa using hm
  rcases ht2 with rfl | rfl | rfl
  · exact (show Tryd.prog.wantsStandIn 27 = false by kernel_rfl)
  · exact (show Tryd.prog.wantsStandIn 9 = false by kernel_rfl)
  · exact (show Tryd.prog.wantsStandIn 28 = false by kernel_rfl)
theorem proved : Rows.GroupPiecesCardSaid :=
  Claim7.holds_tied_plain_at .later [] _ _ _ _ said (fun _ h => by cases h) (by kernel_rfl) (fun _ h => by cases h) groupPieces_row_tie rfl ⟨rfl, rfl⟩ (by kernel_rfl) rfl plain (by kernel_rfl)
end groupPieces
end Go.Proofs.YtpdmjegbjcefjaaDoor
