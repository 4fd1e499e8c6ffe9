/- StoreRuns returns true for every input. No condition. -/
import Derived.Test.YtcmpgiahjbopnaaFrame
import Derived.Test.YtcmpgiahjbopnaaStoJ
import Derived.Test.YtcmpgiahjbopnaaOpenSt
namespace Go.Proofs.Ytcmpgiahjbopnaa
set_option linter.unusedVariables false
set_option linter.unusedSimpArgs false
open Go.ChangeShapes Go.WideShapes Go.ChangeAt Go.RowKit LawFrame
set_option linter.unusedVariables false
namespace storeRuns
set_option maxHeartbeats 400000 in
theorem contract (H : Type) (enc : TypeId × Value → H) (W : World) (base : Nat) (args : Array Value) (ds gs : List (DataW H)) (before : List MemPlace)
    (hval : ∀ (j : Nat) t v, Try.f3.params[j]? = some t → args[j]? = some v → Value.okWide Try.prog W .any base t v)
    (hW : DataW.Whole enc Try.prog Try.f3.params.toList Rows.storeRunsSpec.vars false W args.toList ds gs before) :
    Calls Try.prog 3 args W fun e W' => e = .returned (.bool true) ∧ Below W.heap.size W W' := by
  obtain ⟨p, q, hA0, hV, rfl, hfz, hnd⟩ := hW
  have hA : DataW.TrodAll enc Try.prog W 0 (fun _ => true) true Try.f3.params.toList args.toList ds p := hA0
  rw [Try.params3] at hA hval
  obtain ⟨v0, vs0, d0, ds0, p0, q0, hargs, rfl, rfl, h0, r0⟩ := trodAll_cons hA
  obtain ⟨v1, vs1, d1, ds1, p1, q1, rfl, rfl, rfl, h1, r1⟩ := trodAll_cons r0
  obtain ⟨v2, vs2, d2, ds2, p2, q2, rfl, rfl, rfl, h2, r2⟩ := trodAll_cons r1
  obtain ⟨rfl, rfl, rfl⟩ := trodAll_nil r2
  obtain rfl : args = #[v0, v1, v2] := by cases args; simp_all
  have o0 := hval 0 24 v0 rfl rfl
  have o1 := hval 1 25 v1 rfl rfl
  have o2 := hval 2 27 v2 rfl rfl
  exact (by
    obtain ⟨cs0, rfl, _⟩ := okWide_struct Try.underlying24 o0
    obtain ⟨A1, n1, c1, rfl⟩ := okWide_slice Try.underlying25 o1
    obtain ⟨cs2, rfl, _⟩ := okWide_struct Try.underlying27 o2
    obtain ⟨ma, sa, da, ka, e0, hda, hka⟩ := OpenSt.open_tb (Opn.of h0)
    obtain ⟨A, n, c, gs, e1, l1, m1, ll1, g1, R1⟩ := Opn.strs Try.underlying25 Try.underlying9 (by kernel_rfl) (Opn.of h1)
    obtain ⟨ak, ai, e2, hak, hai⟩ := OpenSt.open_ask (Opn.of h2)
    have f0 : cs0 = StoW.tbC ma da ka sa := Array.toList_inj.1 (by simpa [Value.cells] using e0)
    have f2 : cs2 = #[.string ak, .int .i64 ai] := Array.toList_inj.1 (by simpa [Value.cells] using e2)
    subst f0 f2
    cases e1
    exact StoW.runs_c ma sa da ka _ _ _ gs ak ai W hda hka R1 ll1 (by unfold maxLen at m1; omega) hak (fun x hx => by have := g1 x hx; unfold maxLen at this; omega) hai)
set_option maxRecDepth 100000 in
theorem lifted (os : Os) (started : os.Started) (H : Type) (enc : TypeId × Value → H) :
    ReturnsInHanded {} Try.checked os 3 .any (Rows.storeRunsSpec.pre6 enc Try.prog Try.f3 Rows.storeRunsRow.domain false) (Rows.storeRunsSpec.post enc Try.prog Try.f3 false true false false) := by
  refine returnsInHanded_of_change (C := Try.checked) lf_own started (by kernel_rfl) Try.func3
    (ChangeSpec.witness6 (enc := enc) (C := Try.checked) false ⟨#[], #[.agg #[.int .i64 0, .int .u64 0, .int .u64 0, .int .i64 0], .slice none 0 0, .agg #[.string ByteArray.empty, .int .i64 0]], []⟩ 8 (by kernel_rfl) (by kernel_rfl) (by kernel_rfl) (by kernel_rfl)) ?_
  intro W base args ds gs before hval hW _ _
  exact lf_step lf_laid (by kernel_rfl) rfl (by kernel_rfl) Try.underlying4 (fun ds h => by match ds, h with | [_, _, _], _ => rfl) hW
    (contract H enc W base args ds gs before hval hW)
theorem proved : Rows.StoreRunsSaid :=
  OpenClaim.holds_of_wide 3 Try.f3 rfl rfl rfl rfl rfl rfl rfl ⟨rfl, rfl, rfl, rfl, rfl⟩ rfl rfl rfl rfl rfl (by kernel_rfl) Try.func3 (by kernel_rfl)
    (of_decide_eq_true (by kernel_rfl)) (by unfold Func.isWrapper; first | (rw [if_pos (by decide +kernel)]; kernel_rfl) | (rw [if_neg (by decide +kernel)]; exact ⟨rfl, rfl⟩))
    (fun os started H enc _ => lifted os started H enc)
end storeRuns
end Go.Proofs.Ytcmpgiahjbopnaa
