/- A tree of sums that comes in, opened. No condition. -/
import Derived.Test.YtchceoclkdofhaaGreatDoorOpenG
import Derived.Test.YtchceoclkdofhaaGreatDoorCalTM
namespace Go.Proofs.YtchceoclkdofhaaGreatDoor
set_option linter.unusedVariables false
set_option linter.unusedSimpArgs false
open Go.ChangeShapes Go.WideShapes Go.ChangeAt Go.RowKit Go.Deep
namespace OpenEx
open CalP CalW
theorem len5 {cs : List Value} (h : cs.length = 5) : ∃ c0 c1 c2 c3 c4, cs = [c0, c1, c2, c3, c4] := by
  match cs, h with
  | [c0, c1, c2, c3, c4], _ => exact ⟨c0, c1, c2, c3, c4, rfl⟩
theorem i64_of {n : Int} (h : (Lit.int .i64 n).wf = true) : I64 n := by
  simp only [Lit.wf, IntKind.min, IntKind.max, IntKind.signed, IntKind.bits, Bool.and_eq_true] at h
  simp at h
  unfold I64; omega
section
variable {H : Type} {enc : TypeId × Value → H} {w : World} {base : Nat} {spare : Nat → Bool} {held : Bool}
set_option maxRecDepth 100000 in
theorem open_ex : ∀ (fuel : Nat) (cs : List Value) (x : DataW H × List MemPlace), DataW.trod enc Tryz.prog w base spare held fuel 24 cs = some x → ∃ r, Et w (fun b => b < w.heap.size) r cs := by
  intro fuel
  induction fuel using Nat.strongRecOn with
  | _ fuel ih =>
  intro cs x h
  have hO : Opn enc Tryz.prog w base spare held 24 cs := ⟨fuel, x, h⟩
  obtain ⟨xs, n, hf, _, hl, hx, hg⟩ := DataW.trod_struct Tryz.underlying24 h
  have hl : cs.length = 5 := hl.trans (by kernel_rfl)
  obtain ⟨c0, c1, c2, c3, c4, rfl⟩ := len5 hl
  have ci : Tryz.prog.cellsOf 3 = 1 := by kernel_rfl
  have cj : Tryz.prog.cellsOf 2 = 1 := by kernel_rfl
  have cS : Tryz.prog.cellsOf 9 = 1 := by kernel_rfl
  have cR : Tryz.prog.cellsOf 24 = 5 := by kernel_rfl
  have f0 : Opn enc Tryz.prog w base spare held 3 [c0] := Opn.field hO Tryz.underlying24 0 0 1 rfl ci
  have f1 : Opn enc Tryz.prog w base spare held 2 [c1] := Opn.field hO Tryz.underlying24 1 1 1 rfl cj
  have f2 : Opn enc Tryz.prog w base spare held 9 [c2] := Opn.field hO Tryz.underlying24 2 2 1 rfl cS
  have f3 : Opn enc Tryz.prog w base spare held 9 [c3] := Opn.field hO Tryz.underlying24 3 3 1 rfl cS
  obtain ⟨k, h0, w0⟩ := Opn.int Tryz.underlying3 f0
  obtain ⟨nn, h1, w1⟩ := Opn.int Tryz.underlying2 f1
  obtain ⟨nm, h2, s2⟩ := Opn.str Tryz.underlying9 f2
  obtain ⟨op, h3, s3⟩ := Opn.str Tryz.underlying9 f3
  cases h0; cases h1; cases h2; cases h3
  have i0 := i64_of w0
  have i1 := i64_of w1
  have f4 := hg 4 _ rfl
  have hx4 : 4 < xs.length := by rw [hx]; decide
  rw [List.getElem?_eq_getElem hx4] at f4
  have f4 : DataW.trod enc Tryz.prog w base spare held n 22 [c4] = some _ := f4
  rcases DataW.trod_slice Tryz.underlying22 f4 with ⟨e, _⟩ | ⟨a, len, cap, elems, rest, n', hn, e, _, _, hle, hcap, hlen, hel, _, _⟩
  · cases e
    exact ⟨.mk k nn nm op [], Et.leaf k nn nm op 0 i0 i1 s2 s3⟩
  · cases e
    have key : ∀ i, i < len → ∃ p : Ex × List Value, Et w (fun b => b < w.heap.size) p.1 p.2 ∧ ∀ j u, p.2[j]? = some u → w.cell? (a.add (i * 5 + j)) = some u := fun i hi => by
      have h1 := hel i hi
      rw [List.getElem?_eq_getElem (by omega), cR] at h1
      obtain ⟨cs', hc, hr⟩ := Option.bind_eq_some_iff.1 h1
      obtain ⟨_, hl, hat⟩ := World.cells?_some hc
      obtain ⟨r, hR⟩ := ih n' (by omega) cs' _ hr
      refine ⟨(r, cs'), hR, fun j u hu => ?_⟩
      have := hat j (by rw [← hl]; exact (List.getElem?_eq_some_iff.1 hu).1)
      rw [add_twice] at this
      rw [this]; exact hu
    haveI : Inhabited (Ex × List Value) := ⟨(.mk 0 0 ByteArray.empty ByteArray.empty [], [])⟩
    obtain ⟨f, hf2⟩ := choose_lt key
    have hkl : ((List.range len).map (fun i => (f i).1)).length = len := by simp
    refine ⟨.mk k nn nm op ((List.range len).map (fun i => (f i).1)), ?_⟩
    have hfin := Et.mk (w := w) (K := fun b => b < w.heap.size) k nn nm op ((List.range len).map (fun i => (f i).1)) (some a) cap (fun i => (f i).2) i0 i1 s2 s3 (by rw [hkl]; omega) (fun i hi => by
      rw [List.getElem_map, List.getElem_range]
      exact (hf2 i (by rw [← hkl]; exact hi)).1) (fun hn => by
      rw [hkl] at hn
      obtain ⟨hR, hc⟩ := hf2 0 hn
      have hl0 : 0 < (f 0).2.length := by rw [hR.len]; decide
      have c0 := hc 0 _ (List.getElem?_eq_getElem hl0)
      obtain ⟨g, o, sp⟩ := a
      have hsp : sp = none := cell_spot_none (a := ⟨g, o, sp⟩) (by simpa [Addr.add] using c0)
      subst hsp
      have hb := World.block_lt_of_cell? w _ c0
      rw [add_block] at hb
      refine ⟨g, o, rfl, hb, fun i hi j u hu => ?_⟩
      rw [hkl] at hi
      have := (hf2 i hi).2 j u hu
      unfold Addr.add at this
      split at this
      · next hz =>
        have : o + i * 5 + j = o := by omega
        rw [this]; assumption
      · rw [Nat.add_assoc]; exact this)
    rw [hkl] at hfin
    exact hfin
theorem open_v {v : Value} {d : DataW H} {p : List MemPlace} (h : DataW.Trod enc Tryz.prog w base spare held 24 v d p) : ∃ r, Et w (fun b => b < w.heap.size) r v.cells.toList := by
  obtain ⟨fuel, h⟩ := h
  exact open_ex fuel _ _ h
end
end OpenEx
end Go.Proofs.YtchceoclkdofhaaGreatDoor
