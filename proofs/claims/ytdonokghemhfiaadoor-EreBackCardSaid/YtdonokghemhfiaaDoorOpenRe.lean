/- A tree of expressions that comes in, opened. No condition. -/
import Derived.Test.YtdonokghemhfiaaDoorOpenG
import Derived.Test.YtdonokghemhfiaaDoorEreT
namespace Go.Proofs.YtdonokghemhfiaaDoor
open Go.ChangeShapes Go.WideShapes Go.ChangeAt Go.RowKit Go.Deep
namespace OpenRe
open EreP EreW
theorem len9 {cs : List Value} (h : cs.length = 9) : ∃ c0 c1 c2 c3 c4 c5 c6 c7 c8, cs = [c0, c1, c2, c3, c4, c5, c6, c7, c8] := by
  match cs, h with
  | [c0, c1, c2, c3, c4, c5, c6, c7, c8], _ => exact ⟨c0, c1, c2, c3, c4, c5, c6, c7, c8, rfl⟩
theorem u64_of {n : Int} (h : (Lit.int .u64 n).wf = true) : ∃ m : Nat, n = m ∧ m < 18446744073709551616 := by
  simp only [Lit.wf, IntKind.min, IntKind.max, IntKind.signed, IntKind.bits, Bool.and_eq_true] at h
  simp at h
  exact ⟨n.toNat, by omega, by omega⟩
/-- Four words make a set. -/
theorem words (a b c d : Nat) (ha : a < 18446744073709551616) (hb : b < 18446744073709551616) (hc : c < 18446744073709551616) (hd : d < 18446744073709551616) :
    ∃ S, S < 2 ^ 256 ∧ word S 0 = a ∧ word S 1 = b ∧ word S 2 = c ∧ word S 3 = d := by
  refine ⟨a + 18446744073709551616 * (b + 18446744073709551616 * (c + 18446744073709551616 * d)), ?_, ?_, ?_, ?_, ?_⟩
  · have : (2 : Nat) ^ 256 = 18446744073709551616 * (18446744073709551616 * (18446744073709551616 * 18446744073709551616)) := by decide
    rw [this]
    have h1 : c + 18446744073709551616 * d < 18446744073709551616 * 18446744073709551616 := by omega
    have h2 : b + 18446744073709551616 * (c + 18446744073709551616 * d) < 18446744073709551616 * (18446744073709551616 * 18446744073709551616) := by omega
    omega
  · unfold word
    rw [Nat.mul_zero, Nat.shiftRight_zero, Nat.add_mul_mod_self_left, Nat.mod_eq_of_lt ha]
  · unfold word
    rw [Nat.shiftRight_eq_div_pow, show 2 ^ (64 * 1) = 18446744073709551616 by decide, Nat.add_mul_div_left _ _ (by decide), Nat.div_eq_of_lt ha, Nat.zero_add, Nat.add_mul_mod_self_left, Nat.mod_eq_of_lt hb]
  · unfold word
    rw [Nat.shiftRight_eq_div_pow, show 2 ^ (64 * 2) = 18446744073709551616 * 18446744073709551616 by decide, ← Nat.div_div_eq_div_mul, Nat.add_mul_div_left _ _ (by decide), Nat.div_eq_of_lt ha, Nat.zero_add, Nat.add_mul_div_left _ _ (by decide), Nat.div_eq_of_lt hb, Nat.zero_add, Nat.add_mul_mod_self_left, Nat.mod_eq_of_lt hc]
  · unfold word
    rw [Nat.shiftRight_eq_div_pow, show 2 ^ (64 * 3) = 18446744073709551616 * (18446744073709551616 * 18446744073709551616) by decide, ← Nat.div_div_eq_div_mul, Nat.add_mul_div_left _ _ (by decide), Nat.div_eq_of_lt ha, Nat.zero_add, ← Nat.div_div_eq_div_mul, Nat.add_mul_div_left _ _ (by decide), Nat.div_eq_of_lt hb, Nat.zero_add, Nat.add_mul_div_left _ _ (by decide), Nat.div_eq_of_lt hc, Nat.zero_add, Nat.mod_eq_of_lt hd]
section
variable {H : Type} {enc : TypeId × Value → H} {w : World} {base : Nat} {spare : Nat → Bool} {held : Bool}
set_option maxRecDepth 100000 in
theorem open_re : ∀ (fuel : Nat) (cs : List Value) (x : DataW H × List MemPlace), DataW.trod enc Tryd.prog w base spare held fuel 28 cs = some x → ∃ r, Rt w (fun b => b < w.heap.size) r cs := by
  intro fuel
  induction fuel using Nat.strongRecOn with
  | _ fuel ih =>
  intro cs x h
  have hO : Opn enc Tryd.prog w base spare held 28 cs := ⟨fuel, x, h⟩
  obtain ⟨xs, n, hf, _, hl, hx, hg⟩ := DataW.trod_struct Tryd.underlying28 h
  have hl : cs.length = 9 := hl.trans (by kernel_rfl)
  obtain ⟨c0, c1, c2, c3, c4, c5, c6, c7, c8, rfl⟩ := len9 hl
  have ci : Tryd.prog.cellsOf 3 = 1 := by kernel_rfl
  have cu : Tryd.prog.cellsOf 23 = 1 := by kernel_rfl
  have cS : Tryd.prog.cellsOf 25 = 4 := by kernel_rfl
  have cR : Tryd.prog.cellsOf 28 = 9 := by kernel_rfl
  have f0 : Opn enc Tryd.prog w base spare held 3 [c0] := Opn.field hO Tryd.underlying28 0 0 1 rfl ci
  have f1 : Opn enc Tryd.prog w base spare held 25 [c1, c2, c3, c4] := Opn.field hO Tryd.underlying28 1 1 4 rfl cS
  have f3 : Opn enc Tryd.prog w base spare held 3 [c6] := Opn.field hO Tryd.underlying28 3 6 1 rfl ci
  have f4 : Opn enc Tryd.prog w base spare held 3 [c7] := Opn.field hO Tryd.underlying28 4 7 1 rfl ci
  have f5 : Opn enc Tryd.prog w base spare held 3 [c8] := Opn.field hO Tryd.underlying28 5 8 1 rfl ci
  have g0 : Opn enc Tryd.prog w base spare held 23 [c1] := Opn.elem f1 Tryd.underlying25 1 cu 0 (by decide)
  have g1 : Opn enc Tryd.prog w base spare held 23 [c2] := Opn.elem f1 Tryd.underlying25 1 cu 1 (by decide)
  have g2 : Opn enc Tryd.prog w base spare held 23 [c3] := Opn.elem f1 Tryd.underlying25 1 cu 2 (by decide)
  have g3 : Opn enc Tryd.prog w base spare held 23 [c4] := Opn.elem f1 Tryd.underlying25 1 cu 3 (by decide)
  obtain ⟨k, h0, _⟩ := Opn.int Tryd.underlying3 f0
  obtain ⟨lo, h3, _⟩ := Opn.int Tryd.underlying3 f3
  obtain ⟨hi, h4, _⟩ := Opn.int Tryd.underlying3 f4
  obtain ⟨nn, h5, _⟩ := Opn.int Tryd.underlying3 f5
  obtain ⟨a1, e1, w1⟩ := Opn.int Tryd.underlying23 g0
  obtain ⟨a2, e2, w2⟩ := Opn.int Tryd.underlying23 g1
  obtain ⟨a3, e3, w3⟩ := Opn.int Tryd.underlying23 g2
  obtain ⟨a4, e4, w4⟩ := Opn.int Tryd.underlying23 g3
  cases h0; cases h3; cases h4; cases h5; cases e1; cases e2; cases e3; cases e4
  obtain ⟨m1, rfl, l1⟩ := u64_of w1
  obtain ⟨m2, rfl, l2⟩ := u64_of w2
  obtain ⟨m3, rfl, l3⟩ := u64_of w3
  obtain ⟨m4, rfl, l4⟩ := u64_of w4
  obtain ⟨S, hS, s0, s1, s2, s3⟩ := words m1 m2 m3 m4 l1 l2 l3 l4
  have f2 := hg 2 _ rfl
  have hx2 : 2 < xs.length := by rw [hx]; decide
  rw [List.getElem?_eq_getElem hx2] at f2
  have f2 : DataW.trod enc Tryd.prog w base spare held n 26 [c5] = some _ := f2
  subst s0 s1 s2 s3
  rcases DataW.trod_slice Tryd.underlying26 f2 with ⟨e, _⟩ | ⟨a, len, cap, elems, rest, n', hn, e, _, _, hle, hcap, hlen, hel, _, _⟩
  · cases e
    exact ⟨.mk k S [] lo hi nn, Rt.leaf k S lo hi nn 0 hS⟩
  · cases e
    have key : ∀ i, i < len → ∃ p : Re × List Value, Rt w (fun b => b < w.heap.size) p.1 p.2 ∧ ∀ j u, p.2[j]? = some u → w.cell? (a.add (i * 9 + j)) = some u := fun i hi => by
      have h1 := hel i hi
      rw [List.getElem?_eq_getElem (by omega), cR] at h1
      obtain ⟨cs', hc, hr⟩ := Option.bind_eq_some_iff.1 h1
      obtain ⟨_, hl, hat⟩ := World.cells?_some hc
      obtain ⟨r, hR⟩ := ih n' (by omega) cs' _ hr
      refine ⟨(r, cs'), hR, fun j u hu => ?_⟩
      have := hat j (by rw [← hl]; exact (List.getElem?_eq_some_iff.1 hu).1)
      rw [add_twice] at this
      rw [this]; exact hu
    haveI : Inhabited (Re × List Value) := ⟨(.mk 0 0 [] 0 0 0, [])⟩
    obtain ⟨f, hf2⟩ := choose_lt key
    have hkl : ((List.range len).map (fun i => (f i).1)).length = len := by simp
    refine ⟨.mk k S ((List.range len).map (fun i => (f i).1)) lo hi nn, ?_⟩
    have hfin := Rt.mk (w := w) (K := fun b => b < w.heap.size) k S ((List.range len).map (fun i => (f i).1)) lo hi nn (some a) cap (fun i => (f i).2) hS (fun i hi => by
      rw [List.getElem_map, List.getElem_range]
      exact (hf2 i (by rw [← hkl]; exact hi)).1) (fun hn => by
      rw [hkl] at hn
      obtain ⟨hR, hc⟩ := hf2 0 hn
      have hl0 : 0 < (f 0).2.length := by rw [hR.len]; decide
      have c0 := hc 0 _ (List.getElem?_eq_getElem hl0)
      obtain ⟨g, o, sp⟩ := a
      have hsp : sp = none := cell_spot_none (a := ⟨g, o, sp⟩) (by simpa [Addr.add] using c0)
      subst hsp
      have hb := World.block_lt_of_cell? w _ c0
      rw [add_block] at hb
      refine ⟨g, o, rfl, hb, fun i hi j u hu => ?_⟩
      rw [hkl] at hi
      have := (hf2 i hi).2 j u hu
      unfold Addr.add at this
      split at this
      · next hz =>
        have : o + i * 9 + j = o := by omega
        rw [this]; assumption
      · rw [Nat.add_assoc]; exact this)
    rw [hkl] at hfin
    exact hfin
theorem open_v {v : Value} {d : DataW H} {p : List MemPlace} (h : DataW.Trod enc Tryd.prog w base spare held 28 v d p) : ∃ r, Rt w (fun b => b < w.heap.size) r v.cells.toList := by
  obtain ⟨fuel, h⟩ := h
  exact open_re fuel _ _ h
end
end OpenRe
end Go.Proofs.YtdonokghemhfiaaDoor
