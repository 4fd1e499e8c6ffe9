/- Trees of expressions in memory. Conditions: none. -/
import Derived.Test.YtpdmjegbjcefjaaDoorEreS
import Derived.Deep.AppendLies
import Derived.Test.YtpdmjegbjcefjaaDoorOpenG
import Derived.Deep.LoopGhost
namespace Go.Proofs.YtpdmjegbjcefjaaDoor
set_option linter.unusedVariables false
set_option linter.unusedSimpArgs false
open Go.RowKit
namespace EreW
open EreP
/-- An expression's cells. -/
abbrev reC (kind : Int) (S : Nat) (A : Option Addr) (n c : Nat) (lo hi nn : Int) : List Value :=
  [.int .i64 kind, .int .u64 (word S 0), .int .u64 (word S 1), .int .u64 (word S 2), .int .u64 (word S 3), .slice A n c, .int .i64 lo, .int .i64 hi, .int .i64 nn]
abbrev zC : Array Value := #[.int .i64 0, .int .u64 0, .int .u64 0, .int .u64 0, .int .u64 0, .slice none 0 0, .int .i64 0, .int .i64 0, .int .i64 0]
/-- These cells are this expression; what it leads to lies in blocks of K. -/
inductive Rt (w : World) (K : Nat → Prop) : Re → List Value → Prop where
  | mk (kind : Int) (S : Nat) (kids : List Re) (lo hi nn : Int) (A : Option Addr) (c : Nat) (css : Nat → List Value) (hS : S < 2 ^ 256)
      (hk : ∀ (i : Nat) (h : i < kids.length), Rt w K (kids[i]'h) (css i))
      (hA : 0 < kids.length → ∃ g o, A = some ⟨g, o, none⟩ ∧ K g ∧ ∀ i, i < kids.length → ∀ j u, (css i)[j]? = some u → w.cell? ⟨g, o + i * 9 + j, none⟩ = some u) (hcap : kids.length ≤ c) :
      Rt w K (.mk kind S kids lo hi nn) (reC kind S A kids.length c lo hi nn)
namespace Rt
variable {w w' : World} {K K' : Nat → Prop} {r : Re} {cs : List Value}
theorem len (h : Rt w K r cs) : cs.length = 9 := by cases h; rfl
theorem one (h : Rt w K r cs) : ∀ u ∈ cs, u.oneCell' = true := by
  cases h
  intro u hu
  simp only [List.mem_cons, List.not_mem_nil, or_false] at hu
  rcases hu with rfl | rfl | rfl | rfl | rfl | rfl | rfl | rfl | rfl <;> rfl
theorem keep (h : Rt w K r cs) (hK : ∀ b, K b → K' b) (hk : ∀ b, K b → b < w.heap.size → w'.heap[b]? = w.heap[b]?) : Rt w' K' r cs := by
  induction h with
  | mk kind S kids lo hi nn A c css hS _ hA hcap ih =>
    refine .mk kind S kids lo hi nn A c css hS ih (fun hn => ?_) hcap
    obtain ⟨g, o, e, hg, hc⟩ := hA hn
    refine ⟨g, o, e, hK g hg, fun i hi j u hu => ?_⟩
    have h1 := hc i hi j u hu
    have h2 : g < w.heap.size := World.block_lt_of_cell? w _ h1
    exact (World.cell?_of_block (a := ⟨g, o + i * 9 + j, none⟩) (hk g hg h2)).trans h1
theorem tch {S : Nat → Prop} (h : Rt w K r cs) (t : Tch S w w') (hS : ∀ b, K b → ¬ S b) : Rt w' K r cs := h.keep (fun _ hb => hb) (fun b hb hl => t.block b hl (hS b hb))
theorem bel (h : Rt w K r cs) (hb : Below w.heap.size w w') : Rt w' K r cs := h.keep (fun _ hb => hb) (fun b _ hl => hb.block b hl)
theorem lt_ (h : Rt w K r cs) : Rt w (fun b => K b ∧ b < w.heap.size) r cs := by
  induction h with
  | mk kind S kids lo hi nn A c css hS hk hA hcap ih =>
    refine .mk kind S kids lo hi nn A c css hS ih (fun hn => ?_) hcap
    obtain ⟨g, o, e, hg, hc⟩ := hA hn
    have hl := (ih 0 hn).len
    have h0 : (css 0)[0]? = some ((css 0)[0]'(by omega)) := List.getElem?_eq_getElem (by omega)
    exact ⟨g, o, e, ⟨hg, World.block_lt_of_cell? w _ (hc 0 hn 0 _ h0)⟩, hc⟩
theorem leaf (kind : Int) (S : Nat) (lo hi nn : Int) (c : Nat) (hS : S < 2 ^ 256) : Rt w K (.mk kind S [] lo hi nn) (reC kind S none 0 c lo hi nn) :=
  .mk kind S [] lo hi nn none c (fun _ => []) hS (fun _ h => absurd h (Nat.not_lt_zero _)) (fun h => absurd h (Nat.not_lt_zero _)) (Nat.zero_le _)
/-- Its cells by its parts. -/
theorem shape (h : Rt w K r cs) : ∃ A c, cs = reC r.kind r.set A r.kids.length c r.lo r.hi r.n ∧ r.set < 2 ^ 256 ∧ (A = none → r.kids = []) := by
  cases h with
  | mk kind S kids lo hi nn A c css hS hk hA hcap =>
    refine ⟨A, c, rfl, hS, fun e => ?_⟩
    cases kids with
    | nil => rfl
    | cons x l => obtain ⟨g, o, e', _⟩ := hA (by simp); rw [e] at e'; cases e'
end Rt
/-- A list of expressions: their cells, one behind the other. -/
def Rts (w : World) (K : Nat → Prop) (l : List Re) (xs : List Value) : Prop := ∃ css : List (List Value), css.length = l.length ∧ xs = css.flatten ∧ ∀ i (h : i < l.length) (h' : i < css.length), Rt w K (l[i]'h) (css[i]'h')
theorem flat_get : ∀ (css : List (List Value)), (∀ c ∈ css, c.length = 9) → ∀ (i j : Nat) (h : i < css.length) (u : Value), (css[i]'h)[j]? = some u → css.flatten[i * 9 + j]? = some u := by
  intro css
  induction css with
  | nil => intro _ i j h; exact absurd h (Nat.not_lt_zero _)
  | cons c css ih =>
    intro hl i j h u hu
    have hc := hl c (List.mem_cons_self ..)
    rw [List.flatten_cons]
    cases i with
    | zero =>
      have hu2 : c[j]? = some u := hu
      have hj := (List.getElem?_eq_some_iff.1 hu2).1
      rw [Nat.zero_mul, Nat.zero_add, List.getElem?_append_left hj]; exact hu2
    | succ i =>
      have hu2 : (css[i]'(by simpa using h))[j]? = some u := hu
      rw [List.getElem?_append_right (by rw [hc]; omega), hc, show (i + 1) * 9 + j - 9 = i * 9 + j by omega]
      exact ih (fun c' hc' => hl c' (List.mem_cons_of_mem _ hc')) i j (by simpa using h) u hu2
theorem flat_len : ∀ (css : List (List Value)), (∀ c ∈ css, c.length = 9) → css.flatten.length = css.length * 9 := by
  intro css
  induction css with
  | nil => intro _; rfl
  | cons c css ih =>
    intro hl
    rw [List.flatten_cons, List.length_append, hl c (List.mem_cons_self ..), ih (fun c' h => hl c' (List.mem_cons_of_mem _ h)), List.length_cons]; omega
theorem getD_at (css : List (List Value)) (i : Nat) (h : i < css.length) : css.getD i [] = css[i] := by simp [List.getElem?_eq_getElem h]
namespace Rts
variable {w w' : World} {K : Nat → Prop} {l : List Re} {xs : List Value}
theorem all9 {css : List (List Value)} (hl : css.length = l.length) (h : ∀ i (h : i < l.length) (h' : i < css.length), Rt w K (l[i]'h) (css[i]'h')) : ∀ c ∈ css, c.length = 9 := by
  intro c hc
  obtain ⟨i, hi, rfl⟩ := List.getElem_of_mem hc
  exact (h i (by omega) hi).len
theorem len (h : Rts w K l xs) : xs.length = l.length * 9 := by
  obtain ⟨css, hl, rfl, ha⟩ := h
  rw [flat_len css (all9 hl ha), hl]
theorem one (h : Rts w K l xs) : ∀ u ∈ xs, u.oneCell' = true := by
  obtain ⟨css, hl, rfl, ha⟩ := h
  intro u hu
  rw [List.mem_flatten] at hu
  obtain ⟨c, hc, hu⟩ := hu
  obtain ⟨i, hi, rfl⟩ := List.getElem_of_mem hc
  exact (ha i (by omega) hi).one u hu
theorem nil : Rts w K [] [] := ⟨[], rfl, rfl, fun _ h => absurd h (Nat.not_lt_zero _)⟩
theorem snoc (h : Rts w K l xs) {r : Re} {cs : List Value} (hr : Rt w K r cs) : Rts w K (l ++ [r]) (xs ++ cs) := by
  obtain ⟨css, hl, rfl, ha⟩ := h
  refine ⟨css ++ [cs], by simp [hl], by simp, fun i h h' => ?_⟩
  by_cases hi : i < l.length
  · rw [List.getElem_append_left hi, List.getElem_append_left (by omega)]; exact ha i hi (by omega)
  · have e : i = l.length := by simp at h; omega
    subst e
    rw [List.getElem_append_right (Nat.le_refl _), List.getElem_append_right (by omega)]
    simp [hl]; exact hr
theorem tch {S : Nat → Prop} (h : Rts w K l xs) (t : Tch S w w') (hS : ∀ b, K b → ¬ S b) : Rts w' K l xs := by
  obtain ⟨css, hl, e, ha⟩ := h
  exact ⟨css, hl, e, fun i h h' => (ha i h h').tch t hS⟩
/-- A kind that has them all. -/
theorem kind (h : Rts w K l xs) (k : Int) (lo hi nn : Int) {A : Option Addr} {c g o : Nat} (hA : 0 < l.length → A = some ⟨g, o, none⟩) (hg : 0 < l.length → K g) (hc : ∀ j u, xs[j]? = some u → w.cell? ⟨g, o + j, none⟩ = some u) (hcap : l.length ≤ c) :
    Rt w K (.mk k 0 l lo hi nn) (reC k 0 A l.length c lo hi nn) := by
  obtain ⟨css, hl, rfl, ha⟩ := h
  refine .mk k 0 l lo hi nn A c (fun i => css.getD i []) (by decide) (fun i h => ?_) (fun hn => ⟨g, o, hA hn, hg hn, fun i hi j u hu => ?_⟩) hcap
  · rw [getD_at css i (by omega)]; exact ha i h (by omega)
  · rw [getD_at css i (by omega)] at hu
    rw [Nat.add_assoc]
    exact hc _ u (flat_get css (all9 hl ha) i j (by omega) u hu)
theorem at_ (h : Rts w K l xs) {i : Nat} (hi : i < l.length) : ∃ cs, Rt w K (l[i]'hi) cs ∧ ∀ j u, cs[j]? = some u → xs[i * 9 + j]? = some u := by
  obtain ⟨css, hl, rfl, ha⟩ := h
  exact ⟨_, ha i hi (by omega), fun j u hu => flat_get css (all9 hl ha) i j (by omega) u hu⟩
end Rts
end EreW
end Go.Proofs.YtpdmjegbjcefjaaDoor
namespace Go.Proofs.YtpdmjegbjcefjaaDoor
set_option linter.unusedVariables false
set_option linter.unusedSimpArgs false
open Go.ChangeShapes Go.WideShapes Go.ChangeAt Go.RowKit Go.Deep
namespace OpenRe
open EreP EreW
theorem len9 {cs : List Value} (h : cs.length = 9) : ∃ c0 c1 c2 c3 c4 c5 c6 c7 c8, cs = [c0, c1, c2, c3, c4, c5, c6, c7, c8] := by
  match cs, h with
  | [c0, c1, c2, c3, c4, c5, c6, c7, c8], _ => exact ⟨c0, c1, c2, c3, c4, c5, c6, c7, c8, rfl⟩
theorem u64_of {n : Int} (h : (Lit.int .u64 n).wf = true) : ∃ m : Nat, n = m ∧ m < 18446744073709551616 := by
  simp only [Lit.wf, IntKind.min, IntKind.max, IntKind.signed, IntKind.bits, Bool.and_eq_true] at h
  simp at h
  exact ⟨n.toNat, by omega, by omega⟩
/-- Four words make a set. -/
theorem words (a b c d : Nat) (ha : a < 18446744073709551616) (hb : b < 18446744073709551616) (hc : c < 18446744073709551616) (hd : d < 18446744073709551616) :
    ∃ S, S < 2 ^ 256 ∧ word S 0 = a ∧ word S 1 = b ∧ word S 2 = c ∧ word S 3 = d := by
  refine ⟨a + 18446744073709551616 * (b + 18446744073709551616 * (c + 18446744073709551616 * d)), ?_, ?_, ?_, ?_, ?_⟩
  · have : (2 : Nat) ^ 256 = 18446744073709551616 * (18446744073709551616 * (18446744073709551616 * 18446744073709551616)) := by decide
    rw [this]
    have h1 : c + 18446744073709551616 * d < 18446744073709551616 * 18446744073709551616 := by omega
    have h2 : b + 18446744073709551616 * (c + 18446744073709551616 * d) < 18446744073709551616 * (18446744073709551616 * 18446744073709551616) := by omega
    omega
  · unfold word
    rw [Nat.mul_zero, Nat.shiftRight_zero, Nat.add_mul_mod_self_left, Nat.mod_eq_of_lt ha]
  · unfold word
    rw [Nat.shiftRight_eq_div_pow, show 2 ^ (64 * 1) = 18446744073709551616 by decide, Nat.add_mul_div_left _ _ (by decide), Nat.div_eq_of_lt ha, Nat.zero_add, Nat.add_mul_mod_self_left, Nat.mod_eq_of_lt hb]
  · unfold word
    rw [Nat.shiftRight_eq_div_pow, show 2 ^ (64 * 2) = 18446744073709551616 * 18446744073709551616 by decide, ← Nat.div_div_eq_div_mul, Nat.add_mul_div_left _ _ (by decide), Nat.div_eq_of_lt ha, Nat.zero_add, Nat.add_mul_div_left _ _ (by decide), Nat.div_eq_of_lt hb, Nat.zero_add, Nat.add_mul_mod_self_left, Nat.mod_eq_of_lt hc]
  · unfold word
    rw [Nat.shiftRight_eq_div_pow, show 2 ^ (64 * 3) = 18446744073709551616 * (18446744073709551616 * 18446744073709551616) by decide, ← Nat.div_div_eq_div_mul, Nat.add_mul_div_left _ _ (by decide), Nat.div_eq_of_lt ha, Nat.zero_add, ← Nat.div_div_eq_div_mul, Nat.add_mul_div_left _ _ (by decide), Nat.div_eq_of_lt hb, Nat.zero_add, Nat.add_mul_div_left _ _ (by decide), Nat.div_eq_of_lt hc, Nat.zero_add, Nat.mod_eq_of_lt hd]
section
variable {H : Type} {enc : TypeId × Value → H} {w : World} {base : Nat} {spare : Nat → Bool} {held : Bool}
set_option maxRecDepth 100000 in
theorem open_re : ∀ (fuel : Nat) (cs : List Value) (x : DataW H × List MemPlace), DataW.trod enc Tryd.prog w base spare held fuel 27 cs = some x → ∃ r, Rt w (fun b => b < w.heap.size) r cs := by
  intro fuel
  induction fuel using Nat.strongRecOn with
  | _ fuel ih =>
  intro cs x h
  have hO : Opn enc Tryd.prog w base spare held 27 cs := ⟨fuel, x, h⟩
  obtain ⟨xs, n, hf, _, hl, hx, hg⟩ := DataW.trod_struct Tryd.underlying27 h
  have hl : cs.length = 9 := hl.trans (by kernel_rfl)
  obtain ⟨c0, c1, c2, c3, c4, c5, c6, c7, c8, rfl⟩ := len9 hl
  have ci : Tryd.prog.cellsOf 3 = 1 := by kernel_rfl
  have cu : Tryd.prog.cellsOf 22 = 1 := by kernel_rfl
  have cS : Tryd.prog.cellsOf 24 = 4 := by kernel_rfl
  have cR : Tryd.prog.cellsOf 27 = 9 := by kernel_rfl
  have f0 : Opn enc Tryd.prog w base spare held 3 [c0] := Opn.field hO Tryd.underlying27 0 0 1 rfl ci
  have f1 : Opn enc Tryd.prog w base spare held 24 [c1, c2, c3, c4] := Opn.field hO Tryd.underlying27 1 1 4 rfl cS
  have f3 : Opn enc Tryd.prog w base spare held 3 [c6] := Opn.field hO Tryd.underlying27 3 6 1 rfl ci
  have f4 : Opn enc Tryd.prog w base spare held 3 [c7] := Opn.field hO Tryd.underlying27 4 7 1 rfl ci
  have f5 : Opn enc Tryd.prog w base spare held 3 [c8] := Opn.field hO Tryd.underlying27 5 8 1 rfl ci
  have g0 : Opn enc Tryd.prog w base spare held 22 [c1] := Opn.elem f1 Tryd.underlying24 1 cu 0 (by decide)
  have g1 : Opn enc Tryd.prog w base spare held 22 [c2] := Opn.elem f1 Tryd.underlying24 1 cu 1 (by decide)
  have g2 : Opn enc Tryd.prog w base spare held 22 [c3] := Opn.elem f1 Tryd.underlying24 1 cu 2 (by decide)
  have g3 : Opn enc Tryd.prog w base spare held 22 [c4] := Opn.elem f1 Tryd.underlying24 1 cu 3 (by decide)
  obtain ⟨k, h0, _⟩ := Opn.int Tryd.underlying3 f0
  obtain ⟨lo, h3, _⟩ := Opn.int Tryd.underlying3 f3
  obtain ⟨hi, h4, _⟩ := Opn.int Tryd.underlying3 f4
  obtain ⟨nn, h5, _⟩ := Opn.int Tryd.underlying3 f5
  obtain ⟨a1, e1, w1⟩ := Opn.int Tryd.underlying22 g0
  obtain ⟨a2, e2, w2⟩ := Opn.int Tryd.underlying22 g1
  obtain ⟨a3, e3, w3⟩ := Opn.int Tryd.underlying22 g2
  obtain ⟨a4, e4, w4⟩ := Opn.int Tryd.underlying22 g3
  cases h0; cases h3; cases h4; cases h5; cases e1; cases e2; cases e3; cases e4
  obtain ⟨m1, rfl, l1⟩ := u64_of w1
  obtain ⟨m2, rfl, l2⟩ := u64_of w2
  obtain ⟨m3, rfl, l3⟩ := u64_of w3
  obtain ⟨m4, rfl, l4⟩ := u64_of w4
  obtain ⟨S, hS, s0, s1, s2, s3⟩ := words m1 m2 m3 m4 l1 l2 l3 l4
  have f2 := hg 2 _ rfl
  have hx2 : 2 < xs.length := by rw [hx]; decide
  rw [List.getElem?_eq_getElem hx2] at f2
  have f2 : DataW.trod enc Tryd.prog w base spare held n 25 [c5] = some _ := f2
  subst s0 s1 s2 s3
  rcases DataW.trod_slice Tryd.underlying25 f2 with ⟨e, _⟩ | ⟨a, len, cap, elems, rest, n', hn, e, _, _, hle, hcap, hlen, hel, _, _⟩
  · cases e
    exact ⟨.mk k S [] lo hi nn, Rt.leaf k S lo hi nn 0 hS⟩
  · cases e
    have key : ∀ i, i < len → ∃ p : Re × List Value, Rt w (fun b => b < w.heap.size) p.1 p.2 ∧ ∀ j u, p.2[j]? = some u → w.cell? (a.add (i * 9 + j)) = some u := fun i hi => by
      have h1 := hel i hi
      rw [List.getElem?_eq_getElem (by omega), cR] at h1
      obtain ⟨cs', hc, hr⟩ := Option.bind_eq_some_iff.1 h1
      obtain ⟨_, hl, hat⟩ := World.cells?_some hc
      obtain ⟨r, hR⟩ := ih n' (by omega) cs' _ hr
      refine ⟨(r, cs'), hR, fun j u hu => ?_⟩
      have := hat j (by rw [← hl]; exact (List.getElem?_eq_some_iff.1 hu).1)
      rw [add_twice] at this
      rw [this]; exact hu
    haveI : Inhabited (Re × List Value) := ⟨(.mk 0 0 [] 0 0 0, [])⟩
    obtain ⟨f, hf2⟩ := choose_lt key
    have hkl : ((List.range len).map (fun i => (f i).1)).length = len := by simp
    refine ⟨.mk k S ((List.range len).map (fun i => (f i).1)) lo hi nn, ?_⟩
    have hfin := Rt.mk (w := w) (K := fun b => b < w.heap.size) k S ((List.range len).map (fun i => (f i).1)) lo hi nn (some a) cap (fun i => (f i).2) hS (fun i hi => by
      rw [List.getElem_map, List.getElem_range]
      exact (hf2 i (by rw [← hkl]; exact hi)).1) (fun hn => by
      rw [hkl] at hn
      obtain ⟨hR, hc⟩ := hf2 0 hn
      have hl0 : 0 < (f 0).2.length := by rw [hR.len]; decide
      have c0 := hc 0 _ (List.getElem?_eq_getElem hl0)
      obtain ⟨g, o, sp⟩ := a
      have hsp : sp = none := cell_spot_none (a := ⟨g, o, sp⟩) (by simpa [Addr.add] using c0)
      subst hsp
      have hb := World.block_lt_of_cell? w _ c0
      rw [add_block] at hb
      refine ⟨g, o, rfl, hb, fun i hi j u hu => ?_⟩
      rw [hkl] at hi
      have := (hf2 i hi).2 j u hu
      unfold Addr.add at this
      split at this
      · next hz =>
        have : o + i * 9 + j = o := by omega
        rw [this]; assumption
      · rw [Nat.add_assoc]; exact this) (by rw [hkl]; exact hle)
    rw [hkl] at hfin
    exact hfin
theorem open_v {v : Value} {d : DataW H} {p : List MemPlace} (h : DataW.Trod enc Tryd.prog w base spare held 27 v d p) : ∃ r, Rt w (fun b => b < w.heap.size) r v.cells.toList := by
  obtain ⟨fuel, h⟩ := h
  exact open_re fuel _ _ h
end
end OpenRe
end Go.Proofs.YtpdmjegbjcefjaaDoor
namespace Go.Proofs.YtpdmjegbjcefjaaDoor
set_option linter.unusedVariables false
set_option linter.unusedSimpArgs false
open Go.RowKit
namespace EreW
open EreP
abbrev bS (l : Array UInt8) : ByteArray := ⟨l⟩
end EreW
end Go.Proofs.YtpdmjegbjcefjaaDoor
namespace Go.Proofs.YtpdmjegbjcefjaaDoor
set_option linter.unusedVariables false
set_option linter.unusedSimpArgs false
open Go.RowKit
namespace EreW
open EreP
theorem item_last {l r : Bs} {c : UInt8} (h : itemP l = .ok (c, r)) : ∃ pre, l = pre ++ c :: r := by
  cases l with
  | nil => cases h
  | cons d l =>
    rw [itemP.eq_def] at h
    simp only at h
    split at h
    · cases h
    · split at h
      · cases l with
        | nil => cases h
        | cons e l => simp only at h; injection h with h; injection h with h1 h2; subst h1; subst h2; exact ⟨[d], rfl⟩
      · injection h with h; injection h with h1 h2; subst h1; subst h2; exact ⟨[], rfl⟩
theorem rest_back {s : ByteArray} {i k : Nat} {pre : Bs} {c : UInt8} (h : rest s i = pre ++ c :: rest s k) (hi : i ≤ s.size) (hk : k ≤ s.size) : 0 < k ∧ k - 1 < s.size ∧ rest s (k - 1) = c :: rest s k := by
  have hl := congrArg List.length h
  rw [rest_len, List.length_append, List.length_cons, rest_len] at hl
  have h1 : 0 < k := by omega
  have e : i + pre.length = k - 1 := by omega
  refine ⟨h1, by omega, ?_⟩
  have h2 := congrArg (List.drop pre.length) h
  rw [List.drop_left] at h2
  rw [← h2, ← e]
  show List.drop (i + pre.length) _ = List.drop pre.length (List.drop i _)
  rw [List.drop_drop]
theorem span_err {l : Bs} {e : Bs × Nat} (h : itemP l = .error e) : spanP l = .error e := by unfold spanP; rw [h]
theorem span_one {l r : Bs} {a : UInt8} (h : itemP l = .ok (a, r)) (hr : r.head? ≠ some 45) : spanP l = .ok ((a, a), r) := by
  unfold spanP; rw [h]
  cases r with
  | nil => rfl
  | cons c r => simp at hr; simp [hr]
theorem span_err2 {l r : Bs} {a : UInt8} {e : Bs × Nat} (h : itemP l = .ok (a, 45 :: r)) (h2 : itemP r = .error e) : spanP l = .error e := by
  unfold spanP; rw [h]; simp [h2]
theorem span_bad {l r r2 : Bs} {a b : UInt8} (h : itemP l = .ok (a, 45 :: r)) (h2 : itemP r = .ok (b, r2)) (hlt : b < a) : spanP l = .error (b :: r2, 1) := by
  unfold spanP; rw [h]; simp [h2, hlt]
theorem span_two {l r r2 : Bs} {a b : UInt8} (h : itemP l = .ok (a, 45 :: r)) (h2 : itemP r = .ok (b, r2)) (hlt : ¬ b < a) : spanP l = .ok ((a, b), r2) := by
  unfold spanP; rw [h]; simp [h2, hlt]
end EreW
end Go.Proofs.YtpdmjegbjcefjaaDoor
