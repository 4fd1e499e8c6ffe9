/- Trees of expressions in memory. Conditions: none. -/
import Derived.Test.YtpdmjegbjcefjaaDoorEreS
import Derived.Deep.AppendLies
namespace Go.Proofs.YtpdmjegbjcefjaaDoor
set_option linter.unusedVariables false
set_option linter.unusedSimpArgs false
open Go.RowKit
namespace EreW
open EreP
/-- An expression's cells. -/
abbrev reC (kind : Int) (S : Nat) (A : Option Addr) (n c : Nat) (lo hi nn : Int) : List Value :=
  [.int .i64 kind, .int .u64 (word S 0), .int .u64 (word S 1), .int .u64 (word S 2), .int .u64 (word S 3), .slice A n c, .int .i64 lo, .int .i64 hi, .int .i64 nn]
abbrev zC : Array Value := #[.int .i64 0, .int .u64 0, .int .u64 0, .int .u64 0, .int .u64 0, .slice none 0 0, .int .i64 0, .int .i64 0, .int .i64 0]
/-- These cells are this expression; what it leads to lies in blocks of K. -/
inductive Rt (w : World) (K : Nat → Prop) : Re → List Value → Prop where
  | mk (kind : Int) (S : Nat) (kids : List Re) (lo hi nn : Int) (A : Option Addr) (c : Nat) (css : Nat → List Value) (hS : S < 2 ^ 256)
      (hk : ∀ (i : Nat) (h : i < kids.length), Rt w K (kids[i]'h) (css i))
      (hA : 0 < kids.length → ∃ g o, A = some ⟨g, o, none⟩ ∧ K g ∧ ∀ i, i < kids.length → ∀ j u, (css i)[j]? = some u → w.cell? ⟨g, o + i * 9 + j, none⟩ = some u) (hcap : kids.length ≤ c) :
      Rt w K (.mk kind S kids lo hi nn) (reC kind S A kids.length c lo hi nn)
namespace Rt
variable {w w' : World} {K K' : Nat → Prop} {r : Re} {cs : List Value}
theorem len (h : Rt w K r cs) : cs.length = 9 := by cases h; rfl
theorem one (h : Rt w K r cs) : ∀ u ∈ cs, u.oneCell' = true := by
  cases h
  intro u hu
  simp only [List.mem_cons, List.not_mem_nil, or_false] at hu
  rcases hu with rfl | rfl | rfl | rfl | rfl | rfl | rfl | rfl | rfl <;> rfl
theorem keep (h : Rt w K r cs) (hK : ∀ b, K b → K' b) (hk : ∀ b, K b → b < w.heap.size → w'.heap[b]? = w.heap[b]?) : Rt w' K' r cs := by
  induction h with
  | mk kind S kids lo hi nn A c css hS _ hA hcap ih =>
    refine .mk kind S kids lo hi nn A c css hS ih (fun hn => ?_) hcap
    obtain ⟨g, o, e, hg, hc⟩ := hA hn
    refine ⟨g, o, e, hK g hg, fun i hi j u hu => ?_⟩
    have h1 := hc i hi j u hu
    have h2 : g < w.heap.size := World.block_lt_of_cell? w _ h1
    exact (World.cell?_of_block (a := ⟨g, o + i * 9 + j, none⟩) (hk g hg h2)).trans h1
theorem tch {S : Nat → Prop} (h : Rt w K r cs) (t : Tch S w w') (hS : ∀ b, K b → ¬ S b) : Rt w' K r cs := h.keep (fun _ hb => hb) (fun b hb hl => t.block b hl (hS b hb))
theorem bel (h : Rt w K r cs) (hb : Below w.heap.size w w') : Rt w' K r cs := h.keep (fun _ hb => hb) (fun b _ hl => hb.block b hl)
theorem lt_ (h : Rt w K r cs) : Rt w (fun b => K b ∧ b < w.heap.size) r cs := by
  induction h with
  | mk kind S kids lo hi nn A c css hS hk hA hcap ih =>
    refine .mk kind S kids lo hi nn A c css hS ih (fun hn => ?_) hcap
    obtain ⟨g, o, e, hg, hc⟩ := hA hn
    have hl := (ih 0 hn).len
    have h0 : (css 0)[0]? = some ((css 0)[0]'(by omega)) := List.getElem?_eq_getElem (by omega)
    exact ⟨g, o, e, ⟨hg, World.block_lt_of_cell? w _ (hc 0 hn 0 _ h0)⟩, hc⟩
theorem leaf (kind : Int) (S : Nat) (lo hi nn : Int) (c : Nat) (hS : S < 2 ^ 256) : Rt w K (.mk kind S [] lo hi nn) (reC kind S none 0 c lo hi nn) :=
  .mk kind S [] lo hi nn none c (fun _ => []) hS (fun _ h => absurd h (Nat.not_lt_zero _)) (fun h => absurd h (Nat.not_lt_zero _)) (Nat.zero_le _)
/-- Its cells by its parts. -/
theorem shape (h : Rt w K r cs) : ∃ A c, cs = reC r.kind r.set A r.kids.length c r.lo r.hi r.n ∧ r.set < 2 ^ 256 ∧ (A = none → r.kids = []) := by
  cases h with
  | mk kind S kids lo hi nn A c css hS hk hA hcap =>
    refine ⟨A, c, rfl, hS, fun e => ?_⟩
    cases kids with
    | nil => rfl
    | cons x l => obtain ⟨g, o, e', _⟩ := hA (by simp); rw [e] at e'; cases e'
end Rt
/-- A list of expressions: their cells, one behind the other. -/
def Rts (w : World) (K : Nat → Prop) (l : List Re) (xs : List Value) : Prop := ∃ css : List (List Value), css.length = l.length ∧ xs = css.flatten ∧ ∀ i (h : i < l.length) (h' : i < css.length), Rt w K (l[i]'h) (css[i]'h')
theorem flat_get : ∀ (css : List (List Value)), (∀ c ∈ css, c.length = 9) → ∀ (i j : Nat) (h : i < css.length) (u : Value), (css[i]'h)[j]? = some u → css.flatten[i * 9 + j]? = some u := by
  intro css
  induction css with
  | nil => intro _ i j h; exact absurd h (Nat.not_lt_zero _)
  | cons c css ih =>
    intro hl i j h u hu
    have hc := hl c (List.mem_cons_self ..)
    rw [List.flatten_cons]
    cases i with
    | zero =>
      have hu2 : c[j]? = some u := hu
      have hj := (List.getElem?_eq_some_iff.1 hu2).1
      rw [Nat.zero_mul, Nat.zero_add, List.getElem?_append_left hj]; exact hu2
    | succ i =>
      have hu2 : (css[i]'(by simpa using h))[j]? = some u := hu
      rw [List.getElem?_append_right (by rw [hc]; omega), hc, show (i + 1) * 9 + j - 9 = i * 9 + j by omega]
      exact ih (fun c' hc' => hl c' (List.mem_cons_of_mem _ hc')) i j (by simpa using h) u hu2
theorem flat_len : ∀ (css : List (List Value)), (∀ c ∈ css, c.length = 9) → css.flatten.length = css.length * 9 := by
  intro css
  induction css with
  | nil => intro _; rfl
  | cons c css ih =>
    intro hl
    rw [List.flatten_cons, List.length_append, hl c (List.mem_cons_self ..), ih (fun c' h => hl c' (List.mem_cons_of_mem _ h)), List.length_cons]; omega
theorem getD_at (css : List (List Value)) (i : Nat) (h : i < css.length) : css.getD i [] = css[i] := by simp [List.getElem?_eq_getElem h]
namespace Rts
variable {w w' : World} {K : Nat → Prop} {l : List Re} {xs : List Value}
theorem all9 {css : List (List Value)} (hl : css.length = l.length) (h : ∀ i (h : i < l.length) (h' : i < css.length), Rt w K (l[i]'h) (css[i]'h')) : ∀ c ∈ css, c.length = 9 := by
  intro c hc
  obtain ⟨i, hi, rfl⟩ := List.getElem_of_mem hc
  exact (h i (by omega) hi).len
theorem len (h : Rts w K l xs) : xs.length = l.length * 9 := by
  obtain ⟨css, hl, rfl, ha⟩ := h
  rw [flat_len css (all9 hl ha), hl]
theorem one (h : Rts w K l xs) : ∀ u ∈ xs, u.oneCell' = true := by
  obtain ⟨css, hl, rfl, ha⟩ := h
  intro u hu
  rw [List.mem_flatten] at hu
  obtain ⟨c, hc, hu⟩ := hu
  obtain ⟨i, hi, rfl⟩ := List.getElem_of_mem hc
  exact (ha i (by omega) hi).one u hu
theorem nil : Rts w K [] [] := ⟨[], rfl, rfl, fun _ h => absurd h (Nat.not_lt_zero _)⟩
theorem snoc (h : Rts w K l xs) {r : Re} {cs : List Value} (hr : Rt w K r cs) : Rts w K (l ++ [r]) (xs ++ cs) := by
  obtain ⟨css, hl, rfl, ha⟩ := h
  refine ⟨css ++ [cs], by simp [hl], by simp, fun i h h' => ?_⟩
  by_cases hi : i < l.length
  · rw [List.getElem_append_left hi, List.getElem_append_left (by omega)]; exact ha i hi (by omega)
  · have e : i = l.length := by simp at h; omega
    subst e
    rw [List.getElem_append_right (Nat.le_refl _), List.getElem_append_right (by omega)]
    simp [hl]; exact hr
theorem tch {S : Nat → Prop} (h : Rts w K l xs) (t : Tch S w w') (hS : ∀ b, K b → ¬ S b) : Rts w' K l xs := by
  obtain ⟨css, hl, e, ha⟩ := h
  exact ⟨css, hl, e, fun i h h' => (ha i h h').tch t hS⟩
/-- A kind that has them all. -/
theorem kind (h : Rts w K l xs) (k : Int) (lo hi nn : Int) {A : Option Addr} {c g o : Nat} (hA : 0 < l.length → A = some ⟨g, o, none⟩) (hg : 0 < l.length → K g) (hc : ∀ j u, xs[j]? = some u → w.cell? ⟨g, o + j, none⟩ = some u) (hcap : l.length ≤ c) :
    Rt w K (.mk k 0 l lo hi nn) (reC k 0 A l.length c lo hi nn) := by
  obtain ⟨css, hl, rfl, ha⟩ := h
  refine .mk k 0 l lo hi nn A c (fun i => css.getD i []) (by decide) (fun i h => ?_) (fun hn => ⟨g, o, hA hn, hg hn, fun i hi j u hu => ?_⟩) hcap
  · rw [getD_at css i (by omega)]; exact ha i h (by omega)
  · rw [getD_at css i (by omega)] at hu
    rw [Nat.add_assoc]
    exact hc _ u (flat_get css (all9 hl ha) i j (by omega) u hu)
theorem at_ (h : Rts w K l xs) {i : Nat} (hi : i < l.length) : ∃ cs, Rt w K (l[i]'hi) cs ∧ ∀ j u, cs[j]? = some u → xs[i * 9 + j]? = some u := by
  obtain ⟨css, hl, rfl, ha⟩ := h
  exact ⟨_, ha i hi (by omega), fun j u hu => flat_get css (all9 hl ha) i j (by omega) u hu⟩
end Rts
end EreW
end Go.Proofs.YtpdmjegbjcefjaaDoor
