/- Trees of sums in memory. Conditions: none. -/
import Derived.Test.YtledgkplddeghaaDoorCalP
namespace Go.Proofs.YtledgkplddeghaaDoor
set_option linter.unusedVariables false
set_option linter.unusedSimpArgs false
open Go.RowKit
namespace CalW
open CalP
/-- An expression's cells. -/
abbrev exC (kind n : Int) (nm op : ByteArray) (A : Option Addr) (m c : Nat) : List Value := [.int .i64 kind, .int .i64 n, .string nm, .string op, .slice A m c]
/-- A number of 64 bits. -/
abbrev I64 (n : Int) : Prop := -9223372036854775808 ≤ n ∧ n ≤ 9223372036854775807
/-- These cells are this expression; what it leads to lies in blocks of K. -/
inductive Et (w : World) (K : Nat → Prop) : Ex → List Value → Prop where
  | mk (kind n : Int) (nm op : ByteArray) (kids : List Ex) (A : Option Addr) (c : Nat) (css : Nat → List Value) (hk0 : I64 kind) (hn : I64 n) (hnm : nm.size ≤ maxLen) (hop : op.size ≤ maxLen) (hlen : kids.length ≤ maxLen)
      (hk : ∀ (i : Nat) (h : i < kids.length), Et w K (kids[i]'h) (css i))
      (hA : 0 < kids.length → ∃ g o, A = some ⟨g, o, none⟩ ∧ K g ∧ ∀ i, i < kids.length → ∀ j u, (css i)[j]? = some u → w.cell? ⟨g, o + i * 5 + j, none⟩ = some u) :
      Et w K (.mk kind n nm op kids) (exC kind n nm op A kids.length c)
namespace Et
variable {w w' : World} {K K' : Nat → Prop} {r : Ex} {cs : List Value}
theorem len (h : Et w K r cs) : cs.length = 5 := by cases h; rfl
theorem keep (h : Et w K r cs) (hK : ∀ b, K b → K' b) (hk : ∀ b, K b → b < w.heap.size → w'.heap[b]? = w.heap[b]?) : Et w' K' r cs := by
  induction h with
  | mk kind n nm op kids A c css h0 h1 h2 h3 h4 _ hA ih =>
    refine .mk kind n nm op kids A c css h0 h1 h2 h3 h4 ih (fun hn => ?_)
    obtain ⟨g, o, e, hg, hc⟩ := hA hn
    refine ⟨g, o, e, hK g hg, fun i hi j u hu => ?_⟩
    have h1 := hc i hi j u hu
    have h2 : g < w.heap.size := World.block_lt_of_cell? w _ h1
    exact (World.cell?_of_block (a := ⟨g, o + i * 5 + j, none⟩) (hk g hg h2)).trans h1
theorem bel (h : Et w K r cs) (hb : Below w.heap.size w w') : Et w' K r cs := h.keep (fun _ hb => hb) (fun b _ hl => hb.block b hl)
theorem dn (h : Et w K r cs) (m : Nat) : Et (w.drewN m) K r cs := h.keep (fun _ hb => hb) (fun _ _ _ => rfl)
/-- Its cells by its parts. -/
theorem shape (h : Et w K r cs) : ∃ A c, cs = exC r.kind r.n r.name r.op A r.kids.length c := by
  cases h with
  | mk kind n nm op kids A c css => exact ⟨A, c, rfl⟩
theorem fits (h : Et w K r cs) : I64 r.kind ∧ I64 r.n ∧ r.name.size ≤ maxLen ∧ r.op.size ≤ maxLen ∧ r.kids.length ≤ maxLen := by
  cases h with
  | mk kind n nm op kids A c css h0 h1 h2 h3 h4 => exact ⟨h0, h1, h2, h3, h4⟩
/-- A kid's cells. -/
theorem kid (h : Et w K r cs) {i : Nat} (hi : i < r.kids.length) : ∃ g o c kc, cs = exC r.kind r.n r.name r.op (some ⟨g, o, none⟩) r.kids.length c ∧ Et w K (r.kids[i]'hi) kc ∧
    ∀ j u, kc[j]? = some u → w.cell? ⟨g, o + i * 5 + j, none⟩ = some u := by
  cases h with
  | mk kind n nm op kids A c css h0 h1 h2 h3 h4 hk hA =>
    obtain ⟨g, o, rfl, _, hc⟩ := hA (Nat.lt_of_le_of_lt (Nat.zero_le _) hi)
    exact ⟨g, o, c, css i, rfl, hk i hi, hc i hi⟩
theorem leaf (kind n : Int) (nm op : ByteArray) (c : Nat) (h0 : I64 kind) (h1 : I64 n) (h2 : nm.size ≤ maxLen) (h3 : op.size ≤ maxLen) : Et w K (.mk kind n nm op []) (exC kind n nm op none 0 c) :=
  .mk kind n nm op [] none c (fun _ => []) h0 h1 h2 h3 (Nat.zero_le _) (fun _ h => absurd h (Nat.not_lt_zero _)) (fun h => absurd h (Nat.not_lt_zero _))
end Et
theorem nodes_pos (x : Ex) : 1 ≤ nodesE x := by cases x; simp [nodesE]
theorem nodes_kid : ∀ (l : List Ex) (i : Nat) (h : i < l.length), nodesE (l[i]'h) ≤ nodesL l := by
  intro l
  induction l with
  | nil => intro i h; exact absurd h (Nat.not_lt_zero _)
  | cons x l ih =>
    intro i h
    cases i with
    | zero => simp [nodesL]
    | succ i => have := ih i (by simpa using h); simp [nodesL]; omega
end CalW
end Go.Proofs.YtledgkplddeghaaDoor
