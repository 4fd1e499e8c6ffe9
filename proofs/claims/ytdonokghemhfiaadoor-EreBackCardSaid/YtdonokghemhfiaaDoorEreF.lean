/- Trees of expressions: how many kinds, how many groups; the walks of Groups, its reference, and Small. Conditions: trees that fit. -/
import Derived.Test.YtdonokghemhfiaaDoorEreY
namespace Go.Proofs.YtdonokghemhfiaaDoor
open Go.RowKit
namespace EreX
open EreP EreW
mutual
def nodesR : Re → Nat | .mk _ _ kids _ _ _ => 1 + nodesL kids
def nodesL : List Re → Nat | [] => 0 | x :: l => nodesR x + nodesL l
end
mutual
def groupsR : Re → Nat | .mk k _ kids _ _ _ => (if k = 7 then 1 else 0) + groupsL kids
def groupsL : List Re → Nat | [] => 0 | x :: l => groupsR x + groupsL l
end
theorem nodes_take : ∀ (l : List Re) (i : Nat) (h : i < l.length), nodesL (l.take (i + 1)) = nodesL (l.take i) + nodesR (l[i]'h) := by
  intro l
  induction l with
  | nil => intro i h; exact absurd h (Nat.not_lt_zero _)
  | cons x l ih =>
    intro i h
    cases i with
    | zero => simp [nodesL]
    | succ i => simp [nodesL]; rw [ih i (by simpa using h)]; omega
theorem groups_take : ∀ (l : List Re) (i : Nat) (h : i < l.length), groupsL (l.take (i + 1)) = groupsL (l.take i) + groupsR (l[i]'h) := by
  intro l
  induction l with
  | nil => intro i h; exact absurd h (Nat.not_lt_zero _)
  | cons x l ih =>
    intro i h
    cases i with
    | zero => simp [groupsL]
    | succ i => simp [groupsL]; rw [ih i (by simpa using h)]; omega
theorem nodes_le : ∀ (l : List Re) (i : Nat), nodesL (l.take i) ≤ nodesL l := by
  intro l
  induction l with
  | nil => intro i; simp
  | cons x l ih =>
    intro i
    cases i with
    | zero => simp [nodesL]
    | succ i => simp [nodesL]; exact ih i
theorem nodes_kid (l : List Re) (i : Nat) (h : i < l.length) : nodesL (l.take i) + nodesR (l[i]'h) ≤ nodesL l := by
  rw [← nodes_take l i h]; exact nodes_le l (i + 1)
mutual
theorem groups_nodes : ∀ r, groupsR r ≤ nodesR r
  | .mk k _ kids _ _ _ => by
    have := groups_nodesL kids
    unfold groupsR nodesR
    split <;> omega
theorem groups_nodesL : ∀ l, groupsL l ≤ nodesL l
  | [] => Nat.le_refl _
  | x :: l => by
    have h1 := groups_nodes x
    have h2 := groups_nodesL l
    unfold groupsL nodesL; omega
end
theorem len_nodes : ∀ l : List Re, l.length ≤ nodesL l := by
  intro l
  induction l with
  | nil => simp
  | cons x l ih => cases x; simp [nodesL, nodesR]; omega
/-- A kid's cells. -/
theorem kid {w : World} {K : Nat → Prop} {kind : Int} {S : Nat} {kids : List Re} {lo hi nn : Int} {A : Option Addr} {m c : Nat} (h : Rt w K (.mk kind S kids lo hi nn) (reC kind S A m c lo hi nn)) :
    m = kids.length ∧ ∀ (i : Nat) (hi : i < kids.length), ∃ g o, A = some ⟨g, o, none⟩ ∧ K g ∧ ∃ A2 c2, Rt w K (kids[i]'hi) (reC (kids[i]'hi).kind (kids[i]'hi).set A2 (kids[i]'hi).kids.length c2 (kids[i]'hi).lo (kids[i]'hi).hi (kids[i]'hi).n) ∧
      ∀ j u, (reC (kids[i]'hi).kind (kids[i]'hi).set A2 (kids[i]'hi).kids.length c2 (kids[i]'hi).lo (kids[i]'hi).hi (kids[i]'hi).n)[j]? = some u → w.cell? ⟨g, o + i * 9 + j, none⟩ = some u := by
  generalize hr : Re.mk kind S kids lo hi nn = r at h
  generalize hcs : reC kind S A m c lo hi nn = cs at h
  cases h with
  | mk kind' S' kids' lo' hi' nn' A' c' css hS hk hA =>
    injection hr with e1 e2 e3 e4 e5 e6
    subst e1 e2 e3 e4 e5 e6
    simp only [List.cons.injEq, Value.slice.injEq, true_and, and_true] at hcs
    obtain ⟨rfl, rfl, rfl⟩ := hcs
    refine ⟨rfl, fun i hi => ?_⟩
    obtain ⟨g, o, e, hg, hc⟩ := hA (by omega)
    obtain ⟨A2, c2, e2, _, _⟩ := (hk i hi).shape
    refine ⟨g, o, e, hg, A2, c2, ?_, ?_⟩
    · rw [← e2]; exact hk i hi
    · rw [← e2]; exact hc i hi
end EreX
end Go.Proofs.YtdonokghemhfiaaDoor
