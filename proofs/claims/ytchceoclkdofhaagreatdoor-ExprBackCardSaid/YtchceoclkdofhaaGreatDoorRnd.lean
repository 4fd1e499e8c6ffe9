/- A region that draws its order, in a round of a range over a function. No program. Condition: it defers nothing. -/
import Derived.Test.YtchceoclkdofhaaGreatDoorMem
import Derived.OrdersIn
import Derived.Deep.RegionHeld3
import Derived.RangeFuncNested
import Derived.OwnWalkIn
namespace Go.Proofs.YtchceoclkdofhaaGreatDoor
set_option linter.unusedVariables false
set_option linter.unusedSimpArgs false
open Go.RowKit
namespace Rnd
variable {l n : Nat} {P : Program} {ops : Array Oper} {Q : Exit → Act → World → Prop} {S : World → Prop}
/-- No defer statement among them. -/
def noDefer (ops : Array Oper) : Bool := ops.all fun o => match o.op with | .defer _ => false | _ => true
theorem no_defer {i : Nat} {o : Oper} (h : noDefer ops = true) (ho : ops[i]? = some o) : ∀ c, o.op ≠ .defer c := by
  intro c e
  unfold noDefer at h
  rw [Array.all_eq_true] at h
  obtain ⟨hi, hh⟩ := Array.getElem?_eq_some_iff.1 ho
  have := h i hi
  rw [hh, e] at this
  cases this
theorem rows_in {row : String} {args : Array Value} {w : World} {R : Value → World → Prop} (h : Rows P row args w R) : RowsIn (Fence.wide.inRound l) n P row args w R :=
  fun c cs _ => let ⟨v, w', r, s⟩ := h c cs; ⟨v, w', r, stepsIn_wide.2 s⟩
theorem op_in {o : Oper} {a : Act} {w : World} {K : Act → World → Prop} (hd : ∀ c, o.op ≠ .defer c) (h : o.wp P a w K Q) : o.wpIn (Fence.wide.inRound l) n P a w K Q := by
  refine ⟨fun _ _ => trivial, ?_⟩
  rw [Oper.semAt_eq _ _ _ hd]
  unfold Oper.wp at h
  generalize (execOp a.eval o).run P w = r at h
  cases r with
  | ok x w' =>
    cases x <;> first
      | exact h
      | exact h.elim
      | exact ⟨fun hh => (by cases hh), callsIn_wide.2 h⟩
      | exact ⟨fun hh => (by cases hh), rows_in h⟩
  | halt x w' => cases x <;> first | exact h | exact h.elim
theorem one_in {i : Nat} {K : Act → World → Prop} {a : Act} {w : World} (hd : noDefer ops = true) (hL : ¬ LetsOut Q) (h : wpOp P ops Q i K a w) : wpOpIn (Fence.wide.inRound l) n P ops Q i K a w := by
  unfold wpOp at h
  unfold wpOpIn
  split
  · next e => simp only [e] at h; exact h
  · next o ho =>
    simp only [ho] at h
    split
    · next hw =>
      rw [if_pos hw] at h
      rcases h with h | ⟨_, h⟩
      · exact op_in (no_defer hd ho) h
      · exact absurd h hL
    · next hw =>
      rw [if_neg hw] at h
      exact ⟨fun _ _ => trivial, h⟩
theorem any_in {md : Region.Mode} (hd : noDefer ops = true) (hL : ¬ LetsOut Q) : ∀ (fuel : Nat) (listed : Array Bool) (a : Act) (w : World), wpAny P md ops Q fuel listed a w → wpAnyIn (Fence.wide.inRound l) n P md ops Q fuel listed a w
  | 0, _, _, _, h => h
  | fuel + 1, _, _, _, h => ⟨h.1, fun i hi => wpOpIn_mono (fun a' w' h' => any_in hd hL fuel _ a' w' h') (one_in hd hL (h.2 i hi))⟩
/-- The law: S holds of all worlds on the way. -/
theorem region_in {id : Nat} {a : Act} {w : World} (hm : P.follows .mixedOrders = true) (hd : noDefer ops = true) (hL : ¬ LetsOut Q) (hS : S w.drew)
    (h : S w.drew → wpAnyH P .any ops Q S ops.size (Array.replicate ops.size false) a w.drew) : (Code.region id ops true).wpIn (Fence.wide.inRound l) n P Q a w :=
  wpIn_region_any hm (any_in hd hL _ _ _ _ (wpAny_of_held _ _ _ _ (h hS)))
theorem keeps_drewN (W : World) (n : Nat) : KeepsOthers W (W.drewN n) := ⟨Nat.le_refl _, fun _ _ h _ => h⟩
/-- An operation that reads, or none that turns the world, is taken first. -/
theorem take (i : Nat) {oi : Oper} {d : Tmp} {v : Value} {md : Region.Mode} {fuel : Nat} {listed : Array Bool} {t : Array Value} {ds : List Deferred} {w : World} (hi : ops[i]? = some oi) (hd : oi.dst = some d)
    (hs : Region.noSelect ops = true) (hf : Region.free md ops listed i = true) (hr : (Region.ready md ops listed).contains i = true)
    (hQ : ∀ c a w, Q (.panic c) (a.put oi.dst v) w → Q (.panic c) a w) (hy : YieldsIf P ops S oi v { tmps := t, defers := ds }) (hS : S w)
    (h : wpAnyH P md ops Q S fuel (listed.setIfInBounds i true) { tmps := t.setIfInBounds d v, defers := ds } w) : wpAnyH P md ops Q S (fuel + 1) listed { tmps := t, defers := ds } w :=
  wpAnyH_take hi hs hf hr hQ hy hS (by rw [hd]; exact h)
end Rnd
end Go.Proofs.YtchceoclkdofhaaGreatDoor
