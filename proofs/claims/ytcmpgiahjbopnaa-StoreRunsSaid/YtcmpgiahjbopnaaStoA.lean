/- A store's texts one by one: the iterator's contract. Conditions: few texts; what the rounds turn is none of the store's. -/
import Derived.RangeFuncNested
import Derived.RangeFuncBound
import Derived.RangeFuncCalls
import Derived.RangeFuncLeaves
import Derived.Shelf.Abstract
import Derived.Shelf.RegionOpen
import Derived.OwnWalkIn
import Derived.TacticsInMore
import Derived.LoopNIn
import Derived.LoopIn
import Derived.Test.YtcmpgiahjbopnaaStoR
namespace Go.Proofs.Ytcmpgiahjbopnaa
set_option linter.unusedVariables false
set_option linter.unusedSimpArgs false
open Go.RowKit Go.Shelf
attribute [local go_sem] Oper.semAt_some
namespace StoW
open StoP
theorem tch_cell {S : Nat → Prop} {w w' : World} (k : Tch S w w') {a : Addr} {v : Value} (h : w.cell? a = some v) (hs : ¬ S a.block) : w'.cell? a = some v :=
  (World.cell?_of_block (k.block _ (World.block_lt_of_cell? w _ h) hs)).trans h
/-- The first k numbers. -/
def pref (n k : Nat) : List (Fin n) := (List.finRange n).take k
theorem pref_succ {n k : Nat} (h : k < n) : pref n (k + 1) = pref n k ++ [⟨k, h⟩] := by
  unfold pref
  rw [List.take_succ_eq_append_getElem (by simpa using h)]
  simp
theorem pref_length {n k : Nat} (h : k ≤ n) : (pref n k).length = k := by simp [pref, h]
theorem pref_all (n : Nat) : pref n n = List.finRange n := by unfold pref; exact List.take_of_length_le (by simp)
theorem pref_cut {n : Nat} {pre : List (Fin n)} {x : Fin n} (h : pre ++ [x] = pref n (pre ++ [x]).length) : pre = pref n pre.length ∧ x.val = pre.length := by
  rw [List.length_append, List.length_singleton] at h
  have hl : pre.length < n := by
    have := congrArg List.length h
    simp [pref] at this; omega
  rw [pref_succ hl] at h
  have := List.append_inj' h rfl
  refine ⟨this.1, ?_⟩
  have h2 := this.2
  injection h2 with h3
  rw [h3]
set_option maxRecDepth 100000 in
set_option maxHeartbeats 2000000 in
theorem all1_c (n : Nat) (hn : 1 ≤ n) (l Bn R B c : Nat) (cs : Array Value) (A : Option Addr) (X : List ByteArray) (S : Nat → Prop) (hS1 : ¬ S Bn) (hS2 : ¬ S R) (hS3 : ∀ ad, A = some ad → 0 < X.length → ¬ S ad.block) (hl : X.length ≤ 1000000)
    (J Jx : List (Fin X.length) → World → Prop)
    (hY : ∀ pre x W, J pre W → pre.length < X.length → YieldAt Fence.wide (n - 1) Try.prog l #[.int .i64 (x.val : Int), .string (X[x.val])] W fun e W' =>
      (e = .returned (.bool true) ∧ J (pre ++ [x]) W' ∧ Tch S W W') ∨ (e = .returned (.bool false) ∧ Jx (pre ++ [x]) W'))
    (W : World) (hBn : W.cell? ⟨Bn, 0, none⟩ = some (.pointer (some ⟨R, 0, none⟩))) (hb : Blk W R 53 cs) (h4 : cs[4]? = some (.slice A X.length c)) (hX : Rd W B 1 A X.length (X.map Value.string)) (h0 : J [] W) :
    CallsIn Fence.wide n Try.prog 17 #[.func (.yield l) #[] #[], .pointer (some ⟨Bn, 0, none⟩)] W fun e W' => (∃ v, e = .returned v) ∧
      ((∃ ys, ys = pref X.length X.length ∧ J ys W') ∨ (∃ pre, (∃ k, k ≤ X.length ∧ pre = pref X.length k) ∧ Jx pre W')) := by
  have cl := len_c R cs A X.length c W hb h4
  have u4 := hb.cell 4
  rw [h4] at u4
  clear hb h4
  refine callsIn_of_wp Try.func17 rfl trivial ?_ rfl
  simp only [Try.ntmps17, List.size_toArray, List.length_cons, List.length_nil, Nat.reduceAdd, Nat.reduceSub, Array.replicate_succ, Array.replicate_zero, List.push_toArray, List.append_toArray, List.nil_append, List.cons_append]
  gi_wp2_with (refine ⟨trivial, ?_⟩; gi_at_call 11; refine (callsIn_wide.2 cl).mono ?_; rintro e w' ⟨rfl, rfl⟩)
  gi_loopw [6] (fun i wr => ∃ k : Nat, k ≤ X.length ∧ i = .int .i64 k ∧ J (pref X.length k) wr ∧ Tch S W wr)
    (fun i _ => X.length - (intOf i).toNat)
  case atStart => exact ⟨0, Nat.zero_le _, rfl, h0, Tch.refl _ _⟩
  case round =>
    obtain ⟨k, hk, rfl, hJs, hnx⟩ := hrel
    have hcB := tch_cell hnx hBn hS1
    have hc4 := tch_cell hnx u4 hS2
    by_cases hlt : k < X.length
    · obtain ⟨ad, x, hA, hadb, hx, cx⟩ := hX.str hlt
      have cx2 := tch_cell hnx cx (by rw [add_block]; exact hS3 ad hA (by omega))
      have hx2 : X[k] = x := by rw [List.getElem?_eq_getElem hlt] at hx; injection hx
      subst hA
      obtain ⟨fn, tmps, assign, body, hy, hR⟩ := hY _ ⟨k, hlt⟩ wr hJs (by rw [pref_length hk]; exact hlt)
      dsimp only at hy
      rw [hx2] at hy
      have HX2 := Lib.hid hx2
      have HX := Lib.hid hx
      clear hx hx2
      gi_wp2
      refine hR.mono ?_
      rintro e W3 (⟨rfl, hJ3, hk3⟩ | ⟨rfl, hJx3⟩)
      · gi_wp2
        go_roundw
        case rel => exact ⟨k + 1, by omega, by simp, by rw [pref_succ hlt]; exact hJ3, hnx.trans hk3⟩
        case measure => simp [intOf]; omega
      · gi_wp2
        refine bodyPost_ret (results_none rfl _ _ _) rfl ?_
        exact ⟨⟨_, rfl⟩, .inr ⟨_, ⟨k + 1, by omega, (pref_succ hlt).symm⟩, hJx3⟩⟩
    · obtain rfl : k = X.length := by omega
      gi_wp2
      go_end0
      exact ⟨⟨_, rfl⟩, .inl ⟨_, rfl, hJs⟩⟩
set_option maxRecDepth 100000 in
set_option maxHeartbeats 2000000 in
theorem all0_c (n : Nat) (hn : 1 ≤ n) (l Bn : Nat) {α : Type} (J : List α → World → Prop) (W : World) (hBn : W.cell? ⟨Bn, 0, none⟩ = some (.pointer none)) (h0 : J [] W) :
    CallsIn Fence.wide n Try.prog 17 #[.func (.yield l) #[] #[], .pointer (some ⟨Bn, 0, none⟩)] W fun e W' => (∃ v, e = .returned v) ∧ J [] W' := by
  have cl := len0_c W
  refine callsIn_of_wp Try.func17 rfl trivial ?_ rfl
  simp only [Try.ntmps17, List.size_toArray, List.length_cons, List.length_nil, Nat.reduceAdd, Nat.reduceSub, Array.replicate_succ, Array.replicate_zero, List.push_toArray, List.append_toArray, List.nil_append, List.cons_append]
  gi_wp2_with (refine ⟨trivial, ?_⟩; gi_at_call 11; refine (callsIn_wide.2 cl).mono ?_; rintro e w' ⟨rfl, rfl⟩)
  gi_loopw [6] (fun i wr => i = .int .i64 0 ∧ J [] wr) (fun _ _ => 0)
  case atStart => exact ⟨rfl, h0⟩
  case round =>
    obtain ⟨rfl, hJs⟩ := hrel
    gi_wp2
    go_end0
    exact ⟨⟨_, rfl⟩, hJs⟩
/-- All of a store. -/
theorem all_stops (n : Nat) (hn : 1 ≤ n) (Bn R c : Nat) (cs : Array Value) (A : Option Addr) (X : List ByteArray) (S : Nat → Prop) (hS1 : ¬ S Bn) (hS2 : ¬ S R) (hS3 : ∀ ad, A = some ad → 0 < X.length → ¬ S ad.block) (hl : X.length ≤ 1000000)
    (w : World) (hBn : w.cell? ⟨Bn, 0, none⟩ = some (.pointer (some ⟨R, 0, none⟩))) (hb : Blk w R 53 cs) (h4 : cs[4]? = some (.slice A X.length c)) (hX : Rd w w.heap.size 1 A X.length (X.map Value.string)) :
    SeqStopsK Fence.wide n Try.prog 17 #[.pointer (some ⟨Bn, 0, none⟩)] (fun x : Fin X.length => #[Value.int .i64 (x.val : Int), Value.string (X[x.val])]) (Tch S) (fun ys => ys = pref X.length X.length)
      (fun pre => ∃ k, k ≤ X.length ∧ pre = pref X.length k) X.length w := fun l J Jx W hW _ _ hY h0 => by
  have hBl := World.block_lt_of_cell? w _ hBn
  exact all1_c n hn l Bn R w.heap.size c cs A X S hS1 hS2 hS3 hl J Jx hY W ((hW.cell (p := ⟨Bn, 0, none⟩) hBl).trans hBn) (hb.next hW) h4 (hX.below hW) h0
theorem none_stops (n : Nat) (hn : 1 ≤ n) (Bn : Nat) (K : World → World → Prop) (w : World) (hBn : w.cell? ⟨Bn, 0, none⟩ = some (.pointer none)) :
    SeqStopsK Fence.wide n Try.prog 17 #[.pointer (some ⟨Bn, 0, none⟩)] (fun x : Nat × ByteArray => #[Value.int .i64 (x.1 : Int), Value.string x.2]) K (fun ys => ys = [])
      (fun pre => False) 0 w := fun l J Jx W hW _ _ hY h0 => by
  have hBl := World.block_lt_of_cell? w _ hBn
  exact (all0_c n hn l Bn J W ((hW.cell (p := ⟨Bn, 0, none⟩) hBl).trans hBn) h0).mono fun e W' ⟨he, hj⟩ => ⟨he, .inl ⟨_, rfl, hj⟩⟩
end StoW
end Go.Proofs.Ytcmpgiahjbopnaa
