/- The walks of state.flags and of the reference's numbers. Conditions: numbers of 64 bits. -/
import Derived.Test.YtfkjogkpdebepaaStaW
namespace Go.Proofs.Ytfkjogkpdebepaa
open Go.RowKit
/-- A side: what its cells hold. -/
structure Sd where
  (a b c : Bool) (p k : Int) (ty : ByteArray) (la : Option Addr) (ln lc : Nat) (fl : ByteArray) (ga : Option Addr) (gn gc : Nat) (re bu : ByteArray)
abbrev Sd.v (s : Sd) : Value :=
  .agg #[.bool s.a, .bool s.b, .bool s.c, .int .i64 s.p, .int .i64 s.k, .string s.ty, .slice s.la s.ln s.lc, .string s.fl, .slice s.ga s.gn s.gc, .string s.re, .string s.bu]
attribute [go_sem] Sd.v
namespace StaW
open StaP StaB
def flN (a b c : Bool) : UInt8 := (if a then 1 else 0) + (if b then 2 else 0) + (if c then 4 else 0)
set_option maxHeartbeats 1600000 in
set_option maxRecDepth 100000 in
theorem flags_c (s : Sd) (w : World) : Calls Try.prog 46 #[s.v] w fun e w' => e = .returned (.int .u8 (flN s.a s.b s.c).toNat) ∧ Below w.heap.size w w' := by
  obtain ⟨a, b, c, p, k, ty, la, ln, lc, fl, ga, gn, gc, re, bu⟩ := s
  cases a <;> cases b <;> cases c
  all_goals
    go_enter Try.func46, Try.ntmps46
    go_wp2
    refine wp_loop_rounds 4 ?_
    rw [rounds_succ]
    go_wp2
    rw [rounds_succ]
    go_wp2
    rw [rounds_succ]
    go_wp2
    rw [rounds_succ]
    go_wp2
    go_ret
    exact ⟨rfl, by go_grown⟩
end StaW
end Go.Proofs.Ytfkjogkpdebepaa
