/- A store is made; the walk of New. Conditions: none. -/
import Derived.Test.YtcmpgiahjbopnaaStoR
import Derived.Deep.OwnRows
import Derived.OwnWalk
namespace Go.Proofs.Ytcmpgiahjbopnaa
set_option linter.unusedVariables false
set_option linter.unusedSimpArgs false
open Go.RowKit
namespace StoW
open StoP
/-- A store in memory. -/
structure St (w : World) (R : Nat) (most size : Int) (seed mask : Nat) (T : Value) (g : Nat) (X : List ByteArray) (sl : List Nat) : Prop where
  blk : Blk w R 53 (stC most seed mask size T g sl.length)
  row : w.ownsRow 0 9 1 T X.length (X.map Value.string)
  slo : Blk w g 3 (slV sl)
  inv : Inv (hM seed mask) (X.map bs) sl
  two : Two sl.length
  half : 2 * X.length ≤ sl.length
  big : 8 ≤ sl.length
/-- Its blocks. -/
def ow (R g : Nat) (T : Value) (k : Nat) : Prop := k = R ∨ k = g ∨ T.ownBlock = some k
theorem info_Int : (Try.prog.info? 3).map (fun i => (i.zero, i.size, i.bytes)) = some (some (.int .i64 0), 1, 8) := by kernel_rfl
theorem slV_zero (m : Nat) : madeCells #[.int .i64 0] m = slV (List.replicate m 0) := by
  apply Array.toList_inj.1
  simp [madeCells, slV, Nat.mod_one]
  exact List.ext_getElem (by simp) (fun i _ _ => by simp)
def NewPost (V size : Int) (seed mask : Nat) (w : World) (e : Ending) (w' : World) : Prop :=
  ∃ (R g m : Nat), e = .returned (.pointer (some ⟨R, 0, none⟩)) ∧ St w' R V size seed mask (.slice none 0 0) g [] (List.replicate m 0) ∧ Below w.heap.size w w' ∧ w.heap.size ≤ R ∧ w.heap.size ≤ g
set_option maxRecDepth 100000 in
set_option maxHeartbeats 4000000 in
theorem new_c (most size : Int) (seed mask : Nat) (w : World) :
    Calls Try.prog 6 #[.agg #[.int .i64 most, .int .u64 (seed : Nat), .int .u64 (mask : Nat), .int .i64 size]] w (NewPost (mostI most) size seed mask w) := by
  have hp : ∀ k : Nat, 14 ≤ k → 16384 ≤ 2 ^ k := fun k hk => Nat.le_trans (by decide : 16384 ≤ 2 ^ 14) (Nat.pow_le_pow_right (by decide) hk)
  have hq : ∀ k : Nat, k ≤ 14 → 2 ^ k ≤ 16384 := fun k hk => Nat.le_trans (Nat.pow_le_pow_right (by decide) hk) (by decide : 2 ^ 14 ≤ 16384)
  have hr : ∀ k : Nat, 3 ≤ k → 8 ≤ 2 ^ k := fun k hk => Nat.le_trans (by decide : 8 ≤ 2 ^ 3) (Nat.pow_le_pow_right (by decide) hk)
  have HP := Lib.hid hp
  have HQ := Lib.hid hq
  have HR := Lib.hid hr
  clear hp hq hr
  rcases (by omega : most < 1 ∨ 4000 < most ∨ (1 ≤ most ∧ most ≤ 4000)) with h | h | ⟨h, h'⟩
  case' inl => have hV : mostI most = 1 := by unfold mostI; rw [if_pos h]
  case' inr.inl => have hV : mostI most = 4000 := by unfold mostI; rw [if_neg (by omega), if_pos h]
  case' inr.inr => have hV : mostI most = most := by unfold mostI; rw [if_neg (by omega), if_neg (by omega)]
  all_goals
    rw [hV]
    clear hV
    go_enter Try.func6, Try.ntmps6
    go_wp2_with fail
    go_loop [3] (fun v => ∃ k : Nat, v = .int .i64 ((2 ^ k : Nat) : Int) ∧ 3 ≤ k ∧ k ≤ 14) (fun v => 16384 - (intOf v).toNat)
    case atStart => exact ⟨3, rfl, by omega, by omega⟩
    case round =>
      obtain ⟨k, rfl, hk3, hk14⟩ := hrel
      have hk1 := HQ.out k hk14
      have hk2 := HR.out k hk3
      have hpw : 2 ^ (k + 1) = 2 ^ k * 2 := Nat.pow_succ 2 k
      have HPW := Lib.hid hpw
      clear hpw
      obtain ⟨z, hz⟩ : ∃ z, 2 ^ k = z := ⟨_, rfl⟩
      rw [hz] at hk1 hk2 HPW ⊢
      have HZ := Lib.hid hz
      clear hz
      have hmr := run_make_row' (P := Try.prog) 51 3 (.int .i64 0) 8 Try.underlying51 info_Int rfl .i64 .i64 z (by omega) (by omega)
      by_cases hlt : (z : Int) < (if 16384 < size then 16384 else size)
      · have hk : k + 1 ≤ 14 := by
          have h9 : (z : Int) < 16384 := by
            by_cases hs : 16384 < size
            · rw [if_pos hs] at hlt; exact hlt
            · rw [if_neg hs] at hlt; omega
          by_cases h14 : 14 ≤ k
          · have := HP.out k h14
            rw [HZ.out] at this; omega
          · omega
        clear hmr
        go_wp2_with fail
        all_goals
          go_round
          case rel => exact ⟨k + 1, by rw [HPW.out]; simp, by omega, hk⟩
          case measure => simp [intOf]; omega
      · have hge : (if 16384 < size then 16384 else size) ≤ (z : Int) := by omega
        clear hlt
        go_wp2_with fail
        all_goals
          go_region
          go_wp2_with fail
          go_ret
          refine ⟨w.heap.size + 1 + 1, w.heap.size + 1, z, rfl, ⟨?_, World.ownsRow_nil _ _ _ _, ?_, Inv.nil _ (by omega), by rw [List.length_replicate, ← HZ.out]; exact ⟨k, by omega, rfl⟩, by simp, by rw [List.length_replicate]; exact hk2⟩, ?_, by omega, by omega⟩
          · rw [List.length_replicate]
            exact (Blk.new2 w _ _ _ _).drewN 1
          · rw [slV_zero]
            exact ((Blk.new1 w _ _ _).alloc _).drewN 1
          · exact below_dn (by go_grown) 1
end StoW
end Go.Proofs.Ytcmpgiahjbopnaa
