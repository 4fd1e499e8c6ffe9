/- The walk of the statement StateRuns. Conditions: what an argument can be. -/
import Derived.Test.YtfkjogkpdebepaaStaK
namespace Go.Proofs.Ytfkjogkpdebepaa
open Go.RowKit
namespace StaU
open StaP StaL
theorem expand_app (a b : List Rn) : expand (a ++ b) = expand a ++ expand b := List.flatMap_append
/-- A run of a list: where it stands. -/
theorem run_at (l : List Int) (i c : Nat) (a : Int) (h : (runs l)[i]? = some (c, a)) :
    (expand ((runs l).take (i + 1))).length = (expand ((runs l).take i)).length + c ∧ ∀ j, j < c → l[(expand ((runs l).take i)).length + j]? = some a := by
  have h2 := (runs_ok l).2
  have e1 : (runs l).take (i + 1) = (runs l).take i ++ [(c, a)] := by rw [List.take_add_one, h]; rfl
  have e3 : expand [(c, a)] = List.replicate c a := by simp [expand]
  refine ⟨by rw [e1, expand_app, List.length_append, e3, List.length_replicate], fun j hj => ?_⟩
  have e4 : l = expand ((runs l).take (i + 1)) ++ expand ((runs l).drop (i + 1)) := by rw [← expand_app, List.take_append_drop, h2]
  rw [e1, expand_app, e3, List.append_assoc] at e4
  generalize hX : expand ((runs l).take i) = X at *
  generalize hY : expand ((runs l).drop (i + 1)) = Y at *
  rw [e4, List.getElem?_append_right (by omega), Nat.add_sub_cancel_left, List.getElem?_append_left (by simpa using hj), List.getElem?_replicate, if_pos hj]
theorem run_end (l : List Int) : (expand ((runs l).take (runs l).length)).length = l.length := by rw [List.take_of_length_le (Nat.le_refl _), (runs_ok l).2]
theorem run_low (l : List Int) (i : Nat) : (expand ((runs l).take i)).length ≤ l.length := by
  have h2 := (runs_ok l).2
  have e : l.length = (expand ((runs l).take i)).length + (expand ((runs l).drop i)).length := by rw [← List.length_append, ← expand_app, List.take_append_drop, h2]
  omega
theorem two_ne (w : World) (c a : Int) : (binOp .neq 42 (.agg #[.int .i64 c, .int .i64 a]) (.agg #[.int .i64 c, .int .i64 a])).run Try.prog w = .ok (.bool false) w := by
  have us := Try.underlying3
  have ii : (Try.prog.info? 3).map (fun i => (i.zero, i.size, i.bytes)) = some (some (.int .i64 0), 1, 8) := by kernel_rfl
  obtain ⟨i, hi, _⟩ := info_parts ii
  have hs : Try.prog.cellsOf 3 = 1 := by kernel_rfl
  rw [run_neq_struct, show (10000 : Nat) = 9998 + 1 + 1 from rfl, run_equalIn_array w (9998 + 1) _ _ Try.underlying42 hi]
  simp only [hs, List.range, List.range.loop, Op.eqItems]
  go_simp
/-- What can be read of a row of one's own. -/
theorem row_get {w : World} {B n k : Nat} {A : Option Addr} {l : List Rn} (h : Rd w B 2 A n (rcells l)) (hl : l.length = n) (hk : k < n) : ∃ g o r, A = some ⟨g, o, none⟩ ∧ g < B ∧ l[k]? = some r ∧ w.cell? ⟨g, o + k * 2, none⟩ = some (.int .i64 (r.1 : Int)) ∧ w.cell? ⟨g, o + k * 2 + 1, none⟩ = some (.int .i64 r.2) := by
  obtain ⟨g, o, e, hb, hc⟩ := Rd.flat h (by omega) (by omega)
  have hp : l[k]? = some (l[k]'(by omega)) := List.getElem?_eq_getElem (by omega)
  obtain ⟨h1, h2⟩ := StaX.rcells_at l k _ hp
  exact ⟨g, o, _, e, hb, hp, hc _ _ h1, by rw [Nat.add_assoc]; exact hc _ _ h2⟩
set_option maxHeartbeats 6400000 in
set_option maxRecDepth 100000 in
theorem law_c (A : Option Addr) (n c : Nat) (l : List Int) (w : World) (hr : Rd w w.heap.size 1 A n (ints l)) (hc : n ≤ c) (hn : n ≤ 9223372036854775807) :
    Calls Try.prog 5 #[.slice A n c] w fun e w' => e = .returned (.bool true) ∧ Below w.heap.size w w' := by
  have aw := StaE.awake_c w
  have hl := hr.1
  rw [List.length_map] at hl
  go_enter Try.func5, Try.ntmps5
  go_wp2_with (go_at_call 6; with_reducible refine aw.mono ?_)
  rintro e w1 ⟨rfl, hb1⟩
  by_cases hs : 60 < n
  · have d0 : decide ((60 : Int) < (n : Int)) = true := by simp; omega
    go_wp2
    go_ret
    exact ⟨rfl, hb1⟩
  have d0 : decide ((60 : Int) < (n : Int)) = false := by simp; omega
  have hz1 := hb1.size
  have hr1 := (hr.below hb1).more hz1
  have ct1 := runs_c A n c l w1 hr1 hc (by omega)
  go_wp2_with (go_at_call 12; with_reducible refine ct1.mono ?_)
  rintro e w2 ⟨v2, rfl, own2, hb2⟩
  have hB2 := via hb2 hb1
  have hz2 := hB2.size
  have hr2 := (hr.below hB2).more hz2
  have ct2 := refruns_c A n c l w2 hr2 (by omega)
  obtain ⟨A2, c2, rfl⟩ := own_shape own2
  go_wp2_with (go_at_call 13; with_reducible refine ct2.mono ?_)
  rintro e w3 ⟨v3, rfl, own3, hb3⟩
  have hB3 := via hb3 hB2
  have hz3 := hB3.size
  obtain ⟨A3, c3, rfl⟩ := own_shape own3
  have q2 := ((StaZ.own_rd own2).1.below hb3).more hb3.size
  have q3 := (StaZ.own_rd own3).1
  have hrl := runs_le l
  obtain ⟨rs, hrs⟩ : ∃ rs, runs l = rs := ⟨_, rfl⟩
  have RUN := Lib.hid (fun i k a h => run_at l i k a h)
  have REND := Lib.hid (run_end l)
  have RLOW := Lib.hid (run_low l)
  rw [hrs] at q2 q3 hrl RUN REND RLOW
  clear own2 own3 hb1 hb2 hb3 hB2 hr1 hr2 ct1 ct2 aw
  obtain ⟨m, hm⟩ : ∃ m, rs.length = m := ⟨_, rfl⟩
  rw [hm] at q2 q3 hrl
  rw [hrs, hm]
  clear hrs
  have HM := Lib.hid hm
  clear hm
  have hr3 := hr.below hB3
  go_wp2_with fail
  go_loopw [5, 24] (fun kv iv wr => ∃ i : Nat, iv = .int .i64 i ∧ kv = .int .i64 ((expand (rs.take i)).length : Int) ∧ i ≤ m ∧ Below w3.heap.size w3 wr) (fun _ iv _ => m - (intOf iv).toNat)
  case atStart => exact ⟨0, rfl, rfl, by omega, Below.refl _ _⟩
  case round =>
    obtain ⟨i, rfl, rfl, hi, hbr⟩ := hrel
    have hzr := hbr.size
    have klow := RLOW.out i
    obtain ⟨K, hK⟩ : ∃ K, (expand (rs.take i)).length = K := ⟨_, rfl⟩
    have HK := Lib.hid hK
    rw [hK] at klow ⊢
    clear hK
    by_cases hlt : i < m
    rotate_left
    · have di : decide ((i : Int) < (m : Int)) = false := by simp; omega
      obtain rfl : i = m := by omega
      have hKl : K = n := by
        have e1 := REND.out
        have e2 := HM.out
        have e3 := HK.out
        rw [e2, e3] at e1
        omega
      subst hKl
      go_wp2
      go_ret
      exact ⟨rfl, via hbr hB3⟩
    have di : decide ((i : Int) < (m : Int)) = true := by simp; omega
    obtain ⟨g, o, ⟨k, a⟩, rfl, hg, hrk, s0, s1⟩ := row_get (q2.below hbr) HM.out hlt
    obtain ⟨g3, o3, ⟨k3, a3⟩, rfl, hg3, hrk3, t0, t1⟩ := row_get (q3.below hbr) HM.out hlt
    rw [hrk] at hrk3
    injection hrk3 with hrk3
    injection hrk3 with e1 e2
    subst e1
    subst e2
    simp only at s0 s1 t0 t1
    obtain ⟨hnx, hat⟩ := RUN.out i k a hrk
    have hlow := RLOW.out (i + 1)
    rw [hnx, HK.out] at hlow
    rw [HK.out] at hnx hat
    have HNX := Lib.hid hnx
    have HAT := Lib.hid hat
    have tne := fun W => two_ne W k a
    clear hrk hnx hat
    go_upto_region 12 with fail
    obtain ⟨wa, hwa⟩ : ∃ x, wr.alloc (.cells #[.int .i64 k, .int .i64 a] 42) = x := ⟨_, rfl⟩
    have hba : Below wr.heap.size wr wa := by rw [← hwa]; exact (Below.refl _ wr).alloc (Nat.le_refl _) _
    have kx : Blk wa wr.heap.size 42 #[.int .i64 k, .int .i64 a] := by rw [← hwa]; exact Blk.new _ _ _
    have x0 := kx.cell 0
    have x1 := kx.cell 1
    simp only [List.getElem?_toArray, List.getElem?_cons_zero, List.getElem?_cons_succ] at x0 x1
    have y0 : wa.cell? ⟨g3, o3 + i * 2, none⟩ = some (.int .i64 k) := (hba.cell (p := ⟨g3, o3 + i * 2, none⟩) (by show g3 < _; omega)).trans t0
    have y1 : wa.cell? ⟨g3, o3 + i * 2 + 1, none⟩ = some (.int .i64 a) := (hba.cell (p := ⟨g3, o3 + i * 2 + 1, none⟩) (by show g3 < _; omega)).trans t1
    have hbw := hB3.trans ((hbr.trans (hba.mono hbr.size)).mono hz3)
    have hra := hr.below hbw
    have hbA := hbr.trans (hba.mono hbr.size)
    rw [hwa]
    clear hwa hba kx s0 s1 t0 t1 hbr
    go_quiet (fail)
    go_wp2_with fail
    clear tne y0 y1
    go_loopw [5, 37] (fun kv jv wi => ∃ j p q : Nat, jv = .int .i64 j ∧ kv = .int .i64 p ∧ Hid (p = K + j) ∧ j ≤ k ∧ wi = wa.drewN q) (fun _ jv _ => k - (intOf jv).toNat)
    case atStart => exact ⟨0, K, nq, rfl, rfl, Lib.hid (by omega), by omega, rfl⟩
    case round =>
      obtain ⟨j, p, q, rfl, rfl, HP, hj, rfl⟩ := hrel
      by_cases hjk : j < k
      · have dj : decide ((j : Int) < (k : Int)) = true := by simp; omega
        have hpn : p < n := by have := HP.out; omega
        have dp : decide ((n : Int) ≤ (p : Int)) = false := by simp; omega
        obtain ⟨gl, ol, rfl, hgl, hcell⟩ := Rd.flat hra (by omega) (by omega)
        have z0 : wa.cell? ⟨gl, ol + p, none⟩ = some (.int .i64 a) := hcell _ _ (by rw [ints, List.getElem?_map, HP.out, HAT.out j hjk]; rfl)
        clear hcell
        go_wp2_with fail
        go_quiet (fail)
        go_wp2
        go_roundw
        case rel => exact ⟨j + 1, p + 1, q + nq, by go_num, by go_num, Lib.hid (by have := HP.out; omega), by omega, by first | rfl | simp⟩
        case measure => simp [intOf] <;> omega
      · have dj : decide ((j : Int) < (k : Int)) = false := by simp; omega
        obtain rfl : j = k := by omega
        have HN : Hid ((p : Int) = ((expand (rs.take (i + 1))).length : Int)) := Lib.hid (by rw [HNX.out, HP.out])
        go_wp2
        go_roundw
        case rel => exact ⟨i + 1, by go_num, by rw [HN.out], by omega, below_dn hbA _⟩
        case measure => simp [intOf] <;> omega
end StaU
end Go.Proofs.Ytfkjogkpdebepaa
