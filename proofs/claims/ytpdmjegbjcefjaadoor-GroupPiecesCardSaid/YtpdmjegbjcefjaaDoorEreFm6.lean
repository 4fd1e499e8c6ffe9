/- The walk of the reference's Form. Conditions: trees that fit. -/
import Derived.Test.YtpdmjegbjcefjaaDoorEreBp
namespace Go.Proofs.YtpdmjegbjcefjaaDoor
set_option linter.unusedVariables false
set_option linter.unusedSimpArgs false
open Go.RowKit
namespace EreX
open EreP EreW
set_option maxHeartbeats 6400000 in
set_option maxRecDepth 100000 in
theorem form_6 {K : Nat → Prop} (S : Nat) (kids : List Re) (lo hi nn : Int) (A : Option Addr) (c : Nat) (w : World) (lv d g : Nat) (h : Rt w K (.mk 6 S kids lo hi nn) (reC 6 S A kids.length c lo hi nn)) (hS : S < 2 ^ 256)
    (hd : d ≤ 64) (hlv : lv ≤ 3) (hg : g + (1 + nodesL kids) ≤ 4611686018427387904) (hc : FormC K kids) :
    Calls Tryd.prog 49 #[.agg (reC 6 S A kids.length c lo hi nn).toArray, .int .i64 (lvF lv : Nat), .int .i64 d, .int .i64 g] w (FPost (rightR (.mk 6 S kids lo hi nn) lv d g) w) := by
  have hset : ∀ W, (Op.equalIn 10000 24 (.agg #[.int .u64 0, .int .u64 0, .int .u64 0, .int .u64 0]) (.agg #[.int .u64 (word S 0), .int .u64 (word S 1), .int .u64 (word S 2), .int .u64 (word S 3)])).run Tryd.prog W = .ok ((0 : Nat) == S) W := fun W => set_same 0 S (by decide) hS W
  have hset2 : ∀ W, (Op.equalIn 10000 24 (.agg #[.int .u64 (word S 0), .int .u64 (word S 1), .int .u64 (word S 2), .int .u64 (word S 3)]) (.agg #[.int .u64 (word S 0), .int .u64 (word S 1), .int .u64 (word S 2), .int .u64 (word S 3)])).run Tryd.prog W = .ok ((S : Nat) == S) W := fun W => set_same S S hS hS W
  have hss : (S == S) = true := by simp
  clear hS
  obtain ⟨LV, hLV⟩ : ∃ LV : Nat, lvF lv = LV := ⟨_, rfl⟩
  rw [hLV]
  unfold lvF at hLV
  have hln := len_nodes kids
  have HR := Lib.hid h
  have HC := Lib.hid hc
  clear h hc
  obtain ⟨RS, hRS⟩ : ∃ RS, rightR (.mk 6 S kids lo hi nn) lv d g = RS := ⟨_, rfl⟩
  rw [hRS]
  have HRS := Lib.hid hRS
  clear hRS
  obtain ⟨kl, hkl⟩ : ∃ kl, kids.length = kl := ⟨_, rfl⟩
  rw [hkl] at HR hln ⊢
  have HKL := Lib.hid hkl
  clear hkl
  by_cases c1 : S = 0
  rotate_left
  · have hz : RS = none := by rw [← HRS.out]; exact right_no (by unfold bareR; simp [c1])
    subst hz
    have d1 : ((0 : Nat) == S) = false := by simp; omega
    go_enter Tryd.func49, Tryd.ntmps49
    go_wp2
    first | (refine bodyPost_ret (R := FPost none w) (results_tmp2 rfl _ _ _) rfl ?_) | fail
    exact FPost.no g (by go_grown)
  have d1 : ((0 : Nat) == S) = true := by simp [c1]
  have C1 := Lib.hid c1
  clear c1
  by_cases c4 : nn = 0
  rotate_left
  · have hz : RS = none := by rw [← HRS.out]; exact right_no (by unfold bareR; simp [c4])
    subst hz
    have d4 : ((0 : Int) != nn) = true := by simp; omega
    go_enter Tryd.func49, Tryd.ntmps49
    go_wp2
    first | (refine bodyPost_ret (R := FPost none w) (results_tmp2 rfl _ _ _) rfl ?_) | fail
    exact FPost.no g (by go_grown)
  have d4 : ((0 : Int) != nn) = false := by simp [c4]
  have hb : bareR 6 S lo hi nn = true := by unfold bareR; simp [C1.out, c4]
  have HRR := Lib.hid (right_6 (kids := kids) (lo := lo) (hi := hi) (lv := lv) (d := d) (g := g) hb)
  have e2 : (lo != lo) = false := by simp
  have e3 : (hi != hi) = false := by simp
  by_cases c5 : lv ≤ 2
  rotate_left
  · have hz : RS = none := by rw [← HRS.out]; exact HRR.out.trans (if_neg (fun e => c5 e.1))
    subst hz
    have d5 : decide ((2 : Int) < (LV : Int)) = true := by simp; split at hLV <;> omega
    go_enter Tryd.func49, Tryd.ntmps49
    go_wp2
    first | (refine bodyPost_ret (R := FPost none w) (results_tmp2 rfl _ _ _) rfl ?_) | fail
    exact FPost.no g (by go_grown)
  have d5 : decide ((2 : Int) < (LV : Int)) = false := by simp; split at hLV <;> omega
  have hin : inR lo hi = true ↔ (0 ≤ lo ∧ lo ≤ 8 ∧ (hi = -1 ∨ (lo ≤ hi ∧ hi ≤ 8))) := by unfold inR; simp [and_assoc]
  by_cases c7 : 0 ≤ lo
  rotate_left
  · have hz : RS = none := by rw [← HRS.out]; exact HRR.out.trans (if_neg (fun e => c7 (hin.1 e.2.1).1))
    subst hz
    have d7 : decide (lo < (0 : Int)) = true := by simp; omega
    go_enter Tryd.func49, Tryd.ntmps49
    go_wp2
    first | (refine bodyPost_ret (R := FPost none w) (results_tmp2 rfl _ _ _) rfl ?_) | fail
    exact FPost.no g (by go_grown)
  have d7 : decide (lo < (0 : Int)) = false := by simp; omega
  by_cases c8 : lo ≤ 8
  rotate_left
  · have hz : RS = none := by rw [← HRS.out]; exact HRR.out.trans (if_neg (fun e => c8 (hin.1 e.2.1).2.1))
    subst hz
    have d8 : decide ((8 : Int) < lo) = true := by simp; omega
    go_enter Tryd.func49, Tryd.ntmps49
    go_wp2
    first | (refine bodyPost_ret (R := FPost none w) (results_tmp2 rfl _ _ _) rfl ?_) | fail
    exact FPost.no g (by go_grown)
  have d8 : decide ((8 : Int) < lo) = false := by simp; omega
  by_cases c9 : hi ≤ 8
  rotate_left
  · have hz : RS = none := by rw [← HRS.out]; exact HRR.out.trans (if_neg (fun e => by have := (hin.1 e.2.1).2.2; omega))
    subst hz
    have d9 : decide ((8 : Int) < hi) = true := by simp; omega
    go_enter Tryd.func49, Tryd.ntmps49
    go_wp2
    first | (refine bodyPost_ret (R := FPost none w) (results_tmp2 rfl _ _ _) rfl ?_) | fail
    exact FPost.no g (by go_grown)
  have d9 : decide ((8 : Int) < hi) = false := by simp; omega
  have hw : hi = -1 ∨ (hi ≠ -1 ∧ ¬ lo ≤ hi) ∨ (hi ≠ -1 ∧ lo ≤ hi) := by omega
  rcases hw with c10 | ⟨c10, c11⟩ | ⟨c10, c11⟩
  rotate_left
  · have hz : RS = none := by rw [← HRS.out]; exact HRR.out.trans (if_neg (fun e => by have := (hin.1 e.2.1).2.2; omega))
    subst hz
    have d10 : (hi != -1) = true := by simp; omega
    have d11 : decide (hi < lo) = true := by simp; omega
    go_enter Tryd.func49, Tryd.ntmps49
    go_wp2
    first | (refine bodyPost_ret (R := FPost none w) (results_tmp2 rfl _ _ _) rfl ?_) | fail
    exact FPost.no g (by go_grown)
  rotate_right
  · have hi1 : inR lo hi = true := hin.2 (by omega)
    clear hin
    have d10 : (hi != -1) = false := by simp [c10]
    by_cases c6 : kl = 1
    rotate_left
    · have hz : RS = none := by rw [← HRS.out]; exact HRR.out.trans (if_neg (fun e => c6 (by rw [← HKL.out]; exact e.2.2)))
      subst hz
      have d6 : ((kl : Int) != 1) = true := by simp; omega
      go_enter Tryd.func49, Tryd.ntmps49
      go_wp2
      first | (refine bodyPost_ret (R := FPost none w) (results_tmp2 rfl _ _ _) rfl ?_) | fail
      exact FPost.no g (by go_grown)
    have d6 : ((kl : Int) != 1) = false := by simp; omega
    have HRL := Lib.hid (show rightL (kids.drop 0) 3 (d) g = RS from (if_pos ⟨c5, hi1, by rw [HKL.out]; exact c6⟩).symm.trans (HRR.out.symm.trans HRS.out))
    clear HRR HRS hb c4 hi1 c6 c10 c5 hLV
    go_enter Tryd.func49, Tryd.ntmps49
    go_wp2_with fail
    go_loopw [3, 14] (fun nv iv wr => ∃ (i q : Nat), iv = .int .i64 i ∧ i ≤ kl ∧ nv = .int .i64 q ∧ Hid (rightL (kids.drop i) 3 (d) q = RS) ∧ q ≤ g + nodesL (kids.take i) ∧ Below w.heap.size w wr ∧ Blk wr w.heap.size 27 (reC 6 S A kl c lo hi nn).toArray) (fun _ iv _ => kl - (intOf iv).toNat)
    case atStart => exact ⟨0, g, rfl, by omega, by go_num, HRL, Nat.le_add_right _ _, by go_grown, (Blk.new _ _ _).alloc _⟩
    case round =>
      obtain ⟨i, q, rfl, hi2, rfl, hq, hqg, hbr, xr⟩ := hrel
      have r5 := xr.cell 5
      simp only [List.getElem?_toArray, List.getElem?_cons_zero, List.getElem?_cons_succ] at r5
      by_cases hlt : i < kl
      · have HRr := Lib.hid (HR.out.bel hbr)
        have hlt2 : i < kids.length := by rw [HKL.out]; exact hlt
        obtain ⟨g0, o, rfl, hg0, A2, c2, hk, hcc⟩ := (kid HRr.out).2 i hlt2
        have fk0 := hcc 0 _ rfl
        have fk1 := hcc 1 _ rfl
        have fk2 := hcc 2 _ rfl
        have fk3 := hcc 3 _ rfl
        have fk4 := hcc 4 _ rfl
        have fk5 := hcc 5 _ rfl
        have fk6 := hcc 6 _ rfl
        have fk7 := hcc 7 _ rfl
        have fk8 := hcc 8 _ rfl
        simp only [Nat.add_zero] at fk0
        clear hcc
        have hnk := nodes_kid kids i hlt2
        have htk := nodes_take kids i hlt2
        have hdr := right_drop kids i hlt2 3 (d) q
        rw [hq.out] at hdr
        have ci := HC.out i hlt2 wr _ 3 (d) q hk (by omega) (by decide) (by omega)
        have hle := right_le (kids[i]'hlt2) 3 (d) q
        obtain ⟨x, hx⟩ : ∃ x, kids[i]'hlt2 = x := ⟨_, rfl⟩
        rw [hx] at fk0 fk1 fk2 fk3 fk4 fk5 fk6 fk7 fk8 hk hnk htk hdr hle
        simp only [hx] at ci
        clear hk hg0 hx
        generalize x.kind = k0 at *
        generalize x.set = k1 at *
        generalize x.kids.length = k2 at *
        generalize x.lo = k3 at *
        generalize x.hi = k4 at *
        generalize x.n = k5 at *
        rw [show ((lvF 3 : Nat) : Int) = 4 from rfl] at ci
        cases hs : rightR x 3 (d) q with
        | none =>
          rw [hs] at hdr ci
          have hz : RS = none := hdr
          subst hz
          clear hdr hle htk
          go_wp2_with fail
          (with_reducible refine ci.mono ?_)
          rintro e w2 ⟨m, rfl, _, b2⟩
          go_wp2
          first | (refine bodyPost_ret (R := FPost none w) (results_tmp2 rfl _ _ _) rfl ?_) | fail
          exact FPost.no q (via b2 hbr)
        | some q2 =>
          rw [hs] at hdr ci
          have HD := Lib.hid (show rightL (kids.drop (i + 1)) 3 (d) q2 = RS from hdr.symm)
          have hle2 := hle q2 hs
          clear hdr hle hs
          have hq3 : q2 ≤ g + nodesL (kids.take (i + 1)) := by omega
          clear htk
          go_wp2_with fail
          (with_reducible refine ci.mono ?_)
          rintro e w2 ⟨m, rfl, hm, b2⟩
          have hme := hm q2 rfl
          subst hme
          have B2 := via b2 hbr
          have x2 := xr.next b2
          clear hm b2 ci
          go_wp2
          go_roundw
          case rel => exact ⟨i + 1, m, by go_num, by omega, rfl, HD, hq3, B2, x2⟩
          case measure => simp [intOf]; omega
      · have dl : decide ((i : Int) < (kl : Int)) = false := by simp; omega
        have hz : RS = some q := by rw [← hq.out, List.drop_of_length_le (by rw [HKL.out]; omega)]; rfl
        subst hz
        clear hq
        go_wp2
        first | (refine bodyPost_ret (R := FPost (some q) w) (results_tmp2 rfl _ _ _) rfl ?_) | fail
        exact FPost.yes q hbr
  · have hi1 : inR lo hi = true := hin.2 (by omega)
    clear hin
    have d10 : (hi != -1) = true := by simp; omega
    have d11 : decide (hi < lo) = false := by simp; omega
    by_cases c6 : kl = 1
    rotate_left
    · have hz : RS = none := by rw [← HRS.out]; exact HRR.out.trans (if_neg (fun e => c6 (by rw [← HKL.out]; exact e.2.2)))
      subst hz
      have d6 : ((kl : Int) != 1) = true := by simp; omega
      go_enter Tryd.func49, Tryd.ntmps49
      go_wp2
      first | (refine bodyPost_ret (R := FPost none w) (results_tmp2 rfl _ _ _) rfl ?_) | fail
      exact FPost.no g (by go_grown)
    have d6 : ((kl : Int) != 1) = false := by simp; omega
    have HRL := Lib.hid (show rightL (kids.drop 0) 3 (d) g = RS from (if_pos ⟨c5, hi1, by rw [HKL.out]; exact c6⟩).symm.trans (HRR.out.symm.trans HRS.out))
    clear HRR HRS hb c4 hi1 c6 c10 c5 hLV
    go_enter Tryd.func49, Tryd.ntmps49
    go_wp2_with fail
    go_loopw [3, 14] (fun nv iv wr => ∃ (i q : Nat), iv = .int .i64 i ∧ i ≤ kl ∧ nv = .int .i64 q ∧ Hid (rightL (kids.drop i) 3 (d) q = RS) ∧ q ≤ g + nodesL (kids.take i) ∧ Below w.heap.size w wr ∧ Blk wr w.heap.size 27 (reC 6 S A kl c lo hi nn).toArray) (fun _ iv _ => kl - (intOf iv).toNat)
    case atStart => exact ⟨0, g, rfl, by omega, by go_num, HRL, Nat.le_add_right _ _, by go_grown, (Blk.new _ _ _).alloc _⟩
    case round =>
      obtain ⟨i, q, rfl, hi2, rfl, hq, hqg, hbr, xr⟩ := hrel
      have r5 := xr.cell 5
      simp only [List.getElem?_toArray, List.getElem?_cons_zero, List.getElem?_cons_succ] at r5
      by_cases hlt : i < kl
      · have HRr := Lib.hid (HR.out.bel hbr)
        have hlt2 : i < kids.length := by rw [HKL.out]; exact hlt
        obtain ⟨g0, o, rfl, hg0, A2, c2, hk, hcc⟩ := (kid HRr.out).2 i hlt2
        have fk0 := hcc 0 _ rfl
        have fk1 := hcc 1 _ rfl
        have fk2 := hcc 2 _ rfl
        have fk3 := hcc 3 _ rfl
        have fk4 := hcc 4 _ rfl
        have fk5 := hcc 5 _ rfl
        have fk6 := hcc 6 _ rfl
        have fk7 := hcc 7 _ rfl
        have fk8 := hcc 8 _ rfl
        simp only [Nat.add_zero] at fk0
        clear hcc
        have hnk := nodes_kid kids i hlt2
        have htk := nodes_take kids i hlt2
        have hdr := right_drop kids i hlt2 3 (d) q
        rw [hq.out] at hdr
        have ci := HC.out i hlt2 wr _ 3 (d) q hk (by omega) (by decide) (by omega)
        have hle := right_le (kids[i]'hlt2) 3 (d) q
        obtain ⟨x, hx⟩ : ∃ x, kids[i]'hlt2 = x := ⟨_, rfl⟩
        rw [hx] at fk0 fk1 fk2 fk3 fk4 fk5 fk6 fk7 fk8 hk hnk htk hdr hle
        simp only [hx] at ci
        clear hk hg0 hx
        generalize x.kind = k0 at *
        generalize x.set = k1 at *
        generalize x.kids.length = k2 at *
        generalize x.lo = k3 at *
        generalize x.hi = k4 at *
        generalize x.n = k5 at *
        rw [show ((lvF 3 : Nat) : Int) = 4 from rfl] at ci
        cases hs : rightR x 3 (d) q with
        | none =>
          rw [hs] at hdr ci
          have hz : RS = none := hdr
          subst hz
          clear hdr hle htk
          go_wp2_with fail
          (with_reducible refine ci.mono ?_)
          rintro e w2 ⟨m, rfl, _, b2⟩
          go_wp2
          first | (refine bodyPost_ret (R := FPost none w) (results_tmp2 rfl _ _ _) rfl ?_) | fail
          exact FPost.no q (via b2 hbr)
        | some q2 =>
          rw [hs] at hdr ci
          have HD := Lib.hid (show rightL (kids.drop (i + 1)) 3 (d) q2 = RS from hdr.symm)
          have hle2 := hle q2 hs
          clear hdr hle hs
          have hq3 : q2 ≤ g + nodesL (kids.take (i + 1)) := by omega
          clear htk
          go_wp2_with fail
          (with_reducible refine ci.mono ?_)
          rintro e w2 ⟨m, rfl, hm, b2⟩
          have hme := hm q2 rfl
          subst hme
          have B2 := via b2 hbr
          have x2 := xr.next b2
          clear hm b2 ci
          go_wp2
          go_roundw
          case rel => exact ⟨i + 1, m, by go_num, by omega, rfl, HD, hq3, B2, x2⟩
          case measure => simp [intOf]; omega
      · have dl : decide ((i : Int) < (kl : Int)) = false := by simp; omega
        have hz : RS = some q := by rw [← hq.out, List.drop_of_length_le (by rw [HKL.out]; omega)]; rfl
        subst hz
        clear hq
        go_wp2
        first | (refine bodyPost_ret (R := FPost (some q) w) (results_tmp2 rfl _ _ _) rfl ?_) | fail
        exact FPost.yes q hbr
end EreX
end Go.Proofs.YtpdmjegbjcefjaaDoor
namespace Go.Proofs.YtpdmjegbjcefjaaDoor
set_option linter.unusedVariables false
set_option linter.unusedSimpArgs false
open Go.RowKit
namespace EreX
open EreP EreW
set_option maxHeartbeats 6400000 in
set_option maxRecDepth 100000 in
theorem form_7 {K : Nat → Prop} (S : Nat) (kids : List Re) (lo hi nn : Int) (A : Option Addr) (c : Nat) (w : World) (lv d g : Nat) (h : Rt w K (.mk 7 S kids lo hi nn) (reC 7 S A kids.length c lo hi nn)) (hS : S < 2 ^ 256)
    (hd : d ≤ 64) (hlv : lv ≤ 3) (hg : g + (1 + nodesL kids) ≤ 4611686018427387904) (hc : FormC K kids) :
    Calls Tryd.prog 49 #[.agg (reC 7 S A kids.length c lo hi nn).toArray, .int .i64 (lvF lv : Nat), .int .i64 d, .int .i64 g] w (FPost (rightR (.mk 7 S kids lo hi nn) lv d g) w) := by
  have hset : ∀ W, (Op.equalIn 10000 24 (.agg #[.int .u64 0, .int .u64 0, .int .u64 0, .int .u64 0]) (.agg #[.int .u64 (word S 0), .int .u64 (word S 1), .int .u64 (word S 2), .int .u64 (word S 3)])).run Tryd.prog W = .ok ((0 : Nat) == S) W := fun W => set_same 0 S (by decide) hS W
  have hset2 : ∀ W, (Op.equalIn 10000 24 (.agg #[.int .u64 (word S 0), .int .u64 (word S 1), .int .u64 (word S 2), .int .u64 (word S 3)]) (.agg #[.int .u64 (word S 0), .int .u64 (word S 1), .int .u64 (word S 2), .int .u64 (word S 3)])).run Tryd.prog W = .ok ((S : Nat) == S) W := fun W => set_same S S hS hS W
  have hss : (S == S) = true := by simp
  clear hS
  obtain ⟨LV, hLV⟩ : ∃ LV : Nat, lvF lv = LV := ⟨_, rfl⟩
  rw [hLV]
  unfold lvF at hLV
  have hln := len_nodes kids
  have HR := Lib.hid h
  have HC := Lib.hid hc
  clear h hc
  obtain ⟨RS, hRS⟩ : ∃ RS, rightR (.mk 7 S kids lo hi nn) lv d g = RS := ⟨_, rfl⟩
  rw [hRS]
  have HRS := Lib.hid hRS
  clear hRS
  obtain ⟨kl, hkl⟩ : ∃ kl, kids.length = kl := ⟨_, rfl⟩
  rw [hkl] at HR hln ⊢
  have HKL := Lib.hid hkl
  clear hkl
  by_cases c1 : S = 0
  rotate_left
  · have hz : RS = none := by rw [← HRS.out]; exact right_no (by unfold bareR; simp [c1])
    subst hz
    have d1 : ((0 : Nat) == S) = false := by simp; omega
    go_enter Tryd.func49, Tryd.ntmps49
    go_wp2
    first | (refine bodyPost_ret (R := FPost none w) (results_tmp2 rfl _ _ _) rfl ?_) | fail
    exact FPost.no g (by go_grown)
  have d1 : ((0 : Nat) == S) = true := by simp [c1]
  have C1 := Lib.hid c1
  clear c1
  by_cases c2 : lo = 0
  rotate_left
  · have hz : RS = none := by rw [← HRS.out]; exact right_no (by unfold bareR; simp [c2])
    subst hz
    have d2 : ((0 : Int) != lo) = true := by simp; omega
    go_enter Tryd.func49, Tryd.ntmps49
    go_wp2
    first | (refine bodyPost_ret (R := FPost none w) (results_tmp2 rfl _ _ _) rfl ?_) | fail
    exact FPost.no g (by go_grown)
  have d2 : ((0 : Int) != lo) = false := by simp [c2]
  by_cases c3 : hi = 0
  rotate_left
  · have hz : RS = none := by rw [← HRS.out]; exact right_no (by unfold bareR; simp [c3])
    subst hz
    have d3 : ((0 : Int) != hi) = true := by simp; omega
    go_enter Tryd.func49, Tryd.ntmps49
    go_wp2
    first | (refine bodyPost_ret (R := FPost none w) (results_tmp2 rfl _ _ _) rfl ?_) | fail
    exact FPost.no g (by go_grown)
  have d3 : ((0 : Int) != hi) = false := by simp [c3]
  have hb : bareR 7 S lo hi nn = true := by unfold bareR; simp [C1.out, c2, c3]
  have HRR := Lib.hid (right_7 (kids := kids) (n := nn) (lv := lv) (d := d) (g := g) hb)
  obtain ⟨NN, hNN⟩ : ∃ NN : Int, NN = numG g := ⟨_, rfl⟩
  have e4 : (nn != nn) = false := by simp
  have hn : (decide ((9 : Int) < (g : Int) + 1) = true ∧ NN = 0) ∨ (decide ((9 : Int) < (g : Int) + 1) = false ∧ NN = (g : Int) + 1) := by
    unfold numG at hNN
    by_cases h9 : 9 < g + 1
    · left; rw [if_pos h9] at hNN; exact ⟨by simp; omega, hNN⟩
    · right; rw [if_neg h9] at hNN; exact ⟨by simp; omega, hNN⟩
  rcases hn with ⟨h9, hN⟩ | ⟨h9, hN⟩
  · by_cases c5 : nn = NN
    rotate_left
    · have hz : RS = none := by rw [← HRS.out]; exact HRR.out.trans (if_neg (fun e => c5 (by rw [e.1, hNN])))
      subst hz
      have d5 : (nn != 0) = true := by simp; omega
      go_enter Tryd.func49, Tryd.ntmps49
      go_wp2
      first | (refine bodyPost_ret (R := FPost none w) (results_tmp2 rfl _ _ _) rfl ?_) | fail
      exact FPost.no (g + 1) (by go_grown)
    have d5 : (nn != 0) = false := by simp; omega
    by_cases c6 : d < 64
    rotate_left
    · have hz : RS = none := by rw [← HRS.out]; exact HRR.out.trans (if_neg (fun e => c6 e.2.1))
      subst hz
      have d6 : decide ((64 : Int) ≤ (d : Int)) = true := by simp; omega
      go_enter Tryd.func49, Tryd.ntmps49
      go_wp2
      first | (refine bodyPost_ret (R := FPost none w) (results_tmp2 rfl _ _ _) rfl ?_) | fail
      exact FPost.no (g + 1) (by go_grown)
    have d6 : decide ((64 : Int) ≤ (d : Int)) = false := by simp; omega
    by_cases c7 : kl = 1
    rotate_left
    · have hz : RS = none := by rw [← HRS.out]; exact HRR.out.trans (if_neg (fun e => c7 (by rw [← HKL.out]; exact e.2.2)))
      subst hz
      have d7 : ((kl : Int) != 1) = true := by simp; omega
      go_enter Tryd.func49, Tryd.ntmps49
      go_wp2
      first | (refine bodyPost_ret (R := FPost none w) (results_tmp2 rfl _ _ _) rfl ?_) | fail
      exact FPost.no (g + 1) (by go_grown)
    have d7 : ((kl : Int) != 1) = false := by simp; omega
    have HRL := Lib.hid (show rightL (kids.drop 0) 0 (d + 1) (g + 1) = RS from (if_pos ⟨c5.trans hNN, c6, by rw [HKL.out]; exact c7⟩).symm.trans (HRR.out.symm.trans HRS.out))
    clear HRR HRS hb c2 c3 hNN c5 c7 hN hLV
    go_enter Tryd.func49, Tryd.ntmps49
    go_wp2_with fail
    go_loopw [3, 14] (fun nv iv wr => ∃ (i q : Nat), iv = .int .i64 i ∧ i ≤ kl ∧ nv = .int .i64 q ∧ Hid (rightL (kids.drop i) 0 (d + 1) q = RS) ∧ q ≤ (g + 1) + nodesL (kids.take i) ∧ Below w.heap.size w wr ∧ Blk wr w.heap.size 27 (reC 7 S A kl c lo hi nn).toArray) (fun _ iv _ => kl - (intOf iv).toNat)
    case atStart => exact ⟨0, (g + 1), rfl, by omega, by go_num, HRL, Nat.le_add_right _ _, by go_grown, (Blk.new _ _ _).alloc _⟩
    case round =>
      obtain ⟨i, q, rfl, hi2, rfl, hq, hqg, hbr, xr⟩ := hrel
      have r5 := xr.cell 5
      simp only [List.getElem?_toArray, List.getElem?_cons_zero, List.getElem?_cons_succ] at r5
      by_cases hlt : i < kl
      · have HRr := Lib.hid (HR.out.bel hbr)
        have hlt2 : i < kids.length := by rw [HKL.out]; exact hlt
        obtain ⟨g0, o, rfl, hg0, A2, c2, hk, hcc⟩ := (kid HRr.out).2 i hlt2
        have fk0 := hcc 0 _ rfl
        have fk1 := hcc 1 _ rfl
        have fk2 := hcc 2 _ rfl
        have fk3 := hcc 3 _ rfl
        have fk4 := hcc 4 _ rfl
        have fk5 := hcc 5 _ rfl
        have fk6 := hcc 6 _ rfl
        have fk7 := hcc 7 _ rfl
        have fk8 := hcc 8 _ rfl
        simp only [Nat.add_zero] at fk0
        clear hcc
        have hnk := nodes_kid kids i hlt2
        have htk := nodes_take kids i hlt2
        have hdr := right_drop kids i hlt2 0 (d + 1) q
        rw [hq.out] at hdr
        have ci := HC.out i hlt2 wr _ 0 (d + 1) q hk (by omega) (by decide) (by omega)
        have hle := right_le (kids[i]'hlt2) 0 (d + 1) q
        obtain ⟨x, hx⟩ : ∃ x, kids[i]'hlt2 = x := ⟨_, rfl⟩
        rw [hx] at fk0 fk1 fk2 fk3 fk4 fk5 fk6 fk7 fk8 hk hnk htk hdr hle
        simp only [hx] at ci
        clear hk hg0 hx
        generalize x.kind = k0 at *
        generalize x.set = k1 at *
        generalize x.kids.length = k2 at *
        generalize x.lo = k3 at *
        generalize x.hi = k4 at *
        generalize x.n = k5 at *
        rw [show ((lvF 0 : Nat) : Int) = 0 from rfl, show ((d + 1 : Nat) : Int) = (d : Int) + 1 from rfl] at ci
        cases hs : rightR x 0 (d + 1) q with
        | none =>
          rw [hs] at hdr ci
          have hz : RS = none := hdr
          subst hz
          clear hdr hle htk
          go_wp2_with fail
          (with_reducible refine ci.mono ?_)
          rintro e w2 ⟨m, rfl, _, b2⟩
          go_wp2
          first | (refine bodyPost_ret (R := FPost none w) (results_tmp2 rfl _ _ _) rfl ?_) | fail
          exact FPost.no q (via b2 hbr)
        | some q2 =>
          rw [hs] at hdr ci
          have HD := Lib.hid (show rightL (kids.drop (i + 1)) 0 (d + 1) q2 = RS from hdr.symm)
          have hle2 := hle q2 hs
          clear hdr hle hs
          have hq3 : q2 ≤ (g + 1) + nodesL (kids.take (i + 1)) := by omega
          clear htk
          go_wp2_with fail
          (with_reducible refine ci.mono ?_)
          rintro e w2 ⟨m, rfl, hm, b2⟩
          have hme := hm q2 rfl
          subst hme
          have B2 := via b2 hbr
          have x2 := xr.next b2
          clear hm b2 ci
          go_wp2
          go_roundw
          case rel => exact ⟨i + 1, m, by go_num, by omega, rfl, HD, hq3, B2, x2⟩
          case measure => simp [intOf]; omega
      · have dl : decide ((i : Int) < (kl : Int)) = false := by simp; omega
        have hz : RS = some q := by rw [← hq.out, List.drop_of_length_le (by rw [HKL.out]; omega)]; rfl
        subst hz
        clear hq
        go_wp2
        first | (refine bodyPost_ret (R := FPost (some q) w) (results_tmp2 rfl _ _ _) rfl ?_) | fail
        exact FPost.yes q hbr
  · by_cases c5 : nn = NN
    rotate_left
    · have hz : RS = none := by rw [← HRS.out]; exact HRR.out.trans (if_neg (fun e => c5 (by rw [e.1, hNN])))
      subst hz
      have d5 : (nn != (g : Int) + 1) = true := by simp; omega
      go_enter Tryd.func49, Tryd.ntmps49
      go_wp2
      first | (refine bodyPost_ret (R := FPost none w) (results_tmp2 rfl _ _ _) rfl ?_) | fail
      exact FPost.no (g + 1) (by go_grown)
    have d5 : (nn != (g : Int) + 1) = false := by simp; omega
    by_cases c6 : d < 64
    rotate_left
    · have hz : RS = none := by rw [← HRS.out]; exact HRR.out.trans (if_neg (fun e => c6 e.2.1))
      subst hz
      have d6 : decide ((64 : Int) ≤ (d : Int)) = true := by simp; omega
      go_enter Tryd.func49, Tryd.ntmps49
      go_wp2
      first | (refine bodyPost_ret (R := FPost none w) (results_tmp2 rfl _ _ _) rfl ?_) | fail
      exact FPost.no (g + 1) (by go_grown)
    have d6 : decide ((64 : Int) ≤ (d : Int)) = false := by simp; omega
    by_cases c7 : kl = 1
    rotate_left
    · have hz : RS = none := by rw [← HRS.out]; exact HRR.out.trans (if_neg (fun e => c7 (by rw [← HKL.out]; exact e.2.2)))
      subst hz
      have d7 : ((kl : Int) != 1) = true := by simp; omega
      go_enter Tryd.func49, Tryd.ntmps49
      go_wp2
      first | (refine bodyPost_ret (R := FPost none w) (results_tmp2 rfl _ _ _) rfl ?_) | fail
      exact FPost.no (g + 1) (by go_grown)
    have d7 : ((kl : Int) != 1) = false := by simp; omega
    have HRL := Lib.hid (show rightL (kids.drop 0) 0 (d + 1) (g + 1) = RS from (if_pos ⟨c5.trans hNN, c6, by rw [HKL.out]; exact c7⟩).symm.trans (HRR.out.symm.trans HRS.out))
    clear HRR HRS hb c2 c3 hNN c5 c7 hN hLV
    go_enter Tryd.func49, Tryd.ntmps49
    go_wp2_with fail
    go_loopw [3, 14] (fun nv iv wr => ∃ (i q : Nat), iv = .int .i64 i ∧ i ≤ kl ∧ nv = .int .i64 q ∧ Hid (rightL (kids.drop i) 0 (d + 1) q = RS) ∧ q ≤ (g + 1) + nodesL (kids.take i) ∧ Below w.heap.size w wr ∧ Blk wr w.heap.size 27 (reC 7 S A kl c lo hi nn).toArray) (fun _ iv _ => kl - (intOf iv).toNat)
    case atStart => exact ⟨0, (g + 1), rfl, by omega, by go_num, HRL, Nat.le_add_right _ _, by go_grown, (Blk.new _ _ _).alloc _⟩
    case round =>
      obtain ⟨i, q, rfl, hi2, rfl, hq, hqg, hbr, xr⟩ := hrel
      have r5 := xr.cell 5
      simp only [List.getElem?_toArray, List.getElem?_cons_zero, List.getElem?_cons_succ] at r5
      by_cases hlt : i < kl
      · have HRr := Lib.hid (HR.out.bel hbr)
        have hlt2 : i < kids.length := by rw [HKL.out]; exact hlt
        obtain ⟨g0, o, rfl, hg0, A2, c2, hk, hcc⟩ := (kid HRr.out).2 i hlt2
        have fk0 := hcc 0 _ rfl
        have fk1 := hcc 1 _ rfl
        have fk2 := hcc 2 _ rfl
        have fk3 := hcc 3 _ rfl
        have fk4 := hcc 4 _ rfl
        have fk5 := hcc 5 _ rfl
        have fk6 := hcc 6 _ rfl
        have fk7 := hcc 7 _ rfl
        have fk8 := hcc 8 _ rfl
        simp only [Nat.add_zero] at fk0
        clear hcc
        have hnk := nodes_kid kids i hlt2
        have htk := nodes_take kids i hlt2
        have hdr := right_drop kids i hlt2 0 (d + 1) q
        rw [hq.out] at hdr
        have ci := HC.out i hlt2 wr _ 0 (d + 1) q hk (by omega) (by decide) (by omega)
        have hle := right_le (kids[i]'hlt2) 0 (d + 1) q
        obtain ⟨x, hx⟩ : ∃ x, kids[i]'hlt2 = x := ⟨_, rfl⟩
        rw [hx] at fk0 fk1 fk2 fk3 fk4 fk5 fk6 fk7 fk8 hk hnk htk hdr hle
        simp only [hx] at ci
        clear hk hg0 hx
        generalize x.kind = k0 at *
        generalize x.set = k1 at *
        generalize x.kids.length = k2 at *
        generalize x.lo = k3 at *
        generalize x.hi = k4 at *
        generalize x.n = k5 at *
        rw [show ((lvF 0 : Nat) : Int) = 0 from rfl, show ((d + 1 : Nat) : Int) = (d : Int) + 1 from rfl] at ci
        cases hs : rightR x 0 (d + 1) q with
        | none =>
          rw [hs] at hdr ci
          have hz : RS = none := hdr
          subst hz
          clear hdr hle htk
          go_wp2_with fail
          (with_reducible refine ci.mono ?_)
          rintro e w2 ⟨m, rfl, _, b2⟩
          go_wp2
          first | (refine bodyPost_ret (R := FPost none w) (results_tmp2 rfl _ _ _) rfl ?_) | fail
          exact FPost.no q (via b2 hbr)
        | some q2 =>
          rw [hs] at hdr ci
          have HD := Lib.hid (show rightL (kids.drop (i + 1)) 0 (d + 1) q2 = RS from hdr.symm)
          have hle2 := hle q2 hs
          clear hdr hle hs
          have hq3 : q2 ≤ (g + 1) + nodesL (kids.take (i + 1)) := by omega
          clear htk
          go_wp2_with fail
          (with_reducible refine ci.mono ?_)
          rintro e w2 ⟨m, rfl, hm, b2⟩
          have hme := hm q2 rfl
          subst hme
          have B2 := via b2 hbr
          have x2 := xr.next b2
          clear hm b2 ci
          go_wp2
          go_roundw
          case rel => exact ⟨i + 1, m, by go_num, by omega, rfl, HD, hq3, B2, x2⟩
          case measure => simp [intOf]; omega
      · have dl : decide ((i : Int) < (kl : Int)) = false := by simp; omega
        have hz : RS = some q := by rw [← hq.out, List.drop_of_length_le (by rw [HKL.out]; omega)]; rfl
        subst hz
        clear hq
        go_wp2
        first | (refine bodyPost_ret (R := FPost (some q) w) (results_tmp2 rfl _ _ _) rfl ?_) | fail
        exact FPost.yes q hbr
end EreX
end Go.Proofs.YtpdmjegbjcefjaaDoor
