/- The walk of the reference's Form. Conditions: trees that fit. -/
import Derived.Test.YtpdmjegbjcefjaaDoorEreBp
namespace Go.Proofs.YtpdmjegbjcefjaaDoor
set_option linter.unusedVariables false
set_option linter.unusedSimpArgs false
open Go.RowKit
namespace EreX
open EreP EreW
set_option maxHeartbeats 6400000 in
set_option maxRecDepth 100000 in
theorem form_4 {K : Nat → Prop} (S : Nat) (kids : List Re) (lo hi nn : Int) (A : Option Addr) (c : Nat) (w : World) (lv d g : Nat) (h : Rt w K (.mk 4 S kids lo hi nn) (reC 4 S A kids.length c lo hi nn)) (hS : S < 2 ^ 256)
    (hd : d ≤ 64) (hlv : lv ≤ 3) (hg : g + (1 + nodesL kids) ≤ 4611686018427387904) (hc : FormC K kids) :
    Calls Tryd.prog 49 #[.agg (reC 4 S A kids.length c lo hi nn).toArray, .int .i64 (lvF lv : Nat), .int .i64 d, .int .i64 g] w (FPost (rightR (.mk 4 S kids lo hi nn) lv d g) w) := by
  have hset : ∀ W, (Op.equalIn 10000 24 (.agg #[.int .u64 0, .int .u64 0, .int .u64 0, .int .u64 0]) (.agg #[.int .u64 (word S 0), .int .u64 (word S 1), .int .u64 (word S 2), .int .u64 (word S 3)])).run Tryd.prog W = .ok ((0 : Nat) == S) W := fun W => set_same 0 S (by decide) hS W
  have hset2 : ∀ W, (Op.equalIn 10000 24 (.agg #[.int .u64 (word S 0), .int .u64 (word S 1), .int .u64 (word S 2), .int .u64 (word S 3)]) (.agg #[.int .u64 (word S 0), .int .u64 (word S 1), .int .u64 (word S 2), .int .u64 (word S 3)])).run Tryd.prog W = .ok ((S : Nat) == S) W := fun W => set_same S S hS hS W
  have hss : (S == S) = true := by simp
  clear hS
  obtain ⟨LV, hLV⟩ : ∃ LV : Nat, lvF lv = LV := ⟨_, rfl⟩
  rw [hLV]
  unfold lvF at hLV
  have hln := len_nodes kids
  have HR := Lib.hid h
  have HC := Lib.hid hc
  clear h hc
  obtain ⟨RS, hRS⟩ : ∃ RS, rightR (.mk 4 S kids lo hi nn) lv d g = RS := ⟨_, rfl⟩
  rw [hRS]
  have HRS := Lib.hid hRS
  clear hRS
  obtain ⟨kl, hkl⟩ : ∃ kl, kids.length = kl := ⟨_, rfl⟩
  rw [hkl] at HR hln ⊢
  have HKL := Lib.hid hkl
  clear hkl
  by_cases c1 : S = 0
  rotate_left
  · have hz : RS = none := by rw [← HRS.out]; exact right_no (by unfold bareR; simp [c1])
    subst hz
    have d1 : ((0 : Nat) == S) = false := by simp; omega
    go_enter Tryd.func49, Tryd.ntmps49
    go_wp2
    first | (refine bodyPost_ret (R := FPost none w) (results_tmp2 rfl _ _ _) rfl ?_) | fail
    exact FPost.no g (by go_grown)
  have d1 : ((0 : Nat) == S) = true := by simp [c1]
  have C1 := Lib.hid c1
  clear c1
  by_cases c2 : lo = 0
  rotate_left
  · have hz : RS = none := by rw [← HRS.out]; exact right_no (by unfold bareR; simp [c2])
    subst hz
    have d2 : ((0 : Int) != lo) = true := by simp; omega
    go_enter Tryd.func49, Tryd.ntmps49
    go_wp2
    first | (refine bodyPost_ret (R := FPost none w) (results_tmp2 rfl _ _ _) rfl ?_) | fail
    exact FPost.no g (by go_grown)
  have d2 : ((0 : Int) != lo) = false := by simp [c2]
  by_cases c3 : hi = 0
  rotate_left
  · have hz : RS = none := by rw [← HRS.out]; exact right_no (by unfold bareR; simp [c3])
    subst hz
    have d3 : ((0 : Int) != hi) = true := by simp; omega
    go_enter Tryd.func49, Tryd.ntmps49
    go_wp2
    first | (refine bodyPost_ret (R := FPost none w) (results_tmp2 rfl _ _ _) rfl ?_) | fail
    exact FPost.no g (by go_grown)
  have d3 : ((0 : Int) != hi) = false := by simp [c3]
  by_cases c4 : nn = 0
  rotate_left
  · have hz : RS = none := by rw [← HRS.out]; exact right_no (by unfold bareR; simp [c4])
    subst hz
    have d4 : ((0 : Int) != nn) = true := by simp; omega
    go_enter Tryd.func49, Tryd.ntmps49
    go_wp2
    first | (refine bodyPost_ret (R := FPost none w) (results_tmp2 rfl _ _ _) rfl ?_) | fail
    exact FPost.no g (by go_grown)
  have d4 : ((0 : Int) != nn) = false := by simp [c4]
  have hb : bareR 4 S lo hi nn = true := by unfold bareR; simp [C1.out, c2, c3, c4]
  have HRR := Lib.hid (right_4 (kids := kids) (lv := lv) (d := d) (g := g) hb)
  by_cases c5 : lv ≤ 1
  rotate_left
  · have hz : RS = none := by rw [← HRS.out]; exact HRR.out.trans (if_neg (fun e => c5 e.1))
    subst hz
    have d5 : decide ((1 : Int) < (LV : Int)) = true := by simp; split at hLV <;> omega
    go_enter Tryd.func49, Tryd.ntmps49
    go_wp2
    first | (refine bodyPost_ret (R := FPost none w) (results_tmp2 rfl _ _ _) rfl ?_) | fail
    exact FPost.no g (by go_grown)
  have d5 : decide ((1 : Int) < (LV : Int)) = false := by simp; split at hLV <;> omega
  by_cases c6 : 1 < kl
  rotate_left
  · have hz : RS = none := by rw [← HRS.out]; exact HRR.out.trans (if_neg (fun e => c6 (by rw [← HKL.out]; exact e.2)))
    subst hz
    have d6 : decide ((kl : Int) < 2) = true := by simp; omega
    go_enter Tryd.func49, Tryd.ntmps49
    go_wp2
    first | (refine bodyPost_ret (R := FPost none w) (results_tmp2 rfl _ _ _) rfl ?_) | fail
    exact FPost.no g (by go_grown)
  have d6 : decide ((kl : Int) < 2) = false := by simp; omega
  have HRL := Lib.hid (show rightL (kids.drop 0) 2 (d) g = RS from (if_pos ⟨c5, by rw [HKL.out]; exact c6⟩).symm.trans (HRR.out.symm.trans HRS.out))
  clear HRR HRS hb c2 c3 c4 c5 hLV
  go_enter Tryd.func49, Tryd.ntmps49
  go_wp2_with fail
  go_loopw [3, 14] (fun nv iv wr => ∃ (i q : Nat), iv = .int .i64 i ∧ i ≤ kl ∧ nv = .int .i64 q ∧ Hid (rightL (kids.drop i) 2 (d) q = RS) ∧ q ≤ g + nodesL (kids.take i) ∧ Below w.heap.size w wr ∧ Blk wr w.heap.size 27 (reC 4 S A kl c lo hi nn).toArray) (fun _ iv _ => kl - (intOf iv).toNat)
  case atStart => exact ⟨0, g, rfl, by omega, by go_num, HRL, Nat.le_add_right _ _, by go_grown, (Blk.new _ _ _).alloc _⟩
  case round =>
    obtain ⟨i, q, rfl, hi2, rfl, hq, hqg, hbr, xr⟩ := hrel
    have r5 := xr.cell 5
    simp only [List.getElem?_toArray, List.getElem?_cons_zero, List.getElem?_cons_succ] at r5
    by_cases hlt : i < kl
    · have HRr := Lib.hid (HR.out.bel hbr)
      have hlt2 : i < kids.length := by rw [HKL.out]; exact hlt
      obtain ⟨g0, o, rfl, hg0, A2, c2, hk, hcc⟩ := (kid HRr.out).2 i hlt2
      have fk0 := hcc 0 _ rfl
      have fk1 := hcc 1 _ rfl
      have fk2 := hcc 2 _ rfl
      have fk3 := hcc 3 _ rfl
      have fk4 := hcc 4 _ rfl
      have fk5 := hcc 5 _ rfl
      have fk6 := hcc 6 _ rfl
      have fk7 := hcc 7 _ rfl
      have fk8 := hcc 8 _ rfl
      simp only [Nat.add_zero] at fk0
      clear hcc
      have hnk := nodes_kid kids i hlt2
      have htk := nodes_take kids i hlt2
      have hdr := right_drop kids i hlt2 2 (d) q
      rw [hq.out] at hdr
      have ci := HC.out i hlt2 wr _ 2 (d) q hk (by omega) (by decide) (by omega)
      have hle := right_le (kids[i]'hlt2) 2 (d) q
      obtain ⟨x, hx⟩ : ∃ x, kids[i]'hlt2 = x := ⟨_, rfl⟩
      rw [hx] at fk0 fk1 fk2 fk3 fk4 fk5 fk6 fk7 fk8 hk hnk htk hdr hle
      simp only [hx] at ci
      clear hk hg0 hx
      generalize x.kind = k0 at *
      generalize x.set = k1 at *
      generalize x.kids.length = k2 at *
      generalize x.lo = k3 at *
      generalize x.hi = k4 at *
      generalize x.n = k5 at *
      rw [show ((lvF 2 : Nat) : Int) = 2 from rfl] at ci
      cases hs : rightR x 2 (d) q with
      | none =>
        rw [hs] at hdr ci
        have hz : RS = none := hdr
        subst hz
        clear hdr hle htk
        go_wp2_with fail
        (with_reducible refine ci.mono ?_)
        rintro e w2 ⟨m, rfl, _, b2⟩
        go_wp2
        first | (refine bodyPost_ret (R := FPost none w) (results_tmp2 rfl _ _ _) rfl ?_) | fail
        exact FPost.no q (via b2 hbr)
      | some q2 =>
        rw [hs] at hdr ci
        have HD := Lib.hid (show rightL (kids.drop (i + 1)) 2 (d) q2 = RS from hdr.symm)
        have hle2 := hle q2 hs
        clear hdr hle hs
        have hq3 : q2 ≤ g + nodesL (kids.take (i + 1)) := by omega
        clear htk
        go_wp2_with fail
        (with_reducible refine ci.mono ?_)
        rintro e w2 ⟨m, rfl, hm, b2⟩
        have hme := hm q2 rfl
        subst hme
        have B2 := via b2 hbr
        have x2 := xr.next b2
        clear hm b2 ci
        go_wp2
        go_roundw
        case rel => exact ⟨i + 1, m, by go_num, by omega, rfl, HD, hq3, B2, x2⟩
        case measure => simp [intOf]; omega
    · have dl : decide ((i : Int) < (kl : Int)) = false := by simp; omega
      have hz : RS = some q := by rw [← hq.out, List.drop_of_length_le (by rw [HKL.out]; omega)]; rfl
      subst hz
      clear hq
      go_wp2
      first | (refine bodyPost_ret (R := FPost (some q) w) (results_tmp2 rfl _ _ _) rfl ?_) | fail
      exact FPost.yes q hbr
end EreX
end Go.Proofs.YtpdmjegbjcefjaaDoor
namespace Go.Proofs.YtpdmjegbjcefjaaDoor
set_option linter.unusedVariables false
set_option linter.unusedSimpArgs false
open Go.RowKit
namespace EreX
open EreP EreW
set_option maxHeartbeats 6400000 in
set_option maxRecDepth 100000 in
theorem form_5 {K : Nat → Prop} (S : Nat) (kids : List Re) (lo hi nn : Int) (A : Option Addr) (c : Nat) (w : World) (lv d g : Nat) (h : Rt w K (.mk 5 S kids lo hi nn) (reC 5 S A kids.length c lo hi nn)) (hS : S < 2 ^ 256)
    (hd : d ≤ 64) (hlv : lv ≤ 3) (hg : g + (1 + nodesL kids) ≤ 4611686018427387904) (hc : FormC K kids) :
    Calls Tryd.prog 49 #[.agg (reC 5 S A kids.length c lo hi nn).toArray, .int .i64 (lvF lv : Nat), .int .i64 d, .int .i64 g] w (FPost (rightR (.mk 5 S kids lo hi nn) lv d g) w) := by
  have hset : ∀ W, (Op.equalIn 10000 24 (.agg #[.int .u64 0, .int .u64 0, .int .u64 0, .int .u64 0]) (.agg #[.int .u64 (word S 0), .int .u64 (word S 1), .int .u64 (word S 2), .int .u64 (word S 3)])).run Tryd.prog W = .ok ((0 : Nat) == S) W := fun W => set_same 0 S (by decide) hS W
  have hset2 : ∀ W, (Op.equalIn 10000 24 (.agg #[.int .u64 (word S 0), .int .u64 (word S 1), .int .u64 (word S 2), .int .u64 (word S 3)]) (.agg #[.int .u64 (word S 0), .int .u64 (word S 1), .int .u64 (word S 2), .int .u64 (word S 3)])).run Tryd.prog W = .ok ((S : Nat) == S) W := fun W => set_same S S hS hS W
  have hss : (S == S) = true := by simp
  clear hS
  obtain ⟨LV, hLV⟩ : ∃ LV : Nat, lvF lv = LV := ⟨_, rfl⟩
  rw [hLV]
  unfold lvF at hLV
  have hln := len_nodes kids
  have HR := Lib.hid h
  have HC := Lib.hid hc
  clear h hc
  obtain ⟨RS, hRS⟩ : ∃ RS, rightR (.mk 5 S kids lo hi nn) lv d g = RS := ⟨_, rfl⟩
  rw [hRS]
  have HRS := Lib.hid hRS
  clear hRS
  obtain ⟨kl, hkl⟩ : ∃ kl, kids.length = kl := ⟨_, rfl⟩
  rw [hkl] at HR hln ⊢
  have HKL := Lib.hid hkl
  clear hkl
  by_cases c1 : S = 0
  rotate_left
  · have hz : RS = none := by rw [← HRS.out]; exact right_no (by unfold bareR; simp [c1])
    subst hz
    have d1 : ((0 : Nat) == S) = false := by simp; omega
    go_enter Tryd.func49, Tryd.ntmps49
    go_wp2
    first | (refine bodyPost_ret (R := FPost none w) (results_tmp2 rfl _ _ _) rfl ?_) | fail
    exact FPost.no g (by go_grown)
  have d1 : ((0 : Nat) == S) = true := by simp [c1]
  have C1 := Lib.hid c1
  clear c1
  by_cases c2 : lo = 0
  rotate_left
  · have hz : RS = none := by rw [← HRS.out]; exact right_no (by unfold bareR; simp [c2])
    subst hz
    have d2 : ((0 : Int) != lo) = true := by simp; omega
    go_enter Tryd.func49, Tryd.ntmps49
    go_wp2
    first | (refine bodyPost_ret (R := FPost none w) (results_tmp2 rfl _ _ _) rfl ?_) | fail
    exact FPost.no g (by go_grown)
  have d2 : ((0 : Int) != lo) = false := by simp [c2]
  by_cases c3 : hi = 0
  rotate_left
  · have hz : RS = none := by rw [← HRS.out]; exact right_no (by unfold bareR; simp [c3])
    subst hz
    have d3 : ((0 : Int) != hi) = true := by simp; omega
    go_enter Tryd.func49, Tryd.ntmps49
    go_wp2
    first | (refine bodyPost_ret (R := FPost none w) (results_tmp2 rfl _ _ _) rfl ?_) | fail
    exact FPost.no g (by go_grown)
  have d3 : ((0 : Int) != hi) = false := by simp [c3]
  by_cases c4 : nn = 0
  rotate_left
  · have hz : RS = none := by rw [← HRS.out]; exact right_no (by unfold bareR; simp [c4])
    subst hz
    have d4 : ((0 : Int) != nn) = true := by simp; omega
    go_enter Tryd.func49, Tryd.ntmps49
    go_wp2
    first | (refine bodyPost_ret (R := FPost none w) (results_tmp2 rfl _ _ _) rfl ?_) | fail
    exact FPost.no g (by go_grown)
  have d4 : ((0 : Int) != nn) = false := by simp [c4]
  have hb : bareR 5 S lo hi nn = true := by unfold bareR; simp [C1.out, c2, c3, c4]
  have HRR := Lib.hid (right_5 (kids := kids) (lv := lv) (d := d) (g := g) hb)
  by_cases c5 : lv = 0
  rotate_left
  · have hz : RS = none := by rw [← HRS.out]; exact HRR.out.trans (if_neg (fun e => c5 e.1))
    subst hz
    have d5 : decide ((0 : Int) < (LV : Int)) = true := by simp; split at hLV <;> omega
    have z5 : 0 < LV := by split at hLV <;> omega
    go_enter Tryd.func49, Tryd.ntmps49
    go_wp2
    first | (refine bodyPost_ret (R := FPost none w) (results_tmp2 rfl _ _ _) rfl ?_) | fail
    exact FPost.no g (by go_grown)
  have d5 : decide ((0 : Int) < (LV : Int)) = false := by simp; split at hLV <;> omega
  have z5 : ¬ 0 < LV := by split at hLV <;> omega
  by_cases c6 : 1 < kl
  rotate_left
  · have hz : RS = none := by rw [← HRS.out]; exact HRR.out.trans (if_neg (fun e => c6 (by rw [← HKL.out]; exact e.2)))
    subst hz
    have d6 : decide ((kl : Int) < 2) = true := by simp; omega
    go_enter Tryd.func49, Tryd.ntmps49
    go_wp2
    first | (refine bodyPost_ret (R := FPost none w) (results_tmp2 rfl _ _ _) rfl ?_) | fail
    exact FPost.no g (by go_grown)
  have d6 : decide ((kl : Int) < 2) = false := by simp; omega
  have HRL := Lib.hid (show rightL (kids.drop 0) 1 (d) g = RS from (if_pos ⟨c5, by rw [HKL.out]; exact c6⟩).symm.trans (HRR.out.symm.trans HRS.out))
  clear HRR HRS hb c2 c3 c4 c5 hLV
  go_enter Tryd.func49, Tryd.ntmps49
  go_wp2_with fail
  go_loopw [3, 14] (fun nv iv wr => ∃ (i q : Nat), iv = .int .i64 i ∧ i ≤ kl ∧ nv = .int .i64 q ∧ Hid (rightL (kids.drop i) 1 (d) q = RS) ∧ q ≤ g + nodesL (kids.take i) ∧ Below w.heap.size w wr ∧ Blk wr w.heap.size 27 (reC 5 S A kl c lo hi nn).toArray) (fun _ iv _ => kl - (intOf iv).toNat)
  case atStart => exact ⟨0, g, rfl, by omega, by go_num, HRL, Nat.le_add_right _ _, by go_grown, (Blk.new _ _ _).alloc _⟩
  case round =>
    obtain ⟨i, q, rfl, hi2, rfl, hq, hqg, hbr, xr⟩ := hrel
    have r5 := xr.cell 5
    simp only [List.getElem?_toArray, List.getElem?_cons_zero, List.getElem?_cons_succ] at r5
    by_cases hlt : i < kl
    · have HRr := Lib.hid (HR.out.bel hbr)
      have hlt2 : i < kids.length := by rw [HKL.out]; exact hlt
      obtain ⟨g0, o, rfl, hg0, A2, c2, hk, hcc⟩ := (kid HRr.out).2 i hlt2
      have fk0 := hcc 0 _ rfl
      have fk1 := hcc 1 _ rfl
      have fk2 := hcc 2 _ rfl
      have fk3 := hcc 3 _ rfl
      have fk4 := hcc 4 _ rfl
      have fk5 := hcc 5 _ rfl
      have fk6 := hcc 6 _ rfl
      have fk7 := hcc 7 _ rfl
      have fk8 := hcc 8 _ rfl
      simp only [Nat.add_zero] at fk0
      clear hcc
      have hnk := nodes_kid kids i hlt2
      have htk := nodes_take kids i hlt2
      have hdr := right_drop kids i hlt2 1 (d) q
      rw [hq.out] at hdr
      have ci := HC.out i hlt2 wr _ 1 (d) q hk (by omega) (by decide) (by omega)
      have hle := right_le (kids[i]'hlt2) 1 (d) q
      obtain ⟨x, hx⟩ : ∃ x, kids[i]'hlt2 = x := ⟨_, rfl⟩
      rw [hx] at fk0 fk1 fk2 fk3 fk4 fk5 fk6 fk7 fk8 hk hnk htk hdr hle
      simp only [hx] at ci
      clear hk hg0 hx
      generalize x.kind = k0 at *
      generalize x.set = k1 at *
      generalize x.kids.length = k2 at *
      generalize x.lo = k3 at *
      generalize x.hi = k4 at *
      generalize x.n = k5 at *
      rw [show ((lvF 1 : Nat) : Int) = 1 from rfl] at ci
      cases hs : rightR x 1 (d) q with
      | none =>
        rw [hs] at hdr ci
        have hz : RS = none := hdr
        subst hz
        clear hdr hle htk
        go_wp2_with fail
        (with_reducible refine ci.mono ?_)
        rintro e w2 ⟨m, rfl, _, b2⟩
        go_wp2
        first | (refine bodyPost_ret (R := FPost none w) (results_tmp2 rfl _ _ _) rfl ?_) | fail
        exact FPost.no q (via b2 hbr)
      | some q2 =>
        rw [hs] at hdr ci
        have HD := Lib.hid (show rightL (kids.drop (i + 1)) 1 (d) q2 = RS from hdr.symm)
        have hle2 := hle q2 hs
        clear hdr hle hs
        have hq3 : q2 ≤ g + nodesL (kids.take (i + 1)) := by omega
        clear htk
        go_wp2_with fail
        (with_reducible refine ci.mono ?_)
        rintro e w2 ⟨m, rfl, hm, b2⟩
        have hme := hm q2 rfl
        subst hme
        have B2 := via b2 hbr
        have x2 := xr.next b2
        clear hm b2 ci
        go_wp2
        go_roundw
        case rel => exact ⟨i + 1, m, by go_num, by omega, rfl, HD, hq3, B2, x2⟩
        case measure => simp [intOf]; omega
    · have dl : decide ((i : Int) < (kl : Int)) = false := by simp; omega
      have hz : RS = some q := by rw [← hq.out, List.drop_of_length_le (by rw [HKL.out]; omega)]; rfl
      subst hz
      clear hq
      go_wp2
      first | (refine bodyPost_ret (R := FPost (some q) w) (results_tmp2 rfl _ _ _) rfl ?_) | fail
      exact FPost.yes q hbr
end EreX
end Go.Proofs.YtpdmjegbjcefjaaDoor
