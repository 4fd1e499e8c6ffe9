/- The walk of the reference's Form. Conditions: trees that fit. -/
import Derived.Test.YtpdmjegbjcefjaaDoorEreBp
namespace Go.Proofs.YtpdmjegbjcefjaaDoor
set_option linter.unusedVariables false
set_option linter.unusedSimpArgs false
open Go.RowKit
namespace EreX
open EreP EreW
set_option maxHeartbeats 6400000 in
set_option maxRecDepth 100000 in
theorem form_0 {K : Nat → Prop} (S : Nat) (kids : List Re) (lo hi nn : Int) (A : Option Addr) (c : Nat) (w : World) (lv d g : Nat) (h : Rt w K (.mk 0 S kids lo hi nn) (reC 0 S A kids.length c lo hi nn)) (hS : S < 2 ^ 256)
    (hd : d ≤ 64) (hlv : lv ≤ 3) (hg : g + (1 + nodesL kids) ≤ 4611686018427387904) (hc : FormC K kids) :
    Calls Tryd.prog 49 #[.agg (reC 0 S A kids.length c lo hi nn).toArray, .int .i64 (lvF lv : Nat), .int .i64 d, .int .i64 g] w (FPost (rightR (.mk 0 S kids lo hi nn) lv d g) w) := by
  have hset : ∀ W, (Op.equalIn 10000 24 (.agg #[.int .u64 0, .int .u64 0, .int .u64 0, .int .u64 0]) (.agg #[.int .u64 (word S 0), .int .u64 (word S 1), .int .u64 (word S 2), .int .u64 (word S 3)])).run Tryd.prog W = .ok ((0 : Nat) == S) W := fun W => set_same 0 S (by decide) hS W
  have hset2 : ∀ W, (Op.equalIn 10000 24 (.agg #[.int .u64 (word S 0), .int .u64 (word S 1), .int .u64 (word S 2), .int .u64 (word S 3)]) (.agg #[.int .u64 (word S 0), .int .u64 (word S 1), .int .u64 (word S 2), .int .u64 (word S 3)])).run Tryd.prog W = .ok ((S : Nat) == S) W := fun W => set_same S S hS hS W
  have hss : (S == S) = true := by simp
  clear hS
  obtain ⟨LV, hLV⟩ : ∃ LV : Nat, lvF lv = LV := ⟨_, rfl⟩
  rw [hLV]
  unfold lvF at hLV
  have hln := len_nodes kids
  have HR := Lib.hid h
  have HC := Lib.hid hc
  clear h hc
  obtain ⟨RS, hRS⟩ : ∃ RS, rightR (.mk 0 S kids lo hi nn) lv d g = RS := ⟨_, rfl⟩
  rw [hRS]
  have HRS := Lib.hid hRS
  clear hRS
  obtain ⟨kl, hkl⟩ : ∃ kl, kids.length = kl := ⟨_, rfl⟩
  rw [hkl] at HR hln ⊢
  have HKL := Lib.hid hkl
  clear hkl
  by_cases c1 : S = 0
  rotate_left
  · have hz : RS = none := by rw [← HRS.out]; exact right_no (by unfold bareR; simp [c1])
    subst hz
    have d1 : ((0 : Nat) == S) = false := by simp; omega
    go_enter Tryd.func49, Tryd.ntmps49
    go_wp2
    first | (refine bodyPost_ret (R := FPost none w) (results_tmp2 rfl _ _ _) rfl ?_) | fail
    exact FPost.no g (by go_grown)
  have d1 : ((0 : Nat) == S) = true := by simp [c1]
  have C1 := Lib.hid c1
  clear c1
  by_cases c2 : lo = 0
  rotate_left
  · have hz : RS = none := by rw [← HRS.out]; exact right_no (by unfold bareR; simp [c2])
    subst hz
    have d2 : ((0 : Int) != lo) = true := by simp; omega
    go_enter Tryd.func49, Tryd.ntmps49
    go_wp2
    first | (refine bodyPost_ret (R := FPost none w) (results_tmp2 rfl _ _ _) rfl ?_) | fail
    exact FPost.no g (by go_grown)
  have d2 : ((0 : Int) != lo) = false := by simp [c2]
  by_cases c3 : hi = 0
  rotate_left
  · have hz : RS = none := by rw [← HRS.out]; exact right_no (by unfold bareR; simp [c3])
    subst hz
    have d3 : ((0 : Int) != hi) = true := by simp; omega
    go_enter Tryd.func49, Tryd.ntmps49
    go_wp2
    first | (refine bodyPost_ret (R := FPost none w) (results_tmp2 rfl _ _ _) rfl ?_) | fail
    exact FPost.no g (by go_grown)
  have d3 : ((0 : Int) != hi) = false := by simp [c3]
  by_cases c4 : nn = 0
  rotate_left
  · have hz : RS = none := by rw [← HRS.out]; exact right_no (by unfold bareR; simp [c4])
    subst hz
    have d4 : ((0 : Int) != nn) = true := by simp; omega
    go_enter Tryd.func49, Tryd.ntmps49
    go_wp2
    first | (refine bodyPost_ret (R := FPost none w) (results_tmp2 rfl _ _ _) rfl ?_) | fail
    exact FPost.no g (by go_grown)
  have d4 : ((0 : Int) != nn) = false := by simp [c4]
  have hb : bareR 0 S lo hi nn = true := by unfold bareR; simp [C1.out, c2, c3, c4]
  have HRR := Lib.hid (right_0 (kids := kids) (lv := lv) (d := d) (g := g) hb)
  by_cases c6 : kl = 0
  rotate_left
  · have hz : RS = none := by rw [← HRS.out]; exact HRR.out.trans (if_neg (fun e => c6 (by rw [← HKL.out]; exact e.2)))
    subst hz
    have d6 : decide ((0 : Int) < (kl : Int)) = true := by simp; omega
    have z6 : 0 < kl := by omega
    go_enter Tryd.func49, Tryd.ntmps49
    go_wp2
    first | (refine bodyPost_ret (R := FPost none w) (results_tmp2 rfl _ _ _) rfl ?_) | fail
    exact FPost.no g (by go_grown)
  have d6 : decide ((0 : Int) < (kl : Int)) = false := by simp; omega
  have z6 : ¬ 0 < kl := by omega
  by_cases c5 : lv ≤ 1
  rotate_left
  · have hz : RS = none := by rw [← HRS.out]; exact HRR.out.trans (if_neg (fun e => c5 e.1))
    subst hz
    have d7 : decide ((1 : Int) < (LV : Int)) = true := by simp; split at hLV <;> omega
    go_enter Tryd.func49, Tryd.ntmps49
    go_wp2
    first | (refine bodyPost_ret (R := FPost none w) (results_tmp2 rfl _ _ _) rfl ?_) | fail
    exact FPost.no g (by go_grown)
  have d7 : decide ((1 : Int) < (LV : Int)) = false := by simp; split at hLV <;> omega
  have d8 : ((LV : Int) == 4) = false := by simp; split at hLV <;> omega
  have hz : RS = some g := by rw [← HRS.out]; exact HRR.out.trans (if_pos ⟨c5, by rw [HKL.out]; exact c6⟩)
  subst hz
  clear HRR HRS hb
  go_enter Tryd.func49, Tryd.ntmps49
  go_wp2
  first | (refine bodyPost_ret (R := FPost (some g) w) (results_tmp2 rfl _ _ _) rfl ?_) | fail
  exact FPost.yes g (by go_grown)
set_option maxHeartbeats 6400000 in
set_option maxRecDepth 100000 in
theorem form_1 {K : Nat → Prop} (S : Nat) (kids : List Re) (lo hi nn : Int) (A : Option Addr) (c : Nat) (w : World) (lv d g : Nat) (h : Rt w K (.mk 1 S kids lo hi nn) (reC 1 S A kids.length c lo hi nn)) (hS : S < 2 ^ 256)
    (hd : d ≤ 64) (hlv : lv ≤ 3) (hg : g + (1 + nodesL kids) ≤ 4611686018427387904) (hc : FormC K kids) :
    Calls Tryd.prog 49 #[.agg (reC 1 S A kids.length c lo hi nn).toArray, .int .i64 (lvF lv : Nat), .int .i64 d, .int .i64 g] w (FPost (rightR (.mk 1 S kids lo hi nn) lv d g) w) := by
  have hset : ∀ W, (Op.equalIn 10000 24 (.agg #[.int .u64 0, .int .u64 0, .int .u64 0, .int .u64 0]) (.agg #[.int .u64 (word S 0), .int .u64 (word S 1), .int .u64 (word S 2), .int .u64 (word S 3)])).run Tryd.prog W = .ok ((0 : Nat) == S) W := fun W => set_same 0 S (by decide) hS W
  have hset2 : ∀ W, (Op.equalIn 10000 24 (.agg #[.int .u64 (word S 0), .int .u64 (word S 1), .int .u64 (word S 2), .int .u64 (word S 3)]) (.agg #[.int .u64 (word S 0), .int .u64 (word S 1), .int .u64 (word S 2), .int .u64 (word S 3)])).run Tryd.prog W = .ok ((S : Nat) == S) W := fun W => set_same S S hS hS W
  have hss : (S == S) = true := by simp
  clear hS
  obtain ⟨LV, hLV⟩ : ∃ LV : Nat, lvF lv = LV := ⟨_, rfl⟩
  rw [hLV]
  unfold lvF at hLV
  have hln := len_nodes kids
  have HR := Lib.hid h
  have HC := Lib.hid hc
  clear h hc
  obtain ⟨RS, hRS⟩ : ∃ RS, rightR (.mk 1 S kids lo hi nn) lv d g = RS := ⟨_, rfl⟩
  rw [hRS]
  have HRS := Lib.hid hRS
  clear hRS
  obtain ⟨kl, hkl⟩ : ∃ kl, kids.length = kl := ⟨_, rfl⟩
  rw [hkl] at HR hln ⊢
  have HKL := Lib.hid hkl
  clear hkl
  by_cases c2 : lo = 0
  rotate_left
  · have hz : RS = none := by rw [← HRS.out]; exact right_no (by unfold bareR; simp [c2])
    subst hz
    have d2 : ((0 : Int) != lo) = true := by simp; omega
    go_enter Tryd.func49, Tryd.ntmps49
    go_wp2
    first | (refine bodyPost_ret (R := FPost none w) (results_tmp2 rfl _ _ _) rfl ?_) | fail
    exact FPost.no g (by go_grown)
  have d2 : ((0 : Int) != lo) = false := by simp [c2]
  by_cases c3 : hi = 0
  rotate_left
  · have hz : RS = none := by rw [← HRS.out]; exact right_no (by unfold bareR; simp [c3])
    subst hz
    have d3 : ((0 : Int) != hi) = true := by simp; omega
    go_enter Tryd.func49, Tryd.ntmps49
    go_wp2
    first | (refine bodyPost_ret (R := FPost none w) (results_tmp2 rfl _ _ _) rfl ?_) | fail
    exact FPost.no g (by go_grown)
  have d3 : ((0 : Int) != hi) = false := by simp [c3]
  by_cases c4 : nn = 0
  rotate_left
  · have hz : RS = none := by rw [← HRS.out]; exact right_no (by unfold bareR; simp [c4])
    subst hz
    have d4 : ((0 : Int) != nn) = true := by simp; omega
    go_enter Tryd.func49, Tryd.ntmps49
    go_wp2
    first | (refine bodyPost_ret (R := FPost none w) (results_tmp2 rfl _ _ _) rfl ?_) | fail
    exact FPost.no g (by go_grown)
  have d4 : ((0 : Int) != nn) = false := by simp [c4]
  have hb : bareR 1 S lo hi nn = true := by unfold bareR; simp [c2, c3, c4]
  have HRR := Lib.hid (right_1 (kids := kids) (lv := lv) (d := d) (g := g) hb)
  have hss2 : ((S : Nat) == S) = true := by simp
  by_cases c6 : kl = 0
  rotate_left
  · have hz : RS = none := by rw [← HRS.out]; exact HRR.out.trans (if_neg (fun e => c6 (by rw [← HKL.out]; exact e)))
    subst hz
    have d6 : decide ((0 : Int) < (kl : Int)) = true := by simp; omega
    have z6 : 0 < kl := by omega
    go_enter Tryd.func49, Tryd.ntmps49
    go_wp2
    first | (refine bodyPost_ret (R := FPost none w) (results_tmp2 rfl _ _ _) rfl ?_) | fail
    exact FPost.no g (by go_grown)
  have d6 : decide ((0 : Int) < (kl : Int)) = false := by simp; omega
  have z6 : ¬ 0 < kl := by omega
  have hz : RS = some g := by rw [← HRS.out]; exact HRR.out.trans (if_pos (by rw [HKL.out]; exact c6))
  subst hz
  cases d8 : ((LV : Int) == 4)
  all_goals
    clear HRR HRS hb
    go_enter Tryd.func49, Tryd.ntmps49
    go_wp2
    first | (refine bodyPost_ret (R := FPost (some g) w) (results_tmp2 rfl _ _ _) rfl ?_) | fail
    exact FPost.yes g (by go_grown)
set_option maxHeartbeats 6400000 in
set_option maxRecDepth 100000 in
theorem form_2 {K : Nat → Prop} (S : Nat) (kids : List Re) (lo hi nn : Int) (A : Option Addr) (c : Nat) (w : World) (lv d g : Nat) (h : Rt w K (.mk 2 S kids lo hi nn) (reC 2 S A kids.length c lo hi nn)) (hS : S < 2 ^ 256)
    (hd : d ≤ 64) (hlv : lv ≤ 3) (hg : g + (1 + nodesL kids) ≤ 4611686018427387904) (hc : FormC K kids) :
    Calls Tryd.prog 49 #[.agg (reC 2 S A kids.length c lo hi nn).toArray, .int .i64 (lvF lv : Nat), .int .i64 d, .int .i64 g] w (FPost (rightR (.mk 2 S kids lo hi nn) lv d g) w) := by
  have hset : ∀ W, (Op.equalIn 10000 24 (.agg #[.int .u64 0, .int .u64 0, .int .u64 0, .int .u64 0]) (.agg #[.int .u64 (word S 0), .int .u64 (word S 1), .int .u64 (word S 2), .int .u64 (word S 3)])).run Tryd.prog W = .ok ((0 : Nat) == S) W := fun W => set_same 0 S (by decide) hS W
  have hset2 : ∀ W, (Op.equalIn 10000 24 (.agg #[.int .u64 (word S 0), .int .u64 (word S 1), .int .u64 (word S 2), .int .u64 (word S 3)]) (.agg #[.int .u64 (word S 0), .int .u64 (word S 1), .int .u64 (word S 2), .int .u64 (word S 3)])).run Tryd.prog W = .ok ((S : Nat) == S) W := fun W => set_same S S hS hS W
  have hss : (S == S) = true := by simp
  clear hS
  obtain ⟨LV, hLV⟩ : ∃ LV : Nat, lvF lv = LV := ⟨_, rfl⟩
  rw [hLV]
  unfold lvF at hLV
  have hln := len_nodes kids
  have HR := Lib.hid h
  have HC := Lib.hid hc
  clear h hc
  obtain ⟨RS, hRS⟩ : ∃ RS, rightR (.mk 2 S kids lo hi nn) lv d g = RS := ⟨_, rfl⟩
  rw [hRS]
  have HRS := Lib.hid hRS
  clear hRS
  obtain ⟨kl, hkl⟩ : ∃ kl, kids.length = kl := ⟨_, rfl⟩
  rw [hkl] at HR hln ⊢
  have HKL := Lib.hid hkl
  clear hkl
  by_cases c1 : S = 0
  rotate_left
  · have hz : RS = none := by rw [← HRS.out]; exact right_no (by unfold bareR; simp [c1])
    subst hz
    have d1 : ((0 : Nat) == S) = false := by simp; omega
    go_enter Tryd.func49, Tryd.ntmps49
    go_wp2
    first | (refine bodyPost_ret (R := FPost none w) (results_tmp2 rfl _ _ _) rfl ?_) | fail
    exact FPost.no g (by go_grown)
  have d1 : ((0 : Nat) == S) = true := by simp [c1]
  have C1 := Lib.hid c1
  clear c1
  by_cases c2 : lo = 0
  rotate_left
  · have hz : RS = none := by rw [← HRS.out]; exact right_no (by unfold bareR; simp [c2])
    subst hz
    have d2 : ((0 : Int) != lo) = true := by simp; omega
    go_enter Tryd.func49, Tryd.ntmps49
    go_wp2
    first | (refine bodyPost_ret (R := FPost none w) (results_tmp2 rfl _ _ _) rfl ?_) | fail
    exact FPost.no g (by go_grown)
  have d2 : ((0 : Int) != lo) = false := by simp [c2]
  by_cases c3 : hi = 0
  rotate_left
  · have hz : RS = none := by rw [← HRS.out]; exact right_no (by unfold bareR; simp [c3])
    subst hz
    have d3 : ((0 : Int) != hi) = true := by simp; omega
    go_enter Tryd.func49, Tryd.ntmps49
    go_wp2
    first | (refine bodyPost_ret (R := FPost none w) (results_tmp2 rfl _ _ _) rfl ?_) | fail
    exact FPost.no g (by go_grown)
  have d3 : ((0 : Int) != hi) = false := by simp [c3]
  by_cases c4 : nn = 0
  rotate_left
  · have hz : RS = none := by rw [← HRS.out]; exact right_no (by unfold bareR; simp [c4])
    subst hz
    have d4 : ((0 : Int) != nn) = true := by simp; omega
    go_enter Tryd.func49, Tryd.ntmps49
    go_wp2
    first | (refine bodyPost_ret (R := FPost none w) (results_tmp2 rfl _ _ _) rfl ?_) | fail
    exact FPost.no g (by go_grown)
  have d4 : ((0 : Int) != nn) = false := by simp [c4]
  have hb : bareR 2 S lo hi nn = true := by unfold bareR; simp [C1.out, c2, c3, c4]
  have HRR := Lib.hid (right_2 (kids := kids) (lv := lv) (d := d) (g := g) hb)
  by_cases c6 : kl = 0
  rotate_left
  · have hz : RS = none := by rw [← HRS.out]; exact HRR.out.trans (if_neg (fun e => c6 (by rw [← HKL.out]; exact e.2)))
    subst hz
    have d6 : decide ((0 : Int) < (kl : Int)) = true := by simp; omega
    have z6 : 0 < kl := by omega
    go_enter Tryd.func49, Tryd.ntmps49
    go_wp2
    first | (refine bodyPost_ret (R := FPost none w) (results_tmp2 rfl _ _ _) rfl ?_) | fail
    exact FPost.no g (by go_grown)
  have d6 : decide ((0 : Int) < (kl : Int)) = false := by simp; omega
  have z6 : ¬ 0 < kl := by omega
  by_cases c5 : lv ≤ 2
  rotate_left
  · have hz : RS = none := by rw [← HRS.out]; exact HRR.out.trans (if_neg (fun e => c5 e.1))
    subst hz
    have d8 : ((LV : Int) == 4) = true := by simp; split at hLV <;> omega
    go_enter Tryd.func49, Tryd.ntmps49
    go_wp2
    first | (refine bodyPost_ret (R := FPost none w) (results_tmp2 rfl _ _ _) rfl ?_) | fail
    exact FPost.no g (by go_grown)
  have d8 : ((LV : Int) == 4) = false := by simp; split at hLV <;> omega
  have hz : RS = some g := by rw [← HRS.out]; exact HRR.out.trans (if_pos ⟨c5, by rw [HKL.out]; exact c6⟩)
  subst hz
  clear HRR HRS hb
  go_enter Tryd.func49, Tryd.ntmps49
  go_wp2
  first | (refine bodyPost_ret (R := FPost (some g) w) (results_tmp2 rfl _ _ _) rfl ?_) | fail
  exact FPost.yes g (by go_grown)
set_option maxHeartbeats 6400000 in
set_option maxRecDepth 100000 in
theorem form_3 {K : Nat → Prop} (S : Nat) (kids : List Re) (lo hi nn : Int) (A : Option Addr) (c : Nat) (w : World) (lv d g : Nat) (h : Rt w K (.mk 3 S kids lo hi nn) (reC 3 S A kids.length c lo hi nn)) (hS : S < 2 ^ 256)
    (hd : d ≤ 64) (hlv : lv ≤ 3) (hg : g + (1 + nodesL kids) ≤ 4611686018427387904) (hc : FormC K kids) :
    Calls Tryd.prog 49 #[.agg (reC 3 S A kids.length c lo hi nn).toArray, .int .i64 (lvF lv : Nat), .int .i64 d, .int .i64 g] w (FPost (rightR (.mk 3 S kids lo hi nn) lv d g) w) := by
  have hset : ∀ W, (Op.equalIn 10000 24 (.agg #[.int .u64 0, .int .u64 0, .int .u64 0, .int .u64 0]) (.agg #[.int .u64 (word S 0), .int .u64 (word S 1), .int .u64 (word S 2), .int .u64 (word S 3)])).run Tryd.prog W = .ok ((0 : Nat) == S) W := fun W => set_same 0 S (by decide) hS W
  have hset2 : ∀ W, (Op.equalIn 10000 24 (.agg #[.int .u64 (word S 0), .int .u64 (word S 1), .int .u64 (word S 2), .int .u64 (word S 3)]) (.agg #[.int .u64 (word S 0), .int .u64 (word S 1), .int .u64 (word S 2), .int .u64 (word S 3)])).run Tryd.prog W = .ok ((S : Nat) == S) W := fun W => set_same S S hS hS W
  have hss : (S == S) = true := by simp
  clear hS
  obtain ⟨LV, hLV⟩ : ∃ LV : Nat, lvF lv = LV := ⟨_, rfl⟩
  rw [hLV]
  unfold lvF at hLV
  have hln := len_nodes kids
  have HR := Lib.hid h
  have HC := Lib.hid hc
  clear h hc
  obtain ⟨RS, hRS⟩ : ∃ RS, rightR (.mk 3 S kids lo hi nn) lv d g = RS := ⟨_, rfl⟩
  rw [hRS]
  have HRS := Lib.hid hRS
  clear hRS
  obtain ⟨kl, hkl⟩ : ∃ kl, kids.length = kl := ⟨_, rfl⟩
  rw [hkl] at HR hln ⊢
  have HKL := Lib.hid hkl
  clear hkl
  by_cases c1 : S = 0
  rotate_left
  · have hz : RS = none := by rw [← HRS.out]; exact right_no (by unfold bareR; simp [c1])
    subst hz
    have d1 : ((0 : Nat) == S) = false := by simp; omega
    go_enter Tryd.func49, Tryd.ntmps49
    go_wp2
    first | (refine bodyPost_ret (R := FPost none w) (results_tmp2 rfl _ _ _) rfl ?_) | fail
    exact FPost.no g (by go_grown)
  have d1 : ((0 : Nat) == S) = true := by simp [c1]
  have C1 := Lib.hid c1
  clear c1
  by_cases c2 : lo = 0
  rotate_left
  · have hz : RS = none := by rw [← HRS.out]; exact right_no (by unfold bareR; simp [c2])
    subst hz
    have d2 : ((0 : Int) != lo) = true := by simp; omega
    go_enter Tryd.func49, Tryd.ntmps49
    go_wp2
    first | (refine bodyPost_ret (R := FPost none w) (results_tmp2 rfl _ _ _) rfl ?_) | fail
    exact FPost.no g (by go_grown)
  have d2 : ((0 : Int) != lo) = false := by simp [c2]
  by_cases c3 : hi = 0
  rotate_left
  · have hz : RS = none := by rw [← HRS.out]; exact right_no (by unfold bareR; simp [c3])
    subst hz
    have d3 : ((0 : Int) != hi) = true := by simp; omega
    go_enter Tryd.func49, Tryd.ntmps49
    go_wp2
    first | (refine bodyPost_ret (R := FPost none w) (results_tmp2 rfl _ _ _) rfl ?_) | fail
    exact FPost.no g (by go_grown)
  have d3 : ((0 : Int) != hi) = false := by simp [c3]
  by_cases c4 : nn = 0
  rotate_left
  · have hz : RS = none := by rw [← HRS.out]; exact right_no (by unfold bareR; simp [c4])
    subst hz
    have d4 : ((0 : Int) != nn) = true := by simp; omega
    go_enter Tryd.func49, Tryd.ntmps49
    go_wp2
    first | (refine bodyPost_ret (R := FPost none w) (results_tmp2 rfl _ _ _) rfl ?_) | fail
    exact FPost.no g (by go_grown)
  have d4 : ((0 : Int) != nn) = false := by simp [c4]
  have hb : bareR 3 S lo hi nn = true := by unfold bareR; simp [C1.out, c2, c3, c4]
  have HRR := Lib.hid (right_3 (kids := kids) (lv := lv) (d := d) (g := g) hb)
  by_cases c6 : kl = 0
  rotate_left
  · have hz : RS = none := by rw [← HRS.out]; exact HRR.out.trans (if_neg (fun e => c6 (by rw [← HKL.out]; exact e.2)))
    subst hz
    have d6 : decide ((0 : Int) < (kl : Int)) = true := by simp; omega
    have z6 : 0 < kl := by omega
    go_enter Tryd.func49, Tryd.ntmps49
    go_wp2
    first | (refine bodyPost_ret (R := FPost none w) (results_tmp2 rfl _ _ _) rfl ?_) | fail
    exact FPost.no g (by go_grown)
  have d6 : decide ((0 : Int) < (kl : Int)) = false := by simp; omega
  have z6 : ¬ 0 < kl := by omega
  by_cases c5 : lv ≤ 2
  rotate_left
  · have hz : RS = none := by rw [← HRS.out]; exact HRR.out.trans (if_neg (fun e => c5 e.1))
    subst hz
    have d8 : ((LV : Int) == 4) = true := by simp; split at hLV <;> omega
    go_enter Tryd.func49, Tryd.ntmps49
    go_wp2
    first | (refine bodyPost_ret (R := FPost none w) (results_tmp2 rfl _ _ _) rfl ?_) | fail
    exact FPost.no g (by go_grown)
  have d8 : ((LV : Int) == 4) = false := by simp; split at hLV <;> omega
  have hz : RS = some g := by rw [← HRS.out]; exact HRR.out.trans (if_pos ⟨c5, by rw [HKL.out]; exact c6⟩)
  subst hz
  clear HRR HRS hb
  go_enter Tryd.func49, Tryd.ntmps49
  go_wp2
  first | (refine bodyPost_ret (R := FPost (some g) w) (results_tmp2 rfl _ _ _) rfl ?_) | fail
  exact FPost.yes g (by go_grown)
set_option maxHeartbeats 6400000 in
set_option maxRecDepth 100000 in
theorem form_other {K : Nat → Prop} (kind : Int) (S : Nat) (kids : List Re) (lo hi nn : Int) (A : Option Addr) (c : Nat) (w : World) (lv d g : Nat) (h : Rt w K (.mk kind S kids lo hi nn) (reC kind S A kids.length c lo hi nn)) (hS : S < 2 ^ 256)
    (hd : d ≤ 64) (hlv : lv ≤ 3) (hg : g + (1 + nodesL kids) ≤ 4611686018427387904) (hc : FormC K kids) (h0 : kind ≠ 0) (h1 : kind ≠ 1) (h2 : kind ≠ 2) (h3 : kind ≠ 3) (h4 : kind ≠ 4) (h5 : kind ≠ 5) (h6 : kind ≠ 6) (h7 : kind ≠ 7) :
    Calls Tryd.prog 49 #[.agg (reC kind S A kids.length c lo hi nn).toArray, .int .i64 (lvF lv : Nat), .int .i64 d, .int .i64 g] w (FPost (rightR (.mk kind S kids lo hi nn) lv d g) w) := by
  have hset : ∀ W, (Op.equalIn 10000 24 (.agg #[.int .u64 0, .int .u64 0, .int .u64 0, .int .u64 0]) (.agg #[.int .u64 (word S 0), .int .u64 (word S 1), .int .u64 (word S 2), .int .u64 (word S 3)])).run Tryd.prog W = .ok ((0 : Nat) == S) W := fun W => set_same 0 S (by decide) hS W
  have hset2 : ∀ W, (Op.equalIn 10000 24 (.agg #[.int .u64 (word S 0), .int .u64 (word S 1), .int .u64 (word S 2), .int .u64 (word S 3)]) (.agg #[.int .u64 (word S 0), .int .u64 (word S 1), .int .u64 (word S 2), .int .u64 (word S 3)])).run Tryd.prog W = .ok ((S : Nat) == S) W := fun W => set_same S S hS hS W
  have hss : (S == S) = true := by simp
  clear hS
  obtain ⟨LV, hLV⟩ : ∃ LV : Nat, lvF lv = LV := ⟨_, rfl⟩
  rw [hLV]
  unfold lvF at hLV
  have hln := len_nodes kids
  have HR := Lib.hid h
  have HC := Lib.hid hc
  clear h hc
  obtain ⟨RS, hRS⟩ : ∃ RS, rightR (.mk kind S kids lo hi nn) lv d g = RS := ⟨_, rfl⟩
  rw [hRS]
  have HRS := Lib.hid hRS
  clear hRS
  obtain ⟨kl, hkl⟩ : ∃ kl, kids.length = kl := ⟨_, rfl⟩
  rw [hkl] at HR hln ⊢
  have HKL := Lib.hid hkl
  clear hkl
  have hz : RS = none := by rw [← HRS.out]; exact right_other h0 h1 h2 h3 h4 h5 h6 h7
  subst hz
  clear HRS
  have e0 : (kind == 0) = false := by simp [h0]
  have e1 : (kind == 1) = false := by simp [h1]
  have e4 : (kind == 4) = false := by simp [h4]
  have e5 : (kind == 5) = false := by simp [h5]
  have e6 : (kind == 6) = false := by simp [h6]
  have e7 : (kind == 7) = false := by simp [h7]
  by_cases c1 : S = 0
  rotate_left
  · have d1 : ((0 : Nat) == S) = false := by simp; omega
    go_enter Tryd.func49, Tryd.ntmps49
    go_wp2
    first | (refine bodyPost_ret (R := FPost none w) (results_tmp2 rfl _ _ _) rfl ?_) | fail
    exact FPost.no g (by go_grown)
  have d1 : ((0 : Nat) == S) = true := by simp [c1]
  clear c1
  by_cases c2 : lo = 0
  rotate_left
  · have d2 : ((0 : Int) != lo) = true := by simp; omega
    go_enter Tryd.func49, Tryd.ntmps49
    go_wp2
    first | (refine bodyPost_ret (R := FPost none w) (results_tmp2 rfl _ _ _) rfl ?_) | fail
    exact FPost.no g (by go_grown)
  have d2 : ((0 : Int) != lo) = false := by simp [c2]
  by_cases c3 : hi = 0
  rotate_left
  · have d3 : ((0 : Int) != hi) = true := by simp; omega
    go_enter Tryd.func49, Tryd.ntmps49
    go_wp2
    first | (refine bodyPost_ret (R := FPost none w) (results_tmp2 rfl _ _ _) rfl ?_) | fail
    exact FPost.no g (by go_grown)
  have d3 : ((0 : Int) != hi) = false := by simp [c3]
  by_cases c4 : nn = 0
  rotate_left
  · have d4 : ((0 : Int) != nn) = true := by simp; omega
    go_enter Tryd.func49, Tryd.ntmps49
    go_wp2
    first | (refine bodyPost_ret (R := FPost none w) (results_tmp2 rfl _ _ _) rfl ?_) | fail
    exact FPost.no g (by go_grown)
  have d4 : ((0 : Int) != nn) = false := by simp [c4]
  by_cases c6 : kl = 0
  rotate_left
  · have d6 : decide ((0 : Int) < (kl : Int)) = true := by simp; omega
    have z6 : 0 < kl := by omega
    go_enter Tryd.func49, Tryd.ntmps49
    go_wp2
    first | (refine bodyPost_ret (R := FPost none w) (results_tmp2 rfl _ _ _) rfl ?_) | fail
    exact FPost.no g (by go_grown)
  have d6 : decide ((0 : Int) < (kl : Int)) = false := by simp; omega
  have z6 : ¬ 0 < kl := by omega
  by_cases c7 : ¬ kind < 0
  rotate_left
  · have d7 : decide (kind < (0 : Int)) = true := by simp; omega
    go_enter Tryd.func49, Tryd.ntmps49
    go_wp2
    first | (refine bodyPost_ret (R := FPost none w) (results_tmp2 rfl _ _ _) rfl ?_) | fail
    exact FPost.no g (by go_grown)
  have d7 : decide (kind < (0 : Int)) = false := by simp; omega
  have d8 : decide ((3 : Int) < kind) = true := by simp; omega
  go_enter Tryd.func49, Tryd.ntmps49
  go_wp2
  first | (refine bodyPost_ret (R := FPost none w) (results_tmp2 rfl _ _ _) rfl ?_) | fail
  exact FPost.no g (by go_grown)
end EreX
end Go.Proofs.YtpdmjegbjcefjaaDoor
