/- The law of ExprSames walked. Condition: trees that fit; the table of strconv. -/
import Derived.Test.YtchceoclkdofhaaGreatDoorExpHM
import Derived.Test.YtchceoclkdofhaaGreatDoorExpQ
import Derived.Test.YtchceoclkdofhaaGreatDoorExpCt
namespace Go.Proofs.YtchceoclkdofhaaGreatDoor
set_option linter.unusedVariables false
set_option linter.unusedSimpArgs false
open Go.RowKit
namespace ExpW
open CalP CalW ExpP ExpT QuoP Tok
theorem ownb_s {w : World} {B : Nat} {v : Value} {xs : List ByteArray} (h : OwnB w B v (xs.map (·.data.toList))) : OwnS w B v xs := by
  unfold OwnB at h
  unfold OwnS
  rw [List.length_map, List.map_map] at h
  exact h
theorem own_sl {w : World} {B : Nat} {v : Value} {xs : List ByteArray} (h : OwnS w B v xs) : ∃ A c, v = .slice A xs.length c ∧ (∀ i (hi : i < xs.length), ∃ g, A = some ⟨g, 0, none⟩ ∧ w.cell? ⟨g, i, none⟩ = some (.string (xs[i]'hi))) := by
  have h' := h
  unfold OwnS at h'
  rcases h'.2 with ⟨rfl, h0⟩ | ⟨g, cap, cur, rfl, _⟩
  · exact ⟨none, 0, by rw [h0], fun i hi => by omega⟩
  · refine ⟨_, _, rfl, fun i hi => ⟨g, rfl, ?_⟩⟩
    have := World.ownsRow.cellAt h' i (by omega)
    rw [this, List.getElem?_map, List.getElem?_eq_getElem hi]; rfl
/-- The end of the law. -/
def SmPost (w : World) (x : Ending) (w' : World) : Prop := x = .returned (.bool true) ∧ Below w.heap.size w w'
set_option maxRecDepth 100000 in
set_option maxHeartbeats 12800000 in
theorem sames_c {K K' : Nat → Prop} (ra rb : Ex) (ca cb : List Value) (w : World) (ha : Et w K ra ca) (hb : Et w K' rb cb) (ht : Tab w) :
    Calls Tryz.prog 3 #[.agg ca.toArray, .agg cb.toArray] w (SmPost w) := by
  obtain ⟨wa, hwa⟩ : ∃ z : World, (w.alloc (.cells ca.toArray 24)).alloc (.cells cb.toArray 24) = z := ⟨_, rfl⟩
  have ba : Below w.heap.size w wa := by rw [← hwa]; go_grown
  have xa : Blk wa w.heap.size 24 ca.toArray := by rw [← hwa]; exact (Blk.new _ _ _).alloc _
  have xb : Blk wa (w.heap.size + 1) 24 cb.toArray := by rw [← hwa]; exact Blk.new1 _ _ _ _
  have c0 := awake_c wa (ht.bel ba)
  have ea := et_lt (ha.bel ba)
  have eb := et_lt (hb.bel ba)
  clear ha hb ht
  have HS1 := Lib.hid (fun (W : World) (h : Below wa.heap.size wa W) => small9_c ra W ca 60 (by omega) (by omega) (ea.bel h))
  have HS2 := Lib.hid (fun (W : World) (h : Below wa.heap.size wa W) => small9_c rb W cb 60 (by omega) (by omega) (eb.bel h))
  have HN1 := Lib.hid (fun (W : World) (h : Below wa.heap.size wa W) (hn : nodesE ra ≤ 60) => names_c ra W ca (et_lt (ea.bel h)) (by omega))
  have HN2 := Lib.hid (fun (W : World) (h : Below wa.heap.size wa W) (hn : nodesE ra ≤ 60) => rnames_c (B := W.heap.size) (nodesE ra) ra (Nat.le_refl _) W ca (.slice none 0 0) [] (ea.bel h) (World.ownsRow_nil _ _ _ _) (Nat.le_refl _) (by simp; omega))
  have HQ1 := Lib.hid (fun (W : World) (h : Below wa.heap.size wa W) (hn : nodesE ra ≤ 60) => same_c (nodesE ra) ra (Nat.le_refl _) (by omega) rb W ca cb (ea.bel h) (eb.bel h))
  have HQ2 := Lib.hid (fun (W : World) (h : Below wa.heap.size wa W) (hn : nodesE ra ≤ 60) => sameq_c (nodesE ra) ra (Nat.le_refl _) (by omega) rb W ca cb (ea.bel h) (eb.bel h))
  have hqq : ∀ (W : World) (h : Below wa.heap.size wa W) (hn : nodesE ra ≤ 60), Calls Tryz.prog 11 #[.agg ca.toArray, .agg ca.toArray] W fun x w' => x = .returned (.bool true) ∧ Below W.heap.size W w' := fun W h hn => by
    have := same_c (nodesE ra) ra (Nat.le_refl _) (by omega) ra W ca ca (ea.bel h) (ea.bel h)
    rwa [(same_iff ra ra).2 rfl] at this
  have HQ3 := Lib.hid hqq
  have HNP := Lib.hid (names_put ra)
  have hsm : ∀ {x : Ex}, smallE x 60 = true → nodesE x ≤ 60 := fun h => by have := (small_ok h).1; omega
  have HSA := Lib.hid (fun h => hsm (x := ra) h)
  clear hqq hsm
  obtain ⟨k0, k1, k3, k4, A2, k2, c2, rfl⟩ := et_both ea
  obtain ⟨z0, z1, z3, z4, A3, z2, c3, rfl⟩ := et_both eb
  clear ea eb
  obtain ⟨S1, hS1⟩ : ∃ S, smallE ra 60 = S := ⟨_, rfl⟩
  obtain ⟨S2, hS2⟩ : ∃ S, smallE rb 60 = S := ⟨_, rfl⟩
  rw [hS1] at HS1 HSA
  rw [hS2] at HS2
  clear hS1 hS2
  go_enter Tryz.func3, Tryz.ntmps3
  go_upto_region 1 with fail
  try rw [hwa]
  clear hwa
  go_wp2_with fail
  (with_reducible refine c0.mono ?_)
  clear c0
  rintro x w1 ⟨rfl, b1⟩
  have x1 := xa.next b1
  have y1 := xb.next b1
  have B1 := via b1 ba
  clear xa xb ba
  have c1 := HS1.out w1 b1
  have p0 := x1.cell 0
  have p1 := x1.cell 1
  have p2 := x1.cell 2
  have p3 := x1.cell 3
  have p4 := x1.cell 4
  simp only [List.getElem?_toArray, List.getElem?_cons_zero, List.getElem?_cons_succ] at p0 p1 p2 p3 p4
  cases S1
  · go_wp2_with fail
    (with_reducible refine c1.mono ?_)
    clear c1 p0 p1 p2 p3 p4
    rintro x w2 ⟨rfl, b2⟩
    have B2 := via b2 B1
    go_wp2_with fail
    go_ret
    exact ⟨rfl, B2⟩
  go_wp2_with fail
  (with_reducible refine c1.mono ?_)
  clear c1 p0 p1 p2 p3 p4
  rintro x w2 ⟨rfl, b2⟩
  have x2 := x1.next b2
  have y2 := y1.next b2
  have B2 := via b2 B1
  have a2 := via b2 b1
  clear x1 y1 B1 b1 b2
  have c1 := HS2.out w2 a2
  have p0 := y2.cell 0
  have p1 := y2.cell 1
  have p2 := y2.cell 2
  have p3 := y2.cell 3
  have p4 := y2.cell 4
  simp only [List.getElem?_toArray, List.getElem?_cons_zero, List.getElem?_cons_succ] at p0 p1 p2 p3 p4
  cases S2
  · go_wp2_with fail
    (with_reducible refine c1.mono ?_)
    clear c1 p0 p1 p2 p3 p4
    rintro x w3 ⟨rfl, b3⟩
    have B3 := via b3 B2
    go_wp2_with fail
    go_ret
    exact ⟨rfl, B3⟩
  go_wp2_with fail
  (with_reducible refine c1.mono ?_)
  clear c1 p0 p1 p2 p3 p4
  rintro x w3 ⟨rfl, b3⟩
  have x3 := x2.next b3
  have y3 := y2.next b3
  have B3 := via b3 B2
  have a3 := via b3 a2
  clear x2 y2 B2 a2 b3 HS1 HS2
  have hn := HSA.out (by first | rfl | trivial)
  clear HSA
  go_upto_region 5 with fail
  refine wp_region_held (S := fun W => W.cell? ⟨w.heap.size, 0, none⟩ = some (.int .i64 k0) ∧ W.cell? ⟨w.heap.size, 1, none⟩ = some (.int .i64 k1) ∧ W.cell? ⟨w.heap.size, 2, none⟩ = some (.string k3) ∧ W.cell? ⟨w.heap.size, 3, none⟩ = some (.string k4) ∧ W.cell? ⟨w.heap.size, 4, none⟩ = some (.slice A2 k2 c2)) (by kernel_rfl) ?_
  have x4 := ExpW.blk_drew x3
  have y4 := ExpW.blk_drew y3
  have B4 := ExpW.below_drew B3
  have a4 := ExpW.below_drew a3
  have hHeld : (fun W : World => W.cell? ⟨w.heap.size, 0, none⟩ = some (.int .i64 k0) ∧ W.cell? ⟨w.heap.size, 1, none⟩ = some (.int .i64 k1) ∧ W.cell? ⟨w.heap.size, 2, none⟩ = some (.string k3) ∧ W.cell? ⟨w.heap.size, 3, none⟩ = some (.string k4) ∧ W.cell? ⟨w.heap.size, 4, none⟩ = some (.slice A2 k2 c2)) w3.drew := ⟨x4.cell 0, x4.cell 1, x4.cell 2, x4.cell 3, x4.cell 4⟩
  clear x3 y3 B3 a3
  refine Rnd.take 0 (v := ?v1001) rfl (by rfl) (by kernel_rfl) (by kernel_rfl) (by kernel_rfl) (fun _ _ _ h => h) (Or.inl ⟨by rfl, ?h1001⟩) (by assumption) ?_
  case h1001 =>
    intro w hSw
    try dsimp only at hSw
    go_simp
    all_goals (with_reducible rfl)
  try simp only [List.setIfInBounds_toArray, List.set_cons_zero, List.set_cons_succ]
  refine Rnd.take 2 (v := ?v1002) rfl (by rfl) (by kernel_rfl) (by kernel_rfl) (by kernel_rfl) (fun _ _ _ h => h) (Or.inl ⟨by rfl, ?h1002⟩) (by assumption) ?_
  case h1002 =>
    intro w hSw
    try dsimp only at hSw
    go_simp
    all_goals (with_reducible rfl)
  try simp only [List.setIfInBounds_toArray, List.set_cons_zero, List.set_cons_succ]
  have c1 := HN1.out w3.drew a4 hn
  refine wpAnyH_ready (rs := [1]) (by kernel_rfl) (by simp) ?_
  refine AllReadyH.cons (o := _) rfl (fun K' hK => ?_) AllReadyH.nil
  go_simp
  go_at_call 9
  (with_reducible refine c1.mono ?_)
  clear c1
  rintro e w5 ⟨v5, rfl, o5, b5⟩
  dsimp only
  have x5 := x4.next b5
  have y5 := y4.next b5
  have B5 := via b5 B4
  have a5 := via b5 a4
  clear x4 y4 B4 a4 b5
  refine hK.out _ _ ⟨x5.cell 0, x5.cell 1, x5.cell 2, x5.cell 3, x5.cell 4⟩ (fun hHeld => ?_)
  clear hK K'
  have c2' := HN2.out w5 a5 hn
  unfold PutPost at c2'
  refine wpAnyH_ready (rs := [3]) (by kernel_rfl) (by simp) ?_
  refine AllReadyH.cons (o := _) rfl (fun K' hK => ?_) AllReadyH.nil
  go_simp
  go_at_call 10
  (with_reducible refine c2'.mono ?_)
  clear c2'
  rintro e w6 ⟨v6, rfl, o6, b6⟩
  dsimp only
  have x6 := x5.next b6
  have y6 := y5.next b6
  have B6 := via b6 B5
  have a6 := via b6 a5
  have o56 := ExpT.own_bel o5 b6
  rw [← HNP.out] at o56
  have o56' := ownb_s o56
  clear x5 y5 B5 a5 b6 o5 o56
  refine hK.out _ _ ⟨x6.cell 0, x6.cell 1, x6.cell 2, x6.cell 3, x6.cell 4⟩ (fun hHeld => ?_)
  clear hK K'
  refine Rnd.take 4 (v := ?v1003) rfl (by rfl) (by kernel_rfl) (by kernel_rfl) (by kernel_rfl) (fun _ _ _ h => h) (Or.inl ⟨by rfl, ?h1003⟩) (by assumption) ?_
  case h1003 =>
    intro w hSw
    try dsimp only at hSw
    go_simp
    all_goals (with_reducible rfl)
  try simp only [List.setIfInBounds_toArray, List.set_cons_zero, List.set_cons_succ]
  refine Rnd.take 5 (v := ?v1004) rfl (by rfl) (by kernel_rfl) (by kernel_rfl) (by kernel_rfl) (fun _ _ _ h => h) (Or.inl ⟨by rfl, ?h1004⟩) (by assumption) ?_
  case h1004 =>
    intro w hSw
    try dsimp only at hSw
    go_simp
    all_goals (with_reducible rfl)
  try simp only [List.setIfInBounds_toArray, List.set_cons_zero, List.set_cons_succ]
  refine wpAnyH_done (by kernel_rfl) ?_ _
  clear hHeld HN1 HN2 HNP
  obtain ⟨A5, c5, rfl, h5⟩ := own_sl o56'
  obtain ⟨A6, c6, rfl, h6⟩ := own_sl o6
  clear o56' o6
  have hGl : ((gathE ra).foldl putB []).length ≤ 60 := by
    have h1 := fold_len (gathE ra) []
    have h2 := gath_nodes ra
    simp at h1; omega
  generalize (gathE ra).foldl putB [] = G at *
  obtain ⟨n, hnG⟩ : ∃ n, G.length = n := ⟨_, rfl⟩
  have H5 := Lib.hid h5
  have H6 := Lib.hid h6
  rw [hnG]
  rw [hnG] at hGl
  have HNG := Lib.hid hnG
  have eqn : ((n : Int) != (n : Int)) = false := by simp
  clear h5 h6 hnG
  go_wp2_with fail
  go_loopw [29] (fun iv wr => ∃ (i q : Nat), iv = .int .i64 i ∧ i ≤ n ∧ wr = w6.drewN q) (fun iv _ => n - (intOf iv).toNat)
  case atStart => exact ⟨0, 0, rfl, by omega, rfl⟩
  case round =>
    obtain ⟨i, q, rfl, hi, rfl⟩ := hrel
    by_cases hlt : i < n
    · obtain ⟨g5, rfl, q5⟩ := H5.out i (by have := HNG.out; omega)
      obtain ⟨g6, rfl, q6⟩ := H6.out i (by have := HNG.out; omega)
      obtain ⟨s, hs⟩ : ∃ s, G[i]'(by have := HNG.out; omega) = s := ⟨_, rfl⟩
      rw [hs] at q5 q6
      have es : (s.toList == s.toList) = true := by simp
      clear hs
      go_upto_region 11 with fail
      go_quiet (fail)
      go_wp2_with fail
      go_roundw
      case rel => exact ⟨i + 1, q + nq, by go_num, by omega, by first | rfl | exact drew_two _ _ _⟩
      case measure => simp [intOf]; omega
    · clear H5 H6 HNG
      have hin : i = n := by omega
      subst hin
      replace x6 := x6.drewN q
      replace y6 := y6.drewN q
      replace B6 := below_dn B6 q
      replace a6 := below_dn a6 q
      obtain ⟨w7, hw7⟩ : ∃ z, w6.drewN q = z := ⟨_, rfl⟩
      rw [hw7] at x6 y6 B6 a6 ⊢
      clear hw7
      have m1 := fun x : Cls w7 => call_cls (x := x) (v := .bool (sameE ra rb)) (HQ1.out x.val (via x.ok a6) hn)
      have m2 := fun x : Cls w7 => call_cls (x := x) (v := .bool (sameE ra rb)) (HQ2.out x.val (via x.ok a6) hn)
      have m3 := fun x : Cls w7 => call_cls (x := x) (v := .bool true) (HQ3.out x.val (via x.ok a6) hn)
      generalize sameE ra rb = RR at *
      have e3 : (RR == RR) = true := by simp
      have p0 := fun x : Cls w7 => x6.cls x 0
      have p1 := fun x : Cls w7 => x6.cls x 1
      have p2 := fun x : Cls w7 => x6.cls x 2
      have p3 := fun x : Cls w7 => x6.cls x 3
      have p4 := fun x : Cls w7 => x6.cls x 4
      have q0 := fun x : Cls w7 => y6.cls x 0
      have q1 := fun x : Cls w7 => y6.cls x 1
      have q2 := fun x : Cls w7 => y6.cls x 2
      have q3 := fun x : Cls w7 => y6.cls x 3
      have q4 := fun x : Cls w7 => y6.cls x 4
      simp only [List.getElem?_toArray, List.getElem?_cons_zero, List.getElem?_cons_succ] at p0 p1 p2 p3 p4 q0 q1 q2 q3 q4
      clear HQ1 HQ2 HQ3 x6 y6
      go_upto_region 14 with fail
      go_simp
      refine wp_region_cls (by kernel_rfl) (by kernel_rfl) ?_
      repeat (quiet_step (first
        | (go_at_call 12; with_reducible exact m2 _)
        | (go_at_call 11; with_reducible first | exact m1 _ | exact m3 _)))
      refine wpQuiet_nil ?_
      rintro _ ⟨z, rfl⟩
      have B7 := via z.ok B6
      clear m1 m2 m3 p0 p1 p2 p3 p4 q0 q1 q2 q3 q4
      generalize z.val = w8 at *
      go_wp2_with fail
      go_ret
      exact ⟨by first | rfl | simp, B7⟩
end ExpW
end Go.Proofs.YtchceoclkdofhaaGreatDoor
