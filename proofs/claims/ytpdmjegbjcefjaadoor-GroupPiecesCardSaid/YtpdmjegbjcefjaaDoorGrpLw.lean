/- The law of the pieces: the walk. No condition. -/
import Derived.Test.YtpdmjegbjcefjaaDoorGrpPl
import Derived.BigQuiet
import Derived.Test.YtpdmjegbjcefjaaDoorRow
namespace Go.Proofs.YtpdmjegbjcefjaaDoor
set_option linter.unusedVariables false
set_option linter.unusedSimpArgs false
open Go.RowKit
namespace GrpW
open EreP EreW EreX GrpP GrpS
theorem rem_nat (a n : Nat) : ∃ i : Nat, Int.tmod (a : Int) ((n : Int) + 1) = i ∧ i ≤ n := by
  refine ⟨a % (n + 1), ?_, by have := Nat.mod_lt a (show 0 < n + 1 by omega); omega⟩
  rw [show ((n : Int) + 1) = ((n + 1 : Nat) : Int) by omega, Int.ofNat_tmod]
theorem at_len (r : Re) (s : ByteArray) (i : Nat) : (atS r s i true true).length = s.size + 1 := by
  unfold atS
  split
  · next h =>
    have := (over_step (bsS s) true true r (print_wfR h)).len ((noneS s.size).set i true) (by rw [List.length_set, none_len, bs_len])
    rw [bs_len] at this
    exact this
  · exact none_len _
set_option maxRecDepth 100000 in
set_option maxHeartbeats 6400000 in
theorem pieces_law {K : Nat → Prop} (r : Re) (w : World) (cs : List Value) (h : Rt w K r cs) (s : ByteArray) (a b : Nat) (ha : a < 256) (hb : b < 256) :
    Calls Tryd.prog 3 #[.agg cs.toArray, .string s, .agg #[.int .u8 a, .int .u8 b]] w fun e w' => e = .returned (.bool true) ∧ Below w.heap.size w w' := by
  obtain ⟨A, c, rfl, hS, hnil⟩ := h.shape
  obtain ⟨k0, hk0⟩ : ∃ k, r.kind = k := ⟨_, rfl⟩
  obtain ⟨k1, hk1⟩ : ∃ k, r.set = k := ⟨_, rfl⟩
  obtain ⟨k2, hk2⟩ : ∃ k, r.kids.length = k := ⟨_, rfl⟩
  obtain ⟨k3, hk3⟩ : ∃ k, r.lo = k := ⟨_, rfl⟩
  obtain ⟨k4, hk4⟩ : ∃ k, r.hi = k := ⟨_, rfl⟩
  obtain ⟨k5, hk5⟩ : ∃ k, r.n = k := ⟨_, rfl⟩
  rw [hk0, hk1, hk2, hk3, hk4, hk5] at h ⊢
  have HH := Lib.hid h
  clear hk0 hk1 hk2 hk3 hk4 hk5 h hS hnil
  obtain ⟨w1, hw1⟩ : ∃ z : World, (w.alloc (.cells (reC k0 k1 A k2 c k3 k4 k5).toArray 27)).alloc (.cells #[.int .u8 a, .int .u8 b] 28) = z := ⟨_, rfl⟩
  have B1 : Below w.heap.size w w1 := by rw [← hw1]; go_grown
  have X1 : Blk w1 w.heap.size 27 (reC k0 k1 A k2 c k3 k4 k5).toArray := by rw [← hw1]; exact (Blk.new _ _ _).alloc _
  have P1 : Blk w1 (w.heap.size + 1) 28 #[.int .u8 a, .int .u8 b] := by rw [← hw1]; exact Blk.new1 _ _ _ _
  have cw := awake_c w1
  go_enter Tryd.func3, Tryd.ntmps3
  go_upto_region 1 with fail
  try rw [hw1]
  clear hw1
  go_wp2_with fail
  (with_reducible refine cw.mono ?_)
  clear cw
  rintro e w2 ⟨rfl, b2⟩
  have X2 := X1.next b2
  have P2 := P1.next b2
  have B2 := via b2 B1
  clear X1 P1 B1 b2
  have p0 := X2.cell 0
  have p1 := X2.cell 1
  have p2 := X2.cell 2
  have p3 := X2.cell 3
  have p4 := X2.cell 4
  have p5 := X2.cell 5
  have p6 := X2.cell 6
  have p7 := X2.cell 7
  have p8 := X2.cell 8
  simp only [List.getElem?_toArray, List.getElem?_cons_zero, List.getElem?_cons_succ] at p0 p1 p2 p3 p4 p5 p6 p7 p8
  have c1 := small_c r w2 _ 60 (HH.out.bel B2) (by decide) (by decide)
  by_cases hn : (nodesR r : Int) ≤ 60
  rotate_left
  · have e0 : decide ((nodesR r : Int) ≤ 60) = false := decide_eq_false hn
    rw [e0] at c1
    clear hn e0
    go_wp2_with fail
    (with_reducible refine c1.mono ?_)
    rintro e w3 ⟨rfl, b3⟩
    have B3 := via b3 B2
    go_wp2_with fail
    go_ret
    exact ⟨rfl, B3⟩
  have e0 : decide ((nodesR r : Int) ≤ 60) = true := decide_eq_true hn
  rw [e0] at c1
  have HN := Lib.hid (show nodesR r ≤ 60 by omega)
  clear hn e0
  go_wp2_with fail
  (with_reducible refine c1.mono ?_)
  rintro e w3 ⟨rfl, b3⟩
  have X3 := X2.next b3
  have P3 := P2.next b3
  have B3 := via b3 B2
  clear X2 P2 B2 b3 c1 p0 p1 p2 p3 p4 p5 p6 p7 p8
  have p0 := X3.cell 0
  have p1 := X3.cell 1
  have p2 := X3.cell 2
  have p3 := X3.cell 3
  have p4 := X3.cell 4
  have p5 := X3.cell 5
  have p6 := X3.cell 6
  have p7 := X3.cell 7
  have p8 := X3.cell 8
  simp only [List.getElem?_toArray, List.getElem?_cons_zero, List.getElem?_cons_succ] at p0 p1 p2 p3 p4 p5 p6 p7 p8
  have c2 := unroll_c r w3 _ (HH.out.bel B3) (by have := HN.out; omega)
  go_wp2_with fail
  (with_reducible refine c2.mono ?_)
  rintro e w4 ⟨un, rfl, b4⟩
  have X4 := X3.next b4
  have P4 := P3.next b4
  have B4 := via b4 B3
  clear X3 P3 B3 b4 c2 p0 p1 p2 p3 p4 p5 p6 p7 p8
  cases un with
  | false =>
    go_wp2_with fail
    go_ret
    exact ⟨rfl, B4⟩
  | true =>
    by_cases hs : s.size ≤ 20
    rotate_left
    · have e1 : decide ((20 : Int) < s.size) = true := decide_eq_true (by omega)
      go_wp2_with fail
      go_ret
      exact ⟨rfl, B4⟩
    have e1 : decide ((20 : Int) < s.size) = false := decide_eq_false (by omega)
    go_upto_region 5 with fail
    obtain ⟨i, hi, his⟩ := rem_nat a s.size
    obtain ⟨k, hk, hks⟩ := rem_nat b s.size
    have q0 := P4.cell 0
    have q1 := P4.cell 1
    simp only [List.getElem?_toArray, List.getElem?_cons_zero, List.getElem?_cons_succ] at q0 q1
    go_cut [7, 8] (fun v7 v8 wx => v7 = .int .i64 i ∧ v8 = .int .i64 k ∧ ∃ nq, wx = w4.drewN nq)
    case first =>
      go_quiet (fail)
      go_wp2_with fail
      go_meet
      exact ⟨rfl, rfl, _, rfl⟩
    case rest =>
      obtain ⟨rfl, rfl, nq, rfl⟩ := hcut
      have X5 := X4.drewN nq
      have B5 : Below w.heap.size w (w4.drewN nq) := ⟨B4.os, B4.tape, B4.output, B4.size, B4.block⟩
      generalize w4.drewN nq = w5 at *
      clear X4 P4 B4 q0 q1 hi hk ha hb e1
      have c3 := find_c r w5 _ (HH.out.bel B5) (by have := HN.out; omega) (fun h => print_wfR h) s (by omega) i k
      have hfa := find_at r s i k his hks
      have hfn := find_no r s i k
      have hfy := find_yes r s i k hks
      obtain ⟨cu, hcu⟩ : ∃ cu, (findS r s i k).1 = cu := ⟨_, rfl⟩
      obtain ⟨ok, hok⟩ : ∃ ok, (findS r s i k).2 = ok := ⟨_, rfl⟩
      have hcl : cu.length = 10 := by
        cases ok with
        | true => rw [← hcu]; exact (hfy hok).2.2.1
        | false => rw [← hcu, hfn hok]; rfl
      rw [hcu, hok] at c3
      rw [hok] at hfa
      rw [hok, hcu] at hfn hfy
      clear hcu hok
      have p0 := X5.cell 0
      have p1 := X5.cell 1
      have p2 := X5.cell 2
      have p3 := X5.cell 3
      have p4 := X5.cell 4
      have p5 := X5.cell 5
      have p6 := X5.cell 6
      have p7 := X5.cell 7
      have p8 := X5.cell 8
      simp only [List.getElem?_toArray, List.getElem?_cons_zero, List.getElem?_cons_succ] at p0 p1 p2 p3 p4 p5 p6 p7 p8
      have HMS := Lib.hid (show (Tryd.prog.info? 35).map (·.size) = some (cutV cu).toArray.size by rw [List.size_toArray, cutV_len, hcl]; kernel_rfl)
      have HM1 := Lib.hid (cutV_one cu)
      have HMZ := Lib.hid (show (cutV zCu).toArray.size = (cutV cu).toArray.size by rw [List.size_toArray, List.size_toArray, cutV_len, cutV_len, hcl]; rfl)
      have HFN := Lib.hid hfn
      have HFY := Lib.hid hfy
      have HCG := Lib.hid (cutV_get cu)
      have HFA := Lib.hid hfa
      clear hfn hfy hfa
      obtain ⟨V, hV⟩ : ∃ V, (cutV cu).toArray = V := ⟨_, rfl⟩
      rw [hV] at c3 HMS HM1 HMZ
      have HV := Lib.hid hV
      clear hV
      go_wp2_with fail
      (with_reducible refine c3.mono ?_)
      clear c3 p0 p1 p2 p3 p4 p5 p6 p7 p8
      rintro e w6 ⟨rfl, b6⟩
      have X6 := X5.next b6
      have B6 := via b6 B5
      have Z6 : Blk (w6.alloc (.cells #[.int .i64 0, .int .i64 0, .int .i64 0, .int .i64 0, .int .i64 0, .int .i64 0, .int .i64 0, .int .i64 0, .int .i64 0, .int .i64 0, .int .i64 0, .int .i64 0, .int .i64 0, .int .i64 0, .int .i64 0, .int .i64 0, .int .i64 0, .int .i64 0, .int .i64 0, .int .i64 0] 35)) w6.heap.size 35 (cutV zCu).toArray := Blk.new _ _ _
      have b7 : Below w6.heap.size w6 (w6.alloc (.cells #[.int .i64 0, .int .i64 0, .int .i64 0, .int .i64 0, .int .i64 0, .int .i64 0, .int .i64 0, .int .i64 0, .int .i64 0, .int .i64 0, .int .i64 0, .int .i64 0, .int .i64 0, .int .i64 0, .int .i64 0, .int .i64 0, .int .i64 0, .int .i64 0, .int .i64 0, .int .i64 0] 35)) := by go_grown
      obtain ⟨gM, hgM⟩ : ∃ g, w6.heap.size = g := ⟨_, rfl⟩
      have hMge : w.heap.size < gM := by have := X6.lt; omega
      have M7 := Rowk.blk_row Z6 V
      have b77 : Below gM w6 (World.setRow (w6.alloc (.cells #[.int .i64 0, .int .i64 0, .int .i64 0, .int .i64 0, .int .i64 0, .int .i64 0, .int .i64 0, .int .i64 0, .int .i64 0, .int .i64 0, .int .i64 0, .int .i64 0, .int .i64 0, .int .i64 0, .int .i64 0, .int .i64 0, .int .i64 0, .int .i64 0, .int .i64 0, .int .i64 0] 35)) gM V) := bel_row (hgM ▸ b7) (Nat.le_refl _) V
      obtain ⟨w7, hw7⟩ : ∃ z, World.setRow (w6.alloc (.cells #[.int .i64 0, .int .i64 0, .int .i64 0, .int .i64 0, .int .i64 0, .int .i64 0, .int .i64 0, .int .i64 0, .int .i64 0, .int .i64 0, .int .i64 0, .int .i64 0, .int .i64 0, .int .i64 0, .int .i64 0, .int .i64 0, .int .i64 0, .int .i64 0, .int .i64 0, .int .i64 0] 35)) gM V = z := ⟨_, rfl⟩
      rw [hgM, hw7] at M7
      have Z7 := Z6
      rw [hgM] at Z7
      rw [hw7] at b77
      rw [← hgM] at b77
      have X7 := X6.next b77
      have B7 := via b77 B6
      go_upto_region 7 with (refine wpList_store_row (by rfl) 35 (.tmp 9) (.tmp 50) (by rfl) gM V (by rfl) (by rfl) 35 (cutV zCu).toArray (by exact Z7) (by exact HMS.out) (by exact HMZ.out) (by exact HM1.out) ?_)
      try rw [hw7]
      clear hw7 hgM Z7 Z6 b7 b77 X6 B6 b6
      go_cut [65] (fun v wx => v = .bool false ∧ Below w7.heap.size w7 wx)
      case first =>
        by_cases hik : i ≤ k
        · have e0 : decide ((i : Int) ≤ k) = true := decide_eq_true (by omega)
          have e0' : decide (i ≤ k) = true := decide_eq_true hik
          have hok : ok = (atS r s i true true).getD k false := by rw [HFA.out, decide_eq_true hik, Bool.true_and]
          have hal := at_len r s i
          have c4 := at_c r w7 _ (HH.out.bel B7) (by have := HN.out; omega) (fun h => print_wfR h) s (by omega) i his true true
          obtain ⟨AM, hAM⟩ : ∃ m, atS r s i true true = m := ⟨_, rfl⟩
          rw [hAM] at c4 hok hal
          clear hAM
          have p0 := X7.cell 0
          have p1 := X7.cell 1
          have p2 := X7.cell 2
          have p3 := X7.cell 3
          have p4 := X7.cell 4
          have p5 := X7.cell 5
          have p6 := X7.cell 6
          have p7 := X7.cell 7
          have p8 := X7.cell 8
          simp only [List.getElem?_toArray, List.getElem?_cons_zero, List.getElem?_cons_succ] at p0 p1 p2 p3 p4 p5 p6 p7 p8
          have HOK := Lib.hid hok
          clear hok hik
          go_wp2_with fail
          (with_reducible refine c4.mono ?_)
          clear c4 p0 p1 p2 p3 p4 p5 p6 p7 p8
          rintro e w8 ⟨g2, rfl, hg2, m8, b8⟩
          have v8 := m8.cell k
          rw [bV_get (by rw [hal]; omega), ← HOK.out] at v8
          clear m8 HOK
          cases ok
          all_goals
            go_wp2_with fail
            go_meet
            exact ⟨rfl, b8⟩
        · have e0 : decide ((i : Int) ≤ k) = false := decide_eq_false (by omega)
          have e0' : decide (i ≤ k) = false := decide_eq_false hik
          have hok : ok = false := by rw [HFA.out, decide_eq_false hik, Bool.false_and]
          subst hok
          go_wp2_with fail
          go_meet
          exact ⟨rfl, Below.refl _ _⟩
      case rest =>
        obtain ⟨rfl, b8⟩ := hcut
        have M8 := M7.next b8
        have X8 := X7.next b8
        have B8 := via b8 B7
        clear M7 X7 B7 b8
        cases ok with
        | false =>
          have hcz := HFN.out rfl
          subst hcz
          have hme : ∀ W : World, (Op.equalIn 10000 35 (.agg V) (.agg #[.int .i64 0, .int .i64 0, .int .i64 0, .int .i64 0, .int .i64 0, .int .i64 0, .int .i64 0, .int .i64 0, .int .i64 0, .int .i64 0, .int .i64 0, .int .i64 0, .int .i64 0, .int .i64 0, .int .i64 0, .int .i64 0, .int .i64 0, .int .i64 0, .int .i64 0, .int .i64 0])).run Tryd.prog W = .ok true W := fun W => by
            rw [← HV.out]; exact match_eq W
          go_wp2_with (refine wpList_load_row (by rfl) 35 (.tmp 9) (by rfl) gM (by rfl) 35 V (0, 0) _ (by exact M8) Tryd.underlying35 (by rfl) (by exact HMS.out) ?_)
          go_ret
          exact ⟨rfl, B8⟩
        | true =>
          obtain ⟨hwf, hik, _, hc0, hpc⟩ := HFY.out rfl
          have HWF := Lib.hid hwf
          have HPC := Lib.hid hpc
          have HCELL := Lib.hid (show ∀ (m : Nat) (p : Int × Int), cu[m]? = some p → V[m * 2]? = some (.int .i64 p.1) ∧ V[m * 2 + 1]? = some (.int .i64 p.2) by
            intro m p hp
            obtain ⟨hm, e⟩ := List.getElem?_eq_some_iff.1 hp
            have h := HCG.out m hm
            rw [e, Nat.mul_comm] at h
            rw [← HV.out, List.getElem?_toArray, List.getElem?_toArray]
            exact h)
          have h0 := HCELL.out 0 _ hc0
          have u0 := (M8.cell 0).trans h0.1
          have u1 := (M8.cell 1).trans h0.2
          have hce := fun W => cut_in i k i k W
          simp only [beq_self_eq_true, Bool.and_self] at hce
          clear hwf hpc hc0 h0 HFN HFY HCG HV HMZ HM1 HMS
          have c5 := kids_c r wc _ (HH.out.bel B8) HWF.out (by have := HN.out; omega)
          have hll := lay_all r
          obtain ⟨L, hL⟩ : ∃ L, layS (gk r) (List.replicate 10 zRe) = L := ⟨_, rfl⟩
          rw [hL] at c5 hll
          have HL := Lib.hid hL
          clear hL
          have p0 := X8.cell 0
          have p1 := X8.cell 1
          have p2 := X8.cell 2
          have p3 := X8.cell 3
          have p4 := X8.cell 4
          have p5 := X8.cell 5
          have p6 := X8.cell 6
          have p7 := X8.cell 7
          have p8 := X8.cell 8
          simp only [List.getElem?_toArray, List.getElem?_cons_zero, List.getElem?_cons_succ] at p0 p1 p2 p3 p4 p5 p6 p7 p8
          go_wp2_with fail
          (with_reducible refine c5.mono ?_)
          clear c5 p0 p1 p2 p3 p4 p5 p6 p7 p8 u0 u1 hce
          rintro e w9 ⟨gK, rfl, hgK, T9, b9⟩
          have M9 := M8.next b9
          have B9 := via b9 B8
          clear M8 X8 B8 b9
          go_wp2_with fail
          go_loopw [12] (fun nv wr => ∃ (n : Nat), nv = .int .i64 n ∧ 1 ≤ n ∧ n ≤ 10 ∧ Below w9.heap.size w9 wr) (fun nv _ => 10 - (intOf nv).toNat)
          case atStart => exact ⟨1, rfl, by omega, by omega, Below.refl _ _⟩
          case round =>
            obtain ⟨n, rfl, hn1, hn2, hbr⟩ := hrel
            have Mr := M9.next hbr
            have Tr := T9.bel hbr
            have Br := via hbr B9
            by_cases hlt : n < 10
            rotate_left
            · have hn10 : n = 10 := by omega
              subst hn10
              go_wp2_with fail
              go_ret
              exact ⟨rfl, Br⟩
            rcases HPC.out n hn1 hlt with hcn | ⟨a2, b2, kid, hcn, hkd, hkw, hkn, h1, h2, h3, hon⟩
            · have hx := HCELL.out n _ hcn
              have u0 := (Mr.cell (n * 2)).trans hx.1
              have u1 := (Mr.cell (n * 2 + 1)).trans hx.2
              have hce := fun W => cut_in (-1) (-1) (-1) (-1) W
              simp only [beq_self_eq_true, Bool.and_self] at hce
              clear hx hcn
              go_wp2_with fail
              go_roundw
              case rel => exact ⟨n + 1, by go_num, by omega, by omega, hbr.alloc hbr.size _⟩
              case measure => simp [intOf]; omega
            · have hx := HCELL.out n _ hcn
              have u0 := (Mr.cell (n * 2)).trans hx.1
              have u1 := (Mr.cell (n * 2 + 1)).trans hx.2
              have hce := fun W => cut_in a2 b2 (-1) (-1) W
              rw [show ((a2 : Int) == -1) = false by rw [beq_eq_false_iff_ne]; omega, Bool.false_and] at hce
              have e1 : decide ((10 : Int) ≤ n) = false := decide_eq_false (by omega)
              have e1' : decide (10 ≤ n) = false := decide_eq_false (by omega)
              have e2 : decide ((a2 : Int) < i) = false := decide_eq_false (by omega)
              have e2' : decide (a2 < i) = false := decide_eq_false (by omega)
              have e3 : decide ((b2 : Int) < a2) = false := decide_eq_false (by omega)
              have e3' : decide (b2 < a2) = false := decide_eq_false (by omega)
              have e4 : decide ((k : Int) < b2) = false := decide_eq_false (by omega)
              have e4' : decide (k < b2) = false := decide_eq_false (by omega)
              have hmr := run_make_row' (P := Tryd.prog) 38 4 (.bool false) 1 Tryd.underlying38 info_Bool rfl .i64 .i64 (s.size + 1) (by omega) (by omega)
              rw [made_none, Int.natCast_add, Int.natCast_one] at hmr
              obtain ⟨xs, hrs, hKb⟩ := Tr
              rw [HL.out] at hkd
              obtain ⟨hnl, hkd2⟩ := List.getElem?_eq_some_iff.1 hkd
              obtain ⟨ck, hck, hcx⟩ := hrs.at_ hnl
              rw [hkd2] at hck
              obtain ⟨A2, c2, rfl, hS2, hnil2⟩ := hck.shape
              obtain ⟨y0, hy0⟩ : ∃ k, kid.kind = k := ⟨_, rfl⟩
              obtain ⟨y1, hy1⟩ : ∃ k, kid.set = k := ⟨_, rfl⟩
              obtain ⟨y2, hy2⟩ : ∃ k, kid.kids.length = k := ⟨_, rfl⟩
              obtain ⟨y3, hy3⟩ : ∃ k, kid.lo = k := ⟨_, rfl⟩
              obtain ⟨y4, hy4⟩ : ∃ k, kid.hi = k := ⟨_, rfl⟩
              obtain ⟨y5, hy5⟩ : ∃ k, kid.n = k := ⟨_, rfl⟩
              rw [hy0, hy1, hy2, hy3, hy4, hy5] at hck hcx
              clear hy0 hy1 hy2 hy3 hy4 hy5 hS2 hnil2 hkd hkd2
              have hcx2 : ∀ j u, (reC y0 y1 A2 y2 c2 y3 y4 y5)[j]? = some u → xs.toArray[n * 9 + j]? = some u := fun j u hu => (List.getElem?_toArray ..).trans (hcx j u hu)
              have HCX := Lib.hid hcx2
              have HCK := Lib.hid hck
              clear hcx hcx2 hck hrs
              have hon2 : (overS (bsS s) true true kid ((noneS s.size).set a2 true)).getD b2 false = true := getD_on.2 hon
              obtain ⟨gP, hgP⟩ : ∃ g, wr.heap.size = g := ⟨_, rfl⟩
              have hKP : gK < gP := by rw [← hgP]; exact hKb.lt
              obtain ⟨w10, hw10⟩ : ∃ z : World, (wr.alloc (.cells #[.int .i64 a2, .int .i64 b2] 32)).alloc (.cells (bV (noneS s.size)) 4) = z := ⟨_, rfl⟩
              have P10 : Blk w10 gP 32 #[.int .i64 a2, .int .i64 b2] := by rw [← hw10, ← hgP]; exact (Blk.new _ _ _).alloc _
              have m10 : Mks w10 (gP + 1) (noneS s.size) := by rw [← hw10, ← hgP]; exact Blk.new1 _ _ _ _
              have b10 : Below w9.heap.size w9 w10 := by rw [← hw10]; exact (hbr.alloc hbr.size _).alloc (by rw [World.size_alloc]; have := hbr.size; omega) _
              have b10r : Below wr.heap.size wr w10 := by rw [← hw10]; go_grown
              have K10 := hKb.next b10r
              have l10 := m10.loose a2
              have n10 := m10.cell a2
              rw [bV_get (by rw [none_len]; omega)] at n10
              have m11 : Mks (w10.setCell ⟨gP + 1, a2, none⟩ (.bool true)) (gP + 1) ((noneS s.size).set a2 true) := by
                have := m10.set_ a2 (.bool true); rwa [bV_put] at this
              obtain ⟨w11, hw11⟩ : ∃ z : World, w10.setCell ⟨gP + 1, a2, none⟩ (.bool true) = z := ⟨_, rfl⟩
              have hge : w9.heap.size ≤ gP := by rw [← hgP]; exact hbr.size
              have P11 : Blk w11 gP 32 #[.int .i64 a2, .int .i64 b2] := by rw [← hw11]; exact P10.far (p := ⟨gP + 1, a2, none⟩) (by show gP ≠ gP + 1; omega) _
              have K11 : Blk w11 gK 27 xs.toArray := by rw [← hw11]; exact K10.far (p := ⟨gP + 1, a2, none⟩) (by show gK ≠ gP + 1; omega) _
              have b11r : Below wr.heap.size wr w11 := by rw [← hw11]; exact b10r.setCell (p := ⟨gP + 1, a2, none⟩) (by show wr.heap.size ≤ gP + 1; omega) _
              rw [hw11] at m11
              have hx0 := P10.cell 0
              have hx1 := P10.cell 1
              simp only [List.getElem?_toArray, List.getElem?_cons_zero, List.getElem?_cons_succ] at hx0 hx1
              generalize (noneS s.size).getD a2 false = vv at n10
              clear hcn hx P10 m10 b10 b10r K10 Mr hon
              go_upto_region 23 with fail
              try rw [hw11]
              clear hw10 hw11 hmr hx0 hx1 l10 n10 u0 u1 hce
              have HKC := Lib.hid (fun (W : World) (hb : Blk W gK 27 xs.toArray) => (show ((W.cell? ⟨gK, n * 9, none⟩ = some (.int .i64 y0) ∧ W.cell? ⟨gK, n * 9 + 1, none⟩ = some (.int .u64 (word y1 0 : Nat)) ∧ W.cell? ⟨gK, n * 9 + 2, none⟩ = some (.int .u64 (word y1 1 : Nat)) ∧ W.cell? ⟨gK, n * 9 + 3, none⟩ = some (.int .u64 (word y1 2 : Nat)) ∧ W.cell? ⟨gK, n * 9 + 4, none⟩ = some (.int .u64 (word y1 3 : Nat)) ∧ W.cell? ⟨gK, n * 9 + 5, none⟩ = some (.slice A2 y2 c2) ∧ W.cell? ⟨gK, n * 9 + 6, none⟩ = some (.int .i64 y3) ∧ W.cell? ⟨gK, n * 9 + 7, none⟩ = some (.int .i64 y4) ∧ W.cell? ⟨gK, n * 9 + 8, none⟩ = some (.int .i64 y5))) from ⟨(hb.cell (n * 9 + 0)).trans (HCX.out 0 _ rfl), (hb.cell (n * 9 + 1)).trans (HCX.out 1 _ rfl), (hb.cell (n * 9 + 2)).trans (HCX.out 2 _ rfl), (hb.cell (n * 9 + 3)).trans (HCX.out 3 _ rfl), (hb.cell (n * 9 + 4)).trans (HCX.out 4 _ rfl), (hb.cell (n * 9 + 5)).trans (HCX.out 5 _ rfl), (hb.cell (n * 9 + 6)).trans (HCX.out 6 _ rfl), (hb.cell (n * 9 + 7)).trans (HCX.out 7 _ rfl), (hb.cell (n * 9 + 8)).trans (HCX.out 8 _ rfl)⟩))
              refine wp_region_held (S := fun W => (W.cell? ⟨gK, n * 9, none⟩ = some (.int .i64 y0) ∧ W.cell? ⟨gK, n * 9 + 1, none⟩ = some (.int .u64 (word y1 0 : Nat)) ∧ W.cell? ⟨gK, n * 9 + 2, none⟩ = some (.int .u64 (word y1 1 : Nat)) ∧ W.cell? ⟨gK, n * 9 + 3, none⟩ = some (.int .u64 (word y1 2 : Nat)) ∧ W.cell? ⟨gK, n * 9 + 4, none⟩ = some (.int .u64 (word y1 3 : Nat)) ∧ W.cell? ⟨gK, n * 9 + 5, none⟩ = some (.slice A2 y2 c2) ∧ W.cell? ⟨gK, n * 9 + 6, none⟩ = some (.int .i64 y3) ∧ W.cell? ⟨gK, n * 9 + 7, none⟩ = some (.int .i64 y4) ∧ W.cell? ⟨gK, n * 9 + 8, none⟩ = some (.int .i64 y5)) ∧ W.cell? ⟨gP, 1, none⟩ = some (.int .i64 b2)) (by kernel_rfl) ?_
              have hHeld := And.intro (HKC.out w11 K11) (P11.cell 1)
              have c6 : Calls Tryd.prog 13 #[.agg #[.int .i64 y0, .int .u64 (word y1 0 : Nat), .int .u64 (word y1 1 : Nat), .int .u64 (word y1 2 : Nat), .int .u64 (word y1 3 : Nat), .slice A2 y2 c2, .int .i64 y3, .int .i64 y4, .int .i64 y5], .string s, mkV (gP + 1) s.size, .bool true, .bool true] { w11 with drawn := w11.drawn + 1 } (BackPost s.size (overS (bsS s) true true kid ((noneS s.size).set a2 true)) { w11 with drawn := w11.drawn + 1 }) :=
                over_c (nodesR kid) (by have := HN.out; omega) kid (Nat.le_refl _) hkw _ { w11 with drawn := w11.drawn + 1 } _ (HCK.out.bel ⟨b11r.os, b11r.tape, b11r.output, b11r.size, b11r.block⟩) s (by omega) (gP + 1) _ m11 (by rw [List.length_set, none_len]) true true
              have hov := (over_step (bsS s) true true kid hkw).len ((noneS s.size).set a2 true) (by rw [List.length_set, none_len, bs_len])
              rw [bs_len] at hov
              obtain ⟨OM, hOM⟩ : ∃ m, overS (bsS s) true true kid ((noneS s.size).set a2 true) = m := ⟨_, rfl⟩
              rw [hOM] at c6 hov hon2
              clear hOM m11
              have hnr : (0 : Int) ≤ (n : Int) ∧ (n : Int) < 10 := by omega
              have hbr2 : (0 : Int) ≤ (b2 : Int) ∧ (b2 : Int) < (s.size : Int) + 1 := by omega
              refine Rnd.take 0 (v := ?v0) rfl (by rfl) (by kernel_rfl) (by kernel_rfl) (by kernel_rfl) (fun _ _ _ h => h) (Or.inl ⟨by rfl, ?h0⟩) (by assumption) ?_
              case h0 =>
                intro w hSw
                try dsimp only at hSw
                go_simp
                all_goals (with_reducible rfl)
              try simp only [List.setIfInBounds_toArray, List.set_cons_zero, List.set_cons_succ]
              refine Rnd.take 1 (v := ?v1) rfl (by rfl) (by kernel_rfl) (by kernel_rfl) (by kernel_rfl) (fun _ _ _ h => h) (Or.inl ⟨by rfl, ?h1⟩) (by assumption) ?_
              case h1 =>
                intro w hSw
                try dsimp only at hSw
                go_simp
                all_goals (with_reducible rfl)
              try simp only [List.setIfInBounds_toArray, List.set_cons_zero, List.set_cons_succ]
              refine Rnd.take 2 (v := ?v2) rfl (by rfl) (by kernel_rfl) (by kernel_rfl) (by kernel_rfl) (fun _ _ _ h => h) (Or.inl ⟨by rfl, ?h2⟩) (by assumption) ?_
              case h2 =>
                intro w hSw
                try dsimp only at hSw
                go_simp
                all_goals (with_reducible rfl)
              try simp only [List.setIfInBounds_toArray, List.set_cons_zero, List.set_cons_succ]
              refine Rnd.take 3 (v := ?v3) rfl (by rfl) (by kernel_rfl) (by kernel_rfl) (by kernel_rfl) (fun _ _ _ h => h) (Or.inl ⟨by rfl, ?h3⟩) (by assumption) ?_
              case h3 =>
                intro w hSw
                try dsimp only at hSw
                go_simp
                all_goals (with_reducible rfl)
              try simp only [List.setIfInBounds_toArray, List.set_cons_zero, List.set_cons_succ]
              refine Rnd.take 4 (v := ?v4) rfl (by rfl) (by kernel_rfl) (by kernel_rfl) (by kernel_rfl) (fun _ _ _ h => h) (Or.inl ⟨by rfl, ?h4⟩) (by assumption) ?_
              case h4 =>
                intro w hSw
                try dsimp only at hSw
                go_simp
                all_goals (with_reducible rfl)
              try simp only [List.setIfInBounds_toArray, List.set_cons_zero, List.set_cons_succ]
              refine Rnd.take 5 (v := ?v5) rfl (by rfl) (by kernel_rfl) (by kernel_rfl) (by kernel_rfl) (fun _ _ _ h => h) (Or.inl ⟨by rfl, ?h5⟩) (by assumption) ?_
              case h5 =>
                intro w hSw
                try dsimp only at hSw
                go_simp
                all_goals (with_reducible rfl)
              try simp only [List.setIfInBounds_toArray, List.set_cons_zero, List.set_cons_succ]
              refine Rnd.take 7 (v := ?v7) rfl (by rfl) (by kernel_rfl) (by kernel_rfl) (by kernel_rfl) (fun _ _ _ h => h) (Or.inl ⟨by rfl, ?h7⟩) (by assumption) ?_
              case h7 =>
                intro w hSw
                try dsimp only at hSw
                go_simp
                all_goals (with_reducible rfl)
              try simp only [List.setIfInBounds_toArray, List.set_cons_zero, List.set_cons_succ]
              refine Rnd.take 8 (v := ?v8) rfl (by rfl) (by kernel_rfl) (by kernel_rfl) (by kernel_rfl) (fun _ _ _ h => h) (Or.inl ⟨by rfl, ?h8⟩) (by assumption) ?_
              case h8 =>
                intro w hSw
                try dsimp only at hSw
                go_simp
                all_goals (with_reducible rfl)
              try simp only [List.setIfInBounds_toArray, List.set_cons_zero, List.set_cons_succ]
              refine wpAnyH_ready (rs := [6]) (by kernel_rfl) (by simp) ?_
              refine AllReadyH.cons (o := _) rfl (fun K' hK => ?_) AllReadyH.nil
              go_simp
              go_at_call 13
              refine c6.mono ?_
              clear c6
              rintro e w12 ⟨g3, rfl, hg3, m12, b12⟩
              dsimp only
              have K12 := (show Blk { w11 with drawn := w11.drawn + 1 } gK 27 xs.toArray from K11).next b12
              have P12 := (show Blk { w11 with drawn := w11.drawn + 1 } gP 32 #[.int .i64 a2, .int .i64 b2] from P11).next b12
              refine hK.out _ _ ⟨HKC.out w12 K12, P12.cell 1⟩ (fun hHeld2 => ?_)
              clear hK K'
              have v12 := m12.cell b2
              rw [bV_get (by rw [hov]; omega), hon2] at v12
              have b12r : Below wr.heap.size wr w12 := via b12 (⟨b11r.os, b11r.tape, b11r.output, b11r.size, b11r.block⟩ : Below wr.heap.size wr { w11 with drawn := w11.drawn + 1 })
              have hb12 := via b12r hbr
              clear b12 b11r m12 hov
              refine Rnd.take 9 (v := ?v9) rfl (by rfl) (by kernel_rfl) (by kernel_rfl) (by kernel_rfl) (fun _ _ _ h => h) (Or.inl ⟨by rfl, ?h9⟩) (by assumption) ?_
              case h9 =>
                intro w hSw
                try dsimp only at hSw
                go_simp
                all_goals (with_reducible rfl)
              try simp only [List.setIfInBounds_toArray, List.set_cons_zero, List.set_cons_succ]
              refine wpAnyH_ready (rs := [10]) (by kernel_rfl) (by simp) ?_
              refine AllReadyH.cons (o := _) rfl (fun K' hK => ?_) AllReadyH.nil
              go_simp
              refine hK.out _ _ ⟨HKC.out w12 K12, P12.cell 1⟩ (fun hHeld3 => ?_)
              clear hK K'
              refine Rnd.take 11 (v := ?v11) rfl (by rfl) (by kernel_rfl) (by kernel_rfl) (by kernel_rfl) (fun _ _ _ h => h) (Or.inl ⟨by rfl, ?h11⟩) (by assumption) ?_
              case h11 =>
                intro w hSw
                try dsimp only at hSw
                go_simp
                all_goals (with_reducible rfl)
              try simp only [List.setIfInBounds_toArray, List.set_cons_zero, List.set_cons_succ]
              refine wpAnyH_done (by kernel_rfl) ?_ _
              clear hHeld hHeld2 hHeld3 K12 P12 v12
              go_wp2_with fail
              go_roundw
              case rel => exact ⟨n + 1, by go_num, by omega, by omega, hb12⟩
              case measure => simp [intOf]; omega
end GrpW
end Go.Proofs.YtpdmjegbjcefjaaDoor
namespace Go.Proofs.YtpdmjegbjcefjaaDoor
set_option linter.unusedVariables false
set_option linter.unusedSimpArgs false
open Go.RowKit
namespace OpenGp
section
variable {H : Type} {enc : TypeId × Value → H} {w : World} {base : Nat} {spare : Nat → Bool} {held : Bool}
theorem u8_of {n : Int} (h : (Lit.int .u8 n).wf = true) : ∃ m : Nat, n = m ∧ m < 256 := by
  simp only [Lit.wf, IntKind.min, IntKind.max, IntKind.signed, IntKind.bits, Bool.and_eq_true] at h
  simp at h
  exact ⟨n.toNat, by omega, by omega⟩
theorem open_two {cs : List Value} (h : Opn enc Tryd.prog w base spare held 28 cs) : ∃ a b : Nat, a < 256 ∧ b < 256 ∧ cs = [.int .u8 a, .int .u8 b] := by
  have ci : Tryd.prog.cellsOf 5 = 1 := by kernel_rfl
  have c2 : Tryd.prog.cellsOf 28 = 2 := by kernel_rfl
  obtain ⟨hl2, hg2⟩ := Opn.array Tryd.underlying28 h
  rw [c2] at hl2
  rw [ci] at hg2
  obtain ⟨a, ea, wa⟩ := Opn.int Tryd.underlying5 (hg2 0 (by omega))
  obtain ⟨b, eb, wb⟩ := Opn.int Tryd.underlying5 (hg2 1 (by omega))
  obtain ⟨a', rfl, ha⟩ := u8_of wa
  obtain ⟨b', rfl, hb⟩ := u8_of wb
  refine ⟨a', b', ha, hb, ?_⟩
  match cs, hl2 with
  | [x, y], _ => simp at ea eb; rw [ea, eb]
end
end OpenGp
end Go.Proofs.YtpdmjegbjcefjaaDoor
