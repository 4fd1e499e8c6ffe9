/- The reference's Encode, and Same: the walks. Conditions: a trace that may be; lists that fit. -/
import Derived.Test.YtooinkhjoppijaaDoorTraG
namespace Go.Proofs.YtooinkhjoppijaaDoor
set_option linter.unusedVariables false
set_option linter.unusedSimpArgs false
open Go.RowKit
namespace TraW
open TraP NumP NumW QuoB
set_option maxHeartbeats 6400000 in
set_option maxRecDepth 100000 in
theorem rencode_c (k n : Int) (A : Option Addr) (m c : Nat) (l : List Ch) (w : World) (hr : Chs w w.heap.size A m l) (hmay : mayB (k, n, l) = true) :
    Calls Tryd.prog 11 #[trV k n A m c] w fun e w' => e = .returned (.string (ba (encL (k, n, l)))) ∧ Below w.heap.size w w' := by
  have hl := Chs.len hr
  obtain ⟨hh, hl4, hone⟩ := may_parts hmay
  simp only at hh hl4 hone
  rw [hl] at hl4
  have HONE := Lib.hid hone
  have HL := Lib.hid hl
  have cf := fun W => rhead_c k n W hh
  have hhl := headL_len hh
  have HHL := Lib.hid hhl
  have hfz : (ba (headL k n)).size ≤ 60 := by rw [ba_size]; exact hhl
  have HHB := Lib.hid (ba_list (headL k n))
  obtain ⟨H0, hH0⟩ : ∃ x, ba (headL k n) = x := ⟨_, rfl⟩
  rw [hH0] at cf hfz HHB
  clear hH0 hh hone hhl hl hmay
  simp only [trV]
  have hbx : Below w.heap.size w (w.alloc (.cells #[.int .i64 k, .int .i64 n, .slice A m c] 24)) := by go_grown
  have E0 := Blk.new w 24 #[.int .i64 k, .int .i64 n, .slice A m c]
  obtain ⟨w1, hw1⟩ : ∃ q, w.alloc (.cells #[.int .i64 k, .int .i64 n, .slice A m c] 24) = q := ⟨_, rfl⟩
  rw [hw1] at E0 hbx
  have x0 := E0.cell 0
  have x1 := E0.cell 1
  have x2 := E0.cell 2
  simp only [List.getElem?_toArray, List.getElem?_cons_zero, List.getElem?_cons_succ] at x0 x1 x2
  go_enter Tryd.func11, Tryd.ntmps11
  go_wp2_with fail
  try rw [hw1]
  clear hw1
  (with_reducible refine (cf _).mono ?_)
  rintro e w2 ⟨rfl, b2⟩
  have E2 := E0.next b2
  have B2 := via b2 hbx
  clear E0 x0 x1 x2 cf b2 hbx
  have hT0 : (H0 ++ ⟨#[10]⟩ : ByteArray) = ba (headL k n ++ [10]) := bytes_ext (by simp [HHB.out, ba])
  have HT0 := Lib.hid hT0
  clear hT0
  go_wp2_with fail
  go_loopw [3, 4] (fun ov iv wr => ∃ (T : Bs) (i : Nat), ov = .string (ba T) ∧ iv = .int .i64 i ∧ i ≤ m ∧ Hid (T ++ runsL (l.drop i) = encL (k, n, l)) ∧ T.length ≤ 100 + 5000 * i ∧ Blk wr w.heap.size 24 #[.int .i64 k, .int .i64 n, .slice A m c] ∧ Below w.heap.size w wr) (fun _ iv _ => m - (intOf iv).toNat)
  case atStart => exact ⟨headL k n ++ [10], 0, by first | rfl | exact congrArg Value.string HT0.out, rfl, by omega, Lib.hid (by unfold encL; simp), by rw [List.length_append]; have := HHL.out; simp; omega, E2, B2⟩
  case round =>
    clear E2 B2
    obtain ⟨T, i, rfl, rfl, hi, HT, hTl, E6, B6⟩ := hrel
    obtain ⟨w6, rfl⟩ : ∃ x : World, x = wr := ⟨_, rfl⟩
    have x0 := E6.cell 0
    have x1 := E6.cell 1
    have x2 := E6.cell 2
    simp only [List.getElem?_toArray, List.getElem?_cons_zero, List.getElem?_cons_succ] at x0 x1 x2
    have hr' := hr.below B6
    have hTz : (ba T).size = T.length := ba_size T
    have hTz2 : (ba T).size ≤ 20000100 := by omega
    have HTZ := Lib.hid hTz
    clear hTz
    by_cases him : i < m
    · have dim : decide ((i : Int) < (m : Int)) = true := decide_eq_true (by omega)
      obtain ⟨g, o, ch, rfl, hg, hp, y0, y1, y2⟩ := Chs.get hr' (k := i) (by omega)
      have hdi : l.drop i = ch :: l.drop (i + 1) := by
        obtain ⟨hlt, he⟩ := List.getElem?_eq_some_iff.1 hp
        rw [List.drop_eq_getElem_cons hlt, he]
      have hoc : oneB ch = true := List.all_eq_true.1 HONE.out ch (List.mem_of_getElem? hp)
      obtain ⟨r, hrr⟩ : ∃ r, l.drop (i + 1) = r := ⟨_, rfl⟩
      rw [hrr] at hdi
      have hrl : r.length = m - i - 1 := by rw [← hrr, List.length_drop, HL.out]; omega
      have HDI := Lib.hid hdi
      have HRR := Lib.hid hrr
      have HRL := Lib.hid hrl
      have hll := lead_le ch r
      clear hdi hrr hrl hp
      go_upto_block 2 with fail
      go_cut [5] (fun qv wx => qv = .int .i64 ((i + (1 + lead ch r) : Nat) : Int) ∧ Below w6.heap.size w6 wx)
      case first =>
        go_wp2_with fail
        go_loopw [5] (fun qv wz => ∃ q : Nat, qv = .int .i64 q ∧ i ≤ q ∧ q ≤ i + (1 + lead ch r) ∧ Below w6.heap.size w6 wz) (fun qv _ => m + 1 - (intOf qv).toNat)
        case atStart => exact ⟨i, rfl, by omega, by omega, Below.refl _ _⟩
        case round =>
          obtain ⟨q, rfl, hq1, hq2, b7⟩ := hrel
          obtain ⟨w7, rfl⟩ : ∃ x : World, x = wr := ⟨_, rfl⟩
          have E7 := E6.next b7
          have x0 := E7.cell 0
          have x1 := E7.cell 1
          have x2 := E7.cell 2
          simp only [List.getElem?_toArray, List.getElem?_cons_zero, List.getElem?_cons_succ] at x0 x1 x2
          have y0 := (b7.cell (p := ⟨g, o + i * 3, none⟩) (World.block_lt_of_cell? w6 _ y0)).trans y0
          have y1 := (b7.cell (p := ⟨g, o + i * 3 + 1, none⟩) (World.block_lt_of_cell? w6 _ y1)).trans y1
          have y2 := (b7.cell (p := ⟨g, o + i * 3 + 2, none⟩) (World.block_lt_of_cell? w6 _ y2)).trans y2
          by_cases hqM : q < m
          · have dq : decide ((q : Int) < (m : Int)) = true := decide_eq_true (by omega)
            obtain ⟨g', o', p, e, _, hp, z0, z1, z2⟩ := Chs.get hr' (k := q) (by omega)
            cases e
            have hlead : p = ch ↔ q < i + (1 + lead ch r) := by
              have hpd : (l.drop i)[q - i]? = some p := by rw [List.getElem?_drop, show i + (q - i) = q by omega]; exact hp
              rw [HDI.out] at hpd
              rcases Nat.eq_or_lt_of_le hq1 with h | h
              · rw [show q - i = 0 by omega] at hpd
                simp at hpd
                subst hpd
                exact ⟨fun _ => by omega, fun _ => rfl⟩
              · rw [show q - i = (q - i - 1) + 1 by omega, List.getElem?_cons_succ] at hpd
                rw [lead_at hpd (by omega)]; omega
            have HLD := Lib.hid hlead
            have z0 := (b7.cell (p := ⟨g, o + q * 3, none⟩) (World.block_lt_of_cell? w6 _ z0)).trans z0
            have z1 := (b7.cell (p := ⟨g, o + q * 3 + 1, none⟩) (World.block_lt_of_cell? w6 _ z1)).trans z1
            have z2 := (b7.cell (p := ⟨g, o + q * 3 + 2, none⟩) (World.block_lt_of_cell? w6 _ z2)).trans z2
            have qe := fun W => ch_eq p ch W
            obtain ⟨EQ, hEQ⟩ : ∃ b, decide (p = ch) = b := ⟨_, rfl⟩
            rw [hEQ] at qe
            have HEQ := Lib.hid hEQ
            clear hEQ hp hlead
            go_wp2_with fail
            go_quiet (fail)
            have b8 := below_dn b7 nq
            cases EQ
            · have hqe : q = i + (1 + lead ch r) := by
                have := HEQ.out
                rw [decide_eq_false_iff_not] at this
                have h2 : ¬ q < i + (1 + lead ch r) := fun h => this (HLD.out.2 h)
                omega
              have HQE := Lib.hid hqe
              clear hqe
              go_wp2_with fail
              go_meet
              case rel => exact ⟨by rw [HQE.out], b8⟩
            · have hqe : q < i + (1 + lead ch r) := HLD.out.1 (by simpa using HEQ.out)
              go_wp2_with fail
              go_roundw
              case rel => exact ⟨q + 1, by go_num, by omega, by omega, b8⟩
              case measure => simp [intOf]; omega
          · have dq : decide ((q : Int) < (m : Int)) = false := decide_eq_false (by omega)
            have hqe : q = i + (1 + lead ch r) := by have := HRL.out; omega
            have HQE := Lib.hid hqe
            clear hqe
            go_wp2_with fail
            go_quiet (fail)
            have b8 := below_dn b7 nq
            go_wp2_with fail
            go_meet
            case rel => exact ⟨by rw [HQE.out], b8⟩
      case rest =>
        obtain ⟨rfl, b7⟩ := hcut
        have B7 := B6.trans (b7.mono B6.size)
        have E7 := E6.next b7
        have hy : ∀ (off : Nat) (v : Value), w6.cell? ⟨g, off, none⟩ = some v → wc.cell? ⟨g, off, none⟩ = some v := fun off v h => (b7.cell (p := ⟨g, off, none⟩) (World.block_lt_of_cell? w6 _ h)).trans h
        have y0 := hy _ _ y0
        have y1 := hy _ _ y1
        have y2 := hy _ _ y2
        have hg7 : g < wc.heap.size := by have := B7.size; omega
        have hsplit : (T ++ (Lib.itoa ((1 + lead ch r : Nat) : Int) ++ 32 :: lineL ch ++ [10])) ++ runsL (l.drop (i + (1 + lead ch r))) = encL (k, n, l) := by
          rw [← HT.out, ← List.drop_drop, HDI.out, runs_lead, show 1 + lead ch r = lead ch r + 1 by omega, List.drop_succ_cons, seg]; simp
        have HSP := Lib.hid hsplit
        have cl := fun W => rline_c ch W hoc
        have hll2 := lineL_len hoc
        have hzl : (ba (lineL ch)).size ≤ 60 := by rw [ba_size]; exact hll2
        have HLB := Lib.hid (ba_list (lineL ch))
        have hqM : i + (1 + lead ch r) ≤ m := by have := HRL.out; omega
        clear hsplit hll2 hr' hoc hy E6 x0 x1 x2
        obtain ⟨q, hq⟩ : ∃ q : Nat, 1 + lead ch r = q := ⟨_, rfl⟩
        have hq1 : 1 ≤ q := by omega
        rw [hq] at hqM HSP ⊢
        clear hq hll
        obtain ⟨K, hK⟩ : ∃ K : Nat, i + q = K := ⟨_, rfl⟩
        rw [hK] at hqM HSP ⊢
        have ew : IntKind.i64.wrap ((K : Int) - (i : Int)) = (q : Int) := by rw [show (K : Int) - (i : Int) = (q : Int) by omega]; exact IntWalk.i64_in _ (by omega)
        have HK := Lib.hid hK
        have ci := fun W => rnum_c (q : Int) W (by omega) (by omega)
        have hzi : (ba (Lib.itoa (q : Int))).size ≤ 4100 := by rw [ba_size, itoa_nat]; have := dec_len q; omega
        have HIB := Lib.hid (ba_list (Lib.itoa (q : Int)))
        obtain ⟨LB, hLB⟩ : ∃ x, ba (lineL ch) = x := ⟨_, rfl⟩
        obtain ⟨IB, hIB⟩ : ∃ x, ba (Lib.itoa (q : Int)) = x := ⟨_, rfl⟩
        obtain ⟨TB, hTB⟩ : ∃ x, ba T = x := ⟨_, rfl⟩
        rw [hLB] at cl hzl HLB
        rw [hIB] at ci hzi HIB
        rw [hTB] at hTz2 ⊢
        have HTB := Lib.hid hTB
        clear hLB hIB hTB hK
        simp only [chV] at cl
        have m1 := fun x : Cls wc => call_cls (x := x) (v := .string IB) (ci x.val)
        have m2 := fun x : Cls wc => call_cls (x := x) (v := .string LB) (cl x.val)
        have p0 := fun x : Cls wc => E7.cls x 0
        have p1 := fun x : Cls wc => E7.cls x 1
        have p2 := fun x : Cls wc => E7.cls x 2
        have q0 := fun x : Cls wc => (x.ok.cell (p := ⟨g, o + i * 3, none⟩) hg7).trans y0
        have q1 := fun x : Cls wc => (x.ok.cell (p := ⟨g, o + i * 3 + 1, none⟩) hg7).trans y1
        have q2 := fun x : Cls wc => (x.ok.cell (p := ⟨g, o + i * 3 + 2, none⟩) hg7).trans y2
        simp only [List.getElem?_toArray, List.getElem?_cons_zero, List.getElem?_cons_succ] at p0 p1 p2
        have him2 : (i : Int) < (m : Int) := by omega
        go_wp2_with fail
        go_simp
        refine wp_region_cls (by kernel_rfl) (by kernel_rfl) ?_
        repeat (first
          | go_big_quiet_step (first
            | (go_at_call 29; with_reducible exact m1 _)
            | (go_at_call 16; with_reducible exact m2 _))
          | quiet_step (first
            | (go_at_call 29; with_reducible exact m1 _)
            | (go_at_call 16; with_reducible exact m2 _)))
        refine wpQuiet_nil ?_
        rintro _ ⟨y, rfl⟩
        have B9 := via y.ok B7
        have E9 := E7.next y.ok
        clear m1 m2 p0 p1 p2 q0 q1 q2 ew
        generalize y.val = w9 at *
        have hS : (TB ++ IB ++ ⟨#[32]⟩ ++ LB ++ ⟨#[10]⟩ : ByteArray) = ba (T ++ (Lib.itoa (q : Int) ++ 32 :: lineL ch ++ [10])) := bytes_ext (by simp [HIB.out, HLB.out, ← HTB.out, ba])
        have HS := Lib.hid hS
        have hlen : (T ++ (Lib.itoa (q : Int) ++ 32 :: lineL ch ++ [10])).length ≤ 100 + 5000 * K := by
          have e1 := Lib.size_eq IB
          have e2 := Lib.size_eq LB
          rw [HIB.out] at e1
          rw [HLB.out] at e2
          have := HK.out
          rw [List.length_append, List.length_append, List.length_append, List.length_cons]
          simp only [List.length_cons, List.length_nil]
          omega
        have HLN := Lib.hid hlen
        clear hS hlen
        go_wp2_with fail
        go_roundw
        case rel => exact ⟨T ++ (Lib.itoa (q : Int) ++ 32 :: lineL ch ++ [10]), K, by first | rfl | exact congrArg Value.string HS.out, by go_num, hqM, HSP, HLN.out, E9, B9⟩
        case measure => have := HK.out; simp [intOf]; omega
    · have dim : decide ((i : Int) < (m : Int)) = false := decide_eq_false (by omega)
      have hT : T = encL (k, n, l) := by
        have := HT.out
        rw [List.drop_of_length_le (by rw [HL.out]; omega)] at this
        simpa [runsL] using this
      have HT2 := Lib.hid hT
      clear hT
      go_wp2
      go_ret
      exact ⟨ret_txt (by rw [HT2.out]), B6⟩
/-- Whether two traces are the same. -/
def sameT (a b : Tr) : Bool := decide (a = b)
theorem take_eq {l l' : List Ch} {i : Nat} {p q : Ch} (hp : l[i]? = some p) (hq : l'[i]? = some q) (h : l.take i = l'.take i) : l.take (i + 1) = l'.take (i + 1) ↔ p = q := by
  rw [List.take_add_one, List.take_add_one, hp, hq, h]; simp
set_option maxHeartbeats 6400000 in
set_option maxRecDepth 100000 in
theorem same_c (k n k' n' : Int) (A A' : Option Addr) (m c m' c' : Nat) (l l' : List Ch) (w : World) (hr : Chs w w.heap.size A m l) (hr' : Chs w w.heap.size A' m' l') (hm : m ≤ 9223372036854775807) (hm' : m' ≤ 9223372036854775807) :
    Calls Tryd.prog 12 #[trV k n A m c, trV k' n' A' m' c'] w fun e w' => e = .returned (.bool (decide (((k, n, l) : Tr) = (k', n', l')))) ∧ Below w.heap.size w w' := by
  have hl := Chs.len hr
  have hl' := Chs.len hr'
  obtain ⟨R, hR⟩ : ∃ R, decide (((k, n, l) : Tr) = (k', n', l')) = R := ⟨_, rfl⟩
  rw [hR]
  have HR := Lib.hid hR
  have HL := Lib.hid hl
  have HL' := Lib.hid hl'
  clear hR hl hl'
  simp only [trV]
  have hbx : Below w.heap.size w ((w.alloc (.cells #[.int .i64 k, .int .i64 n, .slice A m c] 24)).alloc (.cells #[.int .i64 k', .int .i64 n', .slice A' m' c'] 24)) := by go_grown
  have E0 := (Blk.new w 24 #[.int .i64 k, .int .i64 n, .slice A m c]).alloc (.cells #[.int .i64 k', .int .i64 n', .slice A' m' c'] 24)
  have F0 := Blk.new1 w (.cells #[.int .i64 k, .int .i64 n, .slice A m c] 24) 24 #[.int .i64 k', .int .i64 n', .slice A' m' c']
  obtain ⟨w1, hw1⟩ : ∃ q, (w.alloc (.cells #[.int .i64 k, .int .i64 n, .slice A m c] 24)).alloc (.cells #[.int .i64 k', .int .i64 n', .slice A' m' c'] 24) = q := ⟨_, rfl⟩
  rw [hw1] at E0 F0 hbx
  have x2 := E0.cell 2
  have z2 := F0.cell 2
  have x0 := E0.cell 0
  have z0 := F0.cell 0
  have x1 := E0.cell 1
  have z1 := F0.cell 1
  simp only [List.getElem?_toArray, List.getElem?_cons_zero, List.getElem?_cons_succ] at x0 x1 x2 z0 z1 z2
  by_cases h1 : k = k'
  rotate_left
  · have t1 : (k != k') = true := by simpa using h1
    have HN := Lib.hid (show R = false by rw [← HR.out, decide_eq_false_iff_not]; intro e; cases e; exact h1 rfl)
    clear h1
    go_enter Tryd.func12, Tryd.ntmps12
    go_wp2_with fail
    go_ret
    exact ⟨ret_bool HN.out.symm, by first | exact hbx | go_grown⟩
  subst h1
  have t1 : (k != k) = false := by simp
  by_cases h2 : n = n'
  rotate_left
  · have t2 : (n != n') = true := by simpa using h2
    have HN := Lib.hid (show R = false by rw [← HR.out, decide_eq_false_iff_not]; intro e; cases e; exact h2 rfl)
    clear h2
    go_enter Tryd.func12, Tryd.ntmps12
    go_wp2_with fail
    go_ret
    exact ⟨ret_bool HN.out.symm, by first | exact hbx | go_grown⟩
  subst h2
  have t2 : (n != n) = false := by simp
  by_cases h3 : m = m'
  rotate_left
  · have t3 : ((m : Int) != (m' : Int)) = true := by rw [bne_iff_ne]; omega
    have HN := Lib.hid (show R = false by rw [← HR.out, decide_eq_false_iff_not]; intro e; cases e; have := HL.out; have := HL'.out; omega)
    clear h3
    go_enter Tryd.func12, Tryd.ntmps12
    go_wp2_with fail
    go_ret
    exact ⟨ret_bool HN.out.symm, by first | exact hbx | go_grown⟩
  subst h3
  have t3 : ((m : Int) != (m : Int)) = false := by simp
  go_enter Tryd.func12, Tryd.ntmps12
  go_wp2_with fail
  try rw [hw1]
  clear hw1 x0 x1 x2 z0 z1 z2
  go_loopw [5] (fun iv wr => ∃ i : Nat, iv = .int .i64 i ∧ i ≤ m ∧ Hid (l.take i = l'.take i) ∧ Below w1.heap.size w1 wr) (fun iv _ => m - (intOf iv).toNat)
  case atStart => exact ⟨0, rfl, by omega, Lib.hid (by simp), Below.refl _ _⟩
  case round =>
    obtain ⟨i, rfl, hi, hx, b7⟩ := hrel
    obtain ⟨w7, rfl⟩ : ∃ x : World, x = wr := ⟨_, rfl⟩
    have B7 := hbx.trans (b7.mono hbx.size)
    have x2 := (E0.next b7).cell 2
    have z2 := (F0.next b7).cell 2
    simp only [List.getElem?_toArray, List.getElem?_cons_zero, List.getElem?_cons_succ] at x2 z2
    by_cases him : i < m
    · have dim : decide ((i : Int) < (m : Int)) = true := decide_eq_true (by omega)
      obtain ⟨g, o, p, rfl, hg, hp, y0, y1, y2⟩ := Chs.get (hr.below B7) (k := i) (by omega)
      obtain ⟨g', o', p', rfl, hg', hp', u0, u1, u2⟩ := Chs.get (hr'.below B7) (k := i) (by omega)
      have HST := Lib.hid (take_eq hp hp' hx.out)
      have qe := fun W => ch_ne p p' W
      obtain ⟨EQ, hEQ⟩ : ∃ b, decide (p = p') = b := ⟨_, rfl⟩
      rw [hEQ] at qe
      have HEQ := Lib.hid hEQ
      have him2 : (i : Int) < (m : Int) := by omega
      clear hEQ hp hp'
      cases EQ
      · go_wp2_with fail
        go_quiet (fail)
        have b8 := below_dn B7 nq
        have HN := Lib.hid (show R = false by
          rw [← HR.out, decide_eq_false_iff_not]
          intro e
          cases e
          have := HST.out.1 rfl
          have h2 := HEQ.out
          rw [decide_eq_false_iff_not] at h2
          exact h2 this)
        go_wp2
        go_ret
        exact ⟨ret_bool HN.out.symm, b8⟩
      · go_wp2_with fail
        go_quiet (fail)
        have b8 := below_dn b7 nq
        go_wp2
        go_roundw
        case rel => exact ⟨i + 1, by go_num, by omega, Lib.hid (HST.out.2 (by simpa using HEQ.out)), b8⟩
        case measure => simp [intOf]; omega
    · have dim : decide ((i : Int) < (m : Int)) = false := decide_eq_false (by omega)
      have HN := Lib.hid (show R = true by
        have := hx.out
        rw [List.take_of_length_le (by rw [HL.out]; omega), List.take_of_length_le (by rw [HL'.out]; omega)] at this
        rw [← HR.out, this]; simp)
      go_wp2
      go_ret
      exact ⟨ret_bool HN.out.symm, B7⟩
end TraW
end Go.Proofs.YtooinkhjoppijaaDoor
