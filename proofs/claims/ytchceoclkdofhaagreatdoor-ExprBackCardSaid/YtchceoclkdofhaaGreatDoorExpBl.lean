/- The law of ExprBack walked. Condition: trees that fit; the table of strconv. -/
import Derived.Test.YtchceoclkdofhaaGreatDoorExpHM
import Derived.Test.YtchceoclkdofhaaGreatDoorExpJ
import Derived.Test.YtchceoclkdofhaaGreatDoorExpRt
import Derived.Test.YtchceoclkdofhaaGreatDoorExpTj
import Derived.Test.YtchceoclkdofhaaGreatDoorExpCt
namespace Go.Proofs.YtchceoclkdofhaaGreatDoor
set_option linter.unusedVariables false
set_option linter.unusedSimpArgs false
open Go.RowKit
namespace ExpW
open CalP CalW ExpP ExpT QuoP Tok
theorem own_tks {w : World} {B : Nat} {v : Value} {l : List Tk} (ho : OwnT w B v l) (hm : ∀ t ∈ l, OkT t) : ∃ A c, v = .slice A l.length c ∧ Tks w w.heap.size A l :=
  tks_of ho (own_tc fun t ht => by
    rcases hm t ht with ⟨h1, h2, h3, h4⟩ | ⟨h1, h2, u, hu, h3⟩ | ⟨h1, h2, h3, h4⟩
    · exact ⟨⟨by omega, h4⟩, by rw [h2]; decide⟩
    · refine ⟨by rw [h2]; exact z64, ?_⟩
      have := sig_len u hu
      rw [h3, Lib.size_eq]; simp [baS]; unfold maxLen; omega
    · exact ⟨by rw [h2]; exact z64, by unfold maxLen; omega⟩)
/-- How a round stands. -/
def LpB (N : Nat) (w7 : World) (i : Nat) (wr : World) : Prop := i ≤ N ∧ Below w7.heap.size w7 wr
def BkPost (w : World) (x : Ending) (w' : World) : Prop := x = .returned (.bool true) ∧ Below w.heap.size w w'
set_option maxRecDepth 100000 in
set_option maxHeartbeats 25600000 in
theorem back_c {K : Nat → Prop} (ra : Ex) (ca : List Value) (w : World) (ha : Et w K ra ca) (ht : Tab w) :
    Calls Tryz.prog 5 #[.agg ca.toArray] w (BkPost w) := by
  obtain ⟨wa, hwa⟩ : ∃ z : World, w.alloc (.cells ca.toArray 24) = z := ⟨_, rfl⟩
  have ba : Below w.heap.size w wa := by rw [← hwa]; go_grown
  have xa : Blk wa w.heap.size 24 ca.toArray := by rw [← hwa]; exact Blk.new _ _ _
  have c0 := awake_c wa (ht.bel ba)
  have ea := et_lt (ha.bel ba)
  have hnums := et_nums ha
  have hta := ht.bel ba
  clear ha ht
  have HS1 := Lib.hid (fun (W : World) (h : Below wa.heap.size wa W) => small9_c ra W ca 100 (by omega) (by omega) (ea.bel h))
  have HTK := Lib.hid (fun (W : World) (h : Below wa.heap.size wa W) (hs : shortE ra) (hn : nodesE ra ≤ 100) => tokens_c ra W ca (et_lt (ea.bel h)) hs (by omega))
  have HPR := Lib.hid (fun (W : World) (h : Below wa.heap.size wa W) (hs : shortE ra) (hn : nodesE ra ≤ 100) => print_c ra W ca (et_lt (ea.bel h)) hs (by omega) (hta.bel h))
  have hrm : ∀ (W : World) (h : Below wa.heap.size wa W) (hs : shortE ra), Calls Tryz.prog 17 #[.agg ca.toArray, .int .i64 0] W fun x w' => x = .returned (.bool (rightE ra 0)) ∧ Below W.heap.size W w' := fun W h hs => rmay_c (nodesE ra) ra (Nat.le_refl _) W ca 0 (ea.bel h) hs (by omega)
  have HRM := Lib.hid hrm
  have HM := Lib.hid (fun (W : World) (h : Below wa.heap.size wa W) (hs : shortE ra) => may_c ra W ca (ea.bel h) hs)
  have hrt : ∀ (W : World) (h : Below wa.heap.size wa W) (hr : rightE ra 0 = true) (hn : nodesE ra ≤ 100), Calls Tryz.prog 19 #[.agg ca.toArray, .int .i64 0] W (RTokPost W (tellE ra 0)) := fun W h hr hn => rtokens_c (nodesE ra) ra (Nat.le_refl _) 0 hr 0 _ W ca (ea.bel h) (by have := tell_len ra 0; omega)
  have HRT := Lib.hid hrt
  have hsq : ∀ (z : Ex) (W : World) (cs' : List Value) (K' : Nat → Prop), z = ra → nodesE ra ≤ 100 → Below wa.heap.size wa W → Et W K' z cs' → Calls Tryz.prog 12 #[.agg cs'.toArray, .agg ca.toArray] W fun x w' => x = .returned (.bool true) ∧ Below W.heap.size W w' := by
    intro z W cs' K' hz hn hb hE'
    subst hz
    have := sameq_c (nodesE z) z (Nat.le_refl _) (by omega) z W cs' ca hE' (ea.bel hb)
    rwa [(same_iff z z).2 rfl] at this
  have HSQ := Lib.hid hsq
  have HSA := Lib.hid (fun (h : smallE ra 100 = true) => (show nodesE ra ≤ 100 ∧ shortE ra from ⟨by have := (small_ok h).1; omega, (small_ok h).2⟩))
  have HOKT := Lib.hid (fun (h : rightE ra 0 = true) => tell_ok ra 0 h hnums 0)
  have HPT := Lib.hid (fun (h : rightE ra 0 = true) (y : Ex) (k : Nat) (e : Int) (hp : parseX (tellE ra 0) 0 = (y, k, e)) => parse_tell h hp)
  have HTL := Lib.hid (tell_len ra 0)
  have HPE := Lib.hid (show printE ra = if rightE ra 0 = true then (if 2000 < (joinS (tellE ra 0)).length then .tuple #[.string noB, .int .i64 2] else .tuple #[.string ⟨(joinS (tellE ra 0)).toArray⟩, .int .i64 0]) else .tuple #[.string noB, .int .i64 5] from rfl)
  clear hrm hrt hsq hnums hta
  obtain ⟨k0, k1, k3, k4, A2, k2, c2, rfl⟩ := et_both ea
  clear ea
  generalize printE ra = PE at *
  generalize tellE ra 0 = TL at *
  generalize rightE ra 0 = R at *
  obtain ⟨S1, hS1⟩ : ∃ S, smallE ra 100 = S := ⟨_, rfl⟩
  rw [hS1] at HS1 HSA
  clear hS1
  go_enter Tryz.func5, Tryz.ntmps5
  go_upto_region 1 with fail
  try rw [hwa]
  clear hwa
  go_wp2_with fail
  (with_reducible refine c0.mono ?_)
  clear c0
  rintro x w1 ⟨rfl, b1⟩
  have x1 := xa.next b1
  have B1 := via b1 ba
  clear xa ba
  have c1 := HS1.out w1 b1
  have p0 := x1.cell 0
  have p1 := x1.cell 1
  have p2 := x1.cell 2
  have p3 := x1.cell 3
  have p4 := x1.cell 4
  simp only [List.getElem?_toArray, List.getElem?_cons_zero, List.getElem?_cons_succ] at p0 p1 p2 p3 p4
  cases S1
  · go_wp2_with fail
    (with_reducible refine c1.mono ?_)
    clear c1 p0 p1 p2 p3 p4
    rintro x w2 ⟨rfl, b2⟩
    have B2 := via b2 B1
    go_wp2_with fail
    go_ret
    exact ⟨rfl, B2⟩
  go_wp2_with fail
  (with_reducible refine c1.mono ?_)
  clear c1 p0 p1 p2 p3 p4 HS1
  rintro x w2 ⟨rfl, b2⟩
  have x2 := x1.next b2
  have B2 := via b2 B1
  have a2 := via b2 b1
  clear x1 B1 b1 b2
  have hsa := HSA.out (by first | rfl | trivial)
  have hn := hsa.1
  have hsh := Lib.hid hsa.2
  clear HSA hsa
  have c1 := HTK.out w2 a2 hsh.out hn
  unfold TokensPost at c1
  have p0 := x2.cell 0
  have p1 := x2.cell 1
  have p2 := x2.cell 2
  have p3 := x2.cell 3
  have p4 := x2.cell 4
  simp only [List.getElem?_toArray, List.getElem?_cons_zero, List.getElem?_cons_succ] at p0 p1 p2 p3 p4
  go_wp2_with fail
  (with_reducible refine c1.mono ?_)
  clear c1 p0 p1 p2 p3 p4 HTK
  rintro x w3 ⟨b3, hway⟩
  have x3 := x2.next b3
  have B3 := via b3 B2
  have a3 := via b3 a2
  clear x2 B2 a2 b3
  have c1 := HPR.out w3 a3 hsh.out hn
  clear HPR
  have cm := fun W h => HRM.out W h hsh.out
  have cm2 := fun W h => HM.out W h hsh.out
  have hpe := HPE.out
  clear HRM HM
  have p0 := x3.cell 0
  have p1 := x3.cell 1
  have p2 := x3.cell 2
  have p3 := x3.cell 3
  have p4 := x3.cell 4
  simp only [List.getElem?_toArray, List.getElem?_cons_zero, List.getElem?_cons_succ] at p0 p1 p2 p3 p4
  rcases hway with ⟨rfl, v, rfl, ov⟩ | ⟨rfl, rfl⟩
  rotate_left
  · rw [if_neg (by decide)] at hpe
    subst hpe
    have HCM := Lib.hid cm
    have HCM2 := Lib.hid cm2
    clear cm cm2 HPE
    go_wp2_with fail
    (with_reducible refine c1.mono ?_)
    clear c1 p0 p1 p2 p3 p4
    rintro x w4 ⟨rfl, b4⟩
    have x4 := x3.next b4
    have B4 := via b4 B3
    have a4 := via b4 a3
    have c1 := HCM.out w4 a4
    have p0 := x4.cell 0
    have p1 := x4.cell 1
    have p2 := x4.cell 2
    have p3 := x4.cell 3
    have p4 := x4.cell 4
    simp only [List.getElem?_toArray, List.getElem?_cons_zero, List.getElem?_cons_succ] at p0 p1 p2 p3 p4
    go_wp2_with fail
    (with_reducible refine c1.mono ?_)
    clear c1 p0 p1 p2 p3 p4
    rintro x w5 ⟨rfl, b5⟩
    have x5 := x4.next b5
    have B5 := via b5 B4
    have a5 := via b5 a4
    have c1 := HCM2.out w5 a5
    have p0 := x5.cell 0
    have p1 := x5.cell 1
    have p2 := x5.cell 2
    have p3 := x5.cell 3
    have p4 := x5.cell 4
    simp only [List.getElem?_toArray, List.getElem?_cons_zero, List.getElem?_cons_succ] at p0 p1 p2 p3 p4
    go_wp2_with fail
    (with_reducible refine c1.mono ?_)
    clear c1 p0 p1 p2 p3 p4
    rintro x w6 ⟨rfl, b6⟩
    have B6 := via b6 B5
    go_wp2_with fail
    go_ret
    exact ⟨rfl, B6⟩
  have hok := HOKT.out (by first | rfl | trivial)
  have HOK := Lib.hid hok
  have HCM := Lib.hid cm
  have HCM2 := Lib.hid cm2
  have htl : TL.length ≤ 300 := by have := HTL.out; omega
  rw [if_pos rfl] at hpe
  clear HOKT cm cm2 HPE HTL hok
  -- what Print and Join give
  obtain ⟨JS, je, hjs⟩ : ∃ (JS : ByteArray) (je : Int), (if 2000 < (joinS TL).length then Value.tuple #[.string noB, .int .i64 2] else .tuple #[.string ⟨(joinS TL).toArray⟩, .int .i64 0]) = .tuple #[.string JS, .int .i64 je] := by
    split
    · exact ⟨_, _, rfl⟩
    · exact ⟨_, _, rfl⟩
  rw [hjs] at hpe
  have HJS := Lib.hid hjs
  subst hpe
  clear hjs
  go_wp2_with fail
  (with_reducible refine c1.mono ?_)
  clear c1 p0 p1 p2 p3 p4
  rintro x w4 ⟨rfl, b4⟩
  have x4 := x3.next b4
  have B4 := via b4 B3
  have a4 := via b4 a3
  have o4 := own_bel ov b4
  clear x3 B3 a3 b4 ov
  have c1 := HCM.out w4 a4
  have p0 := x4.cell 0
  have p1 := x4.cell 1
  have p2 := x4.cell 2
  have p3 := x4.cell 3
  have p4 := x4.cell 4
  simp only [List.getElem?_toArray, List.getElem?_cons_zero, List.getElem?_cons_succ] at p0 p1 p2 p3 p4
  go_wp2_with fail
  (with_reducible refine c1.mono ?_)
  clear c1 p0 p1 p2 p3 p4 HCM
  rintro x w5 ⟨rfl, b5⟩
  have x5 := x4.next b5
  have B5 := via b5 B4
  have a5 := via b5 a4
  have o5 := own_bel o4 b5
  clear x4 B4 a4 b5 o4
  have c1 := HRT.out w5 a5 (by first | rfl | trivial) hn
  unfold RTokPost at c1
  have p0 := x5.cell 0
  have p1 := x5.cell 1
  have p2 := x5.cell 2
  have p3 := x5.cell 3
  have p4 := x5.cell 4
  simp only [List.getElem?_toArray, List.getElem?_cons_zero, List.getElem?_cons_succ] at p0 p1 p2 p3 p4
  go_wp2_with fail
  (with_reducible refine c1.mono ?_)
  clear c1 p0 p1 p2 p3 p4 HRT
  rintro x w6 ⟨v6, rfl, r6, b6⟩
  have x6 := x5.next b6
  have B6 := via b6 B5
  have a6 := via b6 a5
  have o6 := own_bel o5 b6
  clear x5 B5 a5 b6 o5
  have c1 := HCM2.out w6 a6
  obtain ⟨A7, c7, rfl, _⟩ := own_cells o6
  obtain ⟨A8, c8, rfl, _⟩ := own_cells r6
  have OT := o6
  have RT := r6
  obtain ⟨N, hN⟩ : ∃ N, TL.length = N := ⟨_, rfl⟩
  have HN := Lib.hid hN
  rw [hN] at htl ⊢
  clear hN o6 r6
  have HO := Lib.hid OT
  have HR := Lib.hid RT
  clear OT RT
  have p0 := x6.cell 0
  have p1 := x6.cell 1
  have p2 := x6.cell 2
  have p3 := x6.cell 3
  have p4 := x6.cell 4
  simp only [List.getElem?_toArray, List.getElem?_cons_zero, List.getElem?_cons_succ] at p0 p1 p2 p3 p4
  have eqN : ((N : Int) != (N : Int)) = false := by simp
  go_wp2_with fail
  (with_reducible refine c1.mono ?_)
  clear c1 p0 p1 p2 p3 p4 HCM2
  rintro x w7 ⟨rfl, b7⟩
  have x7 := x6.next b7
  have B7 := via b7 B6
  have a7 := via b7 a6
  clear x6 B6 a6
  go_wp2_with fail
  go_loopw [73] (fun iv wr => ∃ i : Nat, iv = .int .i64 i ∧ LpB N w7 i wr) (fun iv _ => N - (intOf iv).toNat)
  case atStart => exact ⟨0, rfl, Nat.zero_le _, Below.refl _ _⟩
  case round =>
    obtain ⟨i, rfl, hi, hb⟩ := hrel
    by_cases hlt : i < N
    · have hil : i < TL.length := by have := HN.out; omega
      obtain ⟨A, c, e7, hc7⟩ := own_cells (own_bel (own_bel HO.out b7) hb)
      obtain ⟨A', c', e8, hc8⟩ := own_cells (own_bel (own_bel HR.out b7) hb)
      injection e7 with e7 _ _
      injection e8 with e8 _ _
      subst e7 e8
      obtain ⟨g7, rfl, l7, s7⟩ := hc7 i hil
      obtain ⟨g8, rfl, l8, s8⟩ := hc8 i hil
      obtain ⟨t, htt⟩ : ∃ t, TL[i]'hil = t := ⟨_, rfl⟩
      rw [htt] at s7 s8
      obtain ⟨tk, tw, tn⟩ := t
      clear hc7 hc8 htt
      have m1 : ∀ x : Cls wr, Calls Tryz.prog 20 #[.agg #[.int .i64 tk, .string tw, .int .i64 tn, .slice none 0 0, .int .i64 0], .agg #[.int .i64 tk, .string tw, .int .i64 tn, .slice none 0 0, .int .i64 0]] x.val fun e w'' => e = .returned (.bool true) ∧ ∃ y : Cls wr, w'' = y.val := fun x => call_cls (x := x) (v := .bool true) (tsame_c ⟨tk, tw, tn⟩ x.val)
      have q0 := fun x : Cls wr => (x.ok.cell (p := ⟨g7, i * 5 + 0, none⟩) l7).trans (s7 0 _ rfl)
      have q1 := fun x : Cls wr => (x.ok.cell (p := ⟨g7, i * 5 + 1, none⟩) l7).trans (s7 1 _ rfl)
      have q2 := fun x : Cls wr => (x.ok.cell (p := ⟨g7, i * 5 + 2, none⟩) l7).trans (s7 2 _ rfl)
      have q3 := fun x : Cls wr => (x.ok.cell (p := ⟨g7, i * 5 + 3, none⟩) l7).trans (s7 3 _ rfl)
      have q4 := fun x : Cls wr => (x.ok.cell (p := ⟨g7, i * 5 + 4, none⟩) l7).trans (s7 4 _ rfl)
      have r0 := fun x : Cls wr => (x.ok.cell (p := ⟨g8, i * 5 + 0, none⟩) l8).trans (s8 0 _ rfl)
      have r1 := fun x : Cls wr => (x.ok.cell (p := ⟨g8, i * 5 + 1, none⟩) l8).trans (s8 1 _ rfl)
      have r2 := fun x : Cls wr => (x.ok.cell (p := ⟨g8, i * 5 + 2, none⟩) l8).trans (s8 2 _ rfl)
      have r3 := fun x : Cls wr => (x.ok.cell (p := ⟨g8, i * 5 + 3, none⟩) l8).trans (s8 3 _ rfl)
      have r4 := fun x : Cls wr => (x.ok.cell (p := ⟨g8, i * 5 + 4, none⟩) l8).trans (s8 4 _ rfl)
      dsimp only at q0 q1 q2 q3 q4 r0 r1 r2 r3 r4
      simp only [Nat.add_zero] at q0 r0
      clear s7 s8 x7
      go_upto_region 15 with fail
      go_simp
      refine wp_region_cls (by kernel_rfl) (by kernel_rfl) ?_
      repeat (quiet_step (first
        | (go_at_call 20; with_reducible exact m1 _)))
      refine wpQuiet_nil ?_
      rintro _ ⟨z, rfl⟩
      have hb2 := via z.ok hb
      clear m1 q0 q1 q2 q3 q4 r0 r1 r2 r3 r4
      generalize z.val = w8 at *
      go_wp2_with fail
      go_roundw
      case rel => exact ⟨_, _, _, ⟨i + 1, by go_num, (show LpB N w7 (i + 1) _ from ⟨by omega, hb2⟩)⟩, rfl, rfl, rfl⟩
      case measure => simp [intOf]; omega
    · have x8 := x7.next hb
      have B8 := via hb B7
      have a8 := via hb a7
      have O8 := own_bel (own_bel HO.out b7) hb
      have R8 := own_bel (own_bel HR.out b7) hb
      clear x7 B7 a7 b7 HO HR hb hi
      have cj := rjoin_c (B := w5.heap.size) (.slice A8 N c8) TL wr (by have := HN.out; rw [this] at R8; unfold OwnT; rw [this]; exact R8) HOK.out (by have := HN.out; omega)
      rw [HJS.out] at cj
      have eJ : (JS.toList == JS.toList) = true := by simp
      have eJ2 : (je != je) = false := by simp
      clear R8
      go_wp2_with fail
      (with_reducible refine cj.mono ?_)
      clear cj
      rintro x w9 ⟨rfl, b9⟩
      have x9 := x8.next b9
      have B9 := via b9 B8
      have a9 := via b9 a8
      have O9 := own_bel O8 b9
      clear x8 B8 a8 O8 b9
      obtain ⟨A, c, e7, hT⟩ := own_tks O9 HOK.out
      injection e7 with e7 _ e8
      subst e7 e8
      have cp := parse_c A7 c7 TL 0 w9 hT (by have := HN.out; omega)
      have cq := fun W (h : Below w9.heap.size w9 W) => parseq_c A7 c7 TL 0 W (tks_more (hT.bel h) h.size) (by have := HN.out; omega)
      unfold PaX at cp cq
      rw [HN.out] at cp cq
      have HCQ := Lib.hid cq
      clear cq hT O9
      go_wp2_with fail
      (with_reducible refine cp.mono ?_)
      clear cp
      rintro x w10 ⟨b10, y, cs, k, e, rfl, hE, hp⟩
      have x10 := x9.next b10
      have B10 := via b10 B9
      have a10 := via b10 a9
      have hE2 := et_lt hE
      obtain ⟨w11, hw11⟩ : ∃ z : World, w10.alloc (.cells cs.toArray 24) = z := ⟨_, rfl⟩
      have b11 : Below w10.heap.size w10 w11 := by rw [← hw11]; go_grown
      have y11 : Blk w11 w10.heap.size 24 cs.toArray := by rw [← hw11]; exact Blk.new _ _ _
      have x11 := x10.next b11
      have B11 := via b11 B10
      have a11 := via b11 a10
      have hE11 := hE2.bel b11
      have hb911 := via b11 b10
      clear hE hE2 x10 B10 a10 b11 x9 B9 a9
      have hpt := HPT.out (by first | rfl | trivial) y k e hp
      obtain ⟨z0, z1, z3, z4, A11, z2, c11, rfl⟩ := et_both hE11
      rcases hpt with rfl | ⟨rfl, hk, hy⟩
      · have cq := HCQ.out w11 hb911
        rw [hp] at cq
        clear HCQ HPT hp hE11
        go_upto_region 22 with fail
        try rw [hw11]
        clear hw11
        go_wp2_with fail
        (with_reducible refine cq.mono ?_)
        clear cq
        rintro x w12 ⟨b12, y', cs', k', e', rfl, hE', hp'⟩
        injection hp' with hp1 hp2
        injection hp2 with hp2 hp3
        subst hp2 hp3
        have B12 := via b12 B11
        obtain ⟨u0, u1, u3, u4, A12, u2, c12, rfl⟩ := et_both hE'
        have ekk : ((k : Int) == (k : Int)) = true := by simp
        clear hE' hp1
        go_wp2_with fail
        go_ret
        exact ⟨rfl, B12.alloc B12.size _⟩
      · have cs := HSQ.out y w11 _ _ hy hn a11 hE11
        have hkN : k = N := by have := HN.out; omega
        subst hkN
        have ekk : ((k : Int) == (k : Int)) = true := by simp
        clear HCQ HPT hp hE11 hk hy
        have p0 := x11.cell 0
        have p1 := x11.cell 1
        have p2 := x11.cell 2
        have p3 := x11.cell 3
        have p4 := x11.cell 4
        simp only [List.getElem?_toArray, List.getElem?_cons_zero, List.getElem?_cons_succ] at p0 p1 p2 p3 p4
        have q0 := y11.cell 0
        have q1 := y11.cell 1
        have q2 := y11.cell 2
        have q3 := y11.cell 3
        have q4 := y11.cell 4
        simp only [List.getElem?_toArray, List.getElem?_cons_zero, List.getElem?_cons_succ] at q0 q1 q2 q3 q4
        go_upto_region 22 with fail
        try rw [hw11]
        clear hw11
        go_wp2_with fail
        (with_reducible refine cs.mono ?_)
        clear cs p0 p1 p2 p3 p4 q0 q1 q2 q3 q4
        rintro x w12 ⟨rfl, b12⟩
        have B12 := via b12 B11
        go_wp2_with fail
        go_ret
        exact ⟨rfl, B12⟩
end ExpW
end Go.Proofs.YtchceoclkdofhaaGreatDoor
