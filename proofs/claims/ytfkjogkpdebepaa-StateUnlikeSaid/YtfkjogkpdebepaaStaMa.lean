/- The walks of the laws' Small: variables, sides, an empty code. Conditions: texts that fit. -/
import Derived.Test.YtfkjogkpdebepaaStaE
namespace Go.Proofs.Ytfkjogkpdebepaa
open Go.RowKit
namespace StaM
open StaP StaL StaW StaG StaX StaD StaZ StaE
/-- It answers a truth value; if true, P holds; nothing old is turned. -/
def SmPost (P : Prop) (w : World) (e : Ending) (w' : World) : Prop := ∃ b : Bool, e = .returned (.bool b) ∧ (b = true → P) ∧ Below w.heap.size w w'
theorem sm_no {P : Prop} {w w' : World} (h : Below w.heap.size w w') : SmPost P w (.returned (.bool false)) w' := ⟨false, rfl, fun h => (by cases h), h⟩
theorem sm_yes {P : Prop} {w w' : World} (hp : P) (h : Below w.heap.size w w') : SmPost P w (.returned (.bool true)) w' := ⟨true, rfl, fun _ => hp, h⟩
def VSm (p : MVr) : Prop := p.1.length ≤ 60 ∧ p.2.length ≤ 60
set_option maxHeartbeats 1600000 in
theorem vsmall_c (A : Option Addr) (n c : Nat) (l : List MVr) (w : World) (B : Nat) (hr : Rd w B 2 A n (vcells l)) (hB : B ≤ w.heap.size) (hn : n ≤ 9223372036854775807) :
    Calls Try.prog 48 #[.slice A n c] w (SmPost (l.length ≤ 20 ∧ ∀ p ∈ l, VSm p) w) := by
  have hl := vr_len hr
  have HL := Lib.hid hl
  clear hl
  by_cases h20 : 20 < n
  · have d : decide (20 < (n : Int)) = true := by simp; omega
    go_enter Try.func48, Try.ntmps48
    go_wp2
    go_ret
    exact sm_no (Below.refl _ _)
  have d : decide (20 < (n : Int)) = false := by simp; omega
  go_enter Try.func48, Try.ntmps48
  go_wp2
  go_loopw [10] (fun v wr => ∃ k : Nat, v = .int .i64 k ∧ k ≤ n ∧ Hid (∀ p ∈ l.take k, VSm p) ∧ Below w.heap.size w wr) (fun v _ => n - (intOf v).toNat)
  case atStart => exact ⟨0, rfl, by omega, Lib.hid (by simp), Below.refl _ _⟩
  case round =>
    obtain ⟨k, rfl, hk, HK, hBr⟩ := hrel
    have zB := hBr.size
    by_cases hlt : k < n
    · obtain ⟨g, o, p, rfl, hb, hp, q1, q2⟩ := vr_get (hr.below (hBr.mono hB)) hlt
      have HP := Lib.hid hp
      have s1 := Lib.hid (bz_size p.1)
      have s2 := Lib.hid (bz_size p.2)
      obtain ⟨bn, hbn⟩ : ∃ x, bz p.1 = x := ⟨_, rfl⟩
      obtain ⟨bt, hbt⟩ : ∃ x, bz p.2 = x := ⟨_, rfl⟩
      rw [hbn] at q1 s1
      rw [hbt] at q2 s2
      clear hp hbn hbt
      by_cases h1 : 60 < bn.size
      · have d1 : decide (60 < (bn.size : Int)) = true := by simp; omega
        go_wp2
        go_ret
        exact sm_no (by go_grown)
      have d1 : decide (60 < (bn.size : Int)) = false := by simp; omega
      by_cases h2 : 60 < bt.size
      · have d2 : decide (60 < (bt.size : Int)) = true := by simp; omega
        go_wp2
        go_ret
        exact sm_no (by go_grown)
      have d2 : decide (60 < (bt.size : Int)) = false := by simp; omega
      have AK : Hid (∀ p ∈ l.take (k + 1), VSm p) := Lib.hid (by
        intro q hq
        rw [List.take_add_one, HP.out, List.mem_append] at hq
        rcases hq with hq | hq
        · exact HK.out q hq
        · simp at hq; subst hq; exact ⟨by rw [← s1.out]; omega, by rw [← s2.out]; omega⟩)
      go_wp2
      go_roundw
      case rel => exact ⟨k + 1, by go_num, by omega, AK, by go_grown⟩
      case measure => simp [intOf]; omega
    · obtain rfl : k = n := by omega
      have HA : Hid (l.length ≤ 20 ∧ ∀ p ∈ l, VSm p) := Lib.hid (by
        have h := HK.out
        rw [List.take_of_length_le (by rw [HL.out]; omega)] at h
        exact ⟨by rw [HL.out]; omega, h⟩)
      go_wp2
      go_ret
      exact sm_yes HA.out hBr
theorem csmall_c (w : World) : Calls Try.prog 47 #[.agg #[.slice none 0 0, .slice none 0 0], .slice none 0 0] w fun e w' => e = .returned (.bool true) ∧ Below w.heap.size w w' := by
  go_enter Try.func47, Try.ntmps47
  go_wp2
  refine wp_loop_rounds 1 ?_
  rw [rounds_succ]
  go_wp2
  refine wp_loop_rounds 1 ?_
  rw [rounds_succ]
  go_wp2
  go_ret
  exact ⟨rfl, by go_grown⟩
/-- What a side is that Small lets through. -/
def SSm (m : MSd) : Prop := m.2.2.2.1.length ≤ 100 ∧ (m.2.2.2.2.1.length ≤ 6 ∧ ∀ b ∈ m.2.2.2.2.1, b.length ≤ 60) ∧ m.2.2.2.2.2.1.length ≤ 40 ∧ m.2.2.2.2.2.2.1.length ≤ 40 ∧ m.2.2.2.2.2.2.2.1.length ≤ 100 ∧ m.2.2.2.2.2.2.2.2.length ≤ 100
theorem seven (p1 p2 p3 p4 p5 p6 p7 : Bool) : p1 = true ∨ (p1 = false ∧ p2 = true) ∨ (p1 = false ∧ p2 = false ∧ p3 = true) ∨ (p1 = false ∧ p2 = false ∧ p3 = false ∧ p4 = true) ∨ (p1 = false ∧ p2 = false ∧ p3 = false ∧ p4 = false ∧ p5 = true) ∨
    (p1 = false ∧ p2 = false ∧ p3 = false ∧ p4 = false ∧ p5 = false ∧ p6 = true) ∨ (p1 = false ∧ p2 = false ∧ p3 = false ∧ p4 = false ∧ p5 = false ∧ p6 = false ∧ p7 = true) ∨ (p1 = false ∧ p2 = false ∧ p3 = false ∧ p4 = false ∧ p5 = false ∧ p6 = false ∧ p7 = false) := by
  cases p1 <;> cases p2 <;> cases p3 <;> cases p4 <;> cases p5 <;> cases p6 <;> cases p7 <;> simp
/-- A side as it can be read, without what fits. -/
def SdQ (w : World) (B : Nat) (sd : Sd) (m : MSd) : Prop := ∃ la lc ga gc, sd = mkSd m la lc ga gc ∧ Rd w B 1 la m.2.2.2.2.1.length (strs m.2.2.2.2.1) ∧ Rd w B 1 ga m.2.2.2.2.2.2.1.length (StaU.ints m.2.2.2.2.2.2.1) ∧ m.2.2.2.2.2.2.1.length ≤ gc ∧ m.1.toNat ≤ 7 ∧ I64 m.2.1 ∧ I64 m.2.2.1 ∧ (∀ x ∈ m.2.2.2.2.2.2.1, I64 x)
set_option maxHeartbeats 6400000 in
set_option maxRecDepth 100000 in
theorem ssmall_c (sd : Sd) (m : MSd) (w : World) (B : Nat) (h : SdQ w B sd m) (hB : B ≤ w.heap.size) :
    Calls Try.prog 50 #[sd.v] w (SmPost (SSm m) w) := by
  obtain ⟨la, lc, ga, gc, rfl, hl, hg, hgc, hfl, hp, hk, hag⟩ := h
  obtain ⟨fl, p, k, ty, ls, fy, ag, re, bu⟩ := m
  simp only at hl hg hgc hfl hp hk hag
  have T1 := Lib.hid (bz_size ty)
  have T2 := Lib.hid (bz_size fy)
  have T3 := Lib.hid (bz_size re)
  have T4 := Lib.hid (bz_size bu)
  simp only [mkSd]
  obtain ⟨a, ha⟩ : ∃ a, b0 fl = a := ⟨_, rfl⟩
  obtain ⟨b, hb⟩ : ∃ b, b1 fl = b := ⟨_, rfl⟩
  obtain ⟨c, hc⟩ : ∃ c, b2 fl = c := ⟨_, rfl⟩
  obtain ⟨bty, hty⟩ : ∃ x, bz ty = x := ⟨_, rfl⟩
  obtain ⟨bfy, hfy⟩ : ∃ x, bz fy = x := ⟨_, rfl⟩
  obtain ⟨bre, hre⟩ : ∃ x, bz re = x := ⟨_, rfl⟩
  obtain ⟨bbu, hbu⟩ : ∃ x, bz bu = x := ⟨_, rfl⟩
  obtain ⟨nl, hnl⟩ : ∃ x, ls.length = x := ⟨_, rfl⟩
  obtain ⟨ng, hng⟩ : ∃ x, ag.length = x := ⟨_, rfl⟩
  rw [hty] at T1; rw [hfy] at T2; rw [hre] at T3; rw [hbu] at T4
  rw [ha, hb, hc, hty, hfy, hre, hbu, hnl, hng]
  rw [hnl] at hl; rw [hng] at hg hgc
  have NL := Lib.hid hnl
  have NG := Lib.hid hng
  clear ha hb hc hty hfy hre hbu hnl hng
  rcases seven (decide (100 < (bty.size : Int))) (decide (40 < (bfy.size : Int))) (decide (100 < (bre.size : Int))) (decide (100 < (bbu.size : Int))) (decide (6 < (nl : Int))) (decide (40 < (ng : Int))) (decide ((1152921504606846976 : Int) < k)) with
    d1 | ⟨d1, d2⟩ | ⟨d1, d2, d3⟩ | ⟨d1, d2, d3, d4⟩ | ⟨d1, d2, d3, d4, d5⟩ | ⟨d1, d2, d3, d4, d5, d6⟩ | ⟨d1, d2, d3, d4, d5, d6, d7⟩ | ⟨d1, d2, d3, d4, d5, d6, d7⟩
  rotate_right
  · have e1 : bty.size ≤ 100 := by simp at d1; omega
    have e2 : bfy.size ≤ 40 := by simp at d2; omega
    have e3 : bre.size ≤ 100 := by simp at d3; omega
    have e4 : bbu.size ≤ 100 := by simp at d4; omega
    have e5 : nl ≤ 6 := by simp at d5; omega
    have e6 : ng ≤ 40 := by simp at d6; omega
    go_enter Try.func50, Try.ntmps50
    go_wp2
    have hB0 : Below w.heap.size w (w.alloc (.cells #[.bool a, .bool b, .bool c, .int .i64 p, .int .i64 k, .string bty, .slice la nl lc, .string bfy, .slice ga ng gc, .string bre, .string bbu] 48)) := by go_grown
    obtain ⟨w1, hw1⟩ : ∃ x, w.alloc (.cells #[.bool a, .bool b, .bool c, .int .i64 p, .int .i64 k, .string bty, .slice la nl lc, .string bfy, .slice ga ng gc, .string bre, .string bbu] 48) = x := ⟨_, rfl⟩
    have kb : Blk w1 w.heap.size 48 #[.bool a, .bool b, .bool c, .int .i64 p, .int .i64 k, .string bty, .slice la nl lc, .string bfy, .slice ga ng gc, .string bre, .string bbu] := by rw [← hw1]; exact Blk.new _ _ _
    rw [hw1] at hB0 ⊢
    clear hw1
    have c8 := kb.cell 8
    simp only [List.getElem?_toArray, List.getElem?_cons_zero, List.getElem?_cons_succ] at c8
    have hl1 := hl.below (hB0.mono hB)
    have hg1 := hg.below (hB0.mono hB)
    clear kb hl hg
    go_loop [49] (fun v => ∃ j : Nat, v = .int .i64 j ∧ j ≤ nl ∧ Hid (∀ b ∈ ls.take j, b.length ≤ 60)) (fun v => nl - (intOf v).toNat)
    case atStart => exact ⟨0, rfl, by omega, Lib.hid (by simp)⟩
    case round =>
      obtain ⟨j, rfl, hj, HJ⟩ := hrel
      by_cases hlt : j < nl
      · obtain ⟨ad, o, rfl, hgB, hcell⟩ := Rd.flat hl1 (by omega) (by omega)
        obtain ⟨x, hx⟩ : ∃ x, ls[j]? = some x := ⟨_, List.getElem?_eq_getElem (by rw [NL.out]; exact hlt)⟩
        have q1 : w1.cell? ⟨ad, o + j, none⟩ = some (.string (bz x)) := hcell j _ (by rw [strs, List.getElem?_map, hx]; rfl)
        have S1 := Lib.hid (bz_size x)
        obtain ⟨bx, hbx⟩ : ∃ y, bz x = y := ⟨_, rfl⟩
        rw [hbx] at q1 S1
        have HX := Lib.hid hx
        clear hx hbx hcell
        by_cases h1 : 60 < bx.size
        · have d1 : decide (60 < (bx.size : Int)) = true := by simp; omega
          go_wp2
          go_ret
          exact sm_no hB0
        have d1 : decide (60 < (bx.size : Int)) = false := by simp; omega
        have AK : Hid (∀ p ∈ ls.take (j + 1), p.length ≤ 60) := Lib.hid (by
          intro q hq
          rw [List.take_add_one, HX.out, List.mem_append] at hq
          rcases hq with hq | hq
          · exact HJ.out q hq
          · simp at hq; subst hq; rw [← S1.out]; omega)
        go_wp2
        go_round
        case rel => exact ⟨j + 1, by go_num, by omega, AK⟩
        case measure => simp [intOf]; omega
      · obtain rfl : j = nl := by omega
        have HA : Hid (SSm (fl, p, k, ty, ls, fy, ag, re, bu)) := Lib.hid (by
          have h := HJ.out
          rw [List.take_of_length_le (by rw [NL.out]; omega)] at h
          exact ⟨by rw [← T1.out]; exact e1, ⟨by rw [NL.out]; exact e5, h⟩, by rw [← T2.out]; exact e2, by rw [NG.out]; exact e6, by rw [← T3.out]; exact e3, by rw [← T4.out]; exact e4⟩)
        go_wp2
        go_loop [60] (fun v => ∃ i : Nat, v = .int .i64 i ∧ i ≤ ng) (fun v => ng - (intOf v).toNat)
        case atStart => exact ⟨0, rfl, by omega⟩
        case round =>
          obtain ⟨i, rfl, hi⟩ := hrel
          by_cases hlt : i < ng
          · obtain ⟨ad, o, rfl, hgB, hcell⟩ := Rd.flat hg1 (by omega) (by omega)
            obtain ⟨x, hx⟩ : ∃ x, ag[i]? = some x := ⟨_, List.getElem?_eq_getElem (by rw [NG.out]; exact hlt)⟩
            have q1 : w1.cell? ⟨ad, o + i, none⟩ = some (.int .i64 x) := hcell i _ (by rw [StaU.ints, List.getElem?_map, hx]; rfl)
            clear hx hcell
            by_cases h1 : (1152921504606846976 : Int) < x
            · have d1 : decide ((1152921504606846976 : Int) < x) = true := by simpa using h1
              go_wp2
              go_ret
              exact sm_no hB0
            have d1 : decide ((1152921504606846976 : Int) < x) = false := by simpa using h1
            go_wp2
            go_round
            case rel => exact ⟨i + 1, by go_num, by omega⟩
            case measure => simp [intOf]; omega
          · obtain rfl : i = ng := by omega
            go_wp2
            go_ret
            exact sm_yes HA.out hB0
  all_goals
    go_enter Try.func50, Try.ntmps50
    go_wp2
    go_ret
    exact sm_no (by go_grown)
/-- A node as it can be read, without what fits. -/
def OkQ (m : MNd) : Prop := I64 m.1 ∧ I64 m.2.1 ∧ I64 m.2.2.1 ∧ I64 m.2.2.2.1 ∧ I64 m.2.2.2.2.1 ∧ I64 m.2.2.2.2.2.1 ∧ I64 m.2.2.2.2.2.2.1 ∧ m.2.2.2.2.2.2.2.1.length ≤ 9223372036854775807 ∧ m.2.2.2.2.2.2.2.2.1.length = 10 ∧
  (m.2.2.2.2.2.2.2.2.2.1.length ≤ 9223372036854775807 ∧ ∀ b ∈ m.2.2.2.2.2.2.2.2.2.1, I64 b) ∧ (m.2.2.2.2.2.2.2.2.2.2.1.length ≤ 9223372036854775807 ∧ ∀ b ∈ m.2.2.2.2.2.2.2.2.2.2.1, I64 b) ∧ (m.2.2.2.2.2.2.2.2.2.2.2.1.length ≤ 9223372036854775807 ∧ ∀ b ∈ m.2.2.2.2.2.2.2.2.2.2.2.1, I64 b) ∧ m.2.2.2.2.2.2.2.2.2.2.2.2.length ≤ 9223372036854775807
def SdsQ (w : World) (B : Nat) (ds : List Sd) (l : List MSd) : Prop := ds.length = l.length ∧ ∀ (k : Nat) (d : Sd) (m : MSd), ds[k]? = some d → l[k]? = some m → SdQ w B d m
def CfQ (w : World) (B : Nat) (m : MNd) (a1 a2 a3 a4 a5 : Option Addr) (ds : List Sd) : Prop := OkQ m ∧
  Rd w B 2 a1 m.2.2.2.2.2.2.2.1.length (vcells m.2.2.2.2.2.2.2.1) ∧ Rd w B 1 a2 m.2.2.2.2.2.2.2.2.2.1.length (StaG.ints m.2.2.2.2.2.2.2.2.2.1) ∧ Rd w B 1 a3 m.2.2.2.2.2.2.2.2.2.2.1.length (StaG.ints m.2.2.2.2.2.2.2.2.2.2.1) ∧
  Rd w B 1 a4 m.2.2.2.2.2.2.2.2.2.2.2.1.length (StaG.ints m.2.2.2.2.2.2.2.2.2.2.2.1) ∧ Rd w B 11 a5 m.2.2.2.2.2.2.2.2.2.2.2.2.length (scells ds) ∧ SdsQ w B ds m.2.2.2.2.2.2.2.2.2.2.2.2
def NdQ (w : World) (B : Nat) (cs : Array Value) (m : MNd) : Prop := ∃ a1 c1 a2 c2 a3 c3 a4 c4 a5 c5 ds, cs = ndArr m a1 c1 a2 c2 a3 c3 a4 c4 a5 c5 ∧ CfQ w B m a1 a2 a3 a4 a5 ds
theorem SdQ.below {w w' : World} {B : Nat} {d : Sd} {m : MSd} (h : SdQ w B d m) (hb : Below B w w') : SdQ w' B d m := by
  obtain ⟨la, lc, ga, gc, e, h1, h2, h3⟩ := h
  exact ⟨la, lc, ga, gc, e, h1.below hb, h2.below hb, h3⟩
theorem SdQ.more {w : World} {B B' : Nat} {d : Sd} {m : MSd} (h : SdQ w B d m) (hb : B ≤ B') : SdQ w B' d m := by
  obtain ⟨la, lc, ga, gc, e, h1, h2, h3⟩ := h
  exact ⟨la, lc, ga, gc, e, h1.more hb, h2.more hb, h3⟩
theorem CfQ.below {w w' : World} {B : Nat} {m : MNd} {a1 a2 a3 a4 a5 : Option Addr} {ds : List Sd} (h : CfQ w B m a1 a2 a3 a4 a5 ds) (hb : Below B w w') : CfQ w' B m a1 a2 a3 a4 a5 ds := by
  obtain ⟨ok, h1, h2, h3, h4, h5, h6, h7⟩ := h
  exact ⟨ok, h1.below hb, h2.below hb, h3.below hb, h4.below hb, h5.below hb, h6, fun k d m hd hm => (h7 k d m hd hm).below hb⟩
theorem CfQ.more {w : World} {B B' : Nat} {m : MNd} {a1 a2 a3 a4 a5 : Option Addr} {ds : List Sd} (h : CfQ w B m a1 a2 a3 a4 a5 ds) (hb : B ≤ B') : CfQ w B' m a1 a2 a3 a4 a5 ds := by
  obtain ⟨ok, h1, h2, h3, h4, h5, h6, h7⟩ := h
  exact ⟨ok, h1.more hb, h2.more hb, h3.more hb, h4.more hb, h5.more hb, h6, fun k d m hd hm => (h7 k d m hd hm).more hb⟩
theorem NdQ.below {w w' : World} {B : Nat} {cs : Array Value} {m : MNd} (h : NdQ w B cs m) (hb : Below B w w') : NdQ w' B cs m := by
  obtain ⟨a1, c1, a2, c2, a3, c3, a4, c4, a5, c5, ds, e, h⟩ := h
  exact ⟨a1, c1, a2, c2, a3, c3, a4, c4, a5, c5, ds, e, h.below hb⟩
theorem NdQ.more {w : World} {B B' : Nat} {cs : Array Value} {m : MNd} (h : NdQ w B cs m) (hb : B ≤ B') : NdQ w B' cs m := by
  obtain ⟨a1, c1, a2, c2, a3, c3, a4, c4, a5, c5, ds, e, h⟩ := h
  exact ⟨a1, c1, a2, c2, a3, c3, a4, c4, a5, c5, ds, e, h.more hb⟩
/-- What a node is that Small lets through. -/
def CSm (m : MNd) : Prop := (m.2.2.2.2.2.2.2.1.length ≤ 20 ∧ ∀ p ∈ m.2.2.2.2.2.2.2.1, VSm p) ∧ m.2.2.2.2.2.2.2.2.2.1.length ≤ 9 ∧ m.2.2.2.2.2.2.2.2.2.2.2.2.length ≤ 9 ∧ ∀ s ∈ m.2.2.2.2.2.2.2.2.2.2.2.2, SSm s
def NSm (m : MNd) : Prop := CSm m ∧ m.2.2.2.2.2.2.2.2.2.2.1.length ≤ 12 ∧ m.2.2.2.2.2.2.2.2.2.2.2.1.length ≤ 12 ∧ ∀ b ∈ m.2.2.2.2.2.2.2.2.1, b.length ≤ 100
theorem nd_ok {w : World} {B : Nat} {cs : Array Value} {m : MNd} (h : NdQ w B cs m) (hs : NSm m) : NdR w B cs m := by
  obtain ⟨a1, c1, a2, c2, a3, c3, a4, c4, a5, c5, ds, e, ⟨o1, o2, o3, o4, o5, o6, o7, o8, o9, o10, o11, o12, o13⟩, h1, h2, h3, h4, h5, h6, h7⟩ := h
  obtain ⟨⟨⟨s1, s2⟩, s3, s5, s6⟩, s4, s4', s7⟩ := hs
  have key : ∀ (k : Nat) (d : Sd) (x : MSd), ds[k]? = some d → m.2.2.2.2.2.2.2.2.2.2.2.2[k]? = some x → SdR w B d x := by
    intro k d x hd hx
    obtain ⟨la, lc, ga, gc, e, g1, g2, g3, g4, g5, g6, g7⟩ := h7 k d x hd hx
    obtain ⟨t1, ⟨t2, t3⟩, t4, t5, t6, t7⟩ := s6 x (List.mem_of_getElem? hx)
    exact ⟨la, lc, ga, gc, e, g1, g2, g3, g4, g5, g6, by omega, ⟨by omega, fun b hb => by have := t3 b hb; omega⟩, by omega, ⟨by omega, g7⟩, by omega, by omega⟩
  refine ⟨a1, c1, a2, c2, a3, c3, a4, c4, a5, c5, ds, e, ⟨o1, o2, o3, o4, o5, o6, o7, ⟨by omega, fun b hb => by have := s2 b hb; exact ⟨by have := this.1; omega, by have := this.2; omega⟩⟩, ⟨o9, fun b hb => by have := s7 b hb; omega⟩, ⟨by omega, o10.2⟩, ⟨by omega, o11.2⟩, ⟨by omega, o12.2⟩, ⟨by omega, fun x hx => ?_⟩⟩, h1, h2, h3, h4, h5, h6, key⟩
  obtain ⟨k, hk⟩ := List.getElem?_of_mem hx
  have hkl := (List.getElem?_eq_some_iff.1 hk).1
  obtain ⟨_, _, _, _, _, _, _, _, ok⟩ := key k (ds[k]'(by omega)) x (List.getElem?_eq_getElem (by omega)) hk
  exact ok
end StaM
end Go.Proofs.Ytfkjogkpdebepaa
