/- The walks of the reference's May, of Get, of its reference, of Same and Small. Conditions: lists that fit. -/
import Derived.Test.YtfhnocelmpnjgaaMemW
namespace Go.Proofs.Ytfhnocelmpnjgaa
open Go.RowKit
namespace MemW
open QuoW MemP
set_option maxHeartbeats 1600000 in
theorem rmay_c (A : Option Addr) (n c : Nat) (l : List Vr) (w : World) (hr : Vrs w w.heap.size A n l) (hf : FitV l) (hn : n ≤ 4611686018427387904) :
    Calls Try.prog 9 #[.slice A n c] w fun e w' => e = .returned (.bool (mayB l)) ∧ Below w.heap.size w w' := by
  have hl := Vrs.len hr
  obtain ⟨r, hR⟩ : ∃ r, mayB l = r := ⟨_, rfl⟩
  have HR := Lib.hid hR
  rw [hR]
  clear hR
  have HF := Lib.hid hf
  clear hf
  go_enter Try.func9, Try.ntmps9
  go_wp2
  go_loopw [3] (fun v wr => ∃ k : Nat, v = .int .i64 k ∧ k ≤ n ∧ Hid (okTo l k = true) ∧ Below w.heap.size w wr) (fun v _ => n - (intOf v).toNat)
  case atStart => exact ⟨0, rfl, by omega, rfl, Below.refl _ _⟩
  case round =>
    obtain ⟨k, rfl, hk, hx, hB⟩ := hrel
    have zB := hB.size
    by_cases hlt : k < n
    · obtain ⟨g, o, ⟨nm, tx⟩, rfl, hb, hp, q1, q2⟩ := Vrs.get (hr.below hB) hlt
      have fm := HF.out _ (List.mem_of_getElem? hp)
      simp only at q1 q2 fm
      have cn := fun W => rnm_c nm W fm.1
      have NO := Lib.hid (fun h : okAt l k = false => may_no (by omega) h)
      have OK := Lib.hid (okTo_succ l k)
      cases ha : nmB nm
      · rw [ha] at cn
        have hz : Hid (okAt l k = false) := Lib.hid (by unfold okAt; rw [hp]; simp [goodB, ha])
        clear ha hp
        go_wp2_with fail
        go_quiet (first | (with_reducible exact quiet_w (fun m => cn _)))
        go_wp2_with fail
        go_ret
        exact ⟨by rw [← HR.out, NO.out hz.out]; rfl, below_dn (hB) _⟩
      · rw [ha] at cn
        cases hs : decide (32 < (tx.size : Int))
        rotate_left
        · have hz : Hid (okAt l k = false) := Lib.hid (by unfold okAt; rw [hp]; simp at hs; simp [goodB, ha]; omega)
          clear ha hp
          go_wp2_with fail
          go_quiet (first | (with_reducible exact quiet_w (fun m => cn _)))
          go_wp2_with fail
          go_ret
          exact ⟨by rw [← HR.out, NO.out hz.out]; rfl, below_dn (hB) _⟩
        · have hs2 : tx.size ≤ 32 := by simp at hs; omega
          by_cases hk0 : k = 0
          · have hz : Hid (okAt l k = true) := Lib.hid (by subst hk0; unfold okAt; rw [hp]; simp [goodB, ha, hs2])
            have hj : decide (0 < k) = false := by simp; omega
            clear ha hp hs2 hk0
            go_wp2_with fail
            go_quiet (first | (with_reducible exact quiet_w (fun m => cn _)))
            go_wp2_with fail
            go_roundw
            case rel => exact ⟨k + 1, by go_num, by omega, by show _ = true; rw [OK.out, hx.out, hz.out]; rfl, below_dn (hB) _⟩
            case measure => simp [intOf]; omega
          · obtain ⟨j, hkj⟩ : ∃ j, k = j + 1 := ⟨k - 1, by omega⟩
            obtain ⟨g', o', ⟨nq, tq⟩, he, hb', hp', q1', q2'⟩ := Vrs.get (k := j) (hr.below hB) (by omega)
            cases he
            simp only at q1' q2'
            have hle := leq_lt nm nq
            have hj : decide (0 < k) = true := by simp; omega
            have e1 : IntKind.i64.wrap ((k : Int) - 1) = (j : Int) := by rw [IntKind.wrap_i64]; omega
            have hjn : j < n := by omega
            have hbw : g < wr.heap.size := by omega
            cases hq : lt nq nm
            · have hz : Hid (okAt l k = false) := Lib.hid (by subst hkj; unfold okAt; rw [hp]; simp only [hp']; simp [goodB, ha, hs2]; exact hq)
              rw [hq] at hle
              clear ha hp hs2 hp' hq hkj hk0
              go_wp2_with fail
              go_quiet (first | (with_reducible exact quiet_w (fun m => cn _)))
              go_wp2_with fail
              go_ret
              exact ⟨by rw [← HR.out, NO.out hz.out]; rfl, below_dn (hB) _⟩
            · have hz : Hid (okAt l k = true) := Lib.hid (by subst hkj; unfold okAt; rw [hp]; simp only [hp']; simp [goodB, ha, hs2]; exact hq)
              rw [hq] at hle
              clear ha hp hs2 hp' hq hkj hk0
              go_wp2_with fail
              go_quiet (first | (with_reducible exact quiet_w (fun m => cn _)))
              go_wp2_with fail
              go_roundw
              case rel => exact ⟨k + 1, by go_num, by omega, by show _ = true; rw [OK.out, hx.out, hz.out]; rfl, below_dn (hB) _⟩
              case measure => simp [intOf]; omega
    · obtain rfl : k = n := by omega
      go_wp2
      go_ret
      refine ⟨?_, hB⟩
      rw [← HR.out]
      unfold mayB
      have := hx.out
      rw [hl, this]
      refine ret_bool ?_
      rw [Bool.eq_iff_iff]; simp; omega
/-- What Get tells. -/
def GetPost (l : List Vr) (nm : ByteArray) (w : World) (e : Ending) (w' : World) : Prop :=
  e = .returned (.tuple #[.string ((getV l nm).getD ByteArray.empty), .bool (getV l nm).isSome]) ∧ Below w.heap.size w w'
theorem get_take : ∀ (l : List Vr) (nm : ByteArray) (k : Nat) (p : Vr), l[k]? = some p → getV (l.take k) nm = none → getV (l.take (k + 1)) nm = if eq p.1 nm = true then some p.2 else none := by
  intro l nm k p hp h
  have e : l.take (k + 1) = l.take k ++ [p] := by rw [List.take_add_one, hp]; rfl
  rw [e, get_app, h]
  simp [getV]
theorem get_hit (l : List Vr) (nm : ByteArray) (k : Nat) (v : ByteArray) (h : getV (l.take k) nm = some v) : getV l nm = some v := by
  have e : l = l.take k ++ l.drop k := (List.take_append_drop k l).symm
  rw [e, get_app, h]; rfl
set_option maxHeartbeats 800000 in
theorem get_c (A : Option Addr) (n c : Nat) (l : List Vr) (nm : ByteArray) (w : World) (hr : Vrs w w.heap.size A n l) (hn : n ≤ 4611686018427387904) :
    Calls Try.prog 8 #[.slice A n c, .string nm] w (GetPost l nm w) := by
  have hl := Vrs.len hr
  go_enter Try.func8, Try.ntmps8
  go_wp2
  go_loopw [10] (fun v wr => ∃ k : Nat, v = .int .i64 k ∧ k ≤ n ∧ Hid (getV (l.take k) nm = none) ∧ Below w.heap.size w wr) (fun v _ => n - (intOf v).toNat)
  case atStart => exact ⟨0, rfl, by omega, rfl, Below.refl _ _⟩
  case round =>
    obtain ⟨k, rfl, hk, hx, hB⟩ := hrel
    have zB := hB.size
    by_cases hlt : k < n
    · obtain ⟨g, o, ⟨a, v⟩, rfl, hb, hp, q1, q2⟩ := Vrs.get (hr.below hB) hlt
      simp only at q1 q2
      have ST := Lib.hid (get_take l nm k _ hp hx.out)
      clear hp
      cases he : (a.toList == nm.toList)
      · go_wp2
        go_roundw
        case rel => exact ⟨k + 1, by go_num, by omega, by show _ = none; rw [ST.out]; exact if_neg (by rw [show eq a nm = false from he]; decide), by first | exact hB | go_grown⟩
        case measure => simp [intOf]; omega
      · go_wp2
        have HT := Lib.hid (get_hit l nm (k + 1) v (by rw [ST.out]; exact if_pos he))
        first | go_ret2 | go_quiet (fail)
        exact ⟨by rw [HT.out]; rfl, by first | exact hB | go_grown⟩
    · obtain rfl : k = n := by omega
      have ha := hx.out
      rw [List.take_of_length_le (by omega)] at ha
      have HA := Lib.hid ha
      clear ha
      go_wp2
      go_ret2
      exact ⟨by rw [HA.out]; rfl, hB⟩
set_option maxHeartbeats 800000 in
theorem rget_c (A : Option Addr) (n c : Nat) (l : List Vr) (nm : ByteArray) (w : World) (hr : Vrs w w.heap.size A n l) (hn : n ≤ 4611686018427387904) :
    Calls Try.prog 12 #[.slice A n c, .string nm] w (GetPost l nm w) := by
  have hl := Vrs.len hr
  go_enter Try.func12, Try.ntmps12
  go_wp2
  go_loopw [6] (fun v wr => ∃ k : Nat, v = .int .i64 k ∧ k ≤ n ∧ Hid (getV (l.take k) nm = none) ∧ Below w.heap.size w wr) (fun v _ => n - (intOf v).toNat)
  case atStart => exact ⟨0, rfl, by omega, rfl, Below.refl _ _⟩
  case round =>
    obtain ⟨k, rfl, hk, hx, hB⟩ := hrel
    have zB := hB.size
    by_cases hlt : k < n
    · obtain ⟨g, o, ⟨a, v⟩, rfl, hb, hp, q1, q2⟩ := Vrs.get (hr.below hB) hlt
      simp only at q1 q2
      have ST := Lib.hid (get_take l nm k _ hp hx.out)
      clear hp
      cases he : (a.toList == nm.toList)
      · go_wp2
        go_roundw
        case rel => exact ⟨k + 1, by go_num, by omega, by show _ = none; rw [ST.out]; exact if_neg (by rw [show eq a nm = false from he]; decide), by first | exact hB | go_grown⟩
        case measure => simp [intOf]; omega
      · go_wp2
        have HT := Lib.hid (get_hit l nm (k + 1) v (by rw [ST.out]; exact if_pos he))
        first | go_ret2 | go_quiet (fail)
        exact ⟨by rw [HT.out]; rfl, by first | exact hB | go_grown⟩
    · obtain rfl : k = n := by omega
      have ha := hx.out
      rw [List.take_of_length_le (by omega)] at ha
      have HA := Lib.hid ha
      clear ha
      go_wp2
      go_ret2
      exact ⟨by rw [HA.out]; rfl, hB⟩
/-- Texts that can be. -/
def FitW (l : List Vr) : Prop := ∀ p ∈ l, p.1.size ≤ 9223372036854775807 ∧ p.2.size ≤ 9223372036854775807
def smallV (l : List Vr) : Bool := decide (l.length ≤ 20) && l.all fun p => decide (p.1.size ≤ 60) && decide (p.2.size ≤ 60)
theorem small_no {l : List Vr} {k : Nat} {p : Vr} (hp : l[k]? = some p) (h : 60 < p.1.size ∨ 60 < p.2.size) : smallV l = false := by
  unfold smallV
  rw [Bool.and_eq_false_iff]; right
  rw [List.all_eq_false]
  refine ⟨p, List.mem_of_getElem? hp, ?_⟩
  simp; omega
theorem all_take (l : List Vr) (f : Vr → Bool) (k : Nat) (p : Vr) (hp : l[k]? = some p) : (l.take (k + 1)).all f = ((l.take k).all f && f p) := by
  rw [List.take_add_one, hp]; simp
set_option maxHeartbeats 800000 in
theorem small_c (A : Option Addr) (n c : Nat) (l : List Vr) (w : World) (hr : Vrs w w.heap.size A n l) (hn : n ≤ 9223372036854775807) (hf : FitW l) :
    Calls Try.prog 10 #[.slice A n c] w fun e w' => e = .returned (.bool (smallV l)) ∧ Below w.heap.size w w' := by
  have hl := Vrs.len hr
  obtain ⟨r, hR⟩ : ∃ r, smallV l = r := ⟨_, rfl⟩
  have HR := Lib.hid hR
  rw [hR]
  clear hR
  have HF := Lib.hid hf
  clear hf
  by_cases h20 : 20 < n
  · have d : decide ((20 : Int) < (n : Int)) = true := by simp; omega
    have hz : Hid (smallV l = false) := Lib.hid (by unfold smallV; rw [Bool.and_eq_false_iff]; left; simp; omega)
    go_enter Try.func10, Try.ntmps10
    go_wp2
    go_ret
    exact ⟨by rw [← HR.out, hz.out]; rfl, Below.refl _ _⟩
  · have d : decide ((20 : Int) < (n : Int)) = false := by simp; omega
    go_enter Try.func10, Try.ntmps10
    go_wp2
    clear d
    go_loopw [10] (fun v wr => ∃ k : Nat, v = .int .i64 k ∧ k ≤ n ∧ Hid ((l.take k).all (fun p => decide (p.1.size ≤ 60) && decide (p.2.size ≤ 60)) = true) ∧ Below w.heap.size w wr) (fun v _ => n - (intOf v).toNat)
    case atStart => exact ⟨0, rfl, by omega, rfl, Below.refl _ _⟩
    case round =>
      obtain ⟨k, rfl, hk, hx, hB⟩ := hrel
      have zB := hB.size
      by_cases hlt : k < n
      · obtain ⟨g, o, ⟨a, v⟩, rfl, hb, hp, q1, q2⟩ := Vrs.get (hr.below hB) hlt
        simp only at q1 q2
        have NO := Lib.hid (small_no hp)
        have ST := Lib.hid (all_take l (fun p => decide (p.1.size ≤ 60) && decide (p.2.size ≤ 60)) k _ hp)
        have fm := HF.out _ (List.mem_of_getElem? hp)
        simp only at fm
        clear hp
        by_cases ha : 60 < a.size
        · have d1 : decide ((60 : Int) < (a.size : Int)) = true := by simp; omega
          go_wp2
          go_ret
          exact ⟨by rw [← HR.out, NO.out (Or.inl ha)]; rfl, by go_grown⟩
        · have d1 : decide ((60 : Int) < (a.size : Int)) = false := by simp; omega
          by_cases hv : 60 < v.size
          · have d2 : decide ((60 : Int) < (v.size : Int)) = true := by simp; omega
            go_wp2
            go_ret
            exact ⟨by rw [← HR.out, NO.out (Or.inr hv)]; rfl, by go_grown⟩
          · have d2 : decide ((60 : Int) < (v.size : Int)) = false := by simp; omega
            go_wp2
            go_roundw
            case rel => exact ⟨k + 1, by go_num, by omega, by show _ = true; rw [ST.out, hx.out]; simp; omega, by go_grown⟩
            case measure => simp [intOf]; omega
      · obtain rfl : k = n := by omega
        have hx2 := hx.out
        rw [List.take_of_length_le (by omega)] at hx2
        have HX := Lib.hid hx2
        clear hx2
        go_wp2
        go_ret
        exact ⟨by rw [← HR.out]; unfold smallV; rw [HX.out]; refine ret_bool ?_; simp; omega, hB⟩
theorem var_ne (x y x' y' : ByteArray) (w : World) : (binOp .neq 25 (.agg #[.string x, .string y]) (.agg #[.string x', .string y'])).run Try.prog w = .ok (.bool (!(x.toList == x'.toList && y.toList == y'.toList))) w := by
  have u := Try.underlying9
  have hS : Try.prog.underlying 25 = some (.struct (Try.prog.fieldsOf 25)) := by kernel_rfl
  rw [run_neq_struct, show (10000 : Nat) = 9998 + 1 + 1 from rfl, run_equalIn_agg w (9998 + 1) 25 _ _ hS (by kernel_rfl)]
  simp only [Program.fieldsOf, Try.underlying25]
  go_simp
  by_cases h1 : x.toList = x'.toList <;> by_cases h2 : y.toList = y'.toList <;> simp [h1, h2]
theorem pair_eq (p q : Vr) : (p.1.toList == q.1.toList && p.2.toList == q.2.toList) = decide (p = q) := by
  have h1 := eq_iff p.1 q.1
  have h2 := eq_iff p.2 q.2
  rw [Bool.eq_iff_iff, Bool.and_eq_true]
  unfold eq at h1 h2
  rw [h1, h2, decide_eq_true_eq]
  exact ⟨fun h => Prod.ext h.1 h.2, fun h => by rw [h]; exact ⟨rfl, rfl⟩⟩
set_option maxHeartbeats 1600000 in
theorem same_c (A A' : Option Addr) (n c n' c' : Nat) (l l' : List Vr) (w : World) (B : Nat) (hr : Vrs w B A n l) (hr' : Vrs w B A' n' l') (hn : n ≤ 4611686018427387904) (hn' : n' ≤ 4611686018427387904) :
    Calls Try.prog 7 #[.slice A n c, .slice A' n' c'] w fun e w' => e = .returned (.bool (decide (l = l'))) ∧ Below w.heap.size w w' := by
  have hl := Vrs.len hr
  have hl' := Vrs.len hr'
  obtain ⟨r, hR⟩ : ∃ r, decide (l = l') = r := ⟨_, rfl⟩
  have HR := Lib.hid hR
  rw [hR]
  clear hR
  by_cases hnn : n = n'
  rotate_left
  · have d : ((n : Int) == (n' : Int)) = false := by rw [beq_eq_false_iff_ne]; omega
    have d1 : ((n : Int) != (n' : Int)) = true := by simp [bne, d]
    go_enter Try.func7, Try.ntmps7
    go_wp2
    go_ret
    refine ⟨?_, Below.refl _ _⟩
    rw [← HR.out, show decide (l = l') = false by rw [decide_eq_false_iff_not]; intro e; rw [e] at hl; omega]; rfl
  subst hnn
  go_enter Try.func7, Try.ntmps7
  go_wp2
  go_loopw [5] (fun v wr => ∃ k : Nat, v = .int .i64 k ∧ k ≤ n ∧ Hid (l.take k = l'.take k) ∧ ∃ m, wr = w.drewN m) (fun v _ => n - (intOf v).toNat)
  case atStart => exact ⟨0, rfl, by omega, rfl, 0, rfl⟩
  case round =>
    obtain ⟨k, rfl, hk, HK, m, rfl⟩ := hrel
    by_cases hlt : k < n
    · obtain ⟨g, o, p, rfl, hg, hp, q1, q2⟩ := Vrs.get hr hlt
      obtain ⟨g', o', p', rfl, hg', hp', q1', q2'⟩ := Vrs.get hr' hlt
      generalize hw : w.drewN m = wd
      have q1 : wd.cell? ⟨g, o + k * 2, none⟩ = some (.string p.1) := by subst hw; exact q1
      have q2 : wd.cell? ⟨g, o + k * 2 + 1, none⟩ = some (.string p.2) := by subst hw; exact q2
      have q1' : wd.cell? ⟨g', o' + k * 2, none⟩ = some (.string p'.1) := by subst hw; exact q1'
      have q2' : wd.cell? ⟨g', o' + k * 2 + 1, none⟩ = some (.string p'.2) := by subst hw; exact q2'
      have hne := fun W => var_ne p.1 p.2 p'.1 p'.2 W
      rw [pair_eq] at hne
      cases he : decide (p = p')
      · rw [he] at hne
        have NE : Hid (decide (l = l') = false) := Lib.hid (by
          rw [decide_eq_false_iff_not]; intro e; subst e; rw [hp] at hp'; injection hp' with e; exact (of_decide_eq_false he) e)
        go_wp2_with fail
        go_quiet (fail)
        go_wp2_with fail
        go_ret
        refine ⟨by rw [← HR.out, NE.out]; rfl, ?_⟩
        subst hw
        exact below_dn (below_dn (Below.refl _ _) _) _
      · rw [he] at hne
        have EQ : Hid (l.take (k + 1) = l'.take (k + 1)) := Lib.hid (by
          rw [List.take_add_one, List.take_add_one, HK.out, hp, hp', of_decide_eq_true he])
        go_wp2_with fail
        go_quiet (fail)
        go_wp2_with fail
        go_roundw
        case rel => exact ⟨k + 1, by go_num, by omega, EQ, m + nq, by subst hw; simp [World.drewN, Nat.add_assoc]⟩
        case measure => simp [intOf]; omega
    · obtain rfl : k = n := by omega
      go_wp2
      go_ret
      refine ⟨?_, below_dn (Below.refl _ _) _⟩
      have ha := HK.out
      rw [List.take_of_length_le (by omega), List.take_of_length_le (by omega)] at ha
      rw [← HR.out, ha]; simp
def shortV (s : ByteArray) : ByteArray := if s.size ≤ 32 then s else s.extract 0 32
set_option maxHeartbeats 800000 in
theorem short_c (s : ByteArray) (w : World) (hs : s.size ≤ 60) : Calls Try.prog 16 #[.string s] w fun e w' => e = .returned (.string (shortV s)) ∧ w = w' := by
  by_cases h : s.size ≤ 32
  · have hr : shortV s = s := by unfold shortV; rw [if_pos h]
    rw [hr]
    clear hr
    go_enter Try.func16, Try.ntmps16
    go_wp2
    go_ret
    exact ⟨rfl, rfl⟩
  · have hr : shortV s = s.extract 0 32 := by unfold shortV; rw [if_neg h]
    rw [hr]
    clear hr
    go_enter Try.func16, Try.ntmps16
    go_wp2
    go_ret
    exact ⟨rfl, rfl⟩
set_option maxHeartbeats 800000 in
theorem rshort_c (s : ByteArray) (w : World) (hs : s.size ≤ 60) : Calls Try.prog 17 #[.string s] w fun e w' => e = .returned (.string (shortV s)) ∧ w = w' := by
  by_cases h : s.size ≤ 32
  · have hr : shortV s = s := by unfold shortV; rw [if_pos h]
    rw [hr]
    clear hr
    go_enter Try.func17, Try.ntmps17
    go_wp2
    go_ret
    exact ⟨rfl, rfl⟩
  · have hr : shortV s = s.extract 0 32 := by unfold shortV; rw [if_neg h]
    have h2 : 32 < s.size := by omega
    rw [hr]
    clear hr
    go_enter Try.func17, Try.ntmps17
    go_wp2
    go_ret
    exact ⟨rfl, rfl⟩
end MemW
end Go.Proofs.Ytfhnocelmpnjgaa
