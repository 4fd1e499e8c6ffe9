/- The places from which an expression stands for the way: the walk of back. Conditions: trees that may be walked, texts that fit. -/
import Derived.Test.YtpdmjegbjcefjaaDoorGrpWb
import Derived.Test.YtpdmjegbjcefjaaDoorEreSp
import Derived.Deep.CutBlock
namespace Go.Proofs.YtpdmjegbjcefjaaDoor
set_option linter.unusedVariables false
set_option linter.unusedSimpArgs false
open Go.RowKit
namespace GrpW
open EreP EreW EreX GrpP GrpS
theorem or_assoc (a b c : List Bool) : orS (orS a b) c = orS a (orS b c) := by
  unfold orS
  induction a generalizing b c with
  | nil => simp
  | cons x a ih =>
    cases b with
    | nil => simp
    | cons y b =>
      cases c with
      | nil => simp
      | cons z c => simp [ih, Bool.or_assoc]
theorem none_or {n : Nat} {m : List Bool} (h : m.length = n + 1) : orS m (noneS n) = m := by
  unfold orS noneS
  apply List.ext_getElem
  · simp [h]
  · intro i h1 h2; simp
theorem cat_drop (l : Bs) (kids : List Re) (j : Nat) (h : j < kids.length) (tm : List Bool) : catS l (kids.drop j) tm = backS l (kids[j]'h) (catS l (kids.drop (j + 1)) tm) := by
  rw [List.drop_eq_getElem_cons h, catS]
theorem alt_drop (l : Bs) (kids : List Re) (j : Nat) (h : j < kids.length) (tm : List Bool) : altS l (kids.drop j) tm = orS (backS l (kids[j]'h) tm) (altS l (kids.drop (j + 1)) tm) := by
  rw [List.drop_eq_getElem_cons h, altS]
theorem bV_get {m : List Bool} {i : Nat} (h : i < m.length) : (bV m)[i]? = some (.bool (m.getD i false)) := by
  simp [bV, List.getD_eq_getElem?_getD, List.getElem?_eq_getElem h]
theorem bV_put {m : List Bool} (i : Nat) (b : Bool) : (bV m).setIfInBounds i (.bool b) = bV (m.set i b) := by
  simp [bV, List.map_set]
section
variable (l : Bs) (S : Nat) (kids : List Re) (lo hi nn : Int) (tm : List Bool)
theorem bk0 : backS l (.mk 0 S kids lo hi nn) tm = tm := by rw [backS]; rfl
theorem bk1 : backS l (.mk 1 S kids lo hi nn) tm = setS l S tm := by rw [backS]; rfl
theorem bk2 : backS l (.mk 2 S kids lo hi nn) tm = (noneS l.length).set 0 (tm.getD 0 false) := by rw [backS]; rfl
theorem bk3 : backS l (.mk 3 S kids lo hi nn) tm = (noneS l.length).set l.length (tm.getD l.length false) := by rw [backS]; rfl
theorem bk4 : backS l (.mk 4 S kids lo hi nn) tm = catS l kids tm := by rw [backS]; rfl
theorem bk5 : backS l (.mk 5 S kids lo hi nn) tm = altS l kids tm := by rw [backS]; rfl
theorem bk6 : backS l (.mk 6 S kids lo hi nn) tm = timesS (headS l kids) l.length lo hi tm := by rw [backS]; rfl
theorem bk7 : backS l (.mk 7 S kids lo hi nn) tm = headS l kids tm := by rw [backS]; rfl
theorem bk8 (k : Int) (h : ¬ (0 ≤ k ∧ k ≤ 7)) : backS l (.mk k S kids lo hi nn) tm = noneS l.length := by
  rw [backS]; dsimp only; rw [if_neg (by omega), if_neg (by omega), if_neg (by omega), if_neg (by omega), if_neg (by omega), if_neg (by omega), if_neg (by omega), if_neg (by omega)]
end
theorem bs_len (s : ByteArray) : (bsS s).length = s.size := rfl
theorem wfL_drop : ∀ (j : Nat) {l : List Re}, wfL l → wfL (l.drop j)
  | 0, _, h => h
  | j + 1, [], h => by simpa using h
  | j + 1, x :: l, h => by rw [wfL] at h; exact wfL_drop j h.2
theorem alt_len (l : Bs) (kids : List Re) (h : wfL kids) (tm : List Bool) (ht : tm.length = l.length + 1) : (altS l kids tm).length = l.length + 1 := (alt_step l kids h).len tm ht
theorem set_get (l : Bs) (S : Nat) (tm : List Bool) (i : Nat) (c : UInt8) (h : l[i]? = some c) : (setS l S tm).take (i + 1) = (setS l S tm).take i ++ [tm.getD (i + 1) false && S.testBit c.toNat] := by
  have hi : i < l.length := (List.getElem?_eq_some_iff.1 h).1
  rw [List.take_succ_eq_append_getElem (by rw [set_len]; omega)]
  congr 2
  simp [setS, h]
theorem set_end (l : Bs) (S : Nat) (tm : List Bool) : (setS l S tm).take l.length ++ List.replicate (l.length + 1 - l.length) false = setS l S tm := by
  rw [show l.length + 1 - l.length = 1 by omega]
  conv => rhs; rw [← List.take_append_drop l.length (setS l S tm)]
  congr 1
  rw [List.drop_eq_getElem_cons (by rw [set_len]; omega), List.drop_eq_nil_of_le (by rw [set_len]; omega)]
  simp [setS]
theorem and63u (c : Nat) (h : c ≤ 255) : bits .and .u8 (c : Int) 63 = ((c % 64 : Nat) : Int) := by
  have : ∀ k : Fin 256, bits .and .u8 ((k.val : Nat) : Int) 63 = ((k.val % 64 : Nat) : Int) := by decide +kernel
  exact this ⟨c, by omega⟩
theorem headS_one (l : Bs) (x : Re) : headS l [x] = backS l x := by funext x'; rw [headS]
set_option maxRecDepth 100000 in
set_option maxHeartbeats 3200000 in
theorem back_c : ∀ N, N ≤ 4611686018427387904 → BackC N := by
  intro N
  induction N with
  | zero => intro _ r hr; cases r; simp [nodesR] at hr
  | succ N ih =>
    intro hNB r hr hw K w cs h Wy s hy hs gt tm hm hto
    obtain ⟨A, c, rfl, hS, hnil⟩ := h.shape
    obtain ⟨k, S, kids, lo, hi, nn⟩ := r
    simp only [Re.kind, Re.set, Re.kids, Re.lo, Re.hi, Re.n] at h hS hnil ⊢
    have hr2 : nodesL kids ≤ N := by simp [nodesR] at hr; omega
    have HLE := Lib.hid (fun i (hi' : i < kids.length) => Nat.le_trans (by have := nodes_kid kids i hi'; omega : nodesR (kids[i]'hi') ≤ nodesL kids) hr2)
    have hln := Nat.le_trans (len_nodes kids) hr2
    clear hr hr2
    have HW := Lib.hid hw
    have HLEN := Lib.hid (fun x (hx : x.length = (bsS s).length + 1) => (back_step (bsS s) _ hw).len x hx)
    have HKW := Lib.hid (fun i (hi' : i < kids.length) => wfL_mem (by rw [wfR] at hw; exact hw.2.2) (kids[i]'hi') (List.getElem_mem hi'))
    have HH := Lib.hid h
    have HY0 := Lib.hid hy
    obtain ⟨kl, hkl⟩ : ∃ kl, kids.length = kl := ⟨_, rfl⟩
    rw [hkl]
    obtain ⟨wa, hwa⟩ : ∃ z : World, z = w.alloc (.cells (reC k S A kl c lo hi nn).toArray 27) := ⟨_, rfl⟩
    have xa : Blk wa w.heap.size 27 (reC k S A kl c lo hi nn).toArray := by rw [hwa]; exact Blk.new _ _ _
    have ba : Below w.heap.size w wa := by rw [hwa]; go_grown
    have hza : w.heap.size < wa.heap.size := xa.lt
    have ya := hy.next ba
    have ma := hm.next ba
    have HTO := Lib.hid hto
    have HTM := Lib.hid hm
    clear hy hm hto hw h hnil hS
    have c1 := wy_none ya hs
    go_enter Tryd.func25, Tryd.ntmps25
    go_wp2_with fail
    rw [← hwa]
    clear hwa
    (with_reducible refine c1.mono ?_)
    clear c1
    rintro e w1 ⟨rfl, m1, b1⟩
    have y1 := ya.next b1
    have t1 := ma.next b1
    have x1 := xa.next b1
    have B1 := via b1 ba
    have hz1 : wa.heap.size < w1.heap.size := m1.lt
    obtain ⟨o, ho⟩ : ∃ o, o = wa.heap.size := ⟨_, rfl⟩
    have hgt : gt < o := by rw [ho]; exact ma.lt
    simp only [← ho] at m1 hza hz1 ⊢
    clear ya ma xa b1 ba ho
    have p0 := x1.cell 0
    simp only [List.getElem?_toArray, List.getElem?_cons_zero, List.getElem?_cons_succ] at p0
    by_cases h0 : k = 0
    · subst h0
      have c2 := or_c o gt s.size (noneS s.size) tm w1 m1 t1 (by omega) (none_len _) HTO.out hs
      have HB := Lib.hid (bk0 (bsS s) S kids lo hi nn tm)
      clear m1 HW HKW HLE HLEN
      go_wp2_with fail
      (with_reducible refine c2.mono ?_)
      clear c2
      rintro e w2 ⟨rfl, m2, t2⟩
      rw [or_none HTO.out] at m2
      have B2 := t2.below B1 (fun k hk => by rw [hk]; omega) B1.size
      generalize freshS (noneS s.size) tm = fr0
      go_wp2_with fail
      go_ret
      exact ⟨o, rfl, by omega, by rw [HB.out]; exact m2, B2⟩
    by_cases h1 : k = 1
    · subst h1
      have HB := Lib.hid (bk1 (bsS s) S kids lo hi nn tm)
      have HTM2 := Lib.hid t1
      obtain ⟨ycs, yb, y0⟩ := y1.ex
      have u0 := yb.cell 0
      rw [y0] at u0
      clear HW HLEN HKW HLE
      go_wp2_with fail
      go_loopw [29] (fun iv wr => ∃ (i : Nat), iv = .int .i64 i ∧ i ≤ s.size ∧ Mks wr o ((setS (bsS s) S tm).take i ++ List.replicate (s.size + 1 - i) false) ∧ Blk wr w.heap.size 27 (reC 1 S A kl c lo hi nn).toArray ∧ Below w.heap.size w wr) (fun iv _ => s.size - (intOf iv).toNat)
      case atStart => exact ⟨0, rfl, by omega, by simpa [noneS] using m1, x1, B1⟩
      case round =>
        clear m1 x1 B1 p0 u0 yb y1 t1
        obtain ⟨i, rfl, hi', mo, xr, br⟩ := hrel
        by_cases hlt : i < s.size
        · have mt := (HTM.out.next br).cell (i + 1)
          rw [bV_get (by rw [HTO.out]; omega)] at mt
          have lo0 := mo.loose i
          have n0 := mo.cell i
          have hpl : ((setS (bsS s) S tm).take i).length = i := by rw [List.length_take, set_len, bs_len]; omega
          rw [show s.size + 1 - i = (s.size - i) + 1 by omega, List.replicate_succ] at n0 mo
          rw [bV, List.getElem?_toArray, List.getElem?_map, List.getElem?_append_right (by omega), hpl, Nat.sub_self, List.getElem?_cons_zero, Option.map_some] at n0
          obtain ⟨ycs, yb, y0⟩ := (HY0.out.next br).ex
          have u0 := yb.cell 0
          rw [y0] at u0
          have p1 := xr.cell 1
          have p2 := xr.cell 2
          have p3 := xr.cell 3
          have p4 := xr.cell 4
          simp only [List.getElem?_toArray, List.getElem?_cons_zero, List.getElem?_cons_succ] at p1 p2 p3 p4
          have HPL := Lib.hid hpl
          clear hpl
          have hput := fun b => (by have := mo.set_ i (.bool b); rwa [bV_set _ _ _ _ HPL.out] at this : Mks (wr.setCell ⟨o, i, none⟩ (.bool b)) o ((setS (bsS s) S tm).take i ++ b :: List.replicate (s.size - i) false))
          have xput := fun b => (xr.far (p := ⟨o, i, none⟩) (by show w.heap.size ≠ o; omega) (.bool b))
          have bput := fun b => (br.setCell (p := ⟨o, i, none⟩) (by show w.heap.size ≤ o; omega) (.bool b))
          obtain ⟨ch, hch⟩ : ∃ ch : UInt8, (bsS s)[i]? = some ch := ⟨_, List.getElem?_eq_getElem (by rw [bs_len]; exact hlt)⟩
          have hsg := set_get (bsS s) S tm i ch hch
          cases hv : tm.getD (i + 1) false with
          | false =>
            rw [hv] at mt
            have hn := Lib.hid (show (setS (bsS s) S tm).take (i + 1) ++ List.replicate (s.size + 1 - (i + 1)) false = (setS (bsS s) S tm).take i ++ false :: List.replicate (s.size - i) false by rw [hsg, hv, show s.size + 1 - (i + 1) = s.size - i by omega]; simp)
            clear mo hsg hch hv
            go_wp2_with fail
            refine ⟨⟨i + 1, by go_num, by omega, ?_, xput _, bput _⟩, by simp [intOf]; omega⟩
            rw [hn.out]; exact hput _
          | true =>
            rw [hv] at mt
            have hn := Lib.hid (show (setS (bsS s) S tm).take (i + 1) ++ List.replicate (s.size + 1 - (i + 1)) false = (setS (bsS s) S tm).take i ++ S.testBit ch.toNat :: List.replicate (s.size - i) false by rw [hsg, hv, show s.size + 1 - (i + 1) = s.size - i by omega]; simp)
            clear mo hsg hv
            have hbit := EreX.word_bit S ch.toNat
            have hlt4 := fun k => EreX.word_lt S k
            have hm : ch.toNat % 64 < 64 := Nat.mod_lt _ (by decide)
            have hq : ch.toNat / 64 = 0 ∨ ch.toNat / 64 = 1 ∨ ch.toNat / 64 = 2 ∨ ch.toNat / 64 = 3 := by have := ch.toNat_lt; omega
            have hce : s[i]'hlt = ch := by
              have h1 := (List.getElem?_eq_some_iff.1 hch).2
              show s.data[i]'hlt = ch
              simpa [bsS] using h1
            have a63 := and63u ch.toNat (by have := ch.toNat_lt; omega)
            clear hch
            generalize hcn : ch.toNat = cn at *
            rcases hq with hq | hq | hq | hq
            all_goals
              rw [hq] at hbit
              have h6 : (cn : Int) / 64 = ((cn / 64 : Nat) : Int) := by omega
              rw [hq] at h6
              have HBIT := Lib.hid hbit
              have HQ := Lib.hid hq
              clear hbit hq
              go_wp2_with fail
              refine ⟨⟨i + 1, by go_num, by omega, ?_, xput _, bput _⟩, by simp [intOf]; omega⟩
              rw [bit_test _ _ (hlt4 _), HBIT.out, hn.out]; exact hput _
        · have hil : i = s.size := by omega
          subst hil
          have hn := Lib.hid (show (setS (bsS s) S tm).take s.size ++ List.replicate (s.size + 1 - s.size) false = setS (bsS s) S tm from set_end (bsS s) S tm)
          rw [hn.out] at mo
          go_wp2_with fail
          go_ret
          exact ⟨o, rfl, by omega, by rw [HB.out]; exact mo, br⟩
    by_cases h2 : k = 2
    · subst h2
      have HB := Lib.hid (bk2 (bsS s) S kids lo hi nn tm)
      have q0 := t1.cell 0
      rw [bV_get (by rw [HTO.out]; omega)] at q0
      have l0 := m1.loose 0
      have n0 := m1.cell 0
      rw [bV_get (by rw [none_len]; omega)] at n0
      have m2 := m1.set_ 0 (.bool (tm.getD 0 false))
      rw [bV_put] at m2
      have B2 := B1.setCell (p := ⟨o, 0, none⟩) (by show w.heap.size ≤ o; omega) (.bool (tm.getD 0 false))
      generalize tm.getD 0 false = v0 at *
      generalize (noneS s.size).getD 0 false = v1 at *
      clear m1 HW HKW HLE HLEN
      go_wp2_with fail
      go_ret
      exact ⟨o, rfl, by omega, by rw [HB.out]; exact m2, B2⟩
    by_cases h3 : k = 3
    · subst h3
      have HB : Hid (backS (bsS s) (.mk 3 S kids lo hi nn) tm = (noneS s.size).set s.size (tm.getD s.size false)) := Lib.hid (bk3 (bsS s) S kids lo hi nn tm)
      have q0 := t1.cell s.size
      rw [bV_get (by rw [HTO.out]; omega)] at q0
      have l0 := m1.loose s.size
      have n0 := m1.cell s.size
      rw [bV_get (by rw [none_len]; omega)] at n0
      have m2 := m1.set_ s.size (.bool (tm.getD s.size false))
      rw [bV_put] at m2
      have B2 := B1.setCell (p := ⟨o, s.size, none⟩) (by show w.heap.size ≤ o; omega) (.bool (tm.getD s.size false))
      obtain ⟨ycs, yb, y0⟩ := y1.ex
      have u0 := yb.cell 0
      rw [y0] at u0
      generalize tm.getD s.size false = v0 at *
      generalize (noneS s.size).getD s.size false = v1 at *
      clear m1 HW HKW HLE HLEN
      go_upto_region 15 with fail
      go_region
      go_wp2_with fail
      go_ret
      exact ⟨o, rfl, by omega, by rw [HB.out]; exact m2, B2.drew⟩
    by_cases h4 : k = 4
    · subst h4
      have hkn : kl ≤ 4611686018427387904 := by have := len_nodes kids; omega
      have HB := Lib.hid (bk4 (bsS s) S kids lo hi nn tm)
      have HCL := Lib.hid (fun j => (cat_step (bsS s) (kids.drop j) (wfL_drop j (by have := HW.out; rw [wfR] at this; exact this.2.2))).len tm HTO.out)
      have c2 := or_c o gt s.size (noneS s.size) tm w1 m1 t1 (by omega) (none_len _) HTO.out hs
      clear HW HLEN
      go_wp2_with fail
      (with_reducible refine c2.mono ?_)
      clear c2
      rintro e w2 ⟨rfl, m2, t2⟩
      rw [or_none HTO.out] at m2
      have B2 := t2.below B1 (fun k hk => by rw [hk]; omega) B1.size
      have x2 := x1.tch t2 (by omega)
      have p5 := x2.cell 5
      simp only [List.getElem?_toArray, List.getElem?_cons_zero, List.getElem?_cons_succ] at p5
      clear m1 t1 y1 x1 p0 B1 t2
      generalize freshS (noneS s.size) tm = fr0
      go_wp2_with fail
      go_loopw [7, 10] (fun gv iv wr => ∃ (g j : Nat), gv = mkV g s.size ∧ iv = .int .i64 ((j : Int) - 1) ∧ j ≤ kl ∧ Mks wr g (catS (bsS s) (kids.drop j) tm) ∧ w.heap.size ≤ g ∧ Blk wr w.heap.size 27 (reC 4 S A kl c lo hi nn).toArray ∧ Below w.heap.size w wr) (fun _ iv _ => (intOf iv + 1).toNat)
      case atStart => exact ⟨o, kl, rfl, by go_num, by omega, by rw [List.drop_eq_nil_of_le (by omega), catS]; exact m2, by omega, x2, B2⟩
      case round =>
        clear m2 x2 B2 p5 hkn
        obtain ⟨g, j, rfl, rfl, hj, mg, hg, xr, br⟩ := hrel
        cases j with
        | zero =>
          rw [List.drop_zero] at mg
          go_wp2_with fail
          go_ret
          exact ⟨g, rfl, hg, by rw [HB.out]; exact mg, br⟩
        | succ j =>
          rw [show ((j + 1 : Nat) : Int) - 1 = (j : Int) by omega]
          obtain ⟨kg, ko, A2, c2, k0, k1, k2, k3, k4, k5, rfl, hkid⟩ := kidW HH.out j (by omega)
          have hc := (hkid wr br).2
          have fk0 := hc 0 _ rfl
          have fk1 := hc 1 _ rfl
          have fk2 := hc 2 _ rfl
          have fk3 := hc 3 _ rfl
          have fk4 := hc 4 _ rfl
          have fk5 := hc 5 _ rfl
          have fk6 := hc 6 _ rfl
          have fk7 := hc 7 _ rfl
          have fk8 := hc 8 _ rfl
          simp only [Nat.add_zero] at fk0
          have c5 := ih (by omega) (kids[j]'(by omega)) (HLE.out j (by omega)) (HKW.out j (by omega)) K wr _ (hkid wr br).1 Wy s (HY0.out.next br) hs g _ mg (by rw [HCL.out, bs_len])
          rw [← cat_drop] at c5
          have p5 := xr.cell 5
          simp only [List.getElem?_toArray, List.getElem?_cons_zero, List.getElem?_cons_succ] at p5
          have szr := br.size
          clear hc hkid mg
          go_wp2_with fail
          (with_reducible refine c5.mono ?_)
          clear c5
          rintro e w5 ⟨g2, rfl, hg2, m5, b5⟩
          have x5 := xr.next b5
          have b6 := via b5 br
          clear b5 br xr
          go_wp2_with fail
          go_roundw
          case rel => exact ⟨g2, j, rfl, by go_num, by omega, m5, by omega, x5, b6⟩
          case measure => simp [intOf] <;> omega
    by_cases h5 : k = 5
    · subst h5
      have hkn : kl ≤ 4611686018427387904 := by have := len_nodes kids; omega
      have HB := Lib.hid (bk5 (bsS s) S kids lo hi nn tm)
      have HST := Lib.hid (show altS (bsS s) kids tm = orS (noneS s.size) (altS (bsS s) (kids.drop 0) tm) by rw [List.drop_zero, or_none (n := s.size) (alt_len (bsS s) kids (by have := HW.out; rw [wfR] at this; exact this.2.2) tm HTO.out)])
      have HBL := Lib.hid (fun j (hj : j < kids.length) => (back_step (bsS s) (kids[j]'hj) (HKW.out j hj)).len tm HTO.out)
      have p5 := x1.cell 5
      simp only [List.getElem?_toArray, List.getElem?_cons_zero, List.getElem?_cons_succ] at p5
      clear HW HLEN
      go_wp2_with fail
      go_loopw [109] (fun iv wr => ∃ (i : Nat) (o' : List Bool), iv = .int .i64 i ∧ i ≤ kl ∧ Mks wr o o' ∧ o'.length = s.size + 1 ∧ Hid (altS (bsS s) kids tm = orS o' (altS (bsS s) (kids.drop i) tm)) ∧ Blk wr w.heap.size 27 (reC 5 S A kl c lo hi nn).toArray ∧ Below w.heap.size w wr) (fun iv _ => kl - (intOf iv).toNat)
      case atStart => exact ⟨0, _, rfl, by omega, m1, none_len _, HST, x1, B1⟩
      case round =>
        clear m1 x1 B1 p5 p0 y1 t1 HST
        obtain ⟨i, o', rfl, hi', mo, lo', ha, xr, br⟩ := hrel
        by_cases hlt : i < kl
        · obtain ⟨kg, ko, A2, c2, k0, k1, k2, k3, k4, k5, rfl, hkid⟩ := kidW HH.out i (by omega)
          have hc := (hkid wr br).2
          have fk0 := hc 0 _ rfl
          have fk1 := hc 1 _ rfl
          have fk2 := hc 2 _ rfl
          have fk3 := hc 3 _ rfl
          have fk4 := hc 4 _ rfl
          have fk5 := hc 5 _ rfl
          have fk6 := hc 6 _ rfl
          have fk7 := hc 7 _ rfl
          have fk8 := hc 8 _ rfl
          simp only [Nat.add_zero] at fk0
          have ba : Below w.heap.size w (wr.alloc (.cells (reC k0 k1 A2 k2 c2 k3 k4 k5).toArray 27)) := via (by go_grown) br
          have c5 := ih (by omega) (kids[i]'(by omega)) (HLE.out i (by omega)) (HKW.out i (by omega)) K (wr.alloc (.cells (reC k0 k1 A2 k2 c2 k3 k4 k5).toArray 27)) _ (hkid _ ba).1 Wy s (HY0.out.next ba) hs gt tm (HTM.out.next ba) HTO.out
          have xx := xr.alloc (.cells (reC k0 k1 A2 k2 c2 k3 k4 k5).toArray 27)
          have mm := mo.alloc (.cells (reC k0 k1 A2 k2 c2 k3 k4 k5).toArray 27)
          have ha2 := Lib.hid (show altS (bsS s) kids tm = orS (orS o' (backS (bsS s) (kids[i]'(by omega)) tm)) (altS (bsS s) (kids.drop (i + 1)) tm) by rw [or_assoc, ← alt_drop, ha.out])
          have hbl : (backS (bsS s) (kids[i]'(by omega)) tm).length = s.size + 1 := HBL.out i (by omega)
          have szr := br.size
          have szo := mo.lt
          clear hc hkid ha br xr mo
          generalize backS (bsS s) (kids[i]'(by omega)) tm = bk at *
          go_wp2_with fail
          (with_reducible refine c5.mono ?_)
          clear c5
          rintro e w5 ⟨g2, rfl, hg2, m5, b5⟩
          have x5 := xx.next b5
          have o5 := mm.next b5
          have b6 := via b5 ba
          rw [World.size_alloc] at hg2
          have c6 := or_c o g2 s.size o' bk w5 o5 m5 (by omega) lo' hbl hs
          have LO : (orS o' bk).length = s.size + 1 := by rw [or_len (by omega)]; exact lo'
          clear b5 ba xx mm o5 m5
          go_wp2_with fail
          (with_reducible refine c6.mono ?_)
          clear c6
          rintro e w6 ⟨rfl, m6, t6⟩
          have x6 := x5.tch t6 (by omega)
          have b7 := t6.below b6 (fun k hk => by rw [hk]; omega) b6.size
          generalize freshS o' bk = fr0
          go_wp2_with fail
          go_roundw
          case rel => exact ⟨i + 1, _, by go_num, by omega, m6, LO, ha2, x6, b7⟩
          case measure => simp [intOf]; omega
        · have hik : i = kl := by omega
          subst hik
          have ha2 := Lib.hid (show altS (bsS s) kids tm = o' by rw [ha.out, List.drop_eq_nil_of_le (by omega), altS, bs_len, none_or lo'])
          clear ha
          go_wp2_with fail
          go_ret
          exact ⟨o, rfl, by omega, by rw [HB.out, ha2.out]; exact mo, br⟩
    by_cases h6 : k = 6
    · subst h6
      obtain ⟨x, rfl⟩ : ∃ x, kids = [x] := by
        have := HW.out
        rw [wfR] at this
        exact List.length_eq_one_iff.1 (this.1 rfl).1
      have HB := Lib.hid (bk6 (bsS s) S [x] lo hi nn tm)
      have h1l : kl = 1 := hkl.symm
      subst h1l
      obtain ⟨_, hb1, hb2, hb3, _⟩ := (by have := HW.out; rw [wfR] at this; exact this.1 rfl : ([x] : List Re).length = 1 ∧ 0 ≤ lo ∧ lo ≤ 8 ∧ hi ≤ 8 ∧ (hi = -1 ∨ lo ≤ hi))
      have c5 := times_c N (ih (by omega)) 6 S x lo hi nn (HLE.out 0 (by simp)) (HKW.out 0 (by simp)) hb1 hb2 hb3 K w1 A c (HH.out.bel B1) Wy s y1 hs gt tm t1 HTO.out
      have p1 := x1.cell 1
      have p2 := x1.cell 2
      have p3 := x1.cell 3
      have p4 := x1.cell 4
      have p5 := x1.cell 5
      have p6 := x1.cell 6
      have p7 := x1.cell 7
      have p8 := x1.cell 8
      simp only [List.getElem?_toArray, List.getElem?_cons_zero, List.getElem?_cons_succ] at p1 p2 p3 p4 p5 p6 p7 p8
      clear m1 HW HKW HLE HLEN ih hb1 hb2 hb3
      go_wp2_with fail
      (with_reducible refine c5.mono ?_)
      clear c5
      rintro e w5 ⟨g2, rfl, hg2, m5, b5⟩
      go_wp2_with fail
      go_ret
      exact ⟨g2, rfl, by omega, by rw [HB.out, headS_one]; exact m5, via b5 B1⟩
    by_cases h7 : k = 7
    · subst h7
      obtain ⟨x, rfl⟩ : ∃ x, kids = [x] := by
        have := HW.out
        rw [wfR] at this
        exact List.length_eq_one_iff.1 (this.2.1 rfl).1
      have HB := Lib.hid (bk7 (bsS s) S [x] lo hi nn tm)
      have h1l : kl = 1 := hkl.symm
      subst h1l
      obtain ⟨kg, ko, A2, c2, k0, k1, k2, k3, k4, k5, rfl, hkid⟩ := kidW HH.out 0 (by simp)
      have hc := (hkid w1 B1).2
      have fk0 := hc 0 _ rfl
      have fk1 := hc 1 _ rfl
      have fk2 := hc 2 _ rfl
      have fk3 := hc 3 _ rfl
      have fk4 := hc 4 _ rfl
      have fk5 := hc 5 _ rfl
      have fk6 := hc 6 _ rfl
      have fk7 := hc 7 _ rfl
      have fk8 := hc 8 _ rfl
      simp only [Nat.zero_mul, Nat.add_zero] at fk0 fk1 fk2 fk3 fk4 fk5 fk6 fk7 fk8
      have c5 := ih (by omega) x (HLE.out 0 (by simp)) (HKW.out 0 (by simp)) K w1 _ (hkid w1 B1).1 Wy s y1 hs gt tm t1 HTO.out
      have p5 := x1.cell 5
      simp only [List.getElem?_toArray, List.getElem?_cons_zero, List.getElem?_cons_succ] at p5
      clear hc hkid m1 HW HKW HLE HLEN ih
      go_wp2_with fail
      (with_reducible refine c5.mono ?_)
      clear c5
      rintro e w5 ⟨g2, rfl, hg2, m5, b5⟩
      go_wp2_with fail
      go_ret
      exact ⟨g2, rfl, by omega, by rw [HB.out, headS]; exact m5, via b5 B1⟩
    have HB := Lib.hid (bk8 (bsS s) S kids lo hi nn tm k (by omega))
    have e0 : (k == 0) = false := by simpa using h0
    have e1 : (k == 1) = false := by simpa using h1
    have e2 : (k == 2) = false := by simpa using h2
    have e3 : (k == 3) = false := by simpa using h3
    have e4 : (k == 4) = false := by simpa using h4
    have e5 : (k == 5) = false := by simpa using h5
    have e6 : (k == 6) = false := by simpa using h6
    have e7 : (k == 7) = false := by simpa using h7
    clear h0 h1 h2 h3 h4 h5 h6 h7 HW HKW HLE HLEN ih
    go_wp2_with fail
    go_ret
    exact ⟨o, rfl, by omega, by rw [HB.out]; exact m1, B1⟩
end GrpW
end Go.Proofs.YtpdmjegbjcefjaaDoor
namespace Go.Proofs.YtpdmjegbjcefjaaDoor
set_option linter.unusedVariables false
set_option linter.unusedSimpArgs false
open Go.RowKit
namespace GrpW
open EreP EreW EreX GrpP GrpS
abbrev cutV (cu : Cuts) : List Value := cu.flatMap fun p => [.int .i64 p.1, .int .i64 p.2]
abbrev wayV (s : ByteArray) (cu : Cuts) : Array Value := (.string s :: cutV cu).toArray
/-- A text and what was told of groups, in memory. -/
structure Wyc (w : World) (Wy : Nat) (s : ByteArray) (cu : Cuts) : Prop where
  blk : Blk w Wy 58 (wayV s cu)
  len : cu.length = 10
theorem Wyc.wyr {w : World} {Wy : Nat} {s : ByteArray} {cu : Cuts} (h : Wyc w Wy s cu) : Wyr w Wy s := ⟨_, h.blk, rfl⟩
theorem Wyc.next {w w' : World} {Wy : Nat} {s : ByteArray} {cu : Cuts} (h : Wyc w Wy s cu) (hb : Below w.heap.size w w') : Wyc w' Wy s cu := ⟨h.blk.next hb, h.len⟩
theorem Wyc.lt {w : World} {Wy : Nat} {s : ByteArray} {cu : Cuts} (h : Wyc w Wy s cu) : Wy < w.heap.size := h.blk.lt
theorem Wyc.far {w : World} {Wy : Nat} {s : ByteArray} {cu : Cuts} (h : Wyc w Wy s cu) {p : Addr} (hp : Wy ≠ p.block) (u : Value) : Wyc (w.setCell p u) Wy s cu := ⟨h.blk.far hp u, h.len⟩
def FirstPost (Wy : Nat) (s : ByteArray) (res : Nat × Cuts) (w : World) (e : Ending) (w' : World) : Prop := e = .returned (.int .i64 (res.1 : Nat)) ∧ Wyc w' Wy s res.2 ∧ Tch (· = Wy) w w'
/-- The contract of first, for trees up to a size. -/
def FirstC (N : Nat) : Prop := ∀ (r : Re), nodesR r ≤ N → wfR r → ∀ (Wy : Nat) (w : World) (cs : List Value), Rt w (· ≠ Wy) r cs → ∀ (s : ByteArray) (cu : Cuts), Wyc w Wy s cu → s.size ≤ 1000000 → ∀ (a : Nat), a ≤ s.size → ∀ (gt : Nat) (tm : List Bool), Mks w gt tm → tm.length = s.size + 1 → On (backS (bsS s) r tm) a →
  Calls Tryd.prog 26 #[.pointer (some ⟨Wy, 0, none⟩), .agg cs.toArray, .int .i64 a, mkV gt s.size] w (FirstPost Wy s (firstS (bsS s) r a tm cu) w)
theorem mks_ne {w : World} {Wy gt : Nat} {s : ByteArray} {cu : Cuts} {tm : List Bool} (h : Wyc w Wy s cu) (hm : Mks w gt tm) : gt ≠ Wy := by
  rintro rfl
  have h1 := h.blk
  unfold Mks Blk at *
  rw [hm] at h1
  injection h1 with h1
  injection h1 with _ h1
  exact absurd h1 (by decide)
theorem box_ne {w : World} {Wy g : Nat} {s : ByteArray} {cu : Cuts} {cs : Array Value} (h : Wyc w Wy s cu) (hm : Blk w g 27 cs) : g ≠ Wy := by
  rintro rfl
  have h1 := h.blk
  unfold Blk at *
  rw [hm] at h1
  injection h1 with h1
  injection h1 with _ h1
  exact absurd h1 (by decide)
/-- A kid's cells in every world in which the way alone was turned. -/
theorem kidT {w : World} {K : Nat → Prop} {S' : Nat → Prop} {kind : Int} {S : Nat} {kids : List Re} {lo hi nn : Int} {A : Option Addr} {m c : Nat} (h : Rt w K (.mk kind S kids lo hi nn) (reC kind S A m c lo hi nn)) (hK : ∀ b, K b → ¬ S' b) (i : Nat) (hi' : i < kids.length) :
    ∃ g o A2 c2 k0 k1 k2 k3 k4 k5, A = some ⟨g, o, none⟩ ∧ ∀ W, Tch S' w W → Rt W K (kids[i]'hi') (reC k0 k1 A2 k2 c2 k3 k4 k5) ∧ ∀ j u, (reC k0 k1 A2 k2 c2 k3 k4 k5)[j]? = some u → W.cell? ⟨g, o + i * 9 + j, none⟩ = some u := by
  obtain ⟨g, o, e, hg, A2, c2, hk, hc⟩ := (kid h).2 i hi'
  refine ⟨g, o, A2, c2, _, _, _, _, _, _, e, fun W hb => ⟨hk.tch hb hK, fun j u hu => ?_⟩⟩
  have h1 := hc j u hu
  have hl := World.block_lt_of_cell? w _ h1
  have hb2 := hb.block g hl (hK g hg)
  rw [← h1]
  simp only [World.cell?, hb2]
theorem rt_lh {w : World} {K : Nat → Prop} {kind : Int} {S : Nat} {kids : List Re} {lo hi nn : Int} {A : Option Addr} {m c : Nat} (h : Rt w K (.mk kind S kids lo hi nn) (reC kind S A m c lo hi nn)) (lo2 hi2 : Int) :
    Rt w K (.mk kind S kids lo2 hi2 nn) (reC kind S A m c lo2 hi2 nn) := by
  generalize hr : Re.mk kind S kids lo hi nn = r at h
  generalize hcs : reC kind S A m c lo hi nn = cs at h
  cases h with
  | mk kind' S' kids' lo' hi' nn' A' c' css hS hk hA hcap =>
    injection hr with e1 e2 e3 e4 e5 e6
    subst e1 e2 e3 e4 e5 e6
    simp only [List.cons.injEq, Value.slice.injEq, true_and, and_true] at hcs
    obtain ⟨rfl, rfl, rfl⟩ := hcs
    exact .mk _ _ _ _ _ _ _ _ css hS hk hA hcap
theorem tch_out {S : Nat → Prop} {a w : World} (h : Tch S a w) (p : Addr) (hp : a.heap.size ≤ p.block) (v : Value) : Tch S a (w.setCell p v) :=
  ⟨h.os, h.tape, h.output, by simpa [World.setCell] using h.size, fun i hi hs => (Below.heap_setCell w p v i (by omega)).trans (h.block i hi hs)⟩
theorem box_ne2 {w w' : World} {Wy g : Nat} {cs : Array Value} {t : TypeId} (h : Blk w g t cs) (_ : Wy < w'.heap.size) (hl : Wy < g) : ¬ (g = Wy) := by omega
theorem fheadS_one (l : Bs) (x : Re) : fheadS l [x] = firstS l x := by funext a b c; rw [fheadS]
theorem again_stop (g : List Bool → List Bool) (f : Nat → List Bool → Cuts → Nat × Cuts) (n F : Nat) (lo : Int) (a : Nat) (tm : List Bool) (cu : Cuts) (h : 0 < F) : againS g f n F lo 0 a tm cu = (a, cu) := by
  cases F with
  | zero => omega
  | succ F => rw [againS, if_pos rfl]
set_option maxRecDepth 100000 in
set_option maxHeartbeats 3200000 in
theorem again_c (N : Nat) (hNB : N ≤ 4611686018427387904) (HF : FirstC N) (k : Int) (S : Nat) (x : Re) (lo hi nn : Int) (hx : nodesR x ≤ N) (hw : wfR x) (h0 : 0 ≤ lo) (h8 : lo ≤ 8) (hh8 : hi ≤ 8) (hlh : hi = -1 ∨ lo ≤ hi) (Wy : Nat) (w : World) (A : Option Addr) (c : Nat)
    (h : Rt w (· ≠ Wy) (.mk k S [x] lo hi nn) (reC k S A 1 c lo hi nn)) (s : ByteArray) (cu : Cuts) (hy : Wyc w Wy s cu) (hs : s.size ≤ 1000000) (a : Nat) (ha : a ≤ s.size) (gt : Nat) (tm : List Bool) (hm : Mks w gt tm) (hto : tm.length = s.size + 1)
    (hon : On (timesS (backS (bsS s) x) s.size lo hi tm) a) :
    Calls Tryd.prog 44 #[.pointer (some ⟨Wy, 0, none⟩), .agg (reC k S A 1 c lo hi nn).toArray, .int .i64 a, mkV gt s.size] w (FirstPost Wy s (againS (backS (bsS s) x) (firstS (bsS s) x) s.size (s.size + 10) lo hi a tm cu) w) := by
  have HG : Hid (Step s.size (backS (bsS s) x) (rel (bsS s) true true x)) := Lib.hid (back_step (bsS s) x hw)
  obtain ⟨kg, ko, A2, c2, k0, k1, k2, k3, k4, k5, rfl, hkid⟩ := kidT (S' := (· = Wy)) h (fun b hb e => hb e) 0 (by simp)
  have HKC := Lib.hid (fun W (hW : Tch (· = Wy) w W) => (hkid W hW).2)
  have HBK := Lib.hid (fun W (hW : Tch (· = Wy) w W) cu' (hy' : Wyc W Wy s cu') gt tm hm hto => back_c N hNB x hx hw (· ≠ Wy) W _ (hkid W hW).1 Wy s hy'.wyr hs gt tm hm hto)
  have HFK := Lib.hid (fun W (hW : Tch (· = Wy) w W) cu' (hy' : Wyc W Wy s cu') a ha gt tm hm hto hon => HF x hx hw Wy W _ (hkid W hW).1 s cu' hy' hs a ha gt tm hm hto hon)
  have HTK := Lib.hid (fun W (hW : Tch (· = Wy) w W) lo2 hi2 (q1 : 0 ≤ lo2) (q2 : lo2 ≤ 8) (q3 : hi2 ≤ 8) cu' (hy' : Wyc W Wy s cu') => times_c N (back_c N hNB) k S x lo2 hi2 nn hx hw q1 q2 q3 (· ≠ Wy) W _ c (rt_lh (h.tch hW (fun b hb e => hb e)) lo2 hi2) Wy s hy'.wyr hs gt tm)
  have HFO := Lib.hid (fun a tm cu' => first_ok (bsS s) x hw a tm cu')
  have HM := Lib.hid hm
  have HTO := Lib.hid hto
  have hgw := mks_ne hy hm
  obtain ⟨wa, hwa⟩ : ∃ z : World, z = w.alloc (.cells (reC k S (some ⟨kg, ko, none⟩) 1 c lo hi nn).toArray 27) := ⟨_, rfl⟩
  have xa : Blk wa w.heap.size 27 (reC k S (some ⟨kg, ko, none⟩) 1 c lo hi nn).toArray := by rw [hwa]; exact Blk.new _ _ _
  have ba : Below w.heap.size w wa := by rw [hwa]; go_grown
  have ya := hy.next ba
  have hwl := hy.lt
  have hgl := hm.lt
  clear hkid h hm hto hy HF
  go_enter Tryd.func44, Tryd.ntmps44
  go_wp2_with fail
  rw [← hwa]
  clear hwa
  obtain ⟨R, hR⟩ : ∃ R, againS (backS (bsS s) x) (firstS (bsS s) x) s.size (s.size + 10) lo hi a tm cu = R := ⟨_, rfl⟩
  rw [hR]
  have HR := Lib.hid hR
  clear hR
  go_loopg [2, 9, 10] (s.size + 10) (fun F av _ _ wr => ∃ (lo' hi' : Int) (a1 : Nat) (cu1 : Cuts), av = .int .i64 a1 ∧ 0 ≤ lo' ∧ lo' ≤ 8 ∧ hi' ≤ 8 ∧ (hi' < 0 ∨ lo' ≤ hi') ∧ lo'.toNat + (s.size - a1) < F ∧ a1 ≤ s.size ∧ Hid (On (timesS (backS (bsS s) x) s.size lo' hi' tm) a1) ∧
      Hid (againS (backS (bsS s) x) (firstS (bsS s) x) s.size F lo' hi' a1 tm cu1 = R) ∧ Blk wr w.heap.size 27 (reC k S (some ⟨kg, ko, none⟩) 1 c lo' hi' nn).toArray ∧ Wyc wr Wy s cu1 ∧ Tch (· = Wy) w wr)
  case atStart => exact ⟨lo, hi, a, cu, rfl, h0, h8, hh8, by omega, by omega, ha, Lib.hid hon, HR, xa, ya, Tch.of_below ba⟩
  case round =>
    clear xa ya ba hon
    obtain ⟨lo1, hi1, a1, cu1, rfl, q0, q8, qh8, qlh, qF, qa, qon, qR, xr, yr, tr⟩ := hrel
    have p3 := xr.cell 6
    have p4 := xr.cell 7
    have l3 := xr.loose 6
    have l4 := xr.loose 7
    simp only [List.getElem?_toArray, List.getElem?_cons_zero, List.getElem?_cons_succ] at p3 p4
    by_cases hz : hi1 = 0
    · subst hz
      have hst := Lib.hid (again_stop (backS (bsS s) x) (firstS (bsS s) x) s.size gk lo1 a1 tm cu1 (by omega) ▸ qR.out)
      go_wp2_with fail
      go_ret
      rw [HR.out, ← hst.out]
      exact ⟨rfl, yr, tr⟩
    · have ez : (hi1 == 0) = false := by simpa using hz
      have ez2 : (hi1 != 0) = true := by simpa using hz
      obtain ⟨F, rfl⟩ : ∃ F, gk = F + 1 := ⟨gk - 1, by omega⟩
      obtain ⟨lo2, hlo2⟩ : ∃ z, max (lo1 - 1) 0 = z := ⟨_, rfl⟩
      obtain ⟨hi2, hhi2⟩ : ∃ z, (if 0 < hi1 then hi1 - 1 else hi1) = z := ⟨_, rfl⟩
      have r0 : 0 ≤ lo2 := by omega
      have r8 : lo2 ≤ 8 := by omega
      have hb2 : (hi1 < 0 ∧ hi2 = hi1) ∨ (0 < hi1 ∧ hi2 = hi1 - 1) := by
        by_cases h : 0 < hi1
        · right; rw [if_pos h] at hhi2; omega
        · left; rw [if_neg h] at hhi2; omega
      have rh8 : hi2 ≤ 8 := by omega
      have rlh : hi2 < 0 ∨ lo2 ≤ hi2 := by omega
      clear hb2
      have p0 := xr.cell 0
      have p1 := xr.cell 1
      have p2 := xr.cell 2
      have p3 := xr.cell 3
      have p4 := xr.cell 4
      have p5 := xr.cell 5
      have p6 := xr.cell 6
      have p7 := xr.cell 7
      have p8 := xr.cell 8
      simp only [List.getElem?_toArray, List.getElem?_cons_zero, List.getElem?_cons_succ] at p0 p1 p2 p3 p4 p5 p6 p7 p8
      have szr := tr.size
      by_cases hup : 0 < hi1
      · have hd : 0 < hi1 := hup
        have h2e : hi2 = hi1 - 1 := by rw [← hhi2, if_pos hd]
        have ez3 : decide (hi1 > 0) = true := decide_eq_true hd
        have ez4 : decide (0 < hi1) = true := decide_eq_true hd
        obtain ⟨w2, hw2⟩ : ∃ z : World, (wr.setCell ⟨w.heap.size, 6, none⟩ (.int .i64 lo2)).setCell ⟨w.heap.size, 7, none⟩ (.int .i64 (hi1 - 1)) = z := ⟨_, rfl⟩
        have X2 : Blk w2 w.heap.size 27 (reC k S (some ⟨kg, ko, none⟩) 1 c lo2 hi2 nn).toArray := by
          rw [← hw2, h2e]; exact (xr.set_ 6 (.int .i64 lo2)).set_ 7 (.int .i64 (hi1 - 1))
        have Y2 : Wyc w2 Wy s cu1 := by
          rw [← hw2]; exact (yr.far (p := ⟨w.heap.size, 6, none⟩) (by show Wy ≠ w.heap.size; omega) _).far (p := ⟨w.heap.size, 7, none⟩) (by show Wy ≠ w.heap.size; omega) _
        have T2 : Tch (· = Wy) w w2 := by
          rw [← hw2]; exact tch_out (tch_out tr ⟨w.heap.size, 6, none⟩ (Nat.le_refl _) _) ⟨w.heap.size, 7, none⟩ (Nat.le_refl _) _

        have c3 := HTK.out w2 T2 lo2 hi2 r0 r8 rh8 cu1 Y2 (HM.out.tch T2 hgw) HTO.out
        have HNL := Lib.hid (times_len HG.out lo2 hi2 tm HTO.out)
        unfold BackPost at c3
        obtain ⟨nx, hnx⟩ : ∃ z, timesS (backS (bsS s) x) s.size lo2 hi2 tm = z := ⟨_, rfl⟩
        rw [hnx] at HNL c3
        rw [h2e] at c3
        have HNXE := Lib.hid hnx
        have HHI := Lib.hid hhi2
        have HE := Lib.hid h2e
        have HZ := Lib.hid hz
        have sz2 := X2.lt
        have hw2' := hw2
        rw [← hw2] at c3
        clear hw2
        have HW2 := Lib.hid hw2'
        clear hw2' hnx hhi2 h2e hz hd
        go_wp2_with fail
        (with_reducible refine c3.mono ?_)
        clear c3
        rintro e w3 ⟨g3, rfl, hg3, m3, b3⟩
        rw [HW2.out] at hg3 b3
        have Y3 := Y2.next b3
        have X3 := X2.next b3
        have T3 := T2.trans (Tch.of_below b3)
        have sz3 := b3.size
        clear Y2 X2 T2 b3 l3 l4 xr yr tr
        have hnx := HNXE.out
        have hhi2 := HHI.out
        have h2e := HE.out
        have hz := HZ.out
        by_cases hmust : 0 < lo1
        · have em : decide (0 < lo1) = true := decide_eq_true hmust
          obtain ⟨nx', hnx'⟩ : ∃ z, (if 0 < lo1 then nx else nx.set a1 false) = z := ⟨_, rfl⟩
          have HNX := Lib.hid hnx'
          obtain ⟨w4, hw4⟩ : ∃ z : World, z = w3 := ⟨_, rfl⟩
          have Y4 : Wyc w4 Wy s cu1 := hw4 ▸ Y3
          have X4 := (show Blk w4 w.heap.size 27 (reC k S (some ⟨kg, ko, none⟩) 1 c lo2 hi2 nn).toArray from hw4 ▸ X3)
          have T4 : Tch (· = Wy) w w4 := hw4 ▸ T3
          have m4 : Mks w4 g3 nx' := by rw [hw4, ← hnx', if_pos hmust]; exact m3
          rw [← hw4]
          clear Y3 X3 T3 m3 hw4 hnx'
          have NL : nx'.length = s.size + 1 := by rw [← HNX.out, if_pos hmust]; exact HNL.out
          have ON : ∀ i, On nx' i → On nx i ∧ (0 < lo1 ∨ i ≠ a1) := fun i hi => ⟨by rw [← HNX.out, if_pos hmust] at hi; exact hi, .inl hmust⟩
          have hq5 := X4.cell 5
          simp only [List.getElem?_toArray, List.getElem?_cons_zero, List.getElem?_cons_succ] at hq5
          have hc := HKC.out w4 T4
          have fk0 := hc 0 _ rfl
          have fk1 := hc 1 _ rfl
          have fk2 := hc 2 _ rfl
          have fk3 := hc 3 _ rfl
          have fk4 := hc 4 _ rfl
          have fk5 := hc 5 _ rfl
          have fk6 := hc 6 _ rfl
          have fk7 := hc 7 _ rfl
          have fk8 := hc 8 _ rfl
          simp only [Nat.zero_mul, Nat.add_zero] at fk0 fk1 fk2 fk3 fk4 fk5 fk6 fk7 fk8
          have c5 := HBK.out w4 T4 cu1 Y4 g3 nx' m4 NL
          have BL : (backS (bsS s) x nx').length = s.size + 1 := HG.out.len nx' NL
          clear hc p0 p1 p2 p3 p4 p5 p6 p7 p8
          have gm := 0
          go_wp2_with fail
          (with_reducible refine c5.mono ?_)
          clear c5
          rintro e w5 ⟨g5, rfl, hg5, m5, b5⟩
          have Y5 := Y4.next b5
          have X5 := X4.next b5
          have m6 := m4.next b5
          have T5 := T4.trans (Tch.of_below b5)
          clear Y4 X4 m4 b5
          have v5 := m5.cell a1
          rw [bV_get (by rw [BL]; omega)] at v5
          by_cases hgo : (backS (bsS s) x nx').getD a1 false = true
          · rw [hgo] at v5
            have HGO := Lib.hid (getD_on.1 hgo)
            have hFO := HFO.out a1 nx' cu1 qa NL HGO.out
            have E1 := hFO.le
            have E2 := hFO.en
            rw [bs_len] at E2
            have E3 := ON _ hFO.on
            have hstep : Hid (againS (backS (bsS s) x) (firstS (bsS s) x) s.size F lo2 hi2 (firstS (bsS s) x a1 nx' cu1).1 tm (firstS (bsS s) x a1 nx' cu1).2 = R) := Lib.hid (by
              rw [← qR.out, againS, if_neg hz]
              simp only [hlo2, hhi2, hnx]
              rw [HNX.out, if_pos hgo])
            have fq5 := X5.cell 5
            simp only [List.getElem?_toArray, List.getElem?_cons_zero, List.getElem?_cons_succ] at fq5
            have hc := HKC.out w5 T5
            have fk0 := hc 0 _ rfl
            have fk1 := hc 1 _ rfl
            have fk2 := hc 2 _ rfl
            have fk3 := hc 3 _ rfl
            have fk4 := hc 4 _ rfl
            have fk5 := hc 5 _ rfl
            have fk6 := hc 6 _ rfl
            have fk7 := hc 7 _ rfl
            have fk8 := hc 8 _ rfl
            simp only [Nat.zero_mul, Nat.add_zero] at fk0 fk1 fk2 fk3 fk4 fk5 fk6 fk7 fk8
            have c6 := HFK.out w5 T5 cu1 Y5 a1 qa g3 nx' m6 NL HGO.out
            have hm1 : lo2.toNat + (s.size - (firstS (bsS s) x a1 nx' cu1).1) < F := by
              rcases E3.2 with h | h <;> omega
            have hm2 : Hid (On (timesS (backS (bsS s) x) s.size lo2 hi2 tm) (firstS (bsS s) x a1 nx' cu1).1) := Lib.hid (by rw [hnx]; exact E3.1)
            have sz5 := T5.size
            clear hc hgo hFO E3 ON m5 Y5 m6 qR qon E1 HGO
            unfold FirstPost at c6
            generalize firstS (bsS s) x a1 nx' cu1 = FS at *
            go_wp2_with fail
            (with_reducible refine c6.mono ?_)
            clear c6
            rintro e w6 ⟨rfl, Y6, t6⟩
            have X6 := X5.tch t6 (box_ne2 X5 Y6.lt (by omega))
            have T6 := T5.trans t6
            clear T5 t6 X5
            go_wp2_with fail
            go_roundg F
            case rel => exact ⟨lo2, hi2, FS.1, FS.2, rfl, r0, r8, rh8, rlh, hm1, E2, hm2, hstep, X6, Y6, T6⟩
            case measure => omega
          · have hgo2 : (backS (bsS s) x nx').getD a1 false = false := by simpa using hgo
            rw [hgo2] at v5
            have hstep : Hid (R = (a1, cu1)) := Lib.hid (by
              rw [← qR.out, againS, if_neg hz]
              simp only [hlo2, hhi2, hnx]
              rw [HNX.out, if_neg hgo])
            clear hgo hgo2 ON qR qon
            go_wp2_with fail
            go_ret
            rw [HR.out, hstep.out]
            exact ⟨rfl, Y5, T5⟩

        · have em : decide (0 < lo1) = false := decide_eq_false hmust
          obtain ⟨nx', hnx'⟩ : ∃ z, (if 0 < lo1 then nx else nx.set a1 false) = z := ⟨_, rfl⟩
          have HNX := Lib.hid hnx'
          have l6 := m3.loose a1
          have v6 := m3.cell a1
          rw [bV_get (by rw [HNL.out]; omega)] at v6
          obtain ⟨w4, hw4⟩ : ∃ z : World, w3.setCell ⟨g3, a1, none⟩ (.bool false) = z := ⟨_, rfl⟩
          have Y4 : Wyc w4 Wy s cu1 := by rw [← hw4]; exact Y3.far (p := ⟨g3, a1, none⟩) (by show Wy ≠ g3; omega) _
          have X4 : Blk w4 w.heap.size 27 (reC k S (some ⟨kg, ko, none⟩) 1 c lo2 hi2 nn).toArray := by rw [← hw4]; exact X3.far (p := ⟨g3, a1, none⟩) (by show w.heap.size ≠ g3; omega) _
          have T4 : Tch (· = Wy) w w4 := by rw [← hw4]; exact tch_out T3 ⟨g3, a1, none⟩ (by show w.heap.size ≤ g3; omega) _
          have m4 : Mks w4 g3 nx' := by
            rw [← hw4, ← hnx', if_neg hmust]
            have := m3.set_ a1 (.bool false)
            rwa [bV_put] at this
          clear Y3 X3 T3 m3 hnx'
          have NL : nx'.length = s.size + 1 := by rw [← HNX.out, if_neg hmust, List.length_set]; exact HNL.out
          have ON : ∀ i, On nx' i → On nx i ∧ (0 < lo1 ∨ i ≠ a1) := fun i hi => by rw [← HNX.out, if_neg hmust, set_off] at hi; exact ⟨hi.2, .inr hi.1⟩
          have hq5 := X4.cell 5
          simp only [List.getElem?_toArray, List.getElem?_cons_zero, List.getElem?_cons_succ] at hq5
          have hc := HKC.out w4 T4
          have fk0 := hc 0 _ rfl
          have fk1 := hc 1 _ rfl
          have fk2 := hc 2 _ rfl
          have fk3 := hc 3 _ rfl
          have fk4 := hc 4 _ rfl
          have fk5 := hc 5 _ rfl
          have fk6 := hc 6 _ rfl
          have fk7 := hc 7 _ rfl
          have fk8 := hc 8 _ rfl
          simp only [Nat.zero_mul, Nat.add_zero] at fk0 fk1 fk2 fk3 fk4 fk5 fk6 fk7 fk8
          have c5 := HBK.out w4 T4 cu1 Y4 g3 nx' m4 NL
          have BL : (backS (bsS s) x nx').length = s.size + 1 := HG.out.len nx' NL
          clear hc p0 p1 p2 p3 p4 p5 p6 p7 p8
          have gm := 0
          go_wp2_with fail
          (with_reducible refine c5.mono ?_)
          clear c5
          rintro e w5 ⟨g5, rfl, hg5, m5, b5⟩
          have Y5 := Y4.next b5
          have X5 := X4.next b5
          have m6 := m4.next b5
          have T5 := T4.trans (Tch.of_below b5)
          clear Y4 X4 m4 b5
          have v5 := m5.cell a1
          rw [bV_get (by rw [BL]; omega)] at v5
          by_cases hgo : (backS (bsS s) x nx').getD a1 false = true
          · rw [hgo] at v5
            have HGO := Lib.hid (getD_on.1 hgo)
            have hFO := HFO.out a1 nx' cu1 qa NL HGO.out
            have E1 := hFO.le
            have E2 := hFO.en
            rw [bs_len] at E2
            have E3 := ON _ hFO.on
            have hstep : Hid (againS (backS (bsS s) x) (firstS (bsS s) x) s.size F lo2 hi2 (firstS (bsS s) x a1 nx' cu1).1 tm (firstS (bsS s) x a1 nx' cu1).2 = R) := Lib.hid (by
              rw [← qR.out, againS, if_neg hz]
              simp only [hlo2, hhi2, hnx]
              rw [HNX.out, if_pos hgo])
            have fq5 := X5.cell 5
            simp only [List.getElem?_toArray, List.getElem?_cons_zero, List.getElem?_cons_succ] at fq5
            have hc := HKC.out w5 T5
            have fk0 := hc 0 _ rfl
            have fk1 := hc 1 _ rfl
            have fk2 := hc 2 _ rfl
            have fk3 := hc 3 _ rfl
            have fk4 := hc 4 _ rfl
            have fk5 := hc 5 _ rfl
            have fk6 := hc 6 _ rfl
            have fk7 := hc 7 _ rfl
            have fk8 := hc 8 _ rfl
            simp only [Nat.zero_mul, Nat.add_zero] at fk0 fk1 fk2 fk3 fk4 fk5 fk6 fk7 fk8
            have c6 := HFK.out w5 T5 cu1 Y5 a1 qa g3 nx' m6 NL HGO.out
            have hm1 : lo2.toNat + (s.size - (firstS (bsS s) x a1 nx' cu1).1) < F := by
              rcases E3.2 with h | h <;> omega
            have hm2 : Hid (On (timesS (backS (bsS s) x) s.size lo2 hi2 tm) (firstS (bsS s) x a1 nx' cu1).1) := Lib.hid (by rw [hnx]; exact E3.1)
            have sz5 := T5.size
            clear hc hgo hFO E3 ON m5 Y5 m6 qR qon E1 HGO
            unfold FirstPost at c6
            generalize firstS (bsS s) x a1 nx' cu1 = FS at *
            go_wp2_with fail
            (with_reducible refine c6.mono ?_)
            clear c6
            rintro e w6 ⟨rfl, Y6, t6⟩
            have X6 := X5.tch t6 (box_ne2 X5 Y6.lt (by omega))
            have T6 := T5.trans t6
            clear T5 t6 X5
            go_wp2_with fail
            go_roundg F
            case rel => exact ⟨lo2, hi2, FS.1, FS.2, rfl, r0, r8, rh8, rlh, hm1, E2, hm2, hstep, X6, Y6, T6⟩
            case measure => omega
          · have hgo2 : (backS (bsS s) x nx').getD a1 false = false := by simpa using hgo
            rw [hgo2] at v5
            have hstep : Hid (R = (a1, cu1)) := Lib.hid (by
              rw [← qR.out, againS, if_neg hz]
              simp only [hlo2, hhi2, hnx]
              rw [HNX.out, if_neg hgo])
            clear hgo hgo2 ON qR qon
            go_wp2_with fail
            go_ret
            rw [HR.out, hstep.out]
            exact ⟨rfl, Y5, T5⟩
      · have hd : ¬ 0 < hi1 := hup
        have h2e : hi2 = hi1 := by rw [← hhi2, if_neg hd]
        have ez3 : decide (hi1 > 0) = false := decide_eq_false hd
        have ez4 : decide (0 < hi1) = false := decide_eq_false hd
        obtain ⟨w2, hw2⟩ : ∃ z : World, wr.setCell ⟨w.heap.size, 6, none⟩ (.int .i64 lo2) = z := ⟨_, rfl⟩
        have X2 : Blk w2 w.heap.size 27 (reC k S (some ⟨kg, ko, none⟩) 1 c lo2 hi2 nn).toArray := by
          rw [← hw2, h2e]; exact xr.set_ 6 (.int .i64 lo2)
        have Y2 : Wyc w2 Wy s cu1 := by
          rw [← hw2]; exact yr.far (p := ⟨w.heap.size, 6, none⟩) (by show Wy ≠ w.heap.size; omega) _
        have T2 : Tch (· = Wy) w w2 := by
          rw [← hw2]; exact tch_out tr ⟨w.heap.size, 6, none⟩ (Nat.le_refl _) _

        have c3 := HTK.out w2 T2 lo2 hi2 r0 r8 rh8 cu1 Y2 (HM.out.tch T2 hgw) HTO.out
        have HNL := Lib.hid (times_len HG.out lo2 hi2 tm HTO.out)
        unfold BackPost at c3
        obtain ⟨nx, hnx⟩ : ∃ z, timesS (backS (bsS s) x) s.size lo2 hi2 tm = z := ⟨_, rfl⟩
        rw [hnx] at HNL c3
        rw [h2e] at c3
        have HNXE := Lib.hid hnx
        have HHI := Lib.hid hhi2
        have HE := Lib.hid h2e
        have HZ := Lib.hid hz
        have sz2 := X2.lt
        have hw2' := hw2
        rw [← hw2] at c3
        clear hw2
        have HW2 := Lib.hid hw2'
        clear hw2' hnx hhi2 h2e hz hd
        go_wp2_with fail
        (with_reducible refine c3.mono ?_)
        clear c3
        rintro e w3 ⟨g3, rfl, hg3, m3, b3⟩
        rw [HW2.out] at hg3 b3
        have Y3 := Y2.next b3
        have X3 := X2.next b3
        have T3 := T2.trans (Tch.of_below b3)
        have sz3 := b3.size
        clear Y2 X2 T2 b3 l3 l4 xr yr tr
        have hnx := HNXE.out
        have hhi2 := HHI.out
        have h2e := HE.out
        have hz := HZ.out
        by_cases hmust : 0 < lo1
        · have em : decide (0 < lo1) = true := decide_eq_true hmust
          obtain ⟨nx', hnx'⟩ : ∃ z, (if 0 < lo1 then nx else nx.set a1 false) = z := ⟨_, rfl⟩
          have HNX := Lib.hid hnx'
          obtain ⟨w4, hw4⟩ : ∃ z : World, z = w3 := ⟨_, rfl⟩
          have Y4 : Wyc w4 Wy s cu1 := hw4 ▸ Y3
          have X4 := (show Blk w4 w.heap.size 27 (reC k S (some ⟨kg, ko, none⟩) 1 c lo2 hi2 nn).toArray from hw4 ▸ X3)
          have T4 : Tch (· = Wy) w w4 := hw4 ▸ T3
          have m4 : Mks w4 g3 nx' := by rw [hw4, ← hnx', if_pos hmust]; exact m3
          rw [← hw4]
          clear Y3 X3 T3 m3 hw4 hnx'
          have NL : nx'.length = s.size + 1 := by rw [← HNX.out, if_pos hmust]; exact HNL.out
          have ON : ∀ i, On nx' i → On nx i ∧ (0 < lo1 ∨ i ≠ a1) := fun i hi => ⟨by rw [← HNX.out, if_pos hmust] at hi; exact hi, .inl hmust⟩
          have hq5 := X4.cell 5
          simp only [List.getElem?_toArray, List.getElem?_cons_zero, List.getElem?_cons_succ] at hq5
          have hc := HKC.out w4 T4
          have fk0 := hc 0 _ rfl
          have fk1 := hc 1 _ rfl
          have fk2 := hc 2 _ rfl
          have fk3 := hc 3 _ rfl
          have fk4 := hc 4 _ rfl
          have fk5 := hc 5 _ rfl
          have fk6 := hc 6 _ rfl
          have fk7 := hc 7 _ rfl
          have fk8 := hc 8 _ rfl
          simp only [Nat.zero_mul, Nat.add_zero] at fk0 fk1 fk2 fk3 fk4 fk5 fk6 fk7 fk8
          have c5 := HBK.out w4 T4 cu1 Y4 g3 nx' m4 NL
          have BL : (backS (bsS s) x nx').length = s.size + 1 := HG.out.len nx' NL
          clear hc p0 p1 p2 p3 p4 p5 p6 p7 p8
          have gm := 0
          go_wp2_with fail
          (with_reducible refine c5.mono ?_)
          clear c5
          rintro e w5 ⟨g5, rfl, hg5, m5, b5⟩
          have Y5 := Y4.next b5
          have X5 := X4.next b5
          have m6 := m4.next b5
          have T5 := T4.trans (Tch.of_below b5)
          clear Y4 X4 m4 b5
          have v5 := m5.cell a1
          rw [bV_get (by rw [BL]; omega)] at v5
          by_cases hgo : (backS (bsS s) x nx').getD a1 false = true
          · rw [hgo] at v5
            have HGO := Lib.hid (getD_on.1 hgo)
            have hFO := HFO.out a1 nx' cu1 qa NL HGO.out
            have E1 := hFO.le
            have E2 := hFO.en
            rw [bs_len] at E2
            have E3 := ON _ hFO.on
            have hstep : Hid (againS (backS (bsS s) x) (firstS (bsS s) x) s.size F lo2 hi2 (firstS (bsS s) x a1 nx' cu1).1 tm (firstS (bsS s) x a1 nx' cu1).2 = R) := Lib.hid (by
              rw [← qR.out, againS, if_neg hz]
              simp only [hlo2, hhi2, hnx]
              rw [HNX.out, if_pos hgo])
            have fq5 := X5.cell 5
            simp only [List.getElem?_toArray, List.getElem?_cons_zero, List.getElem?_cons_succ] at fq5
            have hc := HKC.out w5 T5
            have fk0 := hc 0 _ rfl
            have fk1 := hc 1 _ rfl
            have fk2 := hc 2 _ rfl
            have fk3 := hc 3 _ rfl
            have fk4 := hc 4 _ rfl
            have fk5 := hc 5 _ rfl
            have fk6 := hc 6 _ rfl
            have fk7 := hc 7 _ rfl
            have fk8 := hc 8 _ rfl
            simp only [Nat.zero_mul, Nat.add_zero] at fk0 fk1 fk2 fk3 fk4 fk5 fk6 fk7 fk8
            have c6 := HFK.out w5 T5 cu1 Y5 a1 qa g3 nx' m6 NL HGO.out
            have hm1 : lo2.toNat + (s.size - (firstS (bsS s) x a1 nx' cu1).1) < F := by
              rcases E3.2 with h | h <;> omega
            have hm2 : Hid (On (timesS (backS (bsS s) x) s.size lo2 hi2 tm) (firstS (bsS s) x a1 nx' cu1).1) := Lib.hid (by rw [hnx]; exact E3.1)
            have sz5 := T5.size
            clear hc hgo hFO E3 ON m5 Y5 m6 qR qon E1 HGO
            unfold FirstPost at c6
            generalize firstS (bsS s) x a1 nx' cu1 = FS at *
            go_wp2_with fail
            (with_reducible refine c6.mono ?_)
            clear c6
            rintro e w6 ⟨rfl, Y6, t6⟩
            have X6 := X5.tch t6 (box_ne2 X5 Y6.lt (by omega))
            have T6 := T5.trans t6
            clear T5 t6 X5
            go_wp2_with fail
            go_roundg F
            case rel => exact ⟨lo2, hi2, FS.1, FS.2, rfl, r0, r8, rh8, rlh, hm1, E2, hm2, hstep, X6, Y6, T6⟩
            case measure => omega
          · have hgo2 : (backS (bsS s) x nx').getD a1 false = false := by simpa using hgo
            rw [hgo2] at v5
            have hstep : Hid (R = (a1, cu1)) := Lib.hid (by
              rw [← qR.out, againS, if_neg hz]
              simp only [hlo2, hhi2, hnx]
              rw [HNX.out, if_neg hgo])
            clear hgo hgo2 ON qR qon
            go_wp2_with fail
            go_ret
            rw [HR.out, hstep.out]
            exact ⟨rfl, Y5, T5⟩

        · have em : decide (0 < lo1) = false := decide_eq_false hmust
          obtain ⟨nx', hnx'⟩ : ∃ z, (if 0 < lo1 then nx else nx.set a1 false) = z := ⟨_, rfl⟩
          have HNX := Lib.hid hnx'
          have l6 := m3.loose a1
          have v6 := m3.cell a1
          rw [bV_get (by rw [HNL.out]; omega)] at v6
          obtain ⟨w4, hw4⟩ : ∃ z : World, w3.setCell ⟨g3, a1, none⟩ (.bool false) = z := ⟨_, rfl⟩
          have Y4 : Wyc w4 Wy s cu1 := by rw [← hw4]; exact Y3.far (p := ⟨g3, a1, none⟩) (by show Wy ≠ g3; omega) _
          have X4 : Blk w4 w.heap.size 27 (reC k S (some ⟨kg, ko, none⟩) 1 c lo2 hi2 nn).toArray := by rw [← hw4]; exact X3.far (p := ⟨g3, a1, none⟩) (by show w.heap.size ≠ g3; omega) _
          have T4 : Tch (· = Wy) w w4 := by rw [← hw4]; exact tch_out T3 ⟨g3, a1, none⟩ (by show w.heap.size ≤ g3; omega) _
          have m4 : Mks w4 g3 nx' := by
            rw [← hw4, ← hnx', if_neg hmust]
            have := m3.set_ a1 (.bool false)
            rwa [bV_put] at this
          clear Y3 X3 T3 m3 hnx'
          have NL : nx'.length = s.size + 1 := by rw [← HNX.out, if_neg hmust, List.length_set]; exact HNL.out
          have ON : ∀ i, On nx' i → On nx i ∧ (0 < lo1 ∨ i ≠ a1) := fun i hi => by rw [← HNX.out, if_neg hmust, set_off] at hi; exact ⟨hi.2, .inr hi.1⟩
          have hq5 := X4.cell 5
          simp only [List.getElem?_toArray, List.getElem?_cons_zero, List.getElem?_cons_succ] at hq5
          have hc := HKC.out w4 T4
          have fk0 := hc 0 _ rfl
          have fk1 := hc 1 _ rfl
          have fk2 := hc 2 _ rfl
          have fk3 := hc 3 _ rfl
          have fk4 := hc 4 _ rfl
          have fk5 := hc 5 _ rfl
          have fk6 := hc 6 _ rfl
          have fk7 := hc 7 _ rfl
          have fk8 := hc 8 _ rfl
          simp only [Nat.zero_mul, Nat.add_zero] at fk0 fk1 fk2 fk3 fk4 fk5 fk6 fk7 fk8
          have c5 := HBK.out w4 T4 cu1 Y4 g3 nx' m4 NL
          have BL : (backS (bsS s) x nx').length = s.size + 1 := HG.out.len nx' NL
          clear hc p0 p1 p2 p3 p4 p5 p6 p7 p8
          have gm := 0
          go_wp2_with fail
          (with_reducible refine c5.mono ?_)
          clear c5
          rintro e w5 ⟨g5, rfl, hg5, m5, b5⟩
          have Y5 := Y4.next b5
          have X5 := X4.next b5
          have m6 := m4.next b5
          have T5 := T4.trans (Tch.of_below b5)
          clear Y4 X4 m4 b5
          have v5 := m5.cell a1
          rw [bV_get (by rw [BL]; omega)] at v5
          by_cases hgo : (backS (bsS s) x nx').getD a1 false = true
          · rw [hgo] at v5
            have HGO := Lib.hid (getD_on.1 hgo)
            have hFO := HFO.out a1 nx' cu1 qa NL HGO.out
            have E1 := hFO.le
            have E2 := hFO.en
            rw [bs_len] at E2
            have E3 := ON _ hFO.on
            have hstep : Hid (againS (backS (bsS s) x) (firstS (bsS s) x) s.size F lo2 hi2 (firstS (bsS s) x a1 nx' cu1).1 tm (firstS (bsS s) x a1 nx' cu1).2 = R) := Lib.hid (by
              rw [← qR.out, againS, if_neg hz]
              simp only [hlo2, hhi2, hnx]
              rw [HNX.out, if_pos hgo])
            have fq5 := X5.cell 5
            simp only [List.getElem?_toArray, List.getElem?_cons_zero, List.getElem?_cons_succ] at fq5
            have hc := HKC.out w5 T5
            have fk0 := hc 0 _ rfl
            have fk1 := hc 1 _ rfl
            have fk2 := hc 2 _ rfl
            have fk3 := hc 3 _ rfl
            have fk4 := hc 4 _ rfl
            have fk5 := hc 5 _ rfl
            have fk6 := hc 6 _ rfl
            have fk7 := hc 7 _ rfl
            have fk8 := hc 8 _ rfl
            simp only [Nat.zero_mul, Nat.add_zero] at fk0 fk1 fk2 fk3 fk4 fk5 fk6 fk7 fk8
            have c6 := HFK.out w5 T5 cu1 Y5 a1 qa g3 nx' m6 NL HGO.out
            have hm1 : lo2.toNat + (s.size - (firstS (bsS s) x a1 nx' cu1).1) < F := by
              rcases E3.2 with h | h <;> omega
            have hm2 : Hid (On (timesS (backS (bsS s) x) s.size lo2 hi2 tm) (firstS (bsS s) x a1 nx' cu1).1) := Lib.hid (by rw [hnx]; exact E3.1)
            have sz5 := T5.size
            clear hc hgo hFO E3 ON m5 Y5 m6 qR qon E1 HGO
            unfold FirstPost at c6
            generalize firstS (bsS s) x a1 nx' cu1 = FS at *
            go_wp2_with fail
            (with_reducible refine c6.mono ?_)
            clear c6
            rintro e w6 ⟨rfl, Y6, t6⟩
            have X6 := X5.tch t6 (box_ne2 X5 Y6.lt (by omega))
            have T6 := T5.trans t6
            clear T5 t6 X5
            go_wp2_with fail
            go_roundg F
            case rel => exact ⟨lo2, hi2, FS.1, FS.2, rfl, r0, r8, rh8, rlh, hm1, E2, hm2, hstep, X6, Y6, T6⟩
            case measure => omega
          · have hgo2 : (backS (bsS s) x nx').getD a1 false = false := by simpa using hgo
            rw [hgo2] at v5
            have hstep : Hid (R = (a1, cu1)) := Lib.hid (by
              rw [← qR.out, againS, if_neg hz]
              simp only [hlo2, hhi2, hnx]
              rw [HNX.out, if_neg hgo])
            clear hgo hgo2 ON qR qon
            go_wp2_with fail
            go_ret
            rw [HR.out, hstep.out]
            exact ⟨rfl, Y5, T5⟩
end GrpW
end Go.Proofs.YtpdmjegbjcefjaaDoor
