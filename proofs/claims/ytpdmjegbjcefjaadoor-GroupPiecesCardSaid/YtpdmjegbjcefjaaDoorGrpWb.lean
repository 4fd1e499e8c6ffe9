/- Rows of marks: the walks of none, or. Conditions: texts that fit. -/
import Derived.Test.YtpdmjegbjcefjaaDoorGrpPt
import Derived.Deep.OwnRows
import Derived.OwnWalk
import Derived.IntWalk
import Derived.Test.YtpdmjegbjcefjaaDoorEreF
import Derived.Deep.LoopGhost
namespace Go.Proofs.YtpdmjegbjcefjaaDoor
set_option linter.unusedVariables false
set_option linter.unusedSimpArgs false
open Go.RowKit
namespace GrpW
open EreP EreW EreX GrpP GrpS
abbrev bV (m : List Bool) : Array Value := (m.map Value.bool).toArray
theorem info_Bool : (Tryd.prog.info? 4).map (fun i => (i.zero, i.size, i.bytes)) = some (some (.bool false), 1, 1) := by kernel_rfl
theorem made_none (n : Nat) : madeCells #[.bool false] (n + 1) = bV (noneS n) := by
  apply Array.toList_inj.1
  simp [madeCells, bV, noneS, Nat.mod_one]
  exact List.ext_getElem (by simp) (fun i _ _ => by simp)
/-- A row of marks in memory. -/
abbrev Mks (w : World) (g : Nat) (m : List Bool) : Prop := Blk w g 4 (bV m)
abbrev mkV (g n : Nat) : Value := .slice (some ⟨g, 0, none⟩) (n + 1) (n + 1)
set_option maxHeartbeats 400000 in
theorem none_c (Wy : Nat) (cs : Array Value) (s : ByteArray) (w : World) (hb : Blk w Wy 58 cs) (h0 : cs[0]? = some (.string s)) (hs : s.size ≤ 1000000) :
    Calls Tryd.prog 24 #[.pointer (some ⟨Wy, 0, none⟩)] w fun e w' => e = .returned (mkV w.heap.size s.size) ∧ w' = w.alloc (.cells (bV (noneS s.size)) 4) := by
  have u0 := hb.cell 0
  rw [h0] at u0
  have hmr := run_make_row' (P := Tryd.prog) 59 4 (.bool false) 1 Tryd.underlying59 info_Bool rfl .i64 .i64 (s.size + 1) (by omega) (by omega)
  rw [made_none, Int.natCast_add, Int.natCast_one] at hmr
  go_enter Tryd.func24, Tryd.ntmps24
  go_wp2
  go_ret
  exact ⟨rfl, rfl⟩
def OrPost (gm : Nat) (m o : List Bool) (w : World) (e : Ending) (w' : World) : Prop := e = .returned (.bool (freshS m o)) ∧ Mks w' gm (orS m o) ∧ Tch (· = gm) w w'
theorem or_take {m o : List Bool} {i : Nat} {a b : Bool} (ha : m[i]? = some a) (hb : o[i]? = some b) : orS (m.take (i + 1)) (o.take (i + 1)) = orS (m.take i) (o.take i) ++ [a || b] := by
  obtain ⟨h1, e1⟩ := List.getElem?_eq_some_iff.1 ha
  obtain ⟨h2, e2⟩ := List.getElem?_eq_some_iff.1 hb
  rw [List.take_succ_eq_append_getElem h1, List.take_succ_eq_append_getElem h2, e1, e2]
  unfold orS
  rw [List.zipWith_append (by simp; omega)]
  simp
theorem fresh_take {m o : List Bool} {i : Nat} {a b : Bool} (ha : m[i]? = some a) (hb : o[i]? = some b) : freshS (m.take (i + 1)) (o.take (i + 1)) = (freshS (m.take i) (o.take i) || (b && !a)) := by
  induction i generalizing m o with
  | zero =>
    cases m with
    | nil => cases ha
    | cons x m =>
      cases o with
      | nil => cases hb
      | cons y o => simp at ha hb; subst ha hb; simp [freshS]
  | succ i ih =>
    cases m with
    | nil => cases ha
    | cons x m =>
      cases o with
      | nil => cases hb
      | cons y o =>
        have := ih (m := m) (o := o) (by simpa using ha) (by simpa using hb)
        rw [List.take_succ_cons, List.take_succ_cons, List.take_succ_cons, List.take_succ_cons, freshS, this, freshS, Bool.or_assoc]
theorem bV_set {i : Nat} (p r : List Bool) (x y : Bool) (h : p.length = i) : (bV (p ++ x :: r)).setIfInBounds i (.bool y) = bV (p ++ y :: r) := by
  subst h
  unfold bV
  rw [List.setIfInBounds_toArray, List.map_append, List.map_append, List.map_cons, List.map_cons]
  congr 1
  rw [List.set_append_right _ _ (by simp)]
  simp
set_option maxRecDepth 100000 in
set_option maxHeartbeats 1600000 in
theorem or_c (gm go n : Nat) (m o : List Bool) (w : World) (hm : Mks w gm m) (ho : Mks w go o) (hne : gm ≠ go) (lm : m.length = n + 1) (lo : o.length = n + 1) (hn : n ≤ 1000000) :
    Calls Tryd.prog 42 #[mkV gm n, mkV go n] w (OrPost gm m o w) := by
  go_enter Tryd.func42, Tryd.ntmps42
  go_wp2
  have HLM := Lib.hid lm
  have HLO := Lib.hid lo
  clear lm lo
  go_loopw [5, 10] (fun fv iv wr => ∃ (i : Nat) (f : Bool), iv = .int .i64 i ∧ i ≤ n + 1 ∧ fv = .bool f ∧ Hid (f = freshS (m.take i) (o.take i)) ∧ Mks wr gm (orS (m.take i) (o.take i) ++ m.drop i) ∧ Tch (· = gm) w wr) (fun _ iv _ => n + 1 - (intOf iv).toNat)
  case atStart => exact ⟨0, false, rfl, by omega, rfl, Lib.hid (by simp [freshS]), by simpa [orS] using hm, Tch.refl _ _⟩
  case round =>
    clear hm
    obtain ⟨i, f, rfl, hi, rfl, hf, hM, hT⟩ := hrel
    by_cases hlt : i < n + 1
    · obtain ⟨a, ha⟩ : ∃ a, m[i]? = some a := ⟨_, List.getElem?_eq_getElem (by rw [HLM.out]; exact hlt)⟩
      obtain ⟨b, hb⟩ : ∃ b, o[i]? = some b := ⟨_, List.getElem?_eq_getElem (by rw [HLO.out]; exact hlt)⟩
      have c1 := (ho.tch hT (fun e => hne e.symm)).cell i
      rw [List.getElem?_toArray, List.getElem?_map, hb, Option.map_some] at c1
      have c0 := hM.cell i
      have l0 := hM.loose i
      have hpl : (orS (m.take i) (o.take i)).length = i := by rw [or_len (by simp [HLM.out, HLO.out])]; simp [HLM.out]; omega
      have hdr : m.drop i = a :: m.drop (i + 1) := by
        rw [List.drop_eq_getElem_cons (by rw [HLM.out]; exact hlt)]
        congr 1
        rw [List.getElem?_eq_getElem (by rw [HLM.out]; exact hlt)] at ha
        injection ha
      rw [hdr] at c0 hM
      rw [List.getElem?_toArray, List.getElem?_map, List.getElem?_append_right (by omega), hpl, Nat.sub_self] at c0
      simp only [List.getElem?_cons_zero, Option.map_some] at c0
      have hot := or_take ha hb
      have hft := fresh_take ha hb
      have HOT := Lib.hid hot
      have HFT := Lib.hid hft
      have HPL := Lib.hid hpl
      have hset : Mks (wr.setCell ⟨gm, i, none⟩ (.bool true)) gm (orS (m.take i) (o.take i) ++ true :: m.drop (i + 1)) := by
        have := hM.set_ i (.bool true)
        rwa [bV_set _ _ _ _ hpl] at this
      have hTs := hT.setCell (p := ⟨gm, i, none⟩) rfl (.bool true)
      clear ha hb hot hft hpl hdr
      cases b with
      | false =>
        go_wp2
        go_roundw
        case rel => exact ⟨i + 1, f, by go_num, by omega, rfl, Lib.hid (by rw [HFT.out, hf.out]; simp), by rw [HOT.out, List.append_assoc]; simpa using hM, hT⟩
        case measure => simp [intOf]; omega
      | true =>
        cases a with
        | true =>
          go_wp2
          go_roundw
          case rel => exact ⟨i + 1, f, by go_num, by omega, rfl, Lib.hid (by rw [HFT.out, hf.out]; simp), by rw [HOT.out, List.append_assoc]; simpa using hM, hT⟩
          case measure => simp [intOf]; omega
        | false =>
          go_wp2
          go_roundw
          case rel => exact ⟨i + 1, true, by go_num, by omega, rfl, Lib.hid (by rw [HFT.out]; simp), by rw [HOT.out, List.append_assoc]; simpa using hset, hTs⟩
          case measure => simp [intOf]; omega
    · have hin : i = n + 1 := by omega
      subst hin
      have hfin : f = freshS m o := by rw [hf.out, List.take_of_length_le (by rw [HLM.out]; omega), List.take_of_length_le (by rw [HLO.out]; omega)]
      rw [List.take_of_length_le (by rw [HLM.out]; omega), List.take_of_length_le (by rw [HLO.out]; omega), List.drop_eq_nil_of_le (by rw [HLM.out]; omega), List.append_nil] at hM
      have HFIN := Lib.hid hfin
      clear hf hfin
      go_wp2
      go_ret
      exact ⟨by rw [HFIN.out]; rfl, hM, hT⟩
end GrpW
end Go.Proofs.YtpdmjegbjcefjaaDoor
namespace Go.Proofs.YtpdmjegbjcefjaaDoor
set_option linter.unusedVariables false
set_option linter.unusedSimpArgs false
open Go.RowKit
namespace GrpW
open EreP EreW EreX GrpP GrpS
def BackPost (n : Nat) (res : List Bool) (w : World) (e : Ending) (w' : World) : Prop := ∃ g, e = .returned (mkV g n) ∧ w.heap.size ≤ g ∧ Mks w' g res ∧ Below w.heap.size w w'
/-- The way's text in memory. -/
structure Wyr (w : World) (Wy : Nat) (s : ByteArray) : Prop where
  ex : ∃ cs, Blk w Wy 58 cs ∧ cs[0]? = some (.string s)
theorem Wyr.next {w w' : World} {Wy : Nat} {s : ByteArray} (h : Wyr w Wy s) (hb : Below w.heap.size w w') : Wyr w' Wy s := by
  obtain ⟨cs, h1, h2⟩ := h.ex
  exact ⟨cs, h1.next hb, h2⟩
abbrev bsS (s : ByteArray) : Bs := s.data.toList
/-- The contract of back, for trees up to a size. -/
def BackC (N : Nat) : Prop := ∀ (r : Re), nodesR r ≤ N → wfR r → ∀ (K : Nat → Prop) (w : World) (cs : List Value), Rt w K r cs → ∀ (Wy : Nat) (s : ByteArray), Wyr w Wy s → s.size ≤ 1000000 → ∀ (gt : Nat) (to : List Bool), Mks w gt to → to.length = s.size + 1 →
  Calls Tryd.prog 25 #[.pointer (some ⟨Wy, 0, none⟩), .agg cs.toArray, mkV gt s.size] w (BackPost s.size (backS (bsS s) r to) w)
theorem wy_none {w : World} {Wy : Nat} {s : ByteArray} (h : Wyr w Wy s) (hs : s.size ≤ 1000000) :
    Calls Tryd.prog 24 #[.pointer (some ⟨Wy, 0, none⟩)] w fun e w' => e = .returned (mkV w.heap.size s.size) ∧ Mks w' w.heap.size (noneS s.size) ∧ Below w.heap.size w w' := by
  obtain ⟨cs, h1, h2⟩ := h.ex
  refine (none_c Wy cs s w h1 h2 hs).mono ?_
  rintro e w' ⟨rfl, rfl⟩
  exact ⟨rfl, Blk.new _ _ _, (Below.refl _ _).alloc (Nat.le_refl _) _⟩
/-- A kid's cells in every world that has only grown. -/
theorem kidW {w : World} {K : Nat → Prop} {kind : Int} {S : Nat} {kids : List Re} {lo hi nn : Int} {A : Option Addr} {m c : Nat} (h : Rt w K (.mk kind S kids lo hi nn) (reC kind S A m c lo hi nn)) (i : Nat) (hi' : i < kids.length) :
    ∃ g o A2 c2 k0 k1 k2 k3 k4 k5, A = some ⟨g, o, none⟩ ∧ ∀ W, Below w.heap.size w W → Rt W K (kids[i]'hi') (reC k0 k1 A2 k2 c2 k3 k4 k5) ∧ ∀ j u, (reC k0 k1 A2 k2 c2 k3 k4 k5)[j]? = some u → W.cell? ⟨g, o + i * 9 + j, none⟩ = some u := by
  obtain ⟨g, o, e, hg, A2, c2, hk, hc⟩ := (kid h).2 i hi'
  refine ⟨g, o, A2, c2, _, _, _, _, _, _, e, fun W hb => ⟨hk.bel hb, fun j u hu => ?_⟩⟩
  have h1 := hc j u hu
  rw [hb.cell (p := ⟨g, o + i * 9 + j, none⟩) (World.block_lt_of_cell? w _ h1)]
  exact h1
theorem up_stop {g : List Bool → List Bool} {hi : Int} {f : Nat} {i : Int} {out now : List Bool} (h : ¬ (freshS out now = true ∧ (hi < 0 ∨ i < hi))) : upS g hi f i out now = orS out now := by
  cases f with
  | zero => rw [upS]
  | succ f =>
    rw [upS, if_neg]
    rw [Bool.and_eq_true, Bool.or_eq_true, decide_eq_true_eq, decide_eq_true_eq]; exact h
theorem up_go {g : List Bool → List Bool} {hi : Int} {f : Nat} {i : Int} {out now : List Bool} (h1 : freshS out now = true) (h2 : hi < 0 ∨ i < hi) : upS g hi (f + 1) i out now = upS g hi f (i + 1) (orS out now) (g now) := by
  rw [upS, if_pos]
  rw [Bool.and_eq_true, Bool.or_eq_true, decide_eq_true_eq, decide_eq_true_eq]; exact ⟨h1, h2⟩
set_option maxRecDepth 100000 in
set_option maxHeartbeats 3200000 in
theorem times_c (N : Nat) (HB : BackC N) (k : Int) (S : Nat) (x : Re) (lo hi nn : Int) (hx : nodesR x ≤ N) (hw : wfR x) (h0 : 0 ≤ lo) (h8 : lo ≤ 8) (hh8 : hi ≤ 8) (K : Nat → Prop) (w : World) (A : Option Addr) (c : Nat)
    (h : Rt w K (.mk k S [x] lo hi nn) (reC k S A 1 c lo hi nn)) (Wy : Nat) (s : ByteArray) (hy : Wyr w Wy s) (hs : s.size ≤ 1000000) (gt : Nat) (to : List Bool) (hm : Mks w gt to) (hto : to.length = s.size + 1) :
    Calls Tryd.prog 43 #[.pointer (some ⟨Wy, 0, none⟩), .agg (reC k S A 1 c lo hi nn).toArray, mkV gt s.size] w (BackPost s.size (timesS (backS (bsS s) x) s.size lo hi to) w) := by
  obtain ⟨L, rfl⟩ := Int.eq_ofNat_of_zero_le h0
  have HG : Hid (Step s.size (backS (bsS s) x) (rel (bsS s) true true x)) := Lib.hid (back_step (bsS s) x hw)
  obtain ⟨wa, hwa⟩ : ∃ z : World, z = w.alloc (.cells (reC k S A 1 c (L : Int) hi nn).toArray 27) := ⟨_, rfl⟩
  have xa : Blk wa w.heap.size 27 (reC k S A 1 c (L : Int) hi nn).toArray := by rw [hwa]; exact Blk.new _ _ _
  have ba : Below w.heap.size w wa := by rw [hwa]; go_grown
  have hza : w.heap.size < wa.heap.size := xa.lt
  obtain ⟨kg, ko, A2, c2, k0, k1, k2, k3, k4, k5, rfl, hkid⟩ := kidW h 0 (by simp)
  have HKC := Lib.hid (fun W (hW : Below w.heap.size w W) => (hkid W hW).2)
  have HBK := Lib.hid (fun W (hW : Below w.heap.size w W) gt to hm hto => HB x hx hw K W _ (hkid W hW).1 Wy s (hy.next hW) hs gt to hm hto)
  have HLN := Lib.hid HG.out.len
  have HR := Lib.hid (h.bel ba)
  clear HB hkid
  have ya := hy.next ba
  have ma := hm.next ba
  have HTO := Lib.hid hto
  clear h hy hm hto
  have c1 := wy_none ya hs
  go_enter Tryd.func43, Tryd.ntmps43
  go_wp2_with fail
  rw [← hwa]
  clear hwa
  (with_reducible refine c1.mono ?_)
  clear c1
  rintro e w1 ⟨rfl, m1, b1⟩
  have y1 := ya.next b1
  have c2 := wy_none y1 hs
  have t1 := ma.next b1
  have x1 := xa.next b1
  have HR1 := Lib.hid (HR.out.bel b1)
  have B1 := via b1 ba
  have hz1 : wa.heap.size < w1.heap.size := m1.lt
  clear ya ma xa HR b1 ba
  go_wp2_with fail
  (with_reducible refine c2.mono ?_)
  clear c2
  rintro e w2 ⟨rfl, m2, b2⟩
  have y2 := y1.next b2
  have t2 := t1.next b2
  have x2 := x1.next b2
  have o2 := m1.next b2
  have HR2 := Lib.hid (HR1.out.bel b2)
  have B2 := via b2 B1
  have hz2 : w1.heap.size < w2.heap.size := m2.lt
  have htl := t1.lt
  have c3 := or_c w1.heap.size gt s.size (noneS s.size) to w2 m2 t2 (by omega) (none_len _) HTO.out hs
  clear y1 t1 x1 m1 HR1 b2 B1 m2
  go_wp2_with fail
  (with_reducible refine c3.mono ?_)
  clear c3
  rintro e w3 ⟨rfl, m3, t3⟩
  rw [or_none HTO.out] at m3
  have o3 := o2.tch t3 (by omega)
  have x3 := x2.tch t3 (by omega)
  have B3 := t3.below B2 (fun k hk => by rw [hk]; omega) (by omega)
  have z3 := t3.size
  clear x2 o2 y2 t2 t3 B2 HR2
  obtain ⟨o, ho⟩ : ∃ o, o = wa.heap.size := ⟨_, rfl⟩
  obtain ⟨q, hq⟩ : ∃ q, q = w1.heap.size := ⟨_, rfl⟩
  have hto : to.length = s.size + 1 := HTO.out
  obtain ⟨hz3, hz4, hz5⟩ : w.heap.size < o ∧ o < q ∧ q < w3.heap.size := ⟨by omega, by omega, by omega⟩
  simp only [← ho, ← hq] at m3 o3 ⊢
  clear hza hz1 hz2 htl z3 ho hq
  have p3 := x3.cell 6
  simp only [List.getElem?_toArray, List.getElem?_cons_zero, List.getElem?_cons_succ] at p3
  generalize freshS (noneS s.size) to = fr0
  go_wp2_with fail
  have HT0 : Hid (upS (backS (bsS s) x) hi (s.size + 2) (L : Int) (noneS s.size) to = upS (backS (bsS s) x) hi (s.size + 2) (L : Int) (noneS s.size) to) := Lib.hid rfl
  go_loopw [8, 9] (fun nv iv wr => ∃ (g cc f : Nat) (out now : List Bool), nv = mkV g s.size ∧ iv = .int .i64 ((L : Int) + cc) ∧ cc + f = s.size + 2 ∧ Mks wr g now ∧ g ≠ o ∧ Mks wr o out ∧ out.length = s.size + 1 ∧ now.length = s.size + 1 ∧ s.size + 2 ≤ f + out.count true ∧
      Hid (upS (backS (bsS s) x) hi (s.size + 2) (L : Int) (noneS s.size) to = upS (backS (bsS s) x) hi f ((L : Int) + cc) out now) ∧ Blk wr w.heap.size 27 (reC k S (some ⟨kg, ko, none⟩) 1 c (L : Int) hi nn).toArray ∧ Below w.heap.size w wr) (fun _ iv _ => ((L : Int) + s.size + 4 - intOf iv).toNat)
  case atStart => exact ⟨q, 0, s.size + 2, noneS s.size, to, rfl, by go_num, by omega, m3, by omega, o3, none_len _, hto, by omega, by simpa using HT0, x3, B3⟩
  case round =>
    clear o3 m3 x3 B3 p3 HT0
    obtain ⟨g, cc, f, out, now, rfl, rfl, hcf, mg, hgo, mo, lo_, ln_, hcnt, hup, xr, br⟩ := hrel
    have c4 := or_c o g s.size out now wr mo mg (fun e => hgo e.symm) lo_ ln_ hs
    obtain ⟨fr, hfr⟩ : ∃ fr, fr = freshS out now := ⟨_, rfl⟩
    unfold OrPost at c4
    rw [← hfr] at c4
    have HFR := Lib.hid hfr
    clear hfr
    go_wp2_with fail
    (with_reducible refine c4.mono ?_)
    clear c4
    rintro e w4 ⟨rfl, m4, t4⟩
    have x4 := xr.tch t4 (by omega)
    have b4 := t4.below br (fun k hk => by rw [hk]; omega) br.size
    have q5 := x4.cell 5
    have q7 := x4.cell 7
    simp only [List.getElem?_toArray, List.getElem?_cons_zero, List.getElem?_cons_succ] at q5 q7
    have sz4 := t4.size
    have mg4 := mg.tch t4 hgo
    clear mo mg t4
    by_cases hG : fr = true ∧ (hi < 0 ∨ (L : Int) + cc < hi)
    · obtain ⟨rfl, hG2⟩ := hG
      obtain ⟨f, rfl⟩ : ∃ f', f = f' + 1 := by
        cases f with
        | zero =>
          have := or_count (lo_.trans ln_.symm) HFR.out.symm
          have := List.count_le_length (a := true) (l := orS out now)
          rw [or_len (lo_.trans ln_.symm)] at this
          omega
        | succ f => exact ⟨f, rfl⟩
      have hup2 := Lib.hid (hup.out.trans (up_go HFR.out.symm hG2))
      have hcnt2 := or_count (lo_.trans ln_.symm) HFR.out.symm
      have hc := HKC.out w4 b4
      have fk0 := hc 0 _ rfl
      have fk1 := hc 1 _ rfl
      have fk2 := hc 2 _ rfl
      have fk3 := hc 3 _ rfl
      have fk4 := hc 4 _ rfl
      have fk5 := hc 5 _ rfl
      have fk6 := hc 6 _ rfl
      have fk7 := hc 7 _ rfl
      have fk8 := hc 8 _ rfl
      simp only [Nat.zero_mul, Nat.add_zero] at fk0 fk1 fk2 fk3 fk4 fk5 fk6 fk7 fk8
      have c5 := HBK.out w4 b4 g now mg4 ln_
      have hol := m4.lt
      have LN := HLN.out now ln_
      have OL : (orS out now).length = s.size + 1 := by rw [or_len (lo_.trans ln_.symm)]; exact lo_
      clear hc hup lo_ ln_ mg4
      by_cases hn : hi < 0
      · have e1 : decide (hi < 0) = true := decide_eq_true hn
        go_wp2_with fail
        (with_reducible refine c5.mono ?_)
        clear c5
        rintro e w5 ⟨g2, rfl, hg2, m5, b5⟩
        have b6 := via b5 b4
        have x6 := x4.next b5
        have o6 := m4.next b5
        clear b5 b4 x4 m4
        go_wp2_with fail
        go_roundw
        case rel => exact ⟨g2, cc + 1, f, _, _, rfl, by go_num, by omega, m5, by omega, o6, OL, LN, by omega, Lib.hid (by rw [hup2.out]; congr 1 <;> omega), x6, b6⟩
        case measure => simp [intOf]; omega
      · have e1 : decide (hi < 0) = false := decide_eq_false hn
        have e2 : decide ((L : Int) + cc < hi) = true := decide_eq_true (by omega)
        go_wp2_with fail
        (with_reducible refine c5.mono ?_)
        clear c5
        rintro e w5 ⟨g2, rfl, hg2, m5, b5⟩
        have b6 := via b5 b4
        have x6 := x4.next b5
        have o6 := m4.next b5
        clear b5 b4 x4 m4
        go_wp2_with fail
        go_roundw
        case rel => exact ⟨g2, cc + 1, f, _, _, rfl, by go_num, by omega, m5, by omega, o6, OL, LN, by omega, Lib.hid (by rw [hup2.out]; congr 1 <;> omega), x6, b6⟩
        case measure => simp [intOf]; omega
    · have hst : Hid (upS (backS (bsS s) x) hi (s.size + 2) (L : Int) (noneS s.size) to = orS out now) := Lib.hid (hup.out.trans (up_stop (by rw [← HFR.out]; exact hG)))
      have OL : (orS out now).length = s.size + 1 := by rw [or_len (lo_.trans ln_.symm)]; exact lo_
      have hend : Hid (timesS (backS (bsS s) x) s.size (L : Int) hi to = itS (backS (bsS s) x) (L - 0) (orS out now)) := Lib.hid (by unfold timesS; rw [hst.out]; simp)
      have q6 := x4.cell 6
      simp only [List.getElem?_toArray, List.getElem?_cons_zero, List.getElem?_cons_succ] at q6
      have hol := m4.lt
      have hcc : cc ≤ s.size + 2 := by omega
      generalize orS out now = o1 at *
      clear hup hst hcnt mg4 lo_ ln_ hgo hcf HFR
      have hex : fr = false ∨ (fr = true ∧ decide (hi < 0) = false ∧ decide ((L : Int) + cc < hi) = false) := by
        cases fr with
        | false => exact .inl rfl
        | true => exact .inr ⟨rfl, decide_eq_false (fun h => hG ⟨rfl, .inl h⟩), decide_eq_false (fun h => hG ⟨rfl, .inr h⟩)⟩
      clear hG
      rcases hex with rfl | ⟨rfl, e1, e2⟩
      all_goals
        go_wp2_with fail
        go_loopw [7, 44] (fun ov iv wr => ∃ (g i : Nat) (o : List Bool), ov = mkV g s.size ∧ iv = .int .i64 i ∧ i ≤ L ∧ Mks wr g o ∧ w.heap.size ≤ g ∧ o.length = s.size + 1 ∧
          Hid (timesS (backS (bsS s) x) s.size (L : Int) hi to = itS (backS (bsS s) x) (L - i) o) ∧ Blk wr w.heap.size 27 (reC k S (some ⟨kg, ko, none⟩) 1 c (L : Int) hi nn).toArray ∧ Below w.heap.size w wr) (fun _ iv _ => L - (intOf iv).toNat)
        case atStart => exact ⟨o, 0, o1, rfl, rfl, by omega, m4, by omega, OL, hend, x4, b4⟩
        case round =>
          clear m4 x4 b4 hend OL q5 q6 q7
          obtain ⟨g5, i, o5, rfl, rfl, hi5, m6, hg5, L5, h5, x6, b6⟩ := hrel
          by_cases hlt : i < L
          · have q5 := x6.cell 5
            simp only [List.getElem?_toArray, List.getElem?_cons_zero, List.getElem?_cons_succ] at q5
            have hc := HKC.out wr b6
            have fk0 := hc 0 _ rfl
            have fk1 := hc 1 _ rfl
            have fk2 := hc 2 _ rfl
            have fk3 := hc 3 _ rfl
            have fk4 := hc 4 _ rfl
            have fk5 := hc 5 _ rfl
            have fk6 := hc 6 _ rfl
            have fk7 := hc 7 _ rfl
            have fk8 := hc 8 _ rfl
            simp only [Nat.zero_mul, Nat.add_zero] at fk0 fk1 fk2 fk3 fk4 fk5 fk6 fk7 fk8
            have c5 := HBK.out wr b6 g5 o5 m6 L5
            have LN := HLN.out o5 L5
            have h6 : Hid (timesS (backS (bsS s) x) s.size (L : Int) hi to = itS (backS (bsS s) x) (L - (i + 1)) (backS (bsS s) x o5)) := Lib.hid (by rw [h5.out, show L - i = (L - (i + 1)) + 1 by omega, itS])
            have szr := b6.size
            clear hc h5 L5 m6
            go_wp2_with fail
            (with_reducible refine c5.mono ?_)
            clear c5
            rintro e w5 ⟨g2, rfl, hg2, m5, b5⟩
            have b7 := via b5 b6
            have x7 := x6.next b5
            clear b5 b6 x6
            go_wp2_with fail
            go_roundw
            case rel => exact ⟨g2, i + 1, _, rfl, by go_num, by omega, m5, by omega, LN, h6, x7, b7⟩
            case measure => simp [intOf]; omega
          · have hil : i = L := by omega
            subst hil
            have h6 : Hid (timesS (backS (bsS s) x) s.size (i : Int) hi to = o5) := Lib.hid (by rw [h5.out, Nat.sub_self, itS])
            clear h5
            go_wp2_with fail
            go_ret
            exact ⟨g5, rfl, hg5, by rw [h6.out]; exact m6, b6⟩
end GrpW
end Go.Proofs.YtpdmjegbjcefjaaDoor
