/- The reference's places: the walk of repeat. Conditions: trees that may be walked, texts that fit. -/
import Derived.Test.YtpdmjegbjcefjaaDoorGrpX
import Derived.Laws.CopyOwn
namespace Go.Proofs.YtpdmjegbjcefjaaDoor
set_option linter.unusedVariables false
set_option linter.unusedSimpArgs false
open Go.RowKit
namespace GrpW
open EreP EreW EreX GrpP GrpS
/-- The contract of Over, for trees up to a size. -/
def OverC (N : Nat) : Prop := ∀ (r : Re), nodesR r ≤ N → wfR r → ∀ (K : Nat → Prop) (w : World) (cs : List Value), Rt w K r cs → ∀ (s : ByteArray), s.size ≤ 1000000 → ∀ (gt : Nat) (x : List Bool), Mks w gt x → x.length = s.size + 1 → ∀ bg en : Bool,
  Calls Tryd.prog 13 #[.agg cs.toArray, .string s, mkV gt s.size, .bool bg, .bool en] w (BackPost s.size (overS (bsS s) bg en r x) w)
theorem bool_size : (Tryd.prog.info? 4).map (·.size) = some 1 := by kernel_rfl
theorem bL_one (m : List Bool) : ∀ v ∈ m.map Value.bool, v.oneCell' = true := by
  intro v hv; obtain ⟨b, _, rfl⟩ := List.mem_map.1 hv; rfl
theorem splice_all (n : Nat) (m : List Bool) (h : m.length = n + 1) : splice ((noneS n).map Value.bool) 0 (m.map Value.bool) = m.map Value.bool := by
  unfold splice
  rw [List.take_zero, List.nil_append, List.drop_eq_nil_of_le (by simp [none_len, h]), List.append_nil]
theorem marks_src {w : World} {g n : Nat} {m : List Bool} (h : Mks w g m) : ∀ j v, (m.map Value.bool)[j]? = some v → w.cell? ((⟨g, 0, none⟩ : Addr).add j) = some v := by
  intro j v hv
  unfold Addr.add
  split
  · next h0 => subst h0; rw [h.cell, List.getElem?_toArray]; exact hv
  · rw [Nat.zero_add, h.cell, List.getElem?_toArray]; exact hv
theorem it_fix {g : List Bool → List Bool} {x : List Bool} (h : g x = x) : ∀ k, itS g k x = x
  | 0 => rfl
  | k + 1 => by rw [itS, h]; exact it_fix h k
set_option maxRecDepth 100000 in
set_option maxHeartbeats 6400000 in
theorem repeat_c (N : Nat) (HO : OverC N) (k : Int) (S : Nat) (x : Re) (lo hi nn : Int) (hx : nodesR x ≤ N) (hw : wfR x) (h0 : 0 ≤ lo) (h8 : lo ≤ 8) (hh8 : hi ≤ 8) (K : Nat → Prop) (w : World) (A : Option Addr) (c : Nat)
    (h : Rt w K (.mk k S [x] lo hi nn) (reC k S A 1 c lo hi nn)) (s : ByteArray) (hs : s.size ≤ 1000000) (gt : Nat) (fr : List Bool) (hm : Mks w gt fr) (hto : fr.length = s.size + 1) (bg en : Bool) :
    Calls Tryd.prog 30 #[.agg (reC k S A 1 c lo hi nn).toArray, .string s, mkV gt s.size, .bool bg, .bool en] w (BackPost s.size (repO (overS (bsS s) bg en x) s.size lo hi fr) w) := by
  obtain ⟨L, rfl⟩ := Int.eq_ofNat_of_zero_le h0
  have HG : Hid (Step s.size (overS (bsS s) bg en x) (fun j i => rel (bsS s) bg en x i j)) := Lib.hid (over_step (bsS s) bg en x hw)
  obtain ⟨kg, ko, A2, c2, k0, k1, k2, k3, k4, k5, rfl, hkid⟩ := kidW h 0 (by simp)
  have HKC := Lib.hid (fun W (hW : Below w.heap.size w W) => (hkid W hW).2)
  have HBK := Lib.hid (fun W (hW : Below w.heap.size w W) gt y hm hto => HO x hx hw K W _ (hkid W hW).1 s hs gt y hm hto bg en)
  have HLN := Lib.hid HG.out.len
  obtain ⟨R, hR⟩ : ∃ R, repO (overS (bsS s) bg en x) s.size (L : Int) hi fr = R := ⟨_, rfl⟩
  rw [hR]
  have HRR : Hid (upS (overS (bsS s) bg en x) hi (s.size + 2) (L : Int) (noneS s.size) (itS (overS (bsS s) bg en x) L fr) = R) := Lib.hid (by rw [← hR, repO]; simp)
  generalize overS (bsS s) bg en x = G at *
  clear HO hkid hR HG
  have hmr := run_make_row' (P := Tryd.prog) 38 4 (.bool false) 1 Tryd.underlying38 info_Bool rfl .i64 .i64 (s.size + 1) (by omega) (by omega)
  rw [made_none, Int.natCast_add, Int.natCast_one] at hmr
  obtain ⟨w1, hw1⟩ : ∃ z : World, (w.alloc (.cells (reC k S (some ⟨kg, ko, none⟩) 1 c (L : Int) hi nn).toArray 27)).alloc (.cells (bV (noneS s.size)) 4) = z := ⟨_, rfl⟩
  have X1 : Blk w1 w.heap.size 27 (reC k S (some ⟨kg, ko, none⟩) 1 c (L : Int) hi nn).toArray := by rw [← hw1]; exact (Blk.new _ _ _).alloc _
  have O1 : Mks w1 (w.heap.size + 1) (noneS s.size) := by rw [← hw1]; exact Blk.new1 _ _ _ _
  have B1 : Below w.heap.size w w1 := by rw [← hw1]; go_grown
  have M1 := hm.next B1
  have hgl := hm.lt
  clear h hm
  go_enter Tryd.func30, Tryd.ntmps30
  go_upto_region 2 with fail
  try rw [hw1]
  clear hw1
  go_wp2_with (refine wpList_copy_splice rfl _ _ 38 38 rfl 4 Tryd.underlying38 bool_size (some ⟨w.heap.size + 1, 0, none⟩) (some ⟨gt, 0, none⟩) (s.size + 1) (s.size + 1) (s.size + 1) (s.size + 1) (by rfl) (by rfl) (w.heap.size + 1) 0 ((noneS s.size).map Value.bool) 4 (by exact O1) (fr.map Value.bool) (by rw [List.length_map, hto]; exact (Nat.min_self _).symm) (fun _ => ⟨rfl, _, rfl, marks_src (n := s.size) M1⟩) (by simp [none_len, hto]) (bL_one fr) (w.heap.size + 1) _ (Below.refl _ _) (Nat.le_refl _) ?_)
  intro w2 hh hb2
  have M2 : Mks w2 (w.heap.size + 1) fr := by have := hh.out; rw [splice_all s.size fr hto] at this; exact this
  have X2 := X1.below hb2 (by omega)
  have B2 : Below w.heap.size w w2 := B1.trans (hb2.mono (by omega))
  have HTO := Lib.hid hto
  clear hh hb2 X1 O1 B1 M1 hto
  go_wp2_with fail
  go_loopw [11, 12, 13, 14] (fun nv sv iv _ wr => ∃ (g i : Nat) (st : Bool) (now : List Bool), nv = mkV g s.size ∧ sv = .bool st ∧ iv = .int .i64 i ∧ i ≤ L ∧ Mks wr g now ∧ now.length = s.size + 1 ∧ w.heap.size ≤ g ∧ Hid (itS G L fr = if st = true then now else itS G (L - i) now) ∧ Blk wr w.heap.size 27 (reC k S (some ⟨kg, ko, none⟩) 1 c (L : Int) hi nn).toArray ∧ Below w.heap.size w wr) (fun _ _ iv _ _ => L - (intOf iv).toNat)
  case atStart => exact ⟨w.heap.size + 1, 0, false, fr, rfl, rfl, rfl, by omega, M2, HTO.out, by omega, Lib.hid rfl, X2, B2⟩
  case round =>
    clear M2 X2 B2
    obtain ⟨g, i, st, now, rfl, rfl, rfl, hi', mg, ln, hg, hq, xr, br⟩ := hrel
    have q5 := xr.cell 5
    have q6 := xr.cell 6
    simp only [List.getElem?_toArray, List.getElem?_cons_zero, List.getElem?_cons_succ] at q5 q6

    have szr := br.size
    by_cases hgo : i < L ∧ st = false
    · obtain ⟨hlt, rfl⟩ := hgo
      have hc := HKC.out wr br
      have fk0 := hc 0 _ rfl
      have fk1 := hc 1 _ rfl
      have fk2 := hc 2 _ rfl
      have fk3 := hc 3 _ rfl
      have fk4 := hc 4 _ rfl
      have fk5 := hc 5 _ rfl
      have fk6 := hc 6 _ rfl
      have fk7 := hc 7 _ rfl
      have fk8 := hc 8 _ rfl
      simp only [Nat.zero_mul, Nat.add_zero] at fk0 fk1 fk2 fk3 fk4 fk5 fk6 fk7 fk8

      have c5 := HBK.out wr br g now mg ln
      have LN := HLN.out now ln
      have hq2 : itS G L fr = itS G (L - (i + 1)) (G now) := by
        have := hq.out
        rw [if_neg (by decide), show L - i = (L - (i + 1)) + 1 by omega, itS] at this
        exact this
      have HQ2 := Lib.hid hq2
      clear hc hq hq2
      go_wp2_with fail
      (with_reducible refine c5.mono ?_)
      clear c5 fk0 fk1 fk2 fk3 fk4 fk5 fk6 fk7 fk8 q5 q6
      rintro e w5 ⟨g2, rfl, hg2, m5, b5⟩
      have x5 := xr.next b5
      have n5 := mg.next b5
      have b6 := via b5 br
      have c7 := alike_c g g2 s.size now (G now) w5 n5 m5 ln LN hs
      have HST : Hid (itS G L fr = if decide (now = G now) = true then G now else itS G (L - (i + 1)) (G now)) := Lib.hid (by
        by_cases e : now = G now
        · rw [if_pos (decide_eq_true e), HQ2.out]
          exact it_fix (by rw [← e]; exact e.symm) _
        · rw [if_neg (by simpa using e)]; exact HQ2.out)
      clear b5 br xr mg n5
      go_wp2_with fail
      (with_reducible refine c7.mono ?_)
      clear c7
      rintro e w7 ⟨rfl, b7⟩
      have x7 := x5.next b7
      have m7 := m5.next b7
      have b8 := via b7 b6
      clear b7 b6 x5 m5
      generalize hnw : G now = nx at *
      generalize decide (now = nx) = st2 at *
      clear hnw
      go_wp2_with fail
      go_roundw
      case rel => exact ⟨g2, i + 1, st2, nx, rfl, rfl, by go_num, by omega, m7, LN, by omega, HST, x7, b8⟩
      case measure => simp [intOf]; omega
    · have hend : itS G L fr = now := by
        rw [hq.out]
        by_cases e : st = true
        · rw [if_pos e]
        · rw [if_neg e]
          have : ¬ i < L := fun h => hgo ⟨h, by simpa using e⟩
          rw [show L - i = 0 by omega, itS]
      have hex : (¬ i < L) ∨ (i < L ∧ st = true) := by
        by_cases e : i < L
        · refine .inr ⟨e, ?_⟩
          cases st with
          | true => rfl
          | false => exact absurd ⟨e, rfl⟩ hgo
        · exact .inl e
      have HEND := Lib.hid hend
      clear hend hq hgo
      rcases hex with e1 | ⟨e1, rfl⟩
      all_goals
        have x3a := xr.alloc (.cells (bV (noneS s.size)) 4)
        have n3a := mg.alloc (.cells (bV (noneS s.size)) 4)
        have o3a : Mks (wr.alloc (.cells (bV (noneS s.size)) 4)) wr.heap.size (noneS s.size) := Blk.new _ _ _
        have b3a : Below w.heap.size w (wr.alloc (.cells (bV (noneS s.size)) 4)) := br.alloc br.size _
        have hgw := mg.lt
        have hxl := xr.lt
        have c9 := join_c wr.heap.size g s.size (noneS s.size) now (wr.alloc (.cells (bV (noneS s.size)) 4)) o3a n3a (by omega) (none_len _) ln hs
        unfold OrPost at c9
        clear xr mg br o3a
        go_wp2_with fail
        (with_reducible refine c9.mono ?_)
        clear c9 q5 q6
        rintro e w3 ⟨rfl, m3, t3⟩
        have x3 := x3a.tch t3 (by omega)
        have n3 := n3a.tch t3 (by omega)
        have b3 := t3.below b3a (fun k hk => by rw [hk]; omega) b3a.size
        have sz3 := t3.size
        rw [World.size_alloc] at sz3
        obtain ⟨o, ho⟩ : ∃ o, wr.heap.size = o := ⟨_, rfl⟩
        rw [ho] at m3 hgw hxl szr sz3 ⊢
        clear x3a n3a b3a t3 ho
        have h3 := HRR.out
        rw [HEND.out] at h3
        have H3 := Lib.hid h3
        clear h3
        have p6 := x3.cell 6
        simp only [List.getElem?_toArray, List.getElem?_cons_zero, List.getElem?_cons_succ] at p6
        go_wp2_with fail
        go_loopw [11, 16, 17] (fun nv fv iv wr => ∃ (g cc f : Nat) (out now : List Bool), nv = mkV g s.size ∧ fv = .bool (freshS out now) ∧ iv = .int .i64 ((L : Int) + cc) ∧ cc + f = s.size + 2 ∧ Mks wr o (orS out now) ∧ Mks wr g now ∧ g ≠ o ∧ out.length = s.size + 1 ∧ now.length = s.size + 1 ∧ s.size + 2 ≤ f + out.count true ∧
            Hid (upS G hi f ((L : Int) + cc) out now = R) ∧ Blk wr w.heap.size 27 (reC k S (some ⟨kg, ko, none⟩) 1 c (L : Int) hi nn).toArray ∧ Below w.heap.size w wr) (fun _ _ iv _ => ((L : Int) + s.size + 4 - intOf iv).toNat)
        case atStart => exact ⟨g, 0, s.size + 2, noneS s.size, now, rfl, rfl, by go_num, by omega, m3, n3, by omega, none_len _, ln, by omega, by simpa using H3, x3, b3⟩
        case round =>
          clear m3 n3 x3 b3 H3 p6 ln hgw HEND hg hi'
          obtain ⟨g, cc, f, out, now, rfl, rfl, rfl, hcf, mo, mg, hgo, lo_, ln, hcnt, hup, xr, br⟩ := hrel
          have q5 := xr.cell 5
          have q7 := xr.cell 7
          simp only [List.getElem?_toArray, List.getElem?_cons_zero, List.getElem?_cons_succ] at q5 q7

          have szr := br.size
          by_cases hG : freshS out now = true ∧ (hi < 0 ∨ (L : Int) + cc < hi)
          · obtain ⟨hfr, hG2⟩ := hG
            obtain ⟨f, rfl⟩ : ∃ f', f = f' + 1 := by
              cases f with
              | zero =>
                have := or_count (lo_.trans ln.symm) hfr
                have := List.count_le_length (a := true) (l := orS out now)
                rw [or_len (lo_.trans ln.symm)] at this
                omega
              | succ f => exact ⟨f, rfl⟩
            have hup2 := Lib.hid ((up_go hfr hG2).symm.trans hup.out)
            have hcnt2 := or_count (lo_.trans ln.symm) hfr
            rw [hfr]
            clear hup hfr
            have hc := HKC.out wr br
            have fk0 := hc 0 _ rfl
            have fk1 := hc 1 _ rfl
            have fk2 := hc 2 _ rfl
            have fk3 := hc 3 _ rfl
            have fk4 := hc 4 _ rfl
            have fk5 := hc 5 _ rfl
            have fk6 := hc 6 _ rfl
            have fk7 := hc 7 _ rfl
            have fk8 := hc 8 _ rfl
            simp only [Nat.zero_mul, Nat.add_zero] at fk0 fk1 fk2 fk3 fk4 fk5 fk6 fk7 fk8

            by_cases hn : hi < 0
            · have e1 : decide (hi < 0) = true := decide_eq_true hn
              have c5 := HBK.out wr br g now mg ln
              have LN := HLN.out now ln
              have OL : (orS out now).length = s.size + 1 := by rw [or_len (lo_.trans ln.symm)]; exact lo_
              have hol := mo.lt
              clear hc
              go_wp2_with fail
              (with_reducible refine c5.mono ?_)
              clear c5 fk0 fk1 fk2 fk3 fk4 fk5 fk6 fk7 fk8 q5 q7
              rintro e w5 ⟨g2, rfl, hg2, m5, b5⟩
              have x5 := xr.next b5
              have o5 := mo.next b5
              have b6 := via b5 br
              have c7 := join_c o g2 s.size (orS out now) (G now) w5 o5 m5 (by omega) OL LN hs
              unfold OrPost at c7
              clear b5 br xr mo o5 mg
              go_wp2_with fail
              (with_reducible refine c7.mono ?_)
              clear c7
              rintro e w7 ⟨rfl, m7, t7⟩
              have x7 := x5.tch t7 (by omega)
              have n7 := m5.tch t7 (by omega)
              have b8 := t7.below b6 (fun k hk => by rw [hk]; omega) b6.size
              clear t7 b6 x5 m5
              go_wp2_with fail
              go_roundw
              case rel => exact ⟨g2, cc + 1, f, orS out now, G now, rfl, rfl, by go_num, by omega, m7, n7, by omega, OL, LN, by omega, Lib.hid (by rw [← hup2.out]; congr 1 <;> omega), x7, b8⟩
              case measure => simp [intOf]; omega

            · have e1 : decide (hi < 0) = false := decide_eq_false hn
              have e2 : decide ((L : Int) + cc < hi) = true := decide_eq_true (by omega)
              have c5 := HBK.out wr br g now mg ln
              have LN := HLN.out now ln
              have OL : (orS out now).length = s.size + 1 := by rw [or_len (lo_.trans ln.symm)]; exact lo_
              have hol := mo.lt
              clear hc
              go_wp2_with fail
              (with_reducible refine c5.mono ?_)
              clear c5 fk0 fk1 fk2 fk3 fk4 fk5 fk6 fk7 fk8 q5 q7
              rintro e w5 ⟨g2, rfl, hg2, m5, b5⟩
              have x5 := xr.next b5
              have o5 := mo.next b5
              have b6 := via b5 br
              have c7 := join_c o g2 s.size (orS out now) (G now) w5 o5 m5 (by omega) OL LN hs
              unfold OrPost at c7
              clear b5 br xr mo o5 mg
              go_wp2_with fail
              (with_reducible refine c7.mono ?_)
              clear c7
              rintro e w7 ⟨rfl, m7, t7⟩
              have x7 := x5.tch t7 (by omega)
              have n7 := m5.tch t7 (by omega)
              have b8 := t7.below b6 (fun k hk => by rw [hk]; omega) b6.size
              clear t7 b6 x5 m5
              go_wp2_with fail
              go_roundw
              case rel => exact ⟨g2, cc + 1, f, orS out now, G now, rfl, rfl, by go_num, by omega, m7, n7, by omega, OL, LN, by omega, Lib.hid (by rw [← hup2.out]; congr 1 <;> omega), x7, b8⟩
              case measure => simp [intOf]; omega

          · have hst := hup.out
            rw [up_stop hG] at hst
            have HST := Lib.hid hst
            have hcc : cc ≤ s.size + 2 := by omega
            have hex : (freshS out now = false) ∨ (freshS out now = true ∧ decide (hi < 0) = false ∧ decide ((L : Int) + cc < hi) = false) := by
              cases h : freshS out now with
              | false => exact .inl rfl
              | true => exact .inr ⟨rfl, decide_eq_false (fun e => hG ⟨h, .inl e⟩), decide_eq_false (fun e => hG ⟨h, .inr e⟩)⟩
            clear hst hup hG hcnt hcf
            generalize freshS out now = fz at *
            rcases hex with rfl | ⟨rfl, f1, f2⟩
            · by_cases g1 : hi < 0
              · have f1 : decide (hi < 0) = true := decide_eq_true g1
                go_wp2_with fail
                go_ret
                exact ⟨o, rfl, by omega, by rw [← HST.out]; exact mo, br⟩

              · have f1 : decide (hi < 0) = false := decide_eq_false g1
                by_cases g2 : (L : Int) + cc < hi
                · have f2 : decide ((L : Int) + cc < hi) = true := decide_eq_true g2
                  go_wp2_with fail
                  go_ret
                  exact ⟨o, rfl, by omega, by rw [← HST.out]; exact mo, br⟩

                · have f2 : decide ((L : Int) + cc < hi) = false := decide_eq_false g2
                  go_wp2_with fail
                  go_ret
                  exact ⟨o, rfl, by omega, by rw [← HST.out]; exact mo, br⟩

            · skip
              go_wp2_with fail
              go_ret
              exact ⟨o, rfl, by omega, by rw [← HST.out]; exact mo, br⟩
end GrpW
end Go.Proofs.YtpdmjegbjcefjaaDoor
