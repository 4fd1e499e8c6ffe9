/- The walks of mem.Set and of its reference. Conditions: lists that fit. -/
import Derived.Test.YtfhnocelmpnjgaaMemI
import Derived.Test.YtfhnocelmpnjgaaMemE
namespace Go.Proofs.Ytfhnocelmpnjgaa
open Go.RowKit
namespace MemW
open QuoW MemP Own
theorem there_yes {l : List Vr} {nm : ByteArray} (ha : Asc l) (h : there l nm = true) : ∃ v r, from_ l nm = (nm, v) :: r ∧ (∀ p ∈ r, lt nm p.1 = true) ∧ dropV l nm = below l nm ++ r := by
  rcases from_cases (n := nm) ha with h1 | ⟨h1, _⟩
  · exact h1
  · exfalso
    unfold there at h
    rw [at_pos] at h
    cases hf : from_ l nm with
    | nil => rw [hf] at h; cases h
    | cons q r =>
      rw [hf] at h
      have h2 := h1 q (by rw [hf]; exact List.mem_cons_self ..)
      have h3 : eq q.1 nm = true := h
      rw [eq_iff] at h3
      exact lt_ne h2 h3.symm
theorem there_no {l : List Vr} {nm : ByteArray} (ha : Asc l) (h : there l nm = false) : dropV l nm = l := by
  rcases from_cases (n := nm) ha with ⟨v, r, h1, _⟩ | ⟨_, h1⟩
  · exfalso
    unfold there at h
    rw [at_pos, h1] at h
    have h3 : eq nm nm = false := h
    rw [MemP.eq_false] at h3
    exact h3 rfl
  · exact h1
theorem drop_len {l : List Vr} {nm : ByteArray} (ha : Asc l) (h : there l nm = true) : (dropV l nm).length + 1 = l.length := by
  obtain ⟨v, r, h1, _, h2⟩ := there_yes ha h
  have e := congrArg List.length (below_from l nm)
  rw [h1, List.length_append, List.length_cons] at e
  rw [h2, List.length_append]; omega
theorem pos_lt {l : List Vr} {nm : ByteArray} (h : there l nm = true) : posV l nm < l.length := by
  unfold there at h
  rcases Nat.lt_or_ge (posV l nm) l.length with h1 | h1
  · exact h1
  · rw [List.getElem?_eq_none h1] at h; cases h
section
variable {l : List Vr} {nm v : ByteArray}
theorem set_arg1 (h : mayB l = false) : setV l nm v = ([], 5) := by unfold setV; rw [h]; rfl
theorem set_arg2 (h : nmB nm = false) : setV l nm v = ([], 5) := by unfold setV; rw [h, Bool.and_false]; rfl
theorem set_long (h : mayB l = true) (h2 : nmB nm = true) (h3 : 32 < v.size) : setV l nm v = ([], 2) := by unfold setV; rw [h, h2]; simp [h3]
theorem set_there (h : mayB l = true) (h2 : nmB nm = true) (h3 : ¬ 32 < v.size) (ht : there l nm = true) : setV l nm v = (l.set (posV l nm) (nm, v), 0) := by
  have hm := (may_iff l).1 h
  obtain ⟨u, r, e1, e2, e3⟩ := there_yes hm.asc ht
  have e4 := drop_len hm.asc ht
  have e5 := hm.len
  unfold setV; rw [h, h2, if_neg (by simp), if_neg h3, if_neg (by omega), put_there e1 e2 e3]
theorem set_full (h : mayB l = true) (h2 : nmB nm = true) (h3 : ¬ 32 < v.size) (ht : there l nm = false) (h4 : l.length = 16) : setV l nm v = ([], 9) := by
  have hm := (may_iff l).1 h
  unfold setV; rw [h, h2, if_neg (by simp), if_neg h3, there_no hm.asc ht, if_pos h4]
theorem set_new (h : mayB l = true) (h2 : nmB nm = true) (h3 : ¬ 32 < v.size) (ht : there l nm = false) (h4 : ¬ l.length = 16) : setV l nm v = (l.take (posV l nm) ++ (nm, v) :: l.drop (posV l nm), 0) := by
  have hm := (may_iff l).1 h
  have e := there_no hm.asc ht
  have e2 := put_new (v := v) e
  unfold setV; rw [h, h2, if_neg (by simp), if_neg h3]
  rw [e2, e, if_neg h4]
end
theorem vcs_set (l : List Vr) : ∀ (i : Nat) (p : Vr), i < l.length → vcs (l.set i p) = ((vcs l).set (i * 2) (.string p.1)).set (i * 2 + 1) (.string p.2) := by
  induction l with
  | nil => intro i p h; cases h
  | cons q l ih =>
    intro i p h
    cases i with
    | zero => rfl
    | succ i =>
      have e : vcs (q :: l) = .string q.1 :: .string q.2 :: vcs l := rfl
      rw [e, List.set_cons_succ, show (i + 1) * 2 = i * 2 + 1 + 1 by omega, List.set_cons_succ, List.set_cons_succ, List.set_cons_succ, List.set_cons_succ, ← ih i p (by simpa using h)]
      rfl
/-- What Set leaves. -/
def SetPost (l : List Vr) (nm v : ByteArray) (w : World) (e : Ending) (w' : World) : Prop :=
  ∃ sv, e = .returned (.tuple #[sv, .int .i64 ((setV l nm v).2 : Nat)]) ∧ OwnV w' w.heap.size sv (setV l nm v).1 ∧ Below w.heap.size w w'
theorem set_err {l : List Vr} {nm v : ByteArray} {w w' : World} {k : Nat} (h : setV l nm v = ([], k)) (hb : Below w.heap.size w w') : SetPost l nm v w (.returned (.tuple #[.slice none 0 0, .int .i64 (k : Nat)])) w' := by
  refine ⟨_, by rw [h], ?_, hb⟩
  rw [h]; exact World.ownsRow_nil _ _ _ _
theorem ins_post {base : Nat} {v : Value} {l : List Vr} {i : Nat} {x : Vr} {w w' : World} {e : Ending} (h : InsPost base v l i x w e w') (hb : ∀ k, v.ownBlock = some k → base ≤ k) {w0 : World} (h0 : Below base w0 w) (hB : base ≤ w.heap.size) :
    ∃ v', e = .returned v' ∧ OwnV w' base v' (l.take i ++ x :: l.drop i) ∧ Below base w0 w' := by
  obtain ⟨v', h1, h2, h3⟩ := h
  exact ⟨v', h1, h2, h3.below h0 hb hB⟩
set_option maxHeartbeats 3200000 in
set_option maxRecDepth 100000 in
theorem set_c (A : Option Addr) (n c : Nat) (l : List Vr) (nm v : ByteArray) (w : World) (hr : Vrs w w.heap.size A n l) (hf : FitV l) (hn : n ≤ 1048576) (hnm : nm.size ≤ 4611686018427387904) (hv : v.size ≤ 4611686018427387904) :
    Calls Try.prog 6 #[.slice A n c, .string nm, .string v] w (SetPost l nm v w) := by
  have hl := Vrs.len hr
  have cm := may_c A n c l w hr hf (by omega)
  have cn := fun W => nm_c nm W hnm
  cases ha : mayB l
  · rw [ha] at cm
    have HE := Lib.hid (set_arg1 (nm := nm) (v := v) ha)
    clear ha
    go_enter Try.func6, Try.ntmps6
    go_wp2_with fail
    (with_reducible refine cm.mono ?_)
    rintro e w1 ⟨rfl, hb⟩
    go_wp2
    go_ret2
    exact set_err HE.out hb
  rw [ha] at cm
  cases hb : nmB nm
  · rw [hb] at cn
    have HE := Lib.hid (set_arg2 (l := l) (v := v) hb)
    clear ha hb
    go_enter Try.func6, Try.ntmps6
    go_wp2_with fail
    (with_reducible refine cm.mono ?_)
    rintro e w1 ⟨rfl, hb⟩
    go_wp2_with (first | (with_reducible refine (cn _).mono ?_; rintro e w' ⟨rfl, rfl⟩))
    go_ret2
    exact set_err HE.out hb
  rw [hb] at cn
  cases hs : decide (32 < (v.size : Int))
  rotate_left
  · have HE := Lib.hid (set_long (v := v) ha hb (by simp at hs; omega))
    clear ha hb
    go_enter Try.func6, Try.ntmps6
    go_wp2_with fail
    (with_reducible refine cm.mono ?_)
    rintro e w1 ⟨rfl, hb⟩
    go_wp2_with (first | (with_reducible refine (cn _).mono ?_; rintro e w' ⟨rfl, rfl⟩))
    go_ret2
    exact set_err HE.out hb
  have hs2 : ¬ 32 < v.size := by simp at hs; omega
  have hm := (may_iff l).1 ha
  have hasc := hm.asc
  have h16 := hm.len
  rw [hl] at h16
  clear hm
  have HA := Lib.hid hasc
  clear hasc
  have HR := Lib.hid hr
  clear hr
  have HM := Lib.hid ha
  have HB := Lib.hid hb
  clear ha hb
  go_enter Try.func6, Try.ntmps6
  go_wp2_with fail
  (with_reducible refine cm.mono ?_)
  rintro e w1 ⟨rfl, hb1⟩
  have hz1 := hb1.size
  obtain ⟨z, hz⟩ : ∃ z : World, z = w1.alloc (.cells #[.string nm, .string v] 25) := ⟨_, rfl⟩
  have hbz : Below w.heap.size w z := by rw [hz]; exact hb1.alloc hz1 _
  have hX : Blk z w1.heap.size 25 #[.string nm, .string v] := by rw [hz]; exact Blk.new _ _ _
  have hzs : z.heap.size = w1.heap.size + 1 := by rw [hz, World.size_alloc]
  clear cm
  go_wp2_with (first | (with_reducible refine (cn _).mono ?_; rintro e w' ⟨rfl, rfl⟩))
  rw [← hz]
  have cb := bs_c A n c l nm z (Rd.more (HR.out.below hbz) (by omega)) hn HA.out
  (with_reducible refine cb.mono ?_)
  rintro e w2 ⟨rfl, hb2⟩
  have hB2 := hbz.trans (hb2.mono (by omega : w.heap.size ≤ z.heap.size))
  have hz2 := hB2.size
  have hX2 := hX.next hb2
  have hxl2 := hX2.lt
  have cc := clone_c A n c l w2 (Rd.more (HR.out.below hB2) (by omega)) hn
  clear cb cn hX hz hbz hb1
  have hple := posV_le l nm
  rw [hl] at hple
  obtain ⟨P, hP⟩ : ∃ P, P = posV l nm := ⟨_, rfl⟩
  rw [← hP] at hple ⊢
  cases ht : there l nm
  · by_cases h9 : n = 16
    · have d9 : ((n : Int) == 16) = true := by rw [beq_iff_eq]; omega
      have HE := Lib.hid (set_full (v := v) HM.out HB.out hs2 ht (by omega))
      clear ht hP h9
      go_wp2_with fail
      (with_reducible refine cc.mono ?_)
      rintro e w3 ⟨sv, rfl, hown, hb3⟩
      have hB3 := hB2.trans (hb3.mono hz2)
      clear cc hX2 hown
      go_wp2
      go_ret2
      exact set_err HE.out hB3
    · have d9 : ((n : Int) == 16) = false := by rw [beq_eq_false_iff_ne]; omega
      have e9 := set_new (v := v) HM.out HB.out hs2 ht (by omega)
      rw [← hP] at e9
      have HE := Lib.hid e9
      clear ht hP e9
      go_wp2_with fail
      (with_reducible refine cc.mono ?_)
      rintro e w3 ⟨sv, rfl, hown, hb3⟩
      have hB3 := hB2.trans (hb3.mono hz2)
      have hz3 := hB3.size
      have hX3 := hX2.next hb3
      have x0 := hX3.cell 0
      have x1 := hX3.cell 1
      simp only [List.getElem?_toArray, List.getElem?_cons_zero, List.getElem?_cons_succ] at x0 x1
      obtain ⟨zz, hzz⟩ : ∃ zz : World, zz = w3.alloc (.cells #[.string nm, .string v] 25) := ⟨_, rfl⟩
      have hY : Blk zz w3.heap.size 25 #[.string nm, .string v] := by rw [hzz]; exact Blk.new _ _ _
      have hO : OwnV zz w2.heap.size sv l := by rw [hzz]; exact hown.alloc _
      have hzzs : zz.heap.size = w3.heap.size + 1 := by rw [hzz, World.size_alloc]
      have hBz : Below w2.heap.size w3 zz := by rw [hzz]; exact (Below.refl _ _).alloc hb3.size _
      have hlt := hown.lt
      have HLT := Lib.hid (fun k (hk : sv.ownBlock = some k) => (hlt k hk))
      have hz23 := hb3.size
      clear cc hX2 hX3 hlt hown
      have hB4 : Below w2.heap.size w2 zz := hb3.trans hBz
      have ci : Calls Try.prog 23 #[sv, .int .i64 (P : Nat), .slice (some ⟨w3.heap.size, 0, none⟩) 1 1] zz (InsPost w2.heap.size sv l P (nm, v) zz) := by
        by_cases hPn : P = n
        · have := insert_end w2.heap.size sv l (nm, v) w3.heap.size zz hO (by omega) (by omega) hY
          rw [hl] at this
          rw [hPn]; exact this
        · obtain ⟨A', c', hsv, _, _, _⟩ := Own.rd hO
          have hA' : ∃ g, sv = .slice (some ⟨g, 0, none⟩) n c' := by
            rcases hO.2 with ⟨_, e⟩ | ⟨g, cap, cur, e, _⟩
            · omega
            · rw [hsv] at e; injection e with e _ e3; subst e3; exact ⟨g, by rw [hsv, e, hl]⟩
          obtain ⟨g, rfl⟩ := hA'
          by_cases hroom : n + 1 ≤ c'
          · exact insert_room w2.heap.size g n c' P l (nm, v) w3.heap.size zz hO hl (by omega) hroom hn hY (by have := (HLT.out g rfl).2; omega)
          · exact insert_grow w2.heap.size g n c' P l (nm, v) w3.heap.size zz hO (by omega) hl (by omega) (by omega) hn hY
      have hbz3 : Below w.heap.size w zz := by rw [hzz]; exact hB3.alloc hz3 _
      have HBase : ∀ k, sv.ownBlock = some k → w2.heap.size ≤ k := fun k hk => (HLT.out k hk).1
      have HBB := Lib.hid HBase
      clear HBase hO hY hBz hB4
      go_wp2_with fail
      rw [← hzz]
      (with_reducible refine ci.mono ?_)
      rintro e w5 ⟨sv5, rfl, hown5, ht5⟩
      have hB5 : Below w.heap.size w w5 := ht5.below hbz3 (fun k hk => by have := HBB.out k hk; omega) hbz3.size
      clear ci hzz
      go_wp2
      go_ret2
      refine ⟨sv5, by rw [HE.out]; rfl, ?_, hB5⟩
      rw [HE.out]
      exact ⟨hown5.1, hown5.2.imp id (fun ⟨g, cap, cur, h1, h2, h3⟩ => ⟨g, cap, cur, h1, by omega, h3⟩)⟩
  · have hlt := pos_lt ht
    rw [hl, ← hP] at hlt
    have e9 := set_there (v := v) HM.out HB.out hs2 ht
    rw [← hP] at e9
    have HE := Lib.hid e9
    clear ht hP e9
    go_wp2_with fail
    (with_reducible refine cc.mono ?_)
    rintro e w3 ⟨sv, rfl, hown, hb3⟩
    have hB3 := hB2.trans (hb3.mono hz2)
    have hz3 := hB3.size
    have hX3 := hX2.next hb3
    have x0 := hX3.cell 0
    have x1 := hX3.cell 1
    simp only [List.getElem?_toArray, List.getElem?_cons_zero, List.getElem?_cons_succ] at x0 x1
    rcases hown.2 with ⟨_, e⟩ | ⟨g, cap, cur, rfl, hg, hblk, k1, k2, k3, k4⟩
    · omega
    · have hblk : Blk w3 g 25 cur := hblk
      have hgl := hblk.lt
      have hgX : g ≠ w1.heap.size := by omega
      rw [hl] at k1 k4
      have y0 := hblk.cell (P * 2)
      have y1 := hblk.cell (P * 2 + 1)
      have hpc : P * 2 + 1 < cur.size := by omega
      rw [Array.getElem?_eq_getElem (by omega)] at y0 y1
      have f0 := hblk.loose (P * 2)
      have f1 := hblk.loose (P * 2 + 1)
      generalize cur[P * 2]'(by omega) = o1 at *
      generalize cur[P * 2 + 1]'(by omega) = o2 at *
      have hfin : SetPost l nm v w (.returned (.tuple #[.slice (some ⟨g, 0, none⟩) n cap, .int .i64 0])) ((w3.setCell ⟨g, P * 2, none⟩ (.string nm)).setCell ⟨g, P * 2 + 1, none⟩ (.string v)) := by
        refine ⟨_, by rw [HE.out]; rfl, ?_, (hB3.setCell (p := ⟨g, P * 2, none⟩) (by show w.heap.size ≤ g; omega) _).setCell (p := ⟨g, P * 2 + 1, none⟩) (by show w.heap.size ≤ g; omega) _⟩
        rw [HE.out]
        unfold OwnV
        rw [List.length_set, hl]
        refine Own.of_blk ((hblk.set_ _ _).set_ _ _) (by omega) (by rw [vcs_len, List.length_set, hl]) k1 k2 (by rw [Array.size_setIfInBounds, Array.size_setIfInBounds]; exact k3) ?_
        rw [Array.toList_setIfInBounds, Array.toList_setIfInBounds, List.take_set, List.take_set, k4]
        exact (vcs_set l P (nm, v) (by omega)).symm
      have HF := Lib.hid hfin
      have hlz : (l.length : Int) = (n : Int) := by omega
      clear hfin hblk k4 k3 k2 hown cc hX2 hX3 HE
      rw [hl]
      go_wp2
      go_ret2
      exact HF.out
end MemW
end Go.Proofs.Ytfhnocelmpnjgaa
