/- Which sums may be: the walk of right and May. Conditions: trees that fit, with short names. -/
import Derived.Test.YtchceoclkdofhaaGreatDoorCalS
import Derived.Test.YtchceoclkdofhaaGreatDoorCalQ
import Derived.Test.YtchceoclkdofhaaGreatDoorQuoN
namespace Go.Proofs.YtchceoclkdofhaaGreatDoor
set_option linter.unusedVariables false
set_option linter.unusedSimpArgs false
open Go.RowKit
namespace CalW
open CalP QuoW QuoP
/-- What right does at such a list's kids. -/
def RightC (K : Nat → Prop) (l : List Ex) (d : Nat) : Prop := ∀ (i : Nat) (h : i < l.length) (w : World) (cs : List Value), Et w K (l[i]'h) cs → d + 1 ≤ 64 →
  Calls Tryz.prog 35 #[.agg cs.toArray, .int .i64 ((d : Int) + 1)] w fun x w' => x = .returned (.bool (rightE (l[i]'h) (d + 1))) ∧ Below w.heap.size w w'
/-- A kid's cells. -/
theorem Et.kid_ {w : World} {K : Nat → Prop} {k n : Int} {nm op : ByteArray} {l : List Ex} {A : Option Addr} {m c : Nat} (h : Et w K (.mk k n nm op l) (exC k n nm op A m c)) {i : Nat} (hi : i < l.length) :
    ∃ g o A2 c2, A = some ⟨g, o, none⟩ ∧ Et w K (l[i]'hi) (exC (l[i]'hi).kind (l[i]'hi).n (l[i]'hi).name (l[i]'hi).op A2 (l[i]'hi).kids.length c2) ∧
    ∀ j u, (exC (l[i]'hi).kind (l[i]'hi).n (l[i]'hi).name (l[i]'hi).op A2 (l[i]'hi).kids.length c2)[j]? = some u → w.cell? ⟨g, o + i * 5 + j, none⟩ = some u := by
  obtain ⟨g, o, c', kc, e, hk, hc⟩ := h.kid hi
  obtain ⟨A2, c2, rfl⟩ := hk.shape
  have : A = some ⟨g, o, none⟩ := by have e4 := congrArg (fun l => l[4]?) e; simp at e4; exact e4.1
  exact ⟨g, o, A2, c2, this, hk, hc⟩
theorem right_eq (k n : Int) (nm op : ByteArray) (kids : List Ex) (d : Nat) : rightE (.mk k n nm op kids) d = ((okE k n nm op d && bareE k n nm op && decide (kids.length = kidsE k)) && rightL kids (d + 1)) := by rw [rightE]
set_option maxHeartbeats 6400000 in
set_option maxRecDepth 100000 in
theorem right_step {K : Nat → Prop} (k n : Int) (nm op : ByteArray) (kids : List Ex) (A : Option Addr) (c : Nat) (w : World) (d : Nat) (h : Et w K (.mk k n nm op kids) (exC k n nm op A kids.length c)) (hnm : nm.size ≤ 60) (hd : d ≤ 64) (hi : RightC K kids d) :
    Calls Tryz.prog 35 #[.agg (exC k n nm op A kids.length c).toArray, .int .i64 d] w fun x w' => x = .returned (.bool (rightE (.mk k n nm op kids) d)) ∧ Below w.heap.size w w' := by
  obtain ⟨GR, hGR⟩ : ∃ GR, rightE (.mk k n nm op kids) d = GR := ⟨_, rfl⟩
  have HG := Lib.hid hGR
  rw [hGR]
  have HE := Lib.hid h
  have HI := Lib.hid hi
  clear hGR h hi
  obtain ⟨kl, hkl⟩ : ∃ kl, kids.length = kl := ⟨_, rfl⟩
  have hklm : kl ≤ 9223372036854775807 := by
    have h5 : kids.length ≤ maxLen := HE.out.fits.2.2.2.2
    unfold maxLen at h5; omega
  rw [hkl] at HE ⊢
  obtain ⟨wa, hwa⟩ : ∃ z : World, z = w.alloc (.cells (exC k n nm op A kl c).toArray 24) := ⟨_, rfl⟩
  have XA := Lib.hid (show Blk wa w.heap.size 24 (exC k n nm op A kl c).toArray by rw [hwa]; exact Blk.new _ _ _)
  have BA : Below w.heap.size w wa := by rw [hwa]; go_grown
  have cb := bare_c k n nm op A kl c wa
  have p0 := XA.out.cell 0
  have p1 := XA.out.cell 1
  have p2 := XA.out.cell 2
  have p3 := XA.out.cell 3
  have p4 := XA.out.cell 4
  simp only [List.getElem?_toArray, List.getElem?_cons_zero, List.getElem?_cons_succ] at p0 p1 p2 p3 p4
  by_cases h0 : k = 0
  · have hk := h0
    have HK := Lib.hid hk
    have e0 : (k == 0) = true := by rw [hk]; decide
    have e1 : (k == 1) = false := by rw [hk]; decide
    have e2 : (k == 2) = false := by rw [hk]; decide
    have e3 : (k == 3) = false := by rw [hk]; decide
    have e4 : (k == 4) = false := by rw [hk]; decide
    by_cases hn : 0 ≤ n
    rotate_left
    · have t0 : decide (0 ≤ n) = false := by simpa using hn
      have hokk : okE k n nm op d = false := by unfold okE; rw [if_pos hk]; exact t0
      clear hk h0
      go_enter Tryz.func35, Tryz.ntmps35
      have hz : GR = false := by rw [← HG.out, right_eq]; simp [hokk]
      subst hz
      clear HG
      go_wp2_with fail
      rw [← hwa]
      clear hwa
      go_wp2
      go_ret
      exact ⟨rfl, BA⟩
    have t0 : decide (0 ≤ n) = true := by simpa using hn
    have hokk : okE k n nm op d = true := by unfold okE; rw [if_pos hk]; exact t0
    clear hk h0
    go_enter Tryz.func35, Tryz.ntmps35
    cases hbr : bareE k n nm op
    · rw [hbr] at cb
      go_wp2_with fail
      rw [← hwa]
      clear hwa
      (with_reducible refine cb.mono ?_)
      rintro x w2 ⟨rfl, b2⟩
      have B2 := BA.trans (b2.mono BA.size)
      have hz : GR = false := by rw [← HG.out, right_eq]; simp [hokk, hbr]
      subst hz
      clear HG
      go_wp2
      go_ret
      exact ⟨rfl, B2⟩
    rw [hbr] at cb
    by_cases hkl2 : kl = 0
    rotate_left
    · have tk : ((kl : Int) != 0) = true := by rw [bne_iff_ne]; omega
      have hkl3 : kidsE k = 0 := by rw [HK.out]; rfl
      have hkl4 : ¬ kids.length = kidsE k := by rw [hkl3, hkl]; exact hkl2
      go_wp2_with fail
      rw [← hwa]
      clear hwa
      (with_reducible refine cb.mono ?_)
      rintro x w2 ⟨rfl, b2⟩
      have B2 := BA.trans (b2.mono BA.size)
      have X2 := XA.out.next b2
      have p0 := X2.cell 0
      have p1 := X2.cell 1
      have p2 := X2.cell 2
      have p3 := X2.cell 3
      have p4 := X2.cell 4
      simp only [List.getElem?_toArray, List.getElem?_cons_zero, List.getElem?_cons_succ] at p0 p1 p2 p3 p4
      have hz : GR = false := by rw [← HG.out, right_eq]; simp [hokk, hbr, hkl4]
      subst hz
      clear HG
      go_wp2
      go_ret
      exact ⟨rfl, B2⟩
    have tk : ((kl : Int) != 0) = false := by rw [bne_eq_false_iff_eq]; omega
    have hkl3 : kidsE k = 0 := by rw [HK.out]; rfl
    have hkl4 : decide (kids.length = kidsE k) = true := by rw [hkl3, hkl]; simpa using hkl2
    have HK2 := Lib.hid hkl2
    clear hkl2
    have hkl2 := hkl4
    go_wp2_with fail
    rw [← hwa]
    clear hwa
    (with_reducible refine cb.mono ?_)
    rintro x w2 ⟨rfl, b2⟩
    have B2 := BA.trans (b2.mono BA.size)
    have X2 := XA.out.next b2
    have p0 := X2.cell 0
    have p1 := X2.cell 1
    have p2 := X2.cell 2
    have p3 := X2.cell 3
    have p4 := X2.cell 4
    simp only [List.getElem?_toArray, List.getElem?_cons_zero, List.getElem?_cons_succ] at p0 p1 p2 p3 p4
    have hd1 : ∀ i : Nat, i < kl → d + 1 ≤ 64 := by
      intro i hi
      have := HK2.out
      omega
    have HD := Lib.hid hd1
    clear hd1
    clear cb BA b2
    have HG2 := Lib.hid (show rightL (kids.drop 0) (d + 1) = GR by rw [← HG.out, right_eq, hokk, hbr, hkl2]; simp)
    clear HG hokk hbr hkl2
    go_wp2
    go_loopw [53] (fun v wr => ∃ i : Nat, v = .int .i64 i ∧ i ≤ kl ∧ Hid (rightL (kids.drop i) (d + 1) = GR) ∧ Below w.heap.size w wr) (fun v _ => kl - (intOf v).toNat)
    case atStart => exact ⟨0, rfl, by omega, HG2, B2⟩
    case round =>
      obtain ⟨i, rfl, hi, hq, hB⟩ := hrel
      have zB := hB.size
      by_cases hlt : i < kl
      · have hi2 : i < kids.length := by omega
        obtain ⟨g0, o, A2, c2, rfl, hk, hc⟩ := (HE.out.bel hB).kid_ hi2
        have fk0 := hc 0 _ rfl
        have fk1 := hc 1 _ rfl
        have fk2 := hc 2 _ rfl
        have fk3 := hc 3 _ rfl
        have fk4 := hc 4 _ rfl
        simp only [Nat.add_zero] at fk0
        clear hc
        have hdr := right_drop kids (d + 1) i hi2
        rw [hq.out] at hdr
        have ci := HI.out i hi2 (wr.alloc (.cells (exC (kids[i]'hi2).kind (kids[i]'hi2).n (kids[i]'hi2).name (kids[i]'hi2).op A2 (kids[i]'hi2).kids.length c2).toArray 24)) _ (hk.bel ((Below.refl _ _).alloc (Nat.le_refl _) _)) (HD.out i hlt)
        obtain ⟨x, hx⟩ : ∃ x, kids[i]'hi2 = x := ⟨_, rfl⟩
        rw [hx] at fk0 fk1 fk2 fk3 fk4 hk hdr
        simp only [hx] at ci
        clear hk hx
        generalize x.kind = k0 at *
        generalize x.n = k1 at *
        generalize x.name = k2 at *
        generalize x.op = k3 at *
        generalize x.kids.length = k4 at *
        cases hs : rightE x (d + 1)
        · rw [hs] at hdr ci
          have hz : GR = false := by rw [hdr]; rfl
          subst hz
          clear hdr hq HG2
          go_wp2_with fail
          (with_reducible refine ci.mono ?_)
          rintro e w2 ⟨rfl, hb⟩
          have B3 := (hB.alloc zB _).trans (hb.mono (by rw [World.size_alloc]; omega))
          go_wp2
          go_ret
          exact ⟨rfl, B3⟩
        · rw [hs, Bool.true_and] at hdr
          rw [hs] at ci
          have HD2 := Lib.hid (show rightL (kids.drop (i + 1)) (d + 1) = GR from hdr.symm)
          clear hdr hq HG2
          go_wp2_with fail
          (with_reducible refine ci.mono ?_)
          rintro e w2 ⟨rfl, hb⟩
          have B3 := (hB.alloc zB (.cells (exC k0 k1 k2 k3 A2 k4 c2).toArray 24)).trans (hb.mono (by rw [World.size_alloc]; omega))
          go_wp2
          go_roundw
          case rel => exact ⟨i + 1, by go_num, by omega, HD2, B3⟩
          case measure => simp [intOf]; omega
      · have hi2 : i = kl := by omega
        subst hi2
        have hz : GR = true := by
          rw [← hq.out, List.drop_of_length_le (by omega)]; rfl
        subst hz
        clear hq HG2
        go_wp2
        go_ret
        exact ⟨rfl, hB⟩
  by_cases h1 : k = 1
  · have hk := h1
    have HK := Lib.hid hk
    have e0 : (k == 0) = false := by rw [hk]; decide
    have e1 : (k == 1) = true := by rw [hk]; decide
    have e2 : (k == 2) = false := by rw [hk]; decide
    have e3 : (k == 3) = false := by rw [hk]; decide
    have e4 : (k == 4) = false := by rw [hk]; decide
    have cn := name_c nm wa (by omega)
    cases hn : nameB nm.data.toList
    · have hokk : okE k n nm op d = false := by unfold okE; rw [if_neg (by omega), if_pos hk]; exact hn
      rw [hn] at cn
      clear hk h1
      go_enter Tryz.func35, Tryz.ntmps35
      go_wp2_with fail
      rw [← hwa]
      clear hwa
      (with_reducible refine cn.mono ?_)
      rintro x w2 ⟨rfl, rfl⟩
      have hz : GR = false := by rw [← HG.out, right_eq]; simp [hokk]
      subst hz
      clear HG
      go_wp2
      go_ret
      exact ⟨rfl, BA⟩
    have hokk : okE k n nm op d = true := by unfold okE; rw [if_neg (by omega), if_pos hk]; exact hn
    rw [hn] at cn
    clear hk h1
    go_enter Tryz.func35, Tryz.ntmps35
    go_wp2_with fail
    rw [← hwa]
    clear hwa
    (with_reducible refine cn.mono ?_)
    rintro x w2 ⟨rfl, rfl⟩
    cases hbr : bareE k n nm op
    · rw [hbr] at cb
      go_wp2_with fail
      (with_reducible refine cb.mono ?_)
      rintro x w2 ⟨rfl, b2⟩
      have B2 := BA.trans (b2.mono BA.size)
      have hz : GR = false := by rw [← HG.out, right_eq]; simp [hokk, hbr]
      subst hz
      clear HG
      go_wp2
      go_ret
      exact ⟨rfl, B2⟩
    rw [hbr] at cb
    by_cases hkl2 : kl = 0
    rotate_left
    · have tk : ((kl : Int) != 0) = true := by rw [bne_iff_ne]; omega
      have hkl3 : kidsE k = 0 := by rw [HK.out]; rfl
      have hkl4 : ¬ kids.length = kidsE k := by rw [hkl3, hkl]; exact hkl2
      go_wp2_with fail
      (with_reducible refine cb.mono ?_)
      rintro x w2 ⟨rfl, b2⟩
      have B2 := BA.trans (b2.mono BA.size)
      have X2 := XA.out.next b2
      have p0 := X2.cell 0
      have p1 := X2.cell 1
      have p2 := X2.cell 2
      have p3 := X2.cell 3
      have p4 := X2.cell 4
      simp only [List.getElem?_toArray, List.getElem?_cons_zero, List.getElem?_cons_succ] at p0 p1 p2 p3 p4
      have hz : GR = false := by rw [← HG.out, right_eq]; simp [hokk, hbr, hkl4]
      subst hz
      clear HG
      go_wp2
      go_ret
      exact ⟨rfl, B2⟩
    have tk : ((kl : Int) != 0) = false := by rw [bne_eq_false_iff_eq]; omega
    have hkl3 : kidsE k = 0 := by rw [HK.out]; rfl
    have hkl4 : decide (kids.length = kidsE k) = true := by rw [hkl3, hkl]; simpa using hkl2
    have HK2 := Lib.hid hkl2
    clear hkl2
    have hkl2 := hkl4
    go_wp2_with fail
    (with_reducible refine cb.mono ?_)
    rintro x w2 ⟨rfl, b2⟩
    have B2 := BA.trans (b2.mono BA.size)
    have X2 := XA.out.next b2
    have p0 := X2.cell 0
    have p1 := X2.cell 1
    have p2 := X2.cell 2
    have p3 := X2.cell 3
    have p4 := X2.cell 4
    simp only [List.getElem?_toArray, List.getElem?_cons_zero, List.getElem?_cons_succ] at p0 p1 p2 p3 p4
    have hd1 : ∀ i : Nat, i < kl → d + 1 ≤ 64 := by
      intro i hi
      have := HK2.out
      omega
    have HD := Lib.hid hd1
    clear hd1
    clear cb BA b2
    have HG2 := Lib.hid (show rightL (kids.drop 0) (d + 1) = GR by rw [← HG.out, right_eq, hokk, hbr, hkl2]; simp)
    clear HG hokk hbr hkl2
    go_wp2
    go_loopw [53] (fun v wr => ∃ i : Nat, v = .int .i64 i ∧ i ≤ kl ∧ Hid (rightL (kids.drop i) (d + 1) = GR) ∧ Below w.heap.size w wr) (fun v _ => kl - (intOf v).toNat)
    case atStart => exact ⟨0, rfl, by omega, HG2, B2⟩
    case round =>
      obtain ⟨i, rfl, hi, hq, hB⟩ := hrel
      have zB := hB.size
      by_cases hlt : i < kl
      · have hi2 : i < kids.length := by omega
        obtain ⟨g0, o, A2, c2, rfl, hk, hc⟩ := (HE.out.bel hB).kid_ hi2
        have fk0 := hc 0 _ rfl
        have fk1 := hc 1 _ rfl
        have fk2 := hc 2 _ rfl
        have fk3 := hc 3 _ rfl
        have fk4 := hc 4 _ rfl
        simp only [Nat.add_zero] at fk0
        clear hc
        have hdr := right_drop kids (d + 1) i hi2
        rw [hq.out] at hdr
        have ci := HI.out i hi2 (wr.alloc (.cells (exC (kids[i]'hi2).kind (kids[i]'hi2).n (kids[i]'hi2).name (kids[i]'hi2).op A2 (kids[i]'hi2).kids.length c2).toArray 24)) _ (hk.bel ((Below.refl _ _).alloc (Nat.le_refl _) _)) (HD.out i hlt)
        obtain ⟨x, hx⟩ : ∃ x, kids[i]'hi2 = x := ⟨_, rfl⟩
        rw [hx] at fk0 fk1 fk2 fk3 fk4 hk hdr
        simp only [hx] at ci
        clear hk hx
        generalize x.kind = k0 at *
        generalize x.n = k1 at *
        generalize x.name = k2 at *
        generalize x.op = k3 at *
        generalize x.kids.length = k4 at *
        cases hs : rightE x (d + 1)
        · rw [hs] at hdr ci
          have hz : GR = false := by rw [hdr]; rfl
          subst hz
          clear hdr hq HG2
          go_wp2_with fail
          (with_reducible refine ci.mono ?_)
          rintro e w2 ⟨rfl, hb⟩
          have B3 := (hB.alloc zB _).trans (hb.mono (by rw [World.size_alloc]; omega))
          go_wp2
          go_ret
          exact ⟨rfl, B3⟩
        · rw [hs, Bool.true_and] at hdr
          rw [hs] at ci
          have HD2 := Lib.hid (show rightL (kids.drop (i + 1)) (d + 1) = GR from hdr.symm)
          clear hdr hq HG2
          go_wp2_with fail
          (with_reducible refine ci.mono ?_)
          rintro e w2 ⟨rfl, hb⟩
          have B3 := (hB.alloc zB (.cells (exC k0 k1 k2 k3 A2 k4 c2).toArray 24)).trans (hb.mono (by rw [World.size_alloc]; omega))
          go_wp2
          go_roundw
          case rel => exact ⟨i + 1, by go_num, by omega, HD2, B3⟩
          case measure => simp [intOf]; omega
      · have hi2 : i = kl := by omega
        subst hi2
        have hz : GR = true := by
          rw [← hq.out, List.drop_of_length_le (by omega)]; rfl
        subst hz
        clear hq HG2
        go_wp2
        go_ret
        exact ⟨rfl, hB⟩
  by_cases h2 : k = 2
  · have hk := h2
    have HK := Lib.hid hk
    have e0 : (k == 0) = false := by rw [hk]; decide
    have e1 : (k == 1) = false := by rw [hk]; decide
    have e2 : (k == 2) = true := by rw [hk]; decide
    have e3 : (k == 3) = false := by rw [hk]; decide
    have e4 : (k == 4) = false := by rw [hk]; decide
    by_cases hd64 : d < 64
    rotate_left
    · have t0 : decide ((d : Int) < 64) = false := by simp; omega
      have hokk : okE k n nm op d = false := by unfold okE; rw [if_neg (by omega), if_neg (by omega), if_pos (by omega)]; simp; omega
      clear hk h2
      go_enter Tryz.func35, Tryz.ntmps35
      have hz : GR = false := by rw [← HG.out, right_eq]; simp [hokk]
      subst hz
      clear HG
      go_wp2_with fail
      rw [← hwa]
      clear hwa
      go_wp2
      go_ret
      exact ⟨rfl, BA⟩
    have t0 : decide ((d : Int) < 64) = true := by simp; omega
    have hokk : okE k n nm op d = true := by unfold okE; rw [if_neg (by omega), if_neg (by omega), if_pos (by omega)]; simp; omega
    clear hk h2
    go_enter Tryz.func35, Tryz.ntmps35
    cases hbr : bareE k n nm op
    · rw [hbr] at cb
      go_wp2_with fail
      rw [← hwa]
      clear hwa
      (with_reducible refine cb.mono ?_)
      rintro x w2 ⟨rfl, b2⟩
      have B2 := BA.trans (b2.mono BA.size)
      have hz : GR = false := by rw [← HG.out, right_eq]; simp [hokk, hbr]
      subst hz
      clear HG
      go_wp2
      go_ret
      exact ⟨rfl, B2⟩
    rw [hbr] at cb
    by_cases hkl2 : kl = 1
    rotate_left
    · have tk : ((kl : Int) != 1) = true := by rw [bne_iff_ne]; omega
      have hkl3 : kidsE k = 1 := by rw [HK.out]; rfl
      have hkl4 : ¬ kids.length = kidsE k := by rw [hkl3, hkl]; exact hkl2
      go_wp2_with fail
      rw [← hwa]
      clear hwa
      (with_reducible refine cb.mono ?_)
      rintro x w2 ⟨rfl, b2⟩
      have B2 := BA.trans (b2.mono BA.size)
      have X2 := XA.out.next b2
      have p0 := X2.cell 0
      have p1 := X2.cell 1
      have p2 := X2.cell 2
      have p3 := X2.cell 3
      have p4 := X2.cell 4
      simp only [List.getElem?_toArray, List.getElem?_cons_zero, List.getElem?_cons_succ] at p0 p1 p2 p3 p4
      have hz : GR = false := by rw [← HG.out, right_eq]; simp [hokk, hbr, hkl4]
      subst hz
      clear HG
      go_wp2
      go_ret
      exact ⟨rfl, B2⟩
    have tk : ((kl : Int) != 1) = false := by rw [bne_eq_false_iff_eq]; omega
    have hkl3 : kidsE k = 1 := by rw [HK.out]; rfl
    have hkl4 : decide (kids.length = kidsE k) = true := by rw [hkl3, hkl]; simpa using hkl2
    have HK2 := Lib.hid hkl2
    clear hkl2
    have hkl2 := hkl4
    go_wp2_with fail
    rw [← hwa]
    clear hwa
    (with_reducible refine cb.mono ?_)
    rintro x w2 ⟨rfl, b2⟩
    have B2 := BA.trans (b2.mono BA.size)
    have X2 := XA.out.next b2
    have p0 := X2.cell 0
    have p1 := X2.cell 1
    have p2 := X2.cell 2
    have p3 := X2.cell 3
    have p4 := X2.cell 4
    simp only [List.getElem?_toArray, List.getElem?_cons_zero, List.getElem?_cons_succ] at p0 p1 p2 p3 p4
    have hd1 : ∀ i : Nat, i < kl → d + 1 ≤ 64 := by
      intro i hi
      have := HK2.out
      omega
    have HD := Lib.hid hd1
    clear hd1
    clear cb BA b2
    have HG2 := Lib.hid (show rightL (kids.drop 0) (d + 1) = GR by rw [← HG.out, right_eq, hokk, hbr, hkl2]; simp)
    clear HG hokk hbr hkl2
    go_wp2
    go_loopw [53] (fun v wr => ∃ i : Nat, v = .int .i64 i ∧ i ≤ kl ∧ Hid (rightL (kids.drop i) (d + 1) = GR) ∧ Below w.heap.size w wr) (fun v _ => kl - (intOf v).toNat)
    case atStart => exact ⟨0, rfl, by omega, HG2, B2⟩
    case round =>
      obtain ⟨i, rfl, hi, hq, hB⟩ := hrel
      have zB := hB.size
      by_cases hlt : i < kl
      · have hi2 : i < kids.length := by omega
        obtain ⟨g0, o, A2, c2, rfl, hk, hc⟩ := (HE.out.bel hB).kid_ hi2
        have fk0 := hc 0 _ rfl
        have fk1 := hc 1 _ rfl
        have fk2 := hc 2 _ rfl
        have fk3 := hc 3 _ rfl
        have fk4 := hc 4 _ rfl
        simp only [Nat.add_zero] at fk0
        clear hc
        have hdr := right_drop kids (d + 1) i hi2
        rw [hq.out] at hdr
        have ci := HI.out i hi2 (wr.alloc (.cells (exC (kids[i]'hi2).kind (kids[i]'hi2).n (kids[i]'hi2).name (kids[i]'hi2).op A2 (kids[i]'hi2).kids.length c2).toArray 24)) _ (hk.bel ((Below.refl _ _).alloc (Nat.le_refl _) _)) (HD.out i hlt)
        obtain ⟨x, hx⟩ : ∃ x, kids[i]'hi2 = x := ⟨_, rfl⟩
        rw [hx] at fk0 fk1 fk2 fk3 fk4 hk hdr
        simp only [hx] at ci
        clear hk hx
        generalize x.kind = k0 at *
        generalize x.n = k1 at *
        generalize x.name = k2 at *
        generalize x.op = k3 at *
        generalize x.kids.length = k4 at *
        cases hs : rightE x (d + 1)
        · rw [hs] at hdr ci
          have hz : GR = false := by rw [hdr]; rfl
          subst hz
          clear hdr hq HG2
          go_wp2_with fail
          (with_reducible refine ci.mono ?_)
          rintro e w2 ⟨rfl, hb⟩
          have B3 := (hB.alloc zB _).trans (hb.mono (by rw [World.size_alloc]; omega))
          go_wp2
          go_ret
          exact ⟨rfl, B3⟩
        · rw [hs, Bool.true_and] at hdr
          rw [hs] at ci
          have HD2 := Lib.hid (show rightL (kids.drop (i + 1)) (d + 1) = GR from hdr.symm)
          clear hdr hq HG2
          go_wp2_with fail
          (with_reducible refine ci.mono ?_)
          rintro e w2 ⟨rfl, hb⟩
          have B3 := (hB.alloc zB (.cells (exC k0 k1 k2 k3 A2 k4 c2).toArray 24)).trans (hb.mono (by rw [World.size_alloc]; omega))
          go_wp2
          go_roundw
          case rel => exact ⟨i + 1, by go_num, by omega, HD2, B3⟩
          case measure => simp [intOf]; omega
      · have hi2 : i = kl := by omega
        subst hi2
        have hz : GR = true := by
          rw [← hq.out, List.drop_of_length_le (by omega)]; rfl
        subst hz
        clear hq HG2
        go_wp2
        go_ret
        exact ⟨rfl, hB⟩
  by_cases h3 : k = 3
  · have hk := h3
    have HK := Lib.hid hk
    have e0 : (k == 0) = false := by rw [hk]; decide
    have e1 : (k == 1) = false := by rw [hk]; decide
    have e2 : (k == 2) = false := by rw [hk]; decide
    have e3 : (k == 3) = true := by rw [hk]; decide
    have e4 : (k == 4) = false := by rw [hk]; decide
    by_cases hd64 : d < 64
    rotate_left
    · have t0 : decide ((d : Int) < 64) = false := by simp; omega
      have hokk : okE k n nm op d = false := by unfold okE; rw [if_neg (by omega), if_neg (by omega), if_pos (by omega)]; simp; omega
      clear hk h3
      go_enter Tryz.func35, Tryz.ntmps35
      have hz : GR = false := by rw [← HG.out, right_eq]; simp [hokk]
      subst hz
      clear HG
      go_wp2_with fail
      rw [← hwa]
      clear hwa
      go_wp2
      go_ret
      exact ⟨rfl, BA⟩
    have t0 : decide ((d : Int) < 64) = true := by simp; omega
    have hokk : okE k n nm op d = true := by unfold okE; rw [if_neg (by omega), if_neg (by omega), if_pos (by omega)]; simp; omega
    clear hk h3
    go_enter Tryz.func35, Tryz.ntmps35
    cases hbr : bareE k n nm op
    · rw [hbr] at cb
      go_wp2_with fail
      rw [← hwa]
      clear hwa
      (with_reducible refine cb.mono ?_)
      rintro x w2 ⟨rfl, b2⟩
      have B2 := BA.trans (b2.mono BA.size)
      have hz : GR = false := by rw [← HG.out, right_eq]; simp [hokk, hbr]
      subst hz
      clear HG
      go_wp2
      go_ret
      exact ⟨rfl, B2⟩
    rw [hbr] at cb
    by_cases hkl2 : kl = 1
    rotate_left
    · have tk : ((kl : Int) != 1) = true := by rw [bne_iff_ne]; omega
      have hkl3 : kidsE k = 1 := by rw [HK.out]; rfl
      have hkl4 : ¬ kids.length = kidsE k := by rw [hkl3, hkl]; exact hkl2
      go_wp2_with fail
      rw [← hwa]
      clear hwa
      (with_reducible refine cb.mono ?_)
      rintro x w2 ⟨rfl, b2⟩
      have B2 := BA.trans (b2.mono BA.size)
      have X2 := XA.out.next b2
      have p0 := X2.cell 0
      have p1 := X2.cell 1
      have p2 := X2.cell 2
      have p3 := X2.cell 3
      have p4 := X2.cell 4
      simp only [List.getElem?_toArray, List.getElem?_cons_zero, List.getElem?_cons_succ] at p0 p1 p2 p3 p4
      have hz : GR = false := by rw [← HG.out, right_eq]; simp [hokk, hbr, hkl4]
      subst hz
      clear HG
      go_wp2
      go_ret
      exact ⟨rfl, B2⟩
    have tk : ((kl : Int) != 1) = false := by rw [bne_eq_false_iff_eq]; omega
    have hkl3 : kidsE k = 1 := by rw [HK.out]; rfl
    have hkl4 : decide (kids.length = kidsE k) = true := by rw [hkl3, hkl]; simpa using hkl2
    have HK2 := Lib.hid hkl2
    clear hkl2
    have hkl2 := hkl4
    go_wp2_with fail
    rw [← hwa]
    clear hwa
    (with_reducible refine cb.mono ?_)
    rintro x w2 ⟨rfl, b2⟩
    have B2 := BA.trans (b2.mono BA.size)
    have X2 := XA.out.next b2
    have p0 := X2.cell 0
    have p1 := X2.cell 1
    have p2 := X2.cell 2
    have p3 := X2.cell 3
    have p4 := X2.cell 4
    simp only [List.getElem?_toArray, List.getElem?_cons_zero, List.getElem?_cons_succ] at p0 p1 p2 p3 p4
    have hd1 : ∀ i : Nat, i < kl → d + 1 ≤ 64 := by
      intro i hi
      have := HK2.out
      omega
    have HD := Lib.hid hd1
    clear hd1
    clear cb BA b2
    have HG2 := Lib.hid (show rightL (kids.drop 0) (d + 1) = GR by rw [← HG.out, right_eq, hokk, hbr, hkl2]; simp)
    clear HG hokk hbr hkl2
    go_wp2
    go_loopw [53] (fun v wr => ∃ i : Nat, v = .int .i64 i ∧ i ≤ kl ∧ Hid (rightL (kids.drop i) (d + 1) = GR) ∧ Below w.heap.size w wr) (fun v _ => kl - (intOf v).toNat)
    case atStart => exact ⟨0, rfl, by omega, HG2, B2⟩
    case round =>
      obtain ⟨i, rfl, hi, hq, hB⟩ := hrel
      have zB := hB.size
      by_cases hlt : i < kl
      · have hi2 : i < kids.length := by omega
        obtain ⟨g0, o, A2, c2, rfl, hk, hc⟩ := (HE.out.bel hB).kid_ hi2
        have fk0 := hc 0 _ rfl
        have fk1 := hc 1 _ rfl
        have fk2 := hc 2 _ rfl
        have fk3 := hc 3 _ rfl
        have fk4 := hc 4 _ rfl
        simp only [Nat.add_zero] at fk0
        clear hc
        have hdr := right_drop kids (d + 1) i hi2
        rw [hq.out] at hdr
        have ci := HI.out i hi2 (wr.alloc (.cells (exC (kids[i]'hi2).kind (kids[i]'hi2).n (kids[i]'hi2).name (kids[i]'hi2).op A2 (kids[i]'hi2).kids.length c2).toArray 24)) _ (hk.bel ((Below.refl _ _).alloc (Nat.le_refl _) _)) (HD.out i hlt)
        obtain ⟨x, hx⟩ : ∃ x, kids[i]'hi2 = x := ⟨_, rfl⟩
        rw [hx] at fk0 fk1 fk2 fk3 fk4 hk hdr
        simp only [hx] at ci
        clear hk hx
        generalize x.kind = k0 at *
        generalize x.n = k1 at *
        generalize x.name = k2 at *
        generalize x.op = k3 at *
        generalize x.kids.length = k4 at *
        cases hs : rightE x (d + 1)
        · rw [hs] at hdr ci
          have hz : GR = false := by rw [hdr]; rfl
          subst hz
          clear hdr hq HG2
          go_wp2_with fail
          (with_reducible refine ci.mono ?_)
          rintro e w2 ⟨rfl, hb⟩
          have B3 := (hB.alloc zB _).trans (hb.mono (by rw [World.size_alloc]; omega))
          go_wp2
          go_ret
          exact ⟨rfl, B3⟩
        · rw [hs, Bool.true_and] at hdr
          rw [hs] at ci
          have HD2 := Lib.hid (show rightL (kids.drop (i + 1)) (d + 1) = GR from hdr.symm)
          clear hdr hq HG2
          go_wp2_with fail
          (with_reducible refine ci.mono ?_)
          rintro e w2 ⟨rfl, hb⟩
          have B3 := (hB.alloc zB (.cells (exC k0 k1 k2 k3 A2 k4 c2).toArray 24)).trans (hb.mono (by rw [World.size_alloc]; omega))
          go_wp2
          go_roundw
          case rel => exact ⟨i + 1, by go_num, by omega, HD2, B3⟩
          case measure => simp [intOf]; omega
      · have hi2 : i = kl := by omega
        subst hi2
        have hz : GR = true := by
          rw [← hq.out, List.drop_of_length_le (by omega)]; rfl
        subst hz
        clear hq HG2
        go_wp2
        go_ret
        exact ⟨rfl, hB⟩
  by_cases h4 : k = 4
  · have hk := h4
    have HK := Lib.hid hk
    have e0 : (k == 0) = false := by rw [hk]; decide
    have e1 : (k == 1) = false := by rw [hk]; decide
    have e2 : (k == 2) = false := by rw [hk]; decide
    have e3 : (k == 3) = false := by rw [hk]; decide
    have e4 : (k == 4) = true := by rw [hk]; decide
    by_cases hd64 : d < 64
    rotate_left
    · have t0 : decide ((d : Int) < 64) = false := by simp; omega
      have hokk : okE k n nm op d = false := by unfold okE; rw [if_neg (by omega), if_neg (by omega), if_neg (by omega), if_pos hk]; simp; omega
      clear hk h4
      go_enter Tryz.func35, Tryz.ntmps35
      have hz : GR = false := by rw [← HG.out, right_eq]; simp [hokk]
      subst hz
      clear HG
      go_wp2_with fail
      rw [← hwa]
      clear hwa
      go_wp2
      go_ret
      exact ⟨rfl, BA⟩
    have t0 : decide ((d : Int) < 64) = true := by simp; omega
    have cn := strength_c op wa
    by_cases hst : 0 < strength op
    rotate_left
    · have hs0 : strength op = 0 := by omega
      have hokk : okE k n nm op d = false := by unfold okE; rw [if_neg (by omega), if_neg (by omega), if_neg (by omega), if_pos hk]; simp [hst]
      rw [hs0] at cn
      clear hk h4
      go_enter Tryz.func35, Tryz.ntmps35
      go_wp2_with fail
      rw [← hwa]
      clear hwa
      (with_reducible refine cn.mono ?_)
      rintro x w2 ⟨rfl, rfl⟩
      have hz : GR = false := by rw [← HG.out, right_eq]; simp [hokk]
      subst hz
      clear HG
      go_wp2
      go_ret
      exact ⟨rfl, BA⟩
    have t1 : decide ((0 : Int) < (strength op : Int)) = true := by simp; omega
    have t1n : decide (0 < strength op) = true := by simp; omega
    have hokk : okE k n nm op d = true := by unfold okE; rw [if_neg (by omega), if_neg (by omega), if_neg (by omega), if_pos hk]; simp [hst, hd64]
    clear hk h4
    go_enter Tryz.func35, Tryz.ntmps35
    go_wp2_with fail
    rw [← hwa]
    clear hwa
    (with_reducible refine cn.mono ?_)
    rintro x w2 ⟨rfl, rfl⟩
    cases hbr : bareE k n nm op
    · rw [hbr] at cb
      go_wp2_with fail
      (with_reducible refine cb.mono ?_)
      rintro x w2 ⟨rfl, b2⟩
      have B2 := BA.trans (b2.mono BA.size)
      have hz : GR = false := by rw [← HG.out, right_eq]; simp [hokk, hbr]
      subst hz
      clear HG
      go_wp2
      go_ret
      exact ⟨rfl, B2⟩
    rw [hbr] at cb
    by_cases hkl2 : kl = 2
    rotate_left
    · have tk : ((kl : Int) != 2) = true := by rw [bne_iff_ne]; omega
      have hkl3 : kidsE k = 2 := by rw [HK.out]; rfl
      have hkl4 : ¬ kids.length = kidsE k := by rw [hkl3, hkl]; exact hkl2
      go_wp2_with fail
      (with_reducible refine cb.mono ?_)
      rintro x w2 ⟨rfl, b2⟩
      have B2 := BA.trans (b2.mono BA.size)
      have X2 := XA.out.next b2
      have p0 := X2.cell 0
      have p1 := X2.cell 1
      have p2 := X2.cell 2
      have p3 := X2.cell 3
      have p4 := X2.cell 4
      simp only [List.getElem?_toArray, List.getElem?_cons_zero, List.getElem?_cons_succ] at p0 p1 p2 p3 p4
      have hz : GR = false := by rw [← HG.out, right_eq]; simp [hokk, hbr, hkl4]
      subst hz
      clear HG
      go_wp2
      go_ret
      exact ⟨rfl, B2⟩
    have tk : ((kl : Int) != 2) = false := by rw [bne_eq_false_iff_eq]; omega
    have hkl3 : kidsE k = 2 := by rw [HK.out]; rfl
    have hkl4 : decide (kids.length = kidsE k) = true := by rw [hkl3, hkl]; simpa using hkl2
    have HK2 := Lib.hid hkl2
    clear hkl2
    have hkl2 := hkl4
    go_wp2_with fail
    (with_reducible refine cb.mono ?_)
    rintro x w2 ⟨rfl, b2⟩
    have B2 := BA.trans (b2.mono BA.size)
    have X2 := XA.out.next b2
    have p0 := X2.cell 0
    have p1 := X2.cell 1
    have p2 := X2.cell 2
    have p3 := X2.cell 3
    have p4 := X2.cell 4
    simp only [List.getElem?_toArray, List.getElem?_cons_zero, List.getElem?_cons_succ] at p0 p1 p2 p3 p4
    have hd1 : ∀ i : Nat, i < kl → d + 1 ≤ 64 := by
      intro i hi
      have := HK2.out
      omega
    have HD := Lib.hid hd1
    clear hd1
    clear cb BA b2
    have HG2 := Lib.hid (show rightL (kids.drop 0) (d + 1) = GR by rw [← HG.out, right_eq, hokk, hbr, hkl2]; simp)
    clear HG hokk hbr hkl2
    go_wp2
    go_loopw [53] (fun v wr => ∃ i : Nat, v = .int .i64 i ∧ i ≤ kl ∧ Hid (rightL (kids.drop i) (d + 1) = GR) ∧ Below w.heap.size w wr) (fun v _ => kl - (intOf v).toNat)
    case atStart => exact ⟨0, rfl, by omega, HG2, B2⟩
    case round =>
      obtain ⟨i, rfl, hi, hq, hB⟩ := hrel
      have zB := hB.size
      by_cases hlt : i < kl
      · have hi2 : i < kids.length := by omega
        obtain ⟨g0, o, A2, c2, rfl, hk, hc⟩ := (HE.out.bel hB).kid_ hi2
        have fk0 := hc 0 _ rfl
        have fk1 := hc 1 _ rfl
        have fk2 := hc 2 _ rfl
        have fk3 := hc 3 _ rfl
        have fk4 := hc 4 _ rfl
        simp only [Nat.add_zero] at fk0
        clear hc
        have hdr := right_drop kids (d + 1) i hi2
        rw [hq.out] at hdr
        have ci := HI.out i hi2 (wr.alloc (.cells (exC (kids[i]'hi2).kind (kids[i]'hi2).n (kids[i]'hi2).name (kids[i]'hi2).op A2 (kids[i]'hi2).kids.length c2).toArray 24)) _ (hk.bel ((Below.refl _ _).alloc (Nat.le_refl _) _)) (HD.out i hlt)
        obtain ⟨x, hx⟩ : ∃ x, kids[i]'hi2 = x := ⟨_, rfl⟩
        rw [hx] at fk0 fk1 fk2 fk3 fk4 hk hdr
        simp only [hx] at ci
        clear hk hx
        generalize x.kind = k0 at *
        generalize x.n = k1 at *
        generalize x.name = k2 at *
        generalize x.op = k3 at *
        generalize x.kids.length = k4 at *
        cases hs : rightE x (d + 1)
        · rw [hs] at hdr ci
          have hz : GR = false := by rw [hdr]; rfl
          subst hz
          clear hdr hq HG2
          go_wp2_with fail
          (with_reducible refine ci.mono ?_)
          rintro e w2 ⟨rfl, hb⟩
          have B3 := (hB.alloc zB _).trans (hb.mono (by rw [World.size_alloc]; omega))
          go_wp2
          go_ret
          exact ⟨rfl, B3⟩
        · rw [hs, Bool.true_and] at hdr
          rw [hs] at ci
          have HD2 := Lib.hid (show rightL (kids.drop (i + 1)) (d + 1) = GR from hdr.symm)
          clear hdr hq HG2
          go_wp2_with fail
          (with_reducible refine ci.mono ?_)
          rintro e w2 ⟨rfl, hb⟩
          have B3 := (hB.alloc zB (.cells (exC k0 k1 k2 k3 A2 k4 c2).toArray 24)).trans (hb.mono (by rw [World.size_alloc]; omega))
          go_wp2
          go_roundw
          case rel => exact ⟨i + 1, by go_num, by omega, HD2, B3⟩
          case measure => simp [intOf]; omega
      · have hi2 : i = kl := by omega
        subst hi2
        have hz : GR = true := by
          rw [← hq.out, List.drop_of_length_le (by omega)]; rfl
        subst hz
        clear hq HG2
        go_wp2
        go_ret
        exact ⟨rfl, hB⟩
  have e0 : (k == 0) = false := by simpa using h0
  have e1 : (k == 1) = false := by simpa using h1
  have e2 : (k == 2) = false := by simpa using h2
  have e3 : (k == 3) = false := by simpa using h3
  have e4 : (k == 4) = false := by simpa using h4
  have hokk : okE k n nm op d = false := by unfold okE; rw [if_neg h0, if_neg h1, if_neg (by omega), if_neg h4]
  go_enter Tryz.func35, Tryz.ntmps35
  have hz : GR = false := by rw [← HG.out, right_eq]; simp [hokk]
  subst hz
  clear HG
  go_wp2_with fail
  rw [← hwa]
  clear hwa
  go_wp2
  go_ret
  exact ⟨rfl, BA⟩
end CalW
end Go.Proofs.YtchceoclkdofhaaGreatDoor
