/- Decode: the walk. Conditions: a text that fits; the tables of strconv. -/
import Derived.Test.YtooinkhjoppijaaDoorTraD
namespace Go.Proofs.YtooinkhjoppijaaDoor
set_option linter.unusedVariables false
set_option linter.unusedSimpArgs false
open Go.RowKit
namespace TraW
open TraP NumP NumW
/-- What is decoded. -/
def DecPost (l : Bs) (w : World) (e : Ending) (w' : World) : Prop :=
  ∃ v, e = .returned (.tuple #[.agg #[.int .i64 (decP l).1.1, .int .i64 (decP l).1.2.1, v], .int .i64 (decP l).2.1, .int .i64 (decP l).2.2]) ∧ OwnC w' w.heap.size v (decP l).1.2.2 ∧ (decP l).1.2.2.length ≤ 4000 ∧ Below w.heap.size w w'
theorem dec_bad {l : Bs} {w w' : World} {a k : Int} (h : decP l = ((0, 0, []), a, k)) (hb : Below w.heap.size w w') :
    DecPost l w (.returned (.tuple #[.agg #[.int .i64 0, .int .i64 0, .slice none 0 0], .int .i64 a, .int .i64 k])) w' := by
  unfold DecPost
  rw [h]
  exact ⟨_, rfl, World.ownsRow_nil _ _ _ _, by simp, hb⟩
theorem dec_good {l : Bs} {w w' : World} {k n : Int} {v : Value} {L : List Ch} {B : Nat} (h : decP l = ((k, n, L), 0, 0)) (ho : OwnC w' B v L) (hB : w.heap.size ≤ B) (hl : L.length ≤ 4000) (hb : Below w.heap.size w w') :
    DecPost l w (.returned (.tuple #[.agg #[.int .i64 k, .int .i64 n, v], .int .i64 0, .int .i64 0])) w' := by
  unfold DecPost
  rw [h]
  exact ⟨_, rfl, ho.mono hB, hl, hb⟩
theorem decP_no {l : Bs} (h : (Lib.cut l [10]).2.2 = false ∨ purP (Lib.cut l [10]).1 = none) : decP l = ((0, 0, []), 0, 1) := by
  unfold decP
  rcases cut_cases 10 l with ⟨h0, e⟩ | ⟨a, t, rfl, h0, e⟩
  · rw [if_pos h0]
  · rw [if_neg (by simp)]
    rcases h with h | h
    · rw [e] at h; cases h
    · rw [h]
theorem decP_yes {l : Bs} {k n : Int} (h : (Lib.cut l [10]).2.2 = true) (h2 : purP (Lib.cut l [10]).1 = some (k, n)) :
    decP l = if (goP l.length (Lib.cut l [10]).2.1 []).2.2 ≠ 0 then ((0, 0, []), (goP l.length (Lib.cut l [10]).2.1 []).2.1, (goP l.length (Lib.cut l [10]).2.1 []).2.2)
      else ((k, n, (goP l.length (Lib.cut l [10]).2.1 []).1), 0, 0) := by
  unfold decP
  rcases cut_cases 10 l with ⟨h0, e⟩ | ⟨a, t, rfl, h0, e⟩
  · rw [e] at h; cases h
  · rw [if_neg (by simp), h2]
def szOf (v : Value) : Nat := match v with
  | .string x => x.size
  | _ => 0
theorem szOf_str (x : ByteArray) : szOf (.string x) = x.size := rfl
theorem own_far {w : World} {B : Nat} {v : Value} {l : List Ch} {n : Nat} (h : w.ownsRow B 39 3 v n (ccs l)) (p : Addr) (hp : ∀ g, v.ownBlock = some g → g ≠ p.block) (u : Value) : (w.setCell p u).ownsRow B 39 3 v n (ccs l) := by
  refine h.kept (row := some p.block) ⟨rfl, rfl, rfl, by simp [World.setCell], fun j hj hne => Below.heap_setCell w p u j (fun e => hne (by rw [e]))⟩ ?_
  cases e : v.ownBlock with
  | none => exact .inl rfl
  | some g => exact .inr (fun e2 => hp g e (Option.some.inj e2))
theorem own_next {w w' : World} {B : Nat} {v : Value} {l : List Ch} {n : Nat} (h : w.ownsRow B 39 3 v n (ccs l)) (b : Below w.heap.size w w') : w'.ownsRow B 39 3 v n (ccs l) := by
  refine h.kept (row := none) ⟨b.os, b.tape, b.output, b.size, fun j hj _ => b.block j hj⟩ ?_
  cases e : v.ownBlock with
  | none => exact .inl rfl
  | some g => exact .inr (by simp)
theorem ba_isEmpty (l : Bs) : (ba l).toList.isEmpty = l.isEmpty := by rw [toList_ba]
set_option maxHeartbeats 6400000 in
set_option maxRecDepth 100000 in
theorem decode_c (s : ByteArray) (w : World) (hs : s.size ≤ 281474976) (hw : Rdy w) : Calls Tryd.prog 10 #[.string s] w (DecPost s.data.toList w) := by
  have cc := fun W => cut_c s 10 W (by omega)
  have hle := cut_le s.data.toList 10
  rw [← Lib.size_eq] at hle
  have HNO := Lib.hid (@decP_no s.data.toList)
  have HYES := Lib.hid (fun k n => @decP_yes s.data.toList k n)
  obtain ⟨a, ha⟩ : ∃ a, (Lib.cut s.data.toList [10]).1 = a := ⟨_, rfl⟩
  obtain ⟨b, hb⟩ : ∃ b, (Lib.cut s.data.toList [10]).2.1 = b := ⟨_, rfl⟩
  obtain ⟨z, hz⟩ : ∃ z, (Lib.cut s.data.toList [10]).2.2 = z := ⟨_, rfl⟩
  rw [ha, hb, hz] at cc
  rw [ha, hz] at HNO
  rw [ha, hb, hz, ← Lib.size_eq] at HYES
  rw [ha, hb] at hle
  have haz : (ba a).size ≤ 281474976 := by rw [ba_size]; omega
  have hbl : b.length ≤ s.size := hle.2
  clear ha hb hz hle
  have HW := Lib.hid hw
  clear hw
  have cp := fun W h => purpose_c (ba a) W (by omega) h
  rw [ba_list] at cp
  go_enter Tryd.func10, Tryd.ntmps10
  go_wp2_with fail
  have R1 := Blk.new w 24 #[.int .i64 0, .int .i64 0, .slice none 0 0]
  have B1 : Below w.heap.size w (w.alloc (.cells #[.int .i64 0, .int .i64 0, .slice none 0 0] 24)) := by go_grown
  obtain ⟨w1, hw1⟩ : ∃ q, w.alloc (.cells #[.int .i64 0, .int .i64 0, .slice none 0 0] 24) = q := ⟨_, rfl⟩
  rw [hw1] at R1 B1 ⊢
  clear hw1
  (with_reducible refine (cc _).mono ?_)
  rintro e w2 ⟨rfl, b2⟩
  have R2 := R1.next b2
  have B2 := via b2 B1
  go_wp2_with fail
  (with_reducible refine (cp _ (HW.out.below B2)).mono ?_)
  rintro e w3 ⟨k, n, rfl, hd, b3⟩
  have R3 := R2.next b3
  have B3 := via b3 B2
  have HD := Lib.hid hd
  clear hd b2 b3 R1 R2 B1 B2 cc cp
  obtain ⟨ok, hok⟩ : ∃ q, (purP a).isSome = q := ⟨_, rfl⟩
  rw [hok]
  have HOK := Lib.hid hok
  clear hok
  have r0 := R3.cell 0
  have r1 := R3.cell 1
  have r2 := R3.cell 2
  have l0 := R3.loose 0
  have l1 := R3.loose 1
  have l2 := R3.loose 2
  simp only [List.getElem?_toArray, List.getElem?_cons_zero, List.getElem?_cons_succ] at r0 r1 r2
  have R4 := ((R3.set_ 0 (.int .i64 0)).set_ 1 (.int .i64 0)).set_ 2 (.slice none 0 0)
  have k0 := R4.cell 0
  have k1 := R4.cell 1
  have k2 := R4.cell 2
  simp only [List.setIfInBounds_toArray, List.set_cons_zero, List.set_cons_succ, List.getElem?_toArray, List.getElem?_cons_zero, List.getElem?_cons_succ] at k0 k1 k2
  clear R4
  have hcase : (z = false ∨ ok = false) ∨ (z = true ∧ ok = true) := by cases z <;> cases ok <;> simp
  rcases hcase with hc | ⟨rfl, rfl⟩
  · have HB := Lib.hid (HNO.out (by
      rcases hc with h | h
      · exact .inl h
      · right
        have := HOK.out
        rw [h] at this
        cases e : purP a with
        | none => rfl
        | some d => rw [e] at this; cases this))
    clear HNO HYES HD HOK
    rcases hc with rfl | rfl
    · go_wp2
      refine bodyPost_ret (v := .tuple #[.agg #[.int .i64 0, .int .i64 0, .slice none 0 0], .int .i64 0, .int .i64 1]) (by simp [results, Tryd.results10, go_sem, k0, k1, k2]) rfl ?_
      exact dec_bad HB.out (by go_grown)
    · cases z
      all_goals
        go_wp2
        refine bodyPost_ret (v := .tuple #[.agg #[.int .i64 0, .int .i64 0, .slice none 0 0], .int .i64 0, .int .i64 1]) (by simp [results, Tryd.results10, go_sem, k0, k1, k2]) rfl ?_
        exact dec_bad HB.out (by go_grown)
  have hp : purP a = some (k, n) := by
    have := HOK.out
    cases e : purP a with
    | none => rw [e] at this; cases this
    | some d => rw [HD.out d e]
  have HY := Lib.hid (HYES.out k n rfl hp)
  clear HYES HNO HOK HD hp r0 r1 r2 l0 l1 l2 k0 k1 k2
  obtain ⟨G, hG⟩ : ∃ G, goP (s.size : Int) b [] = G := ⟨_, rfl⟩
  rw [hG] at HY
  have HG := Lib.hid hG
  clear hG
  go_wp2
  have T5 := Blk.new w3 24 #[.int .i64 k, .int .i64 n, .slice none 0 0]
  have R5 := R3.alloc (.cells #[.int .i64 k, .int .i64 n, .slice none 0 0] 24)
  have B5 := B3.alloc B3.size (.cells #[.int .i64 k, .int .i64 n, .slice none 0 0] 24)
  have hRT : w.heap.size ≠ w3.heap.size := by have := R3.lt; omega
  have hwz : w.heap.size ≤ w3.heap.size := B3.size
  obtain ⟨w5, hw5⟩ : ∃ q, w3.alloc (.cells #[.int .i64 k, .int .i64 n, .slice none 0 0] 24) = q := ⟨_, rfl⟩
  rw [hw5] at T5 R5 B5 ⊢
  have hz5 : w5.heap.size = w3.heap.size + 1 := by rw [← hw5]; simp
  clear hw5 R3 B3
  go_loopw [6] (fun rv wr => ∃ (rest : Bs) (acc : List Ch) (v : Value), rv = .string (ba rest) ∧ rest.length ≤ s.size ∧ acc.length ≤ 4000 ∧ Hid (goP (s.size : Int) rest acc = G) ∧ Blk wr w.heap.size 24 #[.int .i64 0, .int .i64 0, .slice none 0 0] ∧ Blk wr w3.heap.size 24 #[.int .i64 k, .int .i64 n, v] ∧ OwnC wr w5.heap.size v acc ∧ w5.heap.size ≤ wr.heap.size ∧ Below w.heap.size w wr) (fun rv _ => szOf rv)
  case atStart => exact ⟨b, [], _, rfl, hbl, by simp, HG, R5, T5, World.ownsRow_nil _ _ _ _, Nat.le_refl _, B5⟩
  case round =>
    clear R5 T5 B5
    obtain ⟨rest, acc, v, rfl, hrl, hal, hx, R5, T5, hown, hz, hB⟩ := hrel
    rename_i wr
    obtain ⟨wq, rfl⟩ : ∃ q : World, q = wr := ⟨_, rfl⟩
    obtain ⟨A0, c0, rfl, hlt0, _⟩ := own_shape hown
    have HLT := Lib.hid hlt0
    clear hlt0
    obtain ⟨N, hN⟩ : ∃ N, acc.length = N := ⟨_, rfl⟩
    unfold OwnC at hown
    rw [hN] at hown T5 HLT hal
    have HN := Lib.hid hN
    clear hN
    have r0 := R5.cell 0
    have r1 := R5.cell 1
    have r2 := R5.cell 2
    have l0 := R5.loose 0
    have l1 := R5.loose 1
    have l2 := R5.loose 2
    have t0 := T5.cell 0
    have t1 := T5.cell 1
    have t2 := T5.cell 2
    simp only [List.getElem?_toArray, List.getElem?_cons_zero, List.getElem?_cons_succ] at r0 r1 r2 t0 t1 t2
    have hsz : (ba rest).size = rest.length := ba_size rest
    have hxz : (ba rest).size ≤ s.size := by omega
    have HSZ := Lib.hid hsz
    clear hsz
    by_cases hr : rest = []
    · subst hr
      have e0 : (ba []).toList.isEmpty = true := by rw [ba_isEmpty]; rfl
      have hg := hx.out
      rw [goP_end] at hg
      have HX := Lib.hid hg
      clear hg hx
      go_wp2
      have R6 := ((R5.set_ 0 (.int .i64 k)).set_ 1 (.int .i64 n)).set_ 2 (.slice A0 N c0)
      have k0 := R6.cell 0
      have k1 := R6.cell 1
      have k2 := R6.cell 2
      simp only [List.setIfInBounds_toArray, List.set_cons_zero, List.set_cons_succ, List.getElem?_toArray, List.getElem?_cons_zero, List.getElem?_cons_succ] at k0 k1 k2
      clear R6
      refine bodyPost_ret (v := .tuple #[.agg #[.int .i64 k, .int .i64 n, .slice A0 N c0], .int .i64 0, .int .i64 0]) (by simp [results, Tryd.results10, go_sem, k0, k1, k2]) rfl ?_
      have hfar : ∀ g, (Value.slice A0 N c0).ownBlock = some g → g ≠ w.heap.size := fun g hg => by have := (HLT.out g hg).1; omega
      have ho2 := own_far (own_far (own_far hown ⟨w.heap.size, 0, none⟩ hfar (.int .i64 k)) ⟨w.heap.size, 1, none⟩ hfar (.int .i64 n)) ⟨w.heap.size, 2, none⟩ hfar (.slice A0 N c0)
      rw [← HN.out] at ho2
      rw [← HN.out]
      exact dec_good (by rw [HY.out, ← HX.out]; rfl) ho2 (by omega) (by rw [HN.out]; exact hal) (by go_grown)
    · have e0 : (ba rest).toList.isEmpty = false := by
        rw [ba_isEmpty]
        cases rest with
        | nil => exact absurd rfl hr
        | cons _ _ => rfl
      have e1 : ¬ (ba rest).toList = [] := by rw [toList_ba]; exact hr
      have cc := fun W => cut_c (ba rest) 10 W (by omega)
      rw [ba_list] at cc
      have hg := hx.out
      rcases cut_cases 10 rest with ⟨h0, e⟩ | ⟨a2, t2', rfl, h0, e⟩
      · rw [e] at cc
        simp only at cc
        rw [goP_no _ _ _ hr h0, ← HSZ.out] at hg
        have HX := Lib.hid hg
        clear hg hx e
        generalize ba rest = xr at *
        go_wp2_with fail
        (with_reducible refine (cc _).mono ?_)
        rintro e w6 ⟨rfl, b6⟩
        have R6 := R5.next b6
        have B6 := via b6 hB
        clear b6 R5 hB hown T5 t0 t1 t2 r0 r1 r2 l0 l1 l2
        have r0 := R6.cell 0
        have r1 := R6.cell 1
        have r2 := R6.cell 2
        have l0 := R6.loose 0
        have l1 := R6.loose 1
        have l2 := R6.loose 2
        have R7 := ((R6.set_ 0 (.int .i64 0)).set_ 1 (.int .i64 0)).set_ 2 (.slice none 0 0)
        have k0 := R7.cell 0
        have k1 := R7.cell 1
        have k2 := R7.cell 2
        simp only [List.setIfInBounds_toArray, List.set_cons_zero, List.set_cons_succ, List.getElem?_toArray, List.getElem?_cons_zero, List.getElem?_cons_succ] at r0 r1 r2 k0 k1 k2
        clear R6 R7
        go_wp2
        refine bodyPost_ret (v := .tuple #[.agg #[.int .i64 0, .int .i64 0, .slice none 0 0], .int .i64 ((s.size : Int) - (xr.size : Int)), .int .i64 1]) (by simp [results, Tryd.results10, go_sem, k0, k1, k2]) rfl ?_
        exact dec_bad (by rw [HY.out, ← HX.out]; rfl) (by go_grown)
      · rw [e] at cc
        simp only at cc
        rw [goP_at _ _ _ _ h0, ← HSZ.out] at hg
        have HX := Lib.hid hg
        clear hg hx e
        have hl2 : (ba a2).size ≤ 281474976 := by rw [ba_size]; simp at hrl; omega
        have ht2 : t2'.length < (a2 ++ 10 :: t2').length := by simp; omega
        have cl := fun W h1 h2 h3 => line_r (ba a2) w5.heap.size (.slice A0 N c0) acc W hl2 h1 h2 h3 (by rw [HN.out]; exact hal)
        rw [ba_list] at cl
        unfold OwnC at cl
        rw [HN.out] at cl
        generalize a2 ++ 10 :: t2' = rest at *
        generalize hxr : ba rest = xr at *
        generalize hxa : ba a2 = xa at *
        have HXT := Lib.hid (ba_size t2')
        generalize hxt : ba t2' = xt at *
        have HT := Lib.hid hxt
        clear hxr hxa hxt
        go_wp2_with fail
        (with_reducible refine (cc _).mono ?_)
        rintro e w6 ⟨rfl, b6⟩
        have R6 := R5.next b6
        have T6 := T5.next b6
        have O6 := own_next hown b6
        have B6 := via b6 hB
        have z6 := Nat.le_trans hz b6.size
        clear b6 R5 T5 hB hown r0 r1 r2 l0 l1 l2 t0 t1 t2
        have t0 := T6.cell 0
        have t1 := T6.cell 1
        have t2 := T6.cell 2
        simp only [List.getElem?_toArray, List.getElem?_cons_zero, List.getElem?_cons_succ] at t0 t1 t2
        go_wp2_with fail
        (with_reducible refine (cl _ (HW.out.below B6) z6 O6).mono ?_)
        clear cl cc
        rintro e w7 (⟨er, her, hlp, rfl, b7⟩ | ⟨v7, L7, hlp, hL7, rfl, O7, b7⟩)
        · have R7 := R6.next b7
          have B7 := via b7 B6
          have HLP := Lib.hid hlp
          clear b7 R6 T6 O6 B6 hlp t0 t1 t2
          have r0 := R7.cell 0
          have r1 := R7.cell 1
          have r2 := R7.cell 2
          have l0 := R7.loose 0
          have l1 := R7.loose 1
          have l2 := R7.loose 2
          have R8 := ((R7.set_ 0 (.int .i64 0)).set_ 1 (.int .i64 0)).set_ 2 (.slice none 0 0)
          have k0 := R8.cell 0
          have k1 := R8.cell 1
          have k2 := R8.cell 2
          simp only [List.setIfInBounds_toArray, List.set_cons_zero, List.set_cons_succ, List.getElem?_toArray, List.getElem?_cons_zero, List.getElem?_cons_succ] at r0 r1 r2 k0 k1 k2
          clear R7 R8
          have ne1 : (er != 0) = true := by simpa using her
          have ne2 : (er == 0) = false := by simpa using her
          have HER := Lib.hid her
          clear her
          go_wp2
          refine bodyPost_ret (v := .tuple #[.agg #[.int .i64 0, .int .i64 0, .slice none 0 0], .int .i64 ((s.size : Int) - (xr.size : Int)), .int .i64 er]) (by simp [results, Tryd.results10, go_sem, k0, k1, k2]) rfl ?_
          exact dec_bad (by rw [HY.out, ← HX.out, HLP.out]; simp [HER.out]) (by go_grown)
        · obtain ⟨A7, c7, rfl, hlt7, _⟩ := own_shape O7
          obtain ⟨N7, hN7⟩ : ∃ N, L7.length = N := ⟨_, rfl⟩
          unfold OwnC at O7
          rw [hN7] at O7 hlt7 hL7
          rw [hN7]
          have HN7 := Lib.hid hN7
          have HLP := Lib.hid hlp
          clear hN7 hlp
          have R7 := R6.below b7 (show w.heap.size < w5.heap.size by omega)
          have T7 := T6.below b7 (show w3.heap.size < w5.heap.size by omega)
          have B7 := B6.trans (b7.mono (show w.heap.size ≤ w5.heap.size by omega))
          have z7 := Nat.le_trans z6 b7.size
          clear b7 R6 T6 O6 B6 t0 t1 t2
          have t2 := T7.cell 2
          have l2 := T7.loose 2
          simp only [List.getElem?_toArray, List.getElem?_cons_zero, List.getElem?_cons_succ] at t2
          have T8 := T7.set_ 2 (.slice A7 N7 c7)
          simp only [List.setIfInBounds_toArray, List.set_cons_zero, List.set_cons_succ] at T8
          have R8 := R7.far (p := ⟨w3.heap.size, 2, none⟩) hRT (.slice A7 N7 c7)
          have O8 := own_far O7 ⟨w3.heap.size, 2, none⟩ (fun g hg => by have := (hlt7 g hg).1; simp only; omega) (.slice A7 N7 c7)
          have B8 := B7.setCell (p := ⟨w3.heap.size, 2, none⟩) hwz (.slice A7 N7 c7)
          have z8 : w5.heap.size ≤ (w7.setCell ⟨w3.heap.size, 2, none⟩ (.slice A7 N7 c7)).heap.size := by simpa [World.setCell] using z7
          clear R7 T7 O7 B7 z7 hlt7
          go_wp2
          go_roundw
          case rel =>
            refine ⟨t2', L7, .slice A7 N7 c7, by rw [HT.out], by omega, by rw [HN7.out]; exact hL7, Lib.hid ?_, R8, T8, by unfold OwnC; rw [HN7.out]; exact O8, z8, B8⟩
            rw [← HX.out, HLP.out]; simp
          case measure => simp [szOf_str, HXT.out, HSZ.out]; try omega
end TraW
end Go.Proofs.YtooinkhjoppijaaDoor
