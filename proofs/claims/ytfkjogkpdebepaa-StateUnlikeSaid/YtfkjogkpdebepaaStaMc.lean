/- The walk of the law's Small: a node. Conditions: what comes in. -/
import Derived.Test.YtfkjogkpdebepaaStaMb
namespace Go.Proofs.Ytfkjogkpdebepaa
open Go.RowKit
namespace StaM
open StaP StaL StaW StaG StaX StaD StaZ StaE
set_option maxHeartbeats 25600000 in
set_option maxRecDepth 100000 in
theorem nsmall_c (cs : Array Value) (m : MNd) (w : World) (B : Nat) (h : NdQ w B cs m) (hB : B ≤ w.heap.size) :
    Calls Try.prog 11 #[.agg cs] w (SmPost (NSm m) w) := by
  obtain ⟨a1, c1, a2, c2, a3, c3, a4, c4, a5, c5, ds, rfl, h⟩ := h
  have ccf := fun (w' : World) (hw : Below w.heap.size w w') => csmalls_c m a1 c1 a2 c2 a3 c3 a4 c4 a5 c5 ds w' B (h.below (hw.mono hB)) (by have := hw.size; omega)
  have o9 := h.1.2.2.2.2.2.2.2.2.1
  clear h
  obtain ⟨ta, pc, md, er, us, ti, el, vs, cu, st, bf, af, so⟩ := m
  simp only at o9 ccf
  obtain ⟨x0, x1, x2, x3, x4, x5, x6, x7, x8, x9, rfl⟩ := ten cu o9
  simp only [ndArr]
  rw [cut10]
  simp only [cfArr] at ccf
  rw [cut9] at ccf
  clear o9
  obtain ⟨nv, hnv⟩ : ∃ x, vs.length = x := ⟨_, rfl⟩
  obtain ⟨ns, hns⟩ : ∃ x, st.length = x := ⟨_, rfl⟩
  obtain ⟨nb, hnb⟩ : ∃ x, bf.length = x := ⟨_, rfl⟩
  obtain ⟨na, hna⟩ : ∃ x, af.length = x := ⟨_, rfl⟩
  obtain ⟨no, hno⟩ : ∃ x, so.length = x := ⟨_, rfl⟩
  rw [hnv, hns, hnb, hna, hno] at ccf ⊢
  have NB := Lib.hid hnb
  have NA := Lib.hid hna
  clear hnv hns hnb hna hno
  have CU : Hid (∀ (k : Nat) (x : Bs), [x0, x1, x2, x3, x4, x5, x6, x7, x8, x9][k]? = some x → #[Value.string (bz x0), .string (bz x1), .string (bz x2), .string (bz x3), .string (bz x4), .string (bz x5), .string (bz x6), .string (bz x7), .string (bz x8), .string (bz x9)][k]? = some (Value.string (bz x)) ∧ (bz x).size = x.length) := Lib.hid (fun k x hk => by
    refine ⟨?_, bz_size x⟩
    have e : (#[Value.string (bz x0), .string (bz x1), .string (bz x2), .string (bz x3), .string (bz x4), .string (bz x5), .string (bz x6), .string (bz x7), .string (bz x8), .string (bz x9)] : Array Value) = ([x0, x1, x2, x3, x4, x5, x6, x7, x8, x9].map (fun x => Value.string (bz x))).toArray := by simp
    rw [e, List.getElem?_toArray, List.getElem?_map, hk]; rfl)
  obtain ⟨cu, hcu⟩ : ∃ l, l = [x0, x1, x2, x3, x4, x5, x6, x7, x8, x9] := ⟨_, rfl⟩
  rw [← hcu] at CU ccf ⊢
  have CL : cu.length = 10 := by rw [hcu]; rfl
  have CL := Lib.hid CL
  clear hcu
  obtain ⟨b0, hb0⟩ : ∃ x, bz x0 = x := ⟨_, rfl⟩
  obtain ⟨b1, hb1⟩ : ∃ x, bz x1 = x := ⟨_, rfl⟩
  obtain ⟨b2, hb2⟩ : ∃ x, bz x2 = x := ⟨_, rfl⟩
  obtain ⟨b3, hb3⟩ : ∃ x, bz x3 = x := ⟨_, rfl⟩
  obtain ⟨b4, hb4⟩ : ∃ x, bz x4 = x := ⟨_, rfl⟩
  obtain ⟨b5, hb5⟩ : ∃ x, bz x5 = x := ⟨_, rfl⟩
  obtain ⟨b6, hb6⟩ : ∃ x, bz x6 = x := ⟨_, rfl⟩
  obtain ⟨b7, hb7⟩ : ∃ x, bz x7 = x := ⟨_, rfl⟩
  obtain ⟨b8, hb8⟩ : ∃ x, bz x8 = x := ⟨_, rfl⟩
  obtain ⟨b9, hb9⟩ : ∃ x, bz x9 = x := ⟨_, rfl⟩
  rw [hb0, hb1, hb2, hb3, hb4, hb5, hb6, hb7, hb8, hb9] at CU ccf ⊢
  clear hb0 hb1 hb2 hb3 hb4 hb5 hb6 hb7 hb8 hb9
  go_enter Try.func11, Try.ntmps11
  go_upto_region 1 with fail
  obtain ⟨w1, hw1⟩ : ∃ x, w.alloc (.cells #[.int .i64 pc, .slice a1 nv c1, .string b0, .string b1, .string b2, .string b3, .string b4, .string b5, .string b6, .string b7, .string b8, .string b9, .slice a2 ns c2, .int .i64 md, .int .i64 er, .int .i64 us, .int .i64 ti, .int .i64 el, .slice a3 nb c3, .slice a4 na c4, .slice a5 no c5, .int .i64 ta] 31) = x := ⟨_, rfl⟩
  have k1 : Blk w1 w.heap.size 31 #[.int .i64 pc, .slice a1 nv c1, .string b0, .string b1, .string b2, .string b3, .string b4, .string b5, .string b6, .string b7, .string b8, .string b9, .slice a2 ns c2, .int .i64 md, .int .i64 er, .int .i64 us, .int .i64 ti, .int .i64 el, .slice a3 nb c3, .slice a4 na c4, .slice a5 no c5, .int .i64 ta] := by rw [← hw1]; exact Blk.new _ _ _
  have hB1 : Below w.heap.size w w1 := by rw [← hw1]; go_grown
  have rn1 : w1.rangeAt w.heap.size 0 [.int .i64 pc, .slice a1 nv c1, .string b0, .string b1, .string b2, .string b3, .string b4, .string b5, .string b6, .string b7, .string b8, .string b9, .slice a2 ns c2, .int .i64 md, .int .i64 er, .int .i64 us, .int .i64 ti, .int .i64 el, .slice a3 nb c3, .slice a4 na c4, .slice a5 no c5] := rng_of (r := [.int .i64 ta]) k1
  rw [hw1]
  clear hw1
  have z1 := hB1.size
  go_upto_region 2 with (first
    | (refine wpList_load_mid' (by rfl) 29 (.tmp 6) (by rfl) w.heap.size 0 (by rfl) [.int .i64 pc, .slice a1 nv c1, .string b0, .string b1, .string b2, .string b3, .string b4, .string b5, .string b6, .string b7, .string b8, .string b9, .slice a2 ns c2, .int .i64 md, .int .i64 er, .int .i64 us, .int .i64 ti, .int .i64 el, .slice a3 nb c3, .slice a4 na c4, .slice a5 no c5] _ (by exact rn1) Try.underlying29 (by rfl) (by as_aux_lemma => kernel_rfl) ?_)
    | (refine wpList_store_row (by rfl) 29 (.tmp 3) (.tmp 7) (by rfl) w1.heap.size #[.int .i64 pc, .slice a1 nv c1, .string b0, .string b1, .string b2, .string b3, .string b4, .string b5, .string b6, .string b7, .string b8, .string b9, .slice a2 ns c2, .int .i64 md, .int .i64 er, .int .i64 us, .int .i64 ti, .int .i64 el, .slice a3 nb c3, .slice a4 na c4, .slice a5 no c5] (by rfl) (by rfl) 29 _ (by exact Blk.new _ _ _) (by as_aux_lemma => kernel_rfl) (by rfl) (by simp [Value.oneCell']) ?_))
  obtain ⟨w2, hw2⟩ : ∃ x, (w1.alloc (.cells #[.int .i64 0, .slice none 0 0, .string ⟨#[]⟩, .string ⟨#[]⟩, .string ⟨#[]⟩, .string ⟨#[]⟩, .string ⟨#[]⟩, .string ⟨#[]⟩, .string ⟨#[]⟩, .string ⟨#[]⟩, .string ⟨#[]⟩, .string ⟨#[]⟩, .slice none 0 0, .int .i64 0, .int .i64 0, .int .i64 0, .int .i64 0, .int .i64 0, .slice none 0 0, .slice none 0 0, .slice none 0 0] 29)).setRow w1.heap.size #[.int .i64 pc, .slice a1 nv c1, .string b0, .string b1, .string b2, .string b3, .string b4, .string b5, .string b6, .string b7, .string b8, .string b9, .slice a2 ns c2, .int .i64 md, .int .i64 er, .int .i64 us, .int .i64 ti, .int .i64 el, .slice a3 nb c3, .slice a4 na c4, .slice a5 no c5] = x := ⟨_, rfl⟩
  have k2 : Blk w2 w1.heap.size 29 #[.int .i64 pc, .slice a1 nv c1, .string b0, .string b1, .string b2, .string b3, .string b4, .string b5, .string b6, .string b7, .string b8, .string b9, .slice a2 ns c2, .int .i64 md, .int .i64 er, .int .i64 us, .int .i64 ti, .int .i64 el, .slice a3 nb c3, .slice a4 na c4, .slice a5 no c5] := by rw [← hw2]; exact Rowk.blk_row (Blk.new _ _ _) _
  have hb2 : Below w1.heap.size w1 w2 := by rw [← hw2]; exact below_row' ((Below.refl _ w1).alloc (Nat.le_refl _) _) (Nat.le_refl _) _
  have hB2 := via hb2 hB1
  have rn2 : w2.rangeAt w1.heap.size 2 [.string b0, .string b1, .string b2, .string b3, .string b4, .string b5, .string b6, .string b7, .string b8, .string b9] := rng_mid (l := [.int .i64 pc, .slice a1 nv c1]) (r := [.slice a2 ns c2, .int .i64 md, .int .i64 er, .int .i64 us, .int .i64 ti, .int .i64 el, .slice a3 nb c3, .slice a4 na c4, .slice a5 no c5]) k2
  rw [hw2]
  clear hw2 k1 rn1 hb2
  have z2 := hB2.size
  go_wp2_with (refine wpList_load_mid' (by rfl) 24 (.tmp 8) (by rfl) w1.heap.size 2 (by rfl) [.string b0, .string b1, .string b2, .string b3, .string b4, .string b5, .string b6, .string b7, .string b8, .string b9] _ (by exact rn2) Try.underlying24 (by rfl) (by as_aux_lemma => kernel_rfl) ?_)
  clear rn2
  go_loop [10] (fun v => ∃ j : Nat, v = .int .i64 j ∧ j ≤ 10 ∧ Hid (∀ b ∈ cu.take j, b.length ≤ 100)) (fun v => 10 - (intOf v).toNat)
  case atStart => exact ⟨0, rfl, by omega, Lib.hid (by simp)⟩
  case round =>
    obtain ⟨j, rfl, hj, HJ⟩ := hrel
    by_cases hlt : j < 10
    · have dj : decide ((j : Int) < 10) = true := by simp; omega
      obtain ⟨x, hx⟩ : ∃ x, cu[j]? = some x := ⟨_, List.getElem?_eq_getElem (by rw [CL.out]; exact hlt)⟩
      obtain ⟨hc, hsz⟩ := CU.out j x hx
      have HX := Lib.hid hx
      obtain ⟨bx, hbx⟩ : ∃ y, bz x = y := ⟨_, rfl⟩
      rw [hbx] at hc hsz
      have HSZ := Lib.hid hsz
      have hix := fun W => idx_ten W #[.string b0, .string b1, .string b2, .string b3, .string b4, .string b5, .string b6, .string b7, .string b8, .string b9] j (.string bx) rfl hc
      clear hx hsz hbx hc
      by_cases h1 : 100 < bx.size
      · have d1 : decide (100 < (bx.size : Int)) = true := by simp; omega
        go_wp2
        go_ret
        exact sm_no hB2
      have d1 : decide (100 < (bx.size : Int)) = false := by simp; omega
      have AK : Hid (∀ p ∈ cu.take (j + 1), p.length ≤ 100) := Lib.hid (by
        intro q hq
        rw [List.take_add_one, HX.out, List.mem_append] at hq
        rcases hq with hq | hq
        · exact HJ.out q hq
        · simp at hq; subst hq; rw [← HSZ.out]; omega)
      go_wp2
      go_round
      case rel => exact ⟨j + 1, by go_num, by omega, AK⟩
      case measure => simp [intOf]; omega
    · obtain rfl : j = 10 := by omega
      have HA : Hid (∀ b ∈ cu, b.length ≤ 100) := Lib.hid (by
        have h := HJ.out
        rw [List.take_of_length_le (by rw [CL.out]; omega)] at h
        exact h)
      have rn3 : w2.rangeAt w1.heap.size 0 [.int .i64 pc, .slice a1 nv c1, .string b0, .string b1, .string b2, .string b3, .string b4, .string b5, .string b6, .string b7, .string b8, .string b9, .slice a2 ns c2, .int .i64 md, .int .i64 er, .int .i64 us, .int .i64 ti, .int .i64 el, .slice a3 nb c3, .slice a4 na c4, .slice a5 no c5] := rng_of (r := []) k2
      have c0 := ccf w2 hB2
      clear ccf
      go_wp2_with (first
        | (refine wpList_load_mid' (by rfl) 29 (.tmp 3) (by rfl) w1.heap.size 0 (by rfl) [.int .i64 pc, .slice a1 nv c1, .string b0, .string b1, .string b2, .string b3, .string b4, .string b5, .string b6, .string b7, .string b8, .string b9, .slice a2 ns c2, .int .i64 md, .int .i64 er, .int .i64 us, .int .i64 ti, .int .i64 el, .slice a3 nb c3, .slice a4 na c4, .slice a5 no c5] _ (by exact rn3) Try.underlying29 (by rfl) (by as_aux_lemma => kernel_rfl) ?_)
        | (go_at_call 34; with_reducible refine c0.mono ?_))
      rintro e w3 ⟨b, rfl, hv, hb3⟩
      have HV := Lib.hid hv
      have k3 := k2.next hb3
      have hB3 := via hb3 hB2
      clear hv k2 hb3 c0 rn3 hB2
      cases b
      · go_wp2
        go_ret
        exact sm_no hB3
      have r18 := k3.cell 18
      have r19 := k3.cell 19
      simp only [List.getElem?_toArray, List.getElem?_cons_zero, List.getElem?_cons_succ] at r18 r19
      by_cases h1 : nb < 13
      rotate_left
      · have d1 : decide ((nb : Int) < 13) = false := by simp; omega
        go_wp2
        go_ret
        exact sm_no hB3
      have d1 : decide ((nb : Int) < 13) = true := by simp; omega
      by_cases h2 : na < 13
      rotate_left
      · have d2 : decide ((na : Int) < 13) = false := by simp; omega
        go_wp2
        go_ret
        exact sm_no hB3
      have d2 : decide ((na : Int) < 13) = true := by simp; omega
      have HN : Hid (NSm (ta, pc, md, er, us, ti, el, vs, cu, st, bf, af, so)) := Lib.hid ⟨HV.out rfl, by rw [NB.out]; omega, by rw [NA.out]; omega, HA.out⟩
      go_wp2
      go_ret
      exact sm_yes HN.out hB3
end StaM
end Go.Proofs.Ytfkjogkpdebepaa
