/- The walk of StateAny. No condition. -/
import Derived.Test.YtfkjogkpdebepaaStaDq
import Derived.Test.YtfkjogkpdebepaaStaK
import Derived.Test.YtfkjogkpdebepaaStaEr
namespace Go.Proofs.Ytfkjogkpdebepaa
open Go.RowKit
namespace StaAn
open StaP StaL StaW StaG StaV StaN StaX StaD StaZ StaE StaQ Rowk
set_option maxHeartbeats 25600000 in
set_option maxRecDepth 100000 in
theorem any_c (s : ByteArray) (w : World) :
    Calls Try.prog 3 #[.string s] w fun e w' => e = .returned (.bool true) ∧ Below w.heap.size w w' := by
  have aw := StaE.awake_c w
  have I22 : (Try.prog.info? 31).map (·.size) = some 22 := by kernel_rfl
  have HI := Lib.hid I22
  clear I22
  go_enter Try.func3, Try.ntmps3
  go_wp2_with (go_at_call 6; with_reducible refine aw.mono ?_)
  rintro e w1 ⟨rfl, hb1⟩
  clear aw
  by_cases h200 : 200 < s.size
  · have d : decide ((200 : Int) < (s.size : Int)) = true := by simp; omega
    go_wp2
    go_ret
    exact ⟨rfl, hb1⟩
  have d : decide ((200 : Int) < (s.size : Int)) = false := by simp; omega
  have c1 := (StaD.decode_c s w1 (by omega)).mono (fun e w' h => res_of h)
  go_wp2_with (go_at_call 7; with_reducible refine c1.mono ?_)
  rintro e w2 ⟨cs, rfl, n1, hb2⟩
  obtain ⟨P, hP⟩ : ∃ P, resP s = P := ⟨_, rfl⟩
  obtain ⟨K, hK⟩ : ∃ K, resK s = K := ⟨_, rfl⟩
  obtain ⟨m, hm⟩ : ∃ m, resM s = m := ⟨_, rfl⟩
  have BACK : Hid (K = 0 → s.data.toList = nodeB m ∧ OkN m) := Lib.hid (fun h => by rw [← hm]; exact res_back (hK.trans h))
  rw [hP, hK]
  rw [hm] at n1
  have hB2 := via hb2 hb1
  have S1 := nd_shape n1
  have HS1 := Lib.hid S1.1
  have HO1 := Lib.hid S1.2
  clear S1 c1 hb1 hb2 d
  go_upto_region 6 with (refine wpList_store_row (by rfl) 31 (.tmp 3) (.tmp 17) (by rfl) w2.heap.size cs (by rfl) (by rfl) 31 _ (by exact Blk.new _ _ _) (by rw [HS1.out]; exact HI.out) (by rw [HS1.out]; rfl) (by exact HO1.out) ?_)
  obtain ⟨w3, hw3⟩ : ∃ x, (w2.alloc (.cells znode NT)).setRow w2.heap.size cs = x := ⟨_, rfl⟩
  change Code.wp _ _ _ _ ((w2.alloc (.cells znode NT)).setRow w2.heap.size cs)
  rw [hw3]
  have k1 : Blk w3 w2.heap.size NT cs := by rw [← hw3]; exact blk_row (Blk.new _ _ _) _
  have hb3 : Below w2.heap.size w2 w3 := by rw [← hw3]; exact below_row ((Below.refl _ _).alloc (Nat.le_refl _) _) (Nat.le_refl _) _
  have hB3 := via hb3 hB2
  have n1 := (n1.below hb3).more hb3.size
  clear hw3 hb3 hB2
  have c2 := (StaRq.decode_c s w3 (by omega)).mono (fun e w' h => res_of h)
  go_wp2_with (go_at_call 8; with_reducible refine c2.mono ?_)
  rintro e w4 ⟨cs', rfl, n2, hb4⟩
  rw [hP, hK]
  rw [hm] at n2
  have hB4 := via hb4 hB3
  have k1 := k1.next hb4
  have n1 := (n1.below hb4).more hb4.size
  have S2 := nd_shape n2
  have HS2 := Lib.hid S2.1
  have HO2 := Lib.hid S2.2
  clear S2 c2 hb4 hB3 hP hK hm
  go_upto_region 7 with (refine wpList_store_row (by rfl) 31 (.tmp 6) (.tmp 23) (by rfl) w4.heap.size cs' (by rfl) (by rfl) 31 _ (by exact Blk.new _ _ _) (by rw [HS2.out]; exact HI.out) (by rw [HS2.out]; rfl) (by exact HO2.out) ?_)
  obtain ⟨w5, hw5⟩ : ∃ x, (w4.alloc (.cells znode NT)).setRow w4.heap.size cs' = x := ⟨_, rfl⟩
  change Code.wp _ _ _ _ ((w4.alloc (.cells znode NT)).setRow w4.heap.size cs')
  rw [hw5]
  have k2 : Blk w5 w4.heap.size NT cs' := by rw [← hw5]; exact blk_row (Blk.new _ _ _) _
  have hb5 : Below w4.heap.size w4 w5 := by rw [← hw5]; exact below_row ((Below.refl _ _).alloc (Nat.le_refl _) _) (Nat.le_refl _) _
  have hB5 := via hb5 hB4
  have k1 := k1.next hb5
  have n1 := (n1.below hb5).more hb5.size
  have n2 := (n2.below hb5).more hb5.size
  clear hw5 hb5 hB4
  have ct := samenode_c cs cs' m m w5 w5.heap.size n1 n2 (Nat.le_refl _)
  go_wp2_with (first
    | (refine wpList_load_row' (by rfl) 31 (.tmp 3) (by rfl) w2.heap.size (by rfl) NT cs (0, 0) _ (by exact k1) Try.underlying31 (by rfl) (by rw [HS1.out]; exact HI.out) ?_)
    | (refine wpList_load_row' (by rfl) 31 (.tmp 6) (by rfl) w4.heap.size (by rfl) NT cs' (0, 0) _ (by exact k2) Try.underlying31 (by rfl) (by rw [HS2.out]; exact HI.out) ?_)
    | (go_at_call 9; with_reducible refine ct.mono ?_))
  rintro e w6 ⟨⟨r, rfl, hr⟩, hb6⟩
  obtain rfl : r = true := by first | exact hr.2 rfl | exact hr.2 trivial
  have hB6 := via hb6 hB5
  have k1 := k1.next hb6
  have n1 := (n1.below hb6).more hb6.size
  clear hr ct n2 k2 hb6 hB5
  by_cases hk : K = 0
  rotate_left
  · have dk : ((K : Int) != 0) = true := by rw [bne_iff_ne]; omega
    go_wp2
    go_ret
    exact ⟨rfl, hB6⟩
  have dk : ((K : Int) != 0) = false := by simp; omega
  obtain ⟨hs, _⟩ := BACK.out hk
  have L1 : (nodeB m).length ≤ 1000000000000 := by rw [← hs, ← Lib.size_eq]; omega
  have ce := encode_c cs m w6 n1 L1
  have SE : bz (nodeB m) = s := by rw [← hs]; exact bz_of s
  have ce : Calls Try.prog 10 #[.agg cs] w6 fun e w' => e = .returned (.string s) ∧ Below w6.heap.size w6 w' := ce.mono (fun e w' h => by rw [EPost, SE] at h; exact h)
  have ss : (s.toList == s.toList) = true := by simp
  clear hs L1 SE BACK n1
  go_wp2_with (first
    | (refine wpList_load_row' (by rfl) 31 (.tmp 3) (by rfl) w2.heap.size (by rfl) NT cs (0, 0) _ (by exact k1) Try.underlying31 (by rfl) (by rw [HS1.out]; exact HI.out) ?_)
    | (go_at_call 10; with_reducible refine ce.mono ?_))
  rintro e w7 ⟨rfl, hb7⟩
  have hB7 := via hb7 hB6
  go_wp2
  go_ret
  exact ⟨rfl, hB7⟩
end StaAn
end Go.Proofs.Ytfkjogkpdebepaa
