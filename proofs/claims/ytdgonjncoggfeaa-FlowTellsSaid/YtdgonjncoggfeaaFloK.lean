/- Which watches nothing leads to: the walk of the reference. Condition: codes that are small. -/
import Derived.Test.YtdgonjncoggfeaaFloJ
namespace Go.Proofs.Ytdgonjncoggfeaa
set_option linter.unusedVariables false
set_option linter.unusedSimpArgs false
open Go.RowKit
namespace FloW
open FloP
set_option maxHeartbeats 6400000 in
set_option maxRecDepth 100000 in
theorem ridle_c (A A' : Option Addr) (n c n' c' : Nat) (xs : List Ix) (ws : List Wx) (w : World) (h : Cd w w.heap.size A n A' n' xs ws) (hs : Sm n n' xs) :
    Calls Try.prog 11 #[cdv A n c A' n' c'] w (IdlePost (xs.map inOf) (ws.map wtOf) w) := by
  obtain ⟨i0, hi0, hz0, hz1, hz2⟩ := info_parts info_Int
  have HS := Lib.hid hs
  simp only [cdv]
  obtain ⟨hsn, hsm, hsl⟩ := hs
  have hlw := h.len
  have HLW := Lib.hid hlw
  clear hlw hsl
  have E0 := Blk.new w 33 #[.slice A n c, .slice A' n' c']
  have B0 : Below w.heap.size w (w.alloc (.cells #[.slice A n c, .slice A' n' c'] 33)) := by go_grown
  obtain ⟨w1, hw1⟩ : ∃ q, w.alloc (.cells #[.slice A n c, .slice A' n' c'] 33) = q := ⟨_, rfl⟩
  rw [hw1] at E0 B0
  have u0 := E0.cell 0
  have u1 := E0.cell 1
  simp only [List.getElem?_toArray, List.getElem?_cons_zero, List.getElem?_cons_succ] at u0 u1
  obtain ⟨I, hI⟩ : ∃ I, xs.map inOf = I := ⟨_, rfl⟩
  obtain ⟨W, hW⟩ : ∃ W, ws.map wtOf = W := ⟨_, rfl⟩
  rw [hI, hW]
  have HI := Lib.hid hI
  have HW := Lib.hid hW
  have hIl : I.length = n := by rw [← hI, List.length_map, HLW.out.1]
  have HIl := Lib.hid hIl
  have cs := rreach_c A A' n c n' c' xs ws w1 (h.next B0 B0.size) HS.out
  rw [hI, hW] at cs
  simp only [cdv] at cs
  clear hIl hI hW
  have hWl : W.length = n' := by rw [← HW.out, List.length_map, HLW.out.2]
  have HWl := Lib.hid hWl
  clear hWl
  go_enter Try.func11, Try.ntmps11
  go_wp2_with fail
  (with_reducible refine cs.mono ?_)
  clear cs
  rintro e w2 ⟨lv, RL, rfl, rl, hri, hmk, b2⟩
  have B2 := via b2 B0
  have E2 := E0.next b2
  have HMK := Lib.hid hmk
  have hrl : RL.length ≤ n := inc_len hri (fun x hx => by have := rch_in ((hmk x).1 hx); rw [HIl.out] at this; exact this)
  have hz : w.heap.size < w2.heap.size := E2.lt
  clear hmk hw1 E0 B0 u0 u1 b2 hri
  have u1 := E2.cell 1
  simp only [List.getElem?_toArray, List.getElem?_cons_zero, List.getElem?_cons_succ] at u1
  go_wp2_with fail
  clear u1
  go_loopw [5, 3] (fun iv ov wr => ∃ i : Nat, iv = .int .i64 i ∧ i ≤ n' ∧ Blk wr w.heap.size 33 #[.slice A n c, .slice A' n' c'] ∧ Below w.heap.size w wr ∧ Below w2.heap.size w2 wr ∧ ∃ L : List Int, OwnI wr w2.heap.size ov L ∧ Hid (IdleIs I W i L)) (fun iv _ _ => n' - (intOf iv).toNat)
  case atStart => exact ⟨0, rfl, by omega, E2, B2, Below.refl _ _, [], World.ownsRow_nil _ _ _ _, Lib.hid ⟨List.Pairwise.nil, fun x => by
    constructor
    · intro h; cases h
    · rintro ⟨k, x, rfl, h, _⟩; omega⟩⟩
  case round =>
    clear B2 E2
    obtain ⟨i, rfl, hi, E1, B1, b1, L, own1, HL⟩ := hrel
    obtain ⟨w3, rfl⟩ : ∃ x : World, x = wr := ⟨_, rfl⟩
    obtain ⟨A2, c2, rfl, _, _, _, hlt2⟩ := owi_rd own1
    have hll : L.length ≤ n' := inc_len HL.out.1 (fun x hx => by
      obtain ⟨k, _, rfl, hk, _⟩ := (HL.out.2 x).1 hx
      omega)
    obtain ⟨N, hN⟩ : ∃ N, L.length = N := ⟨_, rfl⟩
    have HN := Lib.hid hN
    unfold OwnI at own1
    rw [hN] at own1 hll hlt2 ⊢
    clear hN
    have u1 := E1.cell 1
    simp only [List.getElem?_toArray, List.getElem?_cons_zero, List.getElem?_cons_succ] at u1
    by_cases hi2 : i < n'
    · have di : decide ((i : Int) < (n' : Int)) = true := decide_eq_true (by omega)
      obtain ⟨gw, ow, y, rfl, hgw, hy, y0, y1, y2, y3, y4, y5, y6⟩ := (h.below B1).watch hi2
      have HY : Hid (W[i]? = some (wtOf y)) := Lib.hid (by rw [← HW.out, List.getElem?_map, hy]; rfl)
      obtain ⟨kd, pr, pk, pt, tt, own, at_⟩ := y
      simp only at y0 y1 y2 y3 y4 y5 y6
      have hz4 : w2.heap.size ≤ w3.heap.size := b1.size
      clear hy
      have yes : ¬ Rch I W tt → Hid (IdleIs I W (i + 1) (L ++ [(i : Int)])) := fun hn => Lib.hid ⟨inc_snoc HL.out.1 (fun y hy => by obtain ⟨k, _, rfl, hk, _⟩ := (HL.out.2 y).1 hy; omega), fun x => by
        rw [List.mem_append, HL.out.2 x, List.mem_singleton]
        constructor
        · rintro (⟨k, z, rfl, hk, hz, hr⟩ | rfl)
          · exact ⟨k, z, rfl, by omega, hz, hr⟩
          · exact ⟨i, _, rfl, by omega, HY.out, hn⟩
        · rintro ⟨k, z, rfl, hk, hz, hr⟩
          by_cases e : k = i
          · exact .inr (by omega)
          · exact .inl ⟨k, z, rfl, by omega, hz, hr⟩⟩
      have no : Rch I W tt → Hid (IdleIs I W (i + 1) L) := fun hn => Lib.hid ⟨HL.out.1, fun x => by
        rw [HL.out.2 x]
        constructor
        · rintro ⟨k, z, rfl, hk, hz, hr⟩; exact ⟨k, z, rfl, by omega, hz, hr⟩
        · rintro ⟨k, z, rfl, hk, hz, hr⟩
          by_cases e : k = i
          · subst e; rw [HY.out] at hz; cases hz; exact absurd hn hr
          · exact ⟨k, z, rfl, by omega, hz, hr⟩⟩
      have HYS := Lib.hid yes
      have HNO := Lib.hid no
      clear yes no
      have ch := has_c lv RL tt w3 (rl.next b1) (by omega)
      obtain ⟨RB, hRB⟩ : ∃ R, decide (tt ∈ RL) = R := ⟨_, rfl⟩
      rw [hRB] at ch
      have HRB := Lib.hid hRB
      clear hRB
      go_wp2_with fail
      (with_reducible refine ch.mono ?_)
      clear ch
      rintro e w4 ⟨rfl, rfl⟩
      cases RB
      rotate_left
      · have hn := HNO.out ((HMK.out tt).1 (of_decide_eq_true HRB.out))
        go_wp2_with fail
        go_roundw
        case rel => exact ⟨i + 1, by go_num, by omega, E1, B1, b1, L, by unfold OwnI; rw [HN.out]; exact own1, hn⟩
        case measure => simp [intOf]; omega
      · have hn := HYS.out (fun hr => (of_decide_eq_false HRB.out) ((HMK.out tt).2 hr))
        go_wp2_with (at_builtin; refine wpList_append_lies _ rfl (.tmp 24) (.tmp 26) 29 rfl w2.heap.size 3 i0 (.int .i64 0) 1 8 Try.underlying29 hi0 hz0 hz1 hz2 rfl (by decide) _ N (L.map (Value.int .i64)) rfl (own1.alloc _) ⟨_, 0, none⟩ 1 1 [.int .i64 (i : Int)] rfl rfl (World.news_of_block (heap_alloc_new _ _)) (by intro u hu; simp at hu; subst hu; rfl) (by omega) (by unfold maxLen; omega) (by omega) (by simp; omega) _ rfl ?_)
        intro g10 cap10 w10 own10 hgrow10 hat10 hlt10
        have B10 : Below w.heap.size w w10 := (B1.alloc B1.size _).grown hgrow10 (by have := B1.size; simp; omega) (fun k hk => by have := (own1.lt k hk).1; omega)
        have b10 : Below w2.heap.size w2 w10 := (b1.alloc b1.size _).grown hgrow10 (by have := b1.size; simp; omega) (fun k hk => by have := (own1.lt k hk).1; omega)
        have E10 : Blk w10 w.heap.size 33 _ := (hgrow10.block _ (E1.alloc _).lt (fun e => by have := (own1.lt _ e.symm).1; omega)).trans (E1.alloc _)
        have own11 := owi_snoc (l := L) (v := .slice (some ⟨g10, 0, none⟩) (N + 1) cap10) (by rw [HN.out]; exact own10)
        clear own10 hgrow10 hat10 hlt10 own1 E1
        go_wp2_with fail
        go_roundw
        case rel => exact ⟨i + 1, by go_num, by omega, E10, B10, b10, _, own11, hn⟩
        case measure => simp [intOf]; omega
    · obtain rfl : i = n' := by omega
      have di : decide ((i : Int) < (i : Int)) = false := decide_eq_false (by omega)
      have hown : OwnI w3 w2.heap.size (.slice A2 N c2) L := by unfold OwnI; rw [HN.out]; exact own1
      go_wp2
      go_ret
      exact ⟨_, L, rfl, owi_base (B := w2.heap.size) hown (by omega), by rw [HWl.out]; exact HL.out, B1⟩
end FloW
end Go.Proofs.Ytdgonjncoggfeaa
