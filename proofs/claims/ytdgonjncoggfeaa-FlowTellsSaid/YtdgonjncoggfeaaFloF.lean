/- What may be reached, and which watches nothing leads to: the walks of the program. Condition: codes that are small. -/
import Derived.Test.YtdgonjncoggfeaaFloE
namespace Go.Proofs.Ytdgonjncoggfeaa
set_option linter.unusedVariables false
set_option linter.unusedSimpArgs false
open Go.RowKit
namespace FloW
open FloP
theorem inc_snoc {L : List Int} {x : Int} (h : Inc L) (hx : ∀ y ∈ L, y < x) : Inc (L ++ [x]) := by
  unfold Inc at *
  rw [List.pairwise_append]
  exact ⟨h, by simp, fun a ha b hb => by simp at hb; subst hb; exact hx a ha⟩
theorem inc_len2 : ∀ (L : List Int) (a b : Int), Inc L → (∀ x ∈ L, a ≤ x ∧ x < b) → (L.length : Int) ≤ max (b - a) 0 := by
  intro L
  induction L with
  | nil => intro a b _ _; simp; omega
  | cons x l ih =>
    intro a b h hx
    have h1 := hx x (List.mem_cons_self ..)
    obtain ⟨h2, h3⟩ := List.pairwise_cons.1 h
    have := ih (x + 1) b h3 (fun y hy => ⟨by have := h2 y hy; omega, (hx y (List.mem_cons_of_mem _ hy)).2⟩)
    rw [List.length_cons]; omega
theorem inc_len {L : List Int} {n : Nat} (h : Inc L) (h0 : ∀ x ∈ L, 0 ≤ x ∧ x < n) : L.length ≤ n := by
  have := inc_len2 L 0 n h h0
  omega
def ReachPost (I : List In) (W : List Wt) (w : World) (e : Ending) (w' : World) : Prop := ∃ (v : Value) (L : List Int), e = .returned v ∧ OwnI w' w.heap.size v L ∧ Inc L ∧ (∀ i, i ∈ L ↔ Rch I W i) ∧ Below w.heap.size w w'
def IdleIs (I : List In) (W : List Wt) (m : Nat) (L : List Int) : Prop := Inc L ∧ ∀ i, i ∈ L ↔ ∃ (j : Nat) (x : Wt), i = j ∧ j < m ∧ W[j]? = some x ∧ ¬ Rch I W x.1
def IdlePost (I : List In) (W : List Wt) (w : World) (e : Ending) (w' : World) : Prop := ∃ (v : Value) (L : List Int), e = .returned v ∧ OwnI w' w.heap.size v L ∧ IdleIs I W W.length L ∧ Below w.heap.size w w'
set_option maxHeartbeats 6400000 in
set_option maxRecDepth 100000 in
theorem reach_c (A A' : Option Addr) (n c n' c' : Nat) (xs : List Ix) (ws : List Wx) (w : World) (h : Cd w w.heap.size A n A' n' xs ws) (hs : Sm n n' xs) :
    Calls Try.prog 8 #[cdv A n c A' n' c'] w (ReachPost (xs.map inOf) (ws.map wtOf) w) := by
  obtain ⟨i0, hi0, hz0, hz1, hz2⟩ := info_parts info_Int
  have HS := Lib.hid hs
  simp only [cdv]
  obtain ⟨hsn, hsm, hsl⟩ := hs
  have hlw := h.len
  have HLW := Lib.hid hlw
  clear hlw hsl
  have E0 := Blk.new w 33 #[.slice A n c, .slice A' n' c']
  have B0 : Below w.heap.size w (w.alloc (.cells #[.slice A n c, .slice A' n' c'] 33)) := by go_grown
  obtain ⟨w1, hw1⟩ : ∃ q, w.alloc (.cells #[.slice A n c, .slice A' n' c'] 33) = q := ⟨_, rfl⟩
  rw [hw1] at E0 B0
  have u0 := E0.cell 0
  have u1 := E0.cell 1
  simp only [List.getElem?_toArray, List.getElem?_cons_zero, List.getElem?_cons_succ] at u0 u1
  obtain ⟨I, hI⟩ : ∃ I, xs.map inOf = I := ⟨_, rfl⟩
  obtain ⟨W, hW⟩ : ∃ W, ws.map wtOf = W := ⟨_, rfl⟩
  rw [hI, hW]
  have HI := Lib.hid hI
  have HW := Lib.hid hW
  have hIl : I.length = n := by rw [← hI, List.length_map, HLW.out.1]
  have HIl := Lib.hid hIl
  have cs := seen_c A A' n c n' c' xs ws w1 (h.next B0 B0.size) HS.out
  rw [hI, hW] at cs
  simp only [cdv] at cs
  clear hIl hI hW
  go_enter Try.func8, Try.ntmps8
  go_wp2_with fail
  (with_reducible refine cs.mono ?_)
  clear cs
  rintro e w2 ⟨v, bs, rfl, hbs, hmk, ⟨Ab, cb, rfl, rb⟩, b2⟩
  have B2 := via b2 B0
  rw [HIl.out] at hbs
  rw [hbs] at rb ⊢
  have HBS := Lib.hid hbs
  have HMK := Lib.hid hmk
  have hz : w.heap.size ≤ w2.heap.size := B2.size
  clear hbs hmk hw1 E0 B0 u0 u1 b2
  go_wp2_with fail
  go_loopw [9, 3] (fun iv ov wr => ∃ i : Nat, iv = .int .i64 i ∧ i ≤ n ∧ Below w.heap.size w wr ∧ Below w2.heap.size w2 wr ∧ ∃ L : List Int, OwnI wr w2.heap.size ov L ∧ Inc L ∧ Hid (∀ x, x ∈ L ↔ Mk bs x ∧ x < i)) (fun iv _ _ => n - (intOf iv).toNat)
  case atStart => exact ⟨0, rfl, by omega, B2, Below.refl _ _, [], World.ownsRow_nil _ _ _ _, List.Pairwise.nil, Lib.hid (fun x => by
    constructor
    · intro h; cases h
    · rintro ⟨⟨k, rfl, _⟩, h⟩; omega)⟩
  case round =>
    clear B2
    obtain ⟨i, rfl, hi, B1, b1, L, own1, hinc, HL⟩ := hrel
    obtain ⟨w3, rfl⟩ : ∃ x : World, x = wr := ⟨_, rfl⟩
    obtain ⟨A2, c2, rfl, _, _, _, hlt2⟩ := owi_rd own1
    have hll : L.length ≤ n := inc_len hinc (fun x hx => by
      obtain ⟨⟨k, rfl, hk⟩, h2⟩ := (HL.out x).1 hx
      omega)
    obtain ⟨N, hN⟩ : ∃ N, L.length = N := ⟨_, rfl⟩
    have HN := Lib.hid hN
    unfold OwnI at own1
    rw [hN] at own1 hll hlt2 ⊢
    clear hN
    by_cases hi2 : i < n
    · have di : decide ((i : Int) < (n : Int)) = true := decide_eq_true (by omega)
      obtain ⟨gb, ob, rfl, hb, hcf⟩ := Rd.flat (rb.below b1) (by omega) (by omega)
      have hib : i < bs.length := by rw [HBS.out]; exact hi2
      obtain ⟨bk, hbk⟩ : ∃ bk, bs[i]'hib = bk := ⟨_, rfl⟩
      have hbk2 : bs[i]? = some bk := by rw [List.getElem?_eq_getElem hib, hbk]
      have HBK := Lib.hid hbk2
      have hc2 : w3.cell? ⟨gb, ob + i, none⟩ = some (.bool bk) := hcf i _ (by rw [List.getElem?_map, hbk2]; rfl)
      clear hbk hbk2 hcf
      cases bk with
      | true =>
        have HL2 : Hid (∀ x, x ∈ L ++ [(i : Int)] ↔ Mk bs x ∧ x < ((i + 1 : Nat) : Int)) := Lib.hid (fun x => by
          rw [List.mem_append, HL.out x, List.mem_singleton]
          constructor
          · rintro (⟨h1, h2⟩ | rfl)
            · exact ⟨h1, by omega⟩
            · exact ⟨⟨i, rfl, HBK.out⟩, by omega⟩
          · rintro ⟨⟨k, rfl, hk⟩, h2⟩
            by_cases e : k = i
            · exact .inr (by omega)
            · exact .inl ⟨⟨k, rfl, hk⟩, by omega⟩)
        have hinc2 := inc_snoc hinc (fun y hy => ((HL.out y).1 hy).2)
        have hz3 : w2.heap.size ≤ w3.heap.size := b1.size
        go_wp2_with (at_builtin; refine wpList_append_lies _ rfl (.tmp 15) (.tmp 17) 29 rfl w2.heap.size 3 i0 (.int .i64 0) 1 8 Try.underlying29 hi0 hz0 hz1 hz2 rfl (by decide) _ N (L.map (Value.int .i64)) rfl (own1.alloc _) ⟨_, 0, none⟩ 1 1 [.int .i64 (i : Int)] rfl rfl (World.news_of_block (heap_alloc_new _ _)) (by intro u hu; simp at hu; subst hu; rfl) (by omega) (by unfold maxLen; omega) (by omega) (by simp; omega) _ rfl ?_)
        intro g10 cap10 w10 own10 hgrow10 hat10 hlt10
        have B10 : Below w.heap.size w w10 := (B1.alloc B1.size _).grown hgrow10 (by have := B1.size; simp; omega) (fun k hk => by have := (own1.lt k hk).1; omega)
        have b10 : Below w2.heap.size w2 w10 := (b1.alloc b1.size _).grown hgrow10 (by have := b1.size; simp; omega) (fun k hk => by have := (own1.lt k hk).1; omega)
        have own11 := owi_snoc (l := L) (v := .slice (some ⟨g10, 0, none⟩) (N + 1) cap10) (by rw [HN.out]; exact own10)
        clear own10 hgrow10 hat10 hlt10 own1
        go_wp2
        go_roundw
        case rel => exact ⟨i + 1, by go_num, by omega, B10, b10, _, own11, hinc2, HL2⟩
        case measure => simp [intOf]; omega
      | false =>
        have HL2 : Hid (∀ x, x ∈ L ↔ Mk bs x ∧ x < ((i + 1 : Nat) : Int)) := Lib.hid (fun x => by
          rw [HL.out x]
          constructor
          · rintro ⟨h1, h2⟩; exact ⟨h1, by omega⟩
          · rintro ⟨⟨k, rfl, hk⟩, h2⟩
            by_cases e : k = i
            · subst e; rw [HBK.out] at hk; cases hk
            · exact ⟨⟨k, rfl, hk⟩, by omega⟩)
        go_wp2
        go_roundw
        case rel => exact ⟨i + 1, by go_num, by omega, B1, b1, L, by unfold OwnI; rw [HN.out]; exact own1, hinc, HL2⟩
        case measure => simp [intOf]; omega
    · obtain rfl : i = n := by omega
      have di : decide ((i : Int) < (i : Int)) = false := decide_eq_false (by omega)
      have hown : OwnI w3 w2.heap.size (.slice A2 N c2) L := by unfold OwnI; rw [HN.out]; exact own1
      go_wp2
      go_ret
      refine ⟨_, L, rfl, owi_base (B := w2.heap.size) hown hz, hinc, fun x => ?_, B1⟩
      rw [HL.out x, HMK.out x]
      constructor
      · exact fun h => h.1
      · intro h; exact ⟨h, by have := rch_in h; rw [HIl.out] at this; omega⟩
set_option maxHeartbeats 6400000 in
set_option maxRecDepth 100000 in
theorem idle_c (A A' : Option Addr) (n c n' c' : Nat) (xs : List Ix) (ws : List Wx) (w : World) (h : Cd w w.heap.size A n A' n' xs ws) (hs : Sm n n' xs) :
    Calls Try.prog 10 #[cdv A n c A' n' c'] w (IdlePost (xs.map inOf) (ws.map wtOf) w) := by
  obtain ⟨i0, hi0, hz0, hz1, hz2⟩ := info_parts info_Int
  have HS := Lib.hid hs
  simp only [cdv]
  obtain ⟨hsn, hsm, hsl⟩ := hs
  have hlw := h.len
  have HLW := Lib.hid hlw
  clear hlw hsl
  have E0 := Blk.new w 33 #[.slice A n c, .slice A' n' c']
  have B0 : Below w.heap.size w (w.alloc (.cells #[.slice A n c, .slice A' n' c'] 33)) := by go_grown
  obtain ⟨w1, hw1⟩ : ∃ q, w.alloc (.cells #[.slice A n c, .slice A' n' c'] 33) = q := ⟨_, rfl⟩
  rw [hw1] at E0 B0
  have u0 := E0.cell 0
  have u1 := E0.cell 1
  simp only [List.getElem?_toArray, List.getElem?_cons_zero, List.getElem?_cons_succ] at u0 u1
  obtain ⟨I, hI⟩ : ∃ I, xs.map inOf = I := ⟨_, rfl⟩
  obtain ⟨W, hW⟩ : ∃ W, ws.map wtOf = W := ⟨_, rfl⟩
  rw [hI, hW]
  have HI := Lib.hid hI
  have HW := Lib.hid hW
  have hIl : I.length = n := by rw [← hI, List.length_map, HLW.out.1]
  have HIl := Lib.hid hIl
  have cs := seen_c A A' n c n' c' xs ws w1 (h.next B0 B0.size) HS.out
  rw [hI, hW] at cs
  simp only [cdv] at cs
  clear hIl hI hW
  have hWl : W.length = n' := by rw [← HW.out, List.length_map, HLW.out.2]
  have HWl := Lib.hid hWl
  clear hWl
  go_enter Try.func10, Try.ntmps10
  go_wp2_with fail
  (with_reducible refine cs.mono ?_)
  clear cs
  rintro e w2 ⟨v, bs, rfl, hbs, hmk, ⟨Ab, cb, rfl, rb⟩, b2⟩
  have B2 := via b2 B0
  have E2 := E0.next b2
  rw [HIl.out] at hbs
  rw [hbs] at rb ⊢
  have HBS := Lib.hid hbs
  have HMK := Lib.hid hmk
  have hz : w.heap.size < w2.heap.size := E2.lt
  clear hbs hmk hw1 E0 B0 u0 u1 b2
  have u1 := E2.cell 1
  simp only [List.getElem?_toArray, List.getElem?_cons_zero, List.getElem?_cons_succ] at u1
  go_wp2_with fail
  clear E2 u1
  go_loopw [12, 3] (fun iv ov wr => ∃ i : Nat, iv = .int .i64 i ∧ i ≤ n' ∧ Below w.heap.size w wr ∧ Below w2.heap.size w2 wr ∧ ∃ L : List Int, OwnI wr w2.heap.size ov L ∧ Hid (IdleIs I W i L)) (fun iv _ _ => n' - (intOf iv).toNat)
  case atStart => exact ⟨0, rfl, by omega, B2, Below.refl _ _, [], World.ownsRow_nil _ _ _ _, Lib.hid ⟨List.Pairwise.nil, fun x => by
    constructor
    · intro h; cases h
    · rintro ⟨k, x, rfl, h, _⟩; omega⟩⟩
  case round =>
    clear B2
    obtain ⟨i, rfl, hi, B1, b1, L, own1, HL⟩ := hrel
    obtain ⟨w3, rfl⟩ : ∃ x : World, x = wr := ⟨_, rfl⟩
    obtain ⟨A2, c2, rfl, _, _, _, hlt2⟩ := owi_rd own1
    have hll : L.length ≤ n' := inc_len HL.out.1 (fun x hx => by
      obtain ⟨k, _, rfl, hk, _⟩ := (HL.out.2 x).1 hx
      omega)
    obtain ⟨N, hN⟩ : ∃ N, L.length = N := ⟨_, rfl⟩
    have HN := Lib.hid hN
    unfold OwnI at own1
    rw [hN] at own1 hll hlt2 ⊢
    clear hN
    by_cases hi2 : i < n'
    · have di : decide ((i : Int) < (n' : Int)) = true := decide_eq_true (by omega)
      obtain ⟨gw, ow, y, rfl, hgw, hy, y0, y1, y2, y3, y4, y5, y6⟩ := (h.below B1).watch hi2
      have HY : Hid (W[i]? = some (wtOf y)) := Lib.hid (by rw [← HW.out, List.getElem?_map, hy]; rfl)
      obtain ⟨kd, pr, pk, pt, tt, own, at_⟩ := y
      simp only at y0 y1 y2 y3 y4 y5 y6
      have G4 := Blk.new w3 41 #[.int .i64 kd, .int .i64 pr, .int .i64 pk, .string pt, .int .i64 tt, .bool own, .int .i64 at_]
      have B4 := B1.alloc B1.size (.cells #[.int .i64 kd, .int .i64 pr, .int .i64 pk, .string pt, .int .i64 tt, .bool own, .int .i64 at_] 41)
      have b4 := b1.alloc b1.size (.cells #[.int .i64 kd, .int .i64 pr, .int .i64 pk, .string pt, .int .i64 tt, .bool own, .int .i64 at_] 41)
      have own4 := own1.alloc (.cells #[.int .i64 kd, .int .i64 pr, .int .i64 pk, .string pt, .int .i64 tt, .bool own, .int .i64 at_] 41)
      obtain ⟨w4, hw4⟩ : ∃ q, w3.alloc (.cells #[.int .i64 kd, .int .i64 pr, .int .i64 pk, .string pt, .int .i64 tt, .bool own, .int .i64 at_] 41) = q := ⟨_, rfl⟩
      rw [hw4] at G4 B4 b4 own4
      have hz4 : w2.heap.size ≤ w4.heap.size := b4.size
      have z4 := G4.cell 4
      simp only [List.getElem?_toArray, List.getElem?_cons_zero, List.getElem?_cons_succ] at z4
      clear B1 b1 own1 hy
      have yes : ¬ Rch I W tt → Hid (IdleIs I W (i + 1) (L ++ [(i : Int)])) := fun hn => Lib.hid ⟨inc_snoc HL.out.1 (fun y hy => by obtain ⟨k, _, rfl, hk, _⟩ := (HL.out.2 y).1 hy; omega), fun x => by
        rw [List.mem_append, HL.out.2 x, List.mem_singleton]
        constructor
        · rintro (⟨k, z, rfl, hk, hz, hr⟩ | rfl)
          · exact ⟨k, z, rfl, by omega, hz, hr⟩
          · exact ⟨i, _, rfl, by omega, HY.out, hn⟩
        · rintro ⟨k, z, rfl, hk, hz, hr⟩
          by_cases e : k = i
          · exact .inr (by omega)
          · exact .inl ⟨k, z, rfl, by omega, hz, hr⟩⟩
      have no : Rch I W tt → Hid (IdleIs I W (i + 1) L) := fun hn => Lib.hid ⟨HL.out.1, fun x => by
        rw [HL.out.2 x]
        constructor
        · rintro ⟨k, z, rfl, hk, hz, hr⟩; exact ⟨k, z, rfl, by omega, hz, hr⟩
        · rintro ⟨k, z, rfl, hk, hz, hr⟩
          by_cases e : k = i
          · subst e; rw [HY.out] at hz; cases hz; exact absurd hn hr
          · exact ⟨k, z, rfl, by omega, hz, hr⟩⟩
      have HYS := Lib.hid yes
      have HNO := Lib.hid no
      clear yes no
      by_cases ht0 : tt < 0
      · have d0 : decide (tt < 0) = true := decide_eq_true ht0
        have hn := HYS.out (fun hr => by have := rch_in hr; omega)
        go_wp2_with (at_builtin; refine wpList_append_lies _ rfl (.tmp 35) (.tmp 37) 29 rfl w2.heap.size 3 i0 (.int .i64 0) 1 8 Try.underlying29 hi0 hz0 hz1 hz2 rfl (by decide) _ N (L.map (Value.int .i64)) rfl (own4.alloc _) ⟨_, 0, none⟩ 1 1 [.int .i64 (i : Int)] rfl rfl (World.news_of_block (heap_alloc_new _ _)) (by intro u hu; simp at hu; subst hu; rfl) (by omega) (by unfold maxLen; omega) (by omega) (by simp; omega) _ rfl ?_)
        intro g10 cap10 w10 own10 hgrow10 hat10 hlt10
        have B10 : Below w.heap.size w w10 := (B4.alloc B4.size _).grown hgrow10 (by have := B4.size; simp; omega) (fun k hk => by have := (own4.lt k hk).1; omega)
        have b10 : Below w2.heap.size w2 w10 := (b4.alloc b4.size _).grown hgrow10 (by have := b4.size; simp; omega) (fun k hk => by have := (own4.lt k hk).1; omega)
        have own11 := owi_snoc (l := L) (v := .slice (some ⟨g10, 0, none⟩) (N + 1) cap10) (by rw [HN.out]; exact own10)
        clear own10 hgrow10 hat10 hlt10 own4
        go_wp2_with fail
        go_roundw
        case rel => exact ⟨i + 1, by go_num, by omega, B10, b10, _, own11, hn⟩
        case measure => simp [intOf]; omega
      obtain ⟨k, rfl⟩ : ∃ k : Nat, tt = k := ⟨tt.toNat, by omega⟩
      have d0 : decide ((k : Int) < 0) = false := decide_eq_false (by omega)
      by_cases hkn : n ≤ k
      · have d2 : decide ((k : Int) ≥ (n : Int)) = true := decide_eq_true (by omega)
        have d3 : decide ((n : Int) ≤ (k : Int)) = true := decide_eq_true (by omega)
        have hn := HYS.out (fun hr => by have := rch_in hr; rw [HIl.out] at this; omega)
        go_wp2_with (at_builtin; refine wpList_append_lies _ rfl (.tmp 35) (.tmp 37) 29 rfl w2.heap.size 3 i0 (.int .i64 0) 1 8 Try.underlying29 hi0 hz0 hz1 hz2 rfl (by decide) _ N (L.map (Value.int .i64)) rfl (own4.alloc _) ⟨_, 0, none⟩ 1 1 [.int .i64 (i : Int)] rfl rfl (World.news_of_block (heap_alloc_new _ _)) (by intro u hu; simp at hu; subst hu; rfl) (by omega) (by unfold maxLen; omega) (by omega) (by simp; omega) _ rfl ?_)
        intro g10 cap10 w10 own10 hgrow10 hat10 hlt10
        have B10 : Below w.heap.size w w10 := (B4.alloc B4.size _).grown hgrow10 (by have := B4.size; simp; omega) (fun k hk => by have := (own4.lt k hk).1; omega)
        have b10 : Below w2.heap.size w2 w10 := (b4.alloc b4.size _).grown hgrow10 (by have := b4.size; simp; omega) (fun k hk => by have := (own4.lt k hk).1; omega)
        have own11 := owi_snoc (l := L) (v := .slice (some ⟨g10, 0, none⟩) (N + 1) cap10) (by rw [HN.out]; exact own10)
        clear own10 hgrow10 hat10 hlt10 own4
        go_wp2_with fail
        go_roundw
        case rel => exact ⟨i + 1, by go_num, by omega, B10, b10, _, own11, hn⟩
        case measure => simp [intOf]; omega
      have d2 : decide ((k : Int) ≥ (n : Int)) = false := decide_eq_false (by omega)
      have d3 : decide ((n : Int) ≤ (k : Int)) = false := decide_eq_false (by omega)
      obtain ⟨gb, ob, rfl, hb, hcf⟩ := Rd.flat (rb.below b4) (by omega) (by omega)
      have hib : k < bs.length := by rw [HBS.out]; omega
      obtain ⟨bk, hbk⟩ : ∃ bk, bs[k]'hib = bk := ⟨_, rfl⟩
      have hbk2 : bs[k]? = some bk := by rw [List.getElem?_eq_getElem hib, hbk]
      have HBK := Lib.hid hbk2
      have hc2 : w4.cell? ⟨gb, ob + k, none⟩ = some (.bool bk) := hcf k _ (by rw [List.getElem?_map, hbk2]; rfl)
      clear hbk hbk2 hcf
      cases bk with
      | true =>
        have hn := HNO.out ((HMK.out k).1 ⟨k, rfl, HBK.out⟩)
        go_wp2_with fail
        go_roundw
        case rel => exact ⟨i + 1, by go_num, by omega, B4, b4, L, by unfold OwnI; rw [HN.out]; exact own4, hn⟩
        case measure => simp [intOf]; omega
      | false =>
        have hn := HYS.out (fun hr => by
          obtain ⟨j, e, hj⟩ := (HMK.out k).2 hr
          obtain rfl : k = j := by omega
          rw [HBK.out] at hj; cases hj)
        go_wp2_with (at_builtin; refine wpList_append_lies _ rfl (.tmp 35) (.tmp 37) 29 rfl w2.heap.size 3 i0 (.int .i64 0) 1 8 Try.underlying29 hi0 hz0 hz1 hz2 rfl (by decide) _ N (L.map (Value.int .i64)) rfl (own4.alloc _) ⟨_, 0, none⟩ 1 1 [.int .i64 (i : Int)] rfl rfl (World.news_of_block (heap_alloc_new _ _)) (by intro u hu; simp at hu; subst hu; rfl) (by omega) (by unfold maxLen; omega) (by omega) (by simp; omega) _ rfl ?_)
        intro g10 cap10 w10 own10 hgrow10 hat10 hlt10
        have B10 : Below w.heap.size w w10 := (B4.alloc B4.size _).grown hgrow10 (by have := B4.size; simp; omega) (fun k hk => by have := (own4.lt k hk).1; omega)
        have b10 : Below w2.heap.size w2 w10 := (b4.alloc b4.size _).grown hgrow10 (by have := b4.size; simp; omega) (fun k hk => by have := (own4.lt k hk).1; omega)
        have own11 := owi_snoc (l := L) (v := .slice (some ⟨g10, 0, none⟩) (N + 1) cap10) (by rw [HN.out]; exact own10)
        clear own10 hgrow10 hat10 hlt10 own4
        go_wp2_with fail
        go_roundw
        case rel => exact ⟨i + 1, by go_num, by omega, B10, b10, _, own11, hn⟩
        case measure => simp [intOf]; omega
    · obtain rfl : i = n' := by omega
      have di : decide ((i : Int) < (i : Int)) = false := decide_eq_false (by omega)
      have hown : OwnI w3 w2.heap.size (.slice A2 N c2) L := by unfold OwnI; rw [HN.out]; exact own1
      go_wp2
      go_ret
      exact ⟨_, L, rfl, owi_base (B := w2.heap.size) hown (by omega), by rw [HWl.out]; exact HL.out, B1⟩
end FloW
end Go.Proofs.Ytdgonjncoggfeaa
