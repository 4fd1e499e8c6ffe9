/- The walk of the reference's side. Conditions: texts that fit. -/
import Derived.Test.YtfkjogkpdebepaaStaAq
import Derived.Test.YtfkjogkpdebepaaRow
import Derived.Deep.RegionLaw
import Derived.Deep.CutBlock
namespace Go.Proofs.Ytfkjogkpdebepaa
open Go.RowKit
namespace StaRq
open StaP StaR StaN StaL StaV StaG StaA StaW
theorem bitq0 (c : UInt8) : ((c.toNat : Int) % 2 == 1) = b0 c := by
  have : ∀ c : Fin 256, ((c.val : Int) % 2 == 1) = (c.val % 2 == 1) := by decide +kernel
  exact this ⟨c.toNat, c.toNat_lt⟩
theorem bitq1 (c : UInt8) : ((c.toNat : Int) / 2 % 2 == 1) = b1 c := by
  have : ∀ c : Fin 256, ((c.val : Int) / 2 % 2 == 1) = (c.val / 2 % 2 == 1) := by decide +kernel
  exact this ⟨c.toNat, c.toNat_lt⟩
theorem bitq2 (c : UInt8) (h : c.toNat ≤ 7) : ((c.toNat : Int) / 4 == 1) = b2 c := by
  have : ∀ c : Fin 256, c.val ≤ 7 → ((c.val : Int) / 4 == 1) = (c.val / 4 % 2 == 1) := by decide +kernel
  exact this ⟨c.toNat, c.toNat_lt⟩ h
theorem flag_of (a b c : Bool) : ∃ x : UInt8, x.toNat ≤ 7 ∧ b0 x = a ∧ b1 x = b ∧ b2 x = c := ⟨flN a b c, by cases a <;> cases b <;> cases c <;> decide⟩
/-- What 'side' answers. -/
def QSPost (s : ByteArray) (R i e : Nat) (w : World) (x : Ending) (w' : World) : Prop :=
  ∃ (sd : Sd) (m : MSd) (i' e' : Nat), x = .returned sd.v ∧ SdO w' w.heap.size sd m ∧ Rdq w' R s i' e' ∧ i' ≤ s.size ∧ Tch (On R) w w' ∧ Run sideP (ab s i e) (ab s i' e') (fun a => a = m)
/-- A side's cells while its lines are read. -/
def sarr (x0 x1 x2 : Bool) (p q : Int) (t : ByteArray) (v : Value) : Array Value := #[.bool x0, .bool x1, .bool x2, .int .i64 p, .int .i64 q, .string t, v, .string ⟨#[]⟩, .slice none 0 0, .string ⟨#[]⟩, .string ⟨#[]⟩]
/-- The lines' loop: the side's block S, its cells, and the reader. -/
def QTL (s : ByteArray) (R i er S : Nat) (x0 x1 x2 : Bool) (p q : Int) (t : ByteArray) (w : World) (nv : Value) (wr : World) : Prop :=
  ∃ (k m : Nat) (o : List Bs) (A : Option Addr) (c j e' : Nat), nv = .int .i64 k ∧ Blk wr S 48 (sarr x0 x1 x2 p q t (.slice A m c)) ∧ Blk wr w.heap.size 48 zside ∧ wr.ownsRow w.heap.size 9 1 (.slice A m c) m (strs o) ∧ Rdq wr R s j e' ∧ j ≤ s.size ∧ Tch (On R) w wr ∧ m + k ≤ 65536 ∧ (∀ b ∈ o, b.length ≤ 65536) ∧ Hid (Stp (onto textP) [] o s i er j e' k)
theorem side_start {s : ByteArray} {i : Nat} {e : Nat} {c : UInt8} {i' : Nat} {e' : Int} (h : QNx s i e c i' e') (hi : i ≤ s.size) (hc : c.toNat ≤ 7) : ∃ e'' : Nat, e' = e'' ∧ i' ≤ s.size ∧ Run flagP (ab s i e) (ab s i' e'') (fun m => m = c) := by
  rcases h with ⟨he, rfl, rfl, rfl⟩ | ⟨he, rfl, rfl, rfl, hx⟩ | ⟨he, rfl, rfl, hd, hlt⟩
  · have he : e ≠ 0 := by omega
    exact ⟨e, rfl, hi, by rw [ab_bad _ _ he]; exact Run.bad⟩
  · have he : e = 0 := by omega
    subst he
    refine ⟨1, rfl, hi, ?_⟩
    rw [ab_ok, ab_bad _ _ (by omega)]
    refine Run.err ?_
    rw [hx]; rfl
  · have he : e = 0 := by omega
    subst he
    refine ⟨0, rfl, by omega, ?_⟩
    rw [ab_ok, ab_ok, hd]
    refine Run.go (x := c) ?_ rfl
    rw [flagP, if_neg (by omega)]
set_option maxHeartbeats 25600000 in
set_option maxRecDepth 100000 in
theorem side_c (R : Nat) (s : ByteArray) (i e : Nat) (w : World) (h : Rdq w R s i e) (his : i ≤ s.size) (hs : s.size ≤ 4611686018427387904) :
    Calls Try.prog 26 #[.pointer (some ⟨R, 0, none⟩)] w (QSPost s R i e w) := by
  obtain ⟨i0, hi0, hz0, hz1, hz2⟩ := info_parts info_Str
  have hR := h.lt
  have V := Blk.new w 48 #[.bool false, .bool false, .bool false, .int .i64 0, .int .i64 0, .string ⟨#[]⟩, .slice none 0 0, .string ⟨#[]⟩, .slice none 0 0, .string ⟨#[]⟩, .string ⟨#[]⟩]
  have T := (Tch.refl (On R) w).alloc (.cells #[.bool false, .bool false, .bool false, .int .i64 0, .int .i64 0, .string ⟨#[]⟩, .slice none 0 0, .string ⟨#[]⟩, .slice none 0 0, .string ⟨#[]⟩, .string ⟨#[]⟩] 48)
  have h := h.alloc (.cells #[.bool false, .bool false, .bool false, .int .i64 0, .int .i64 0, .string ⟨#[]⟩, .slice none 0 0, .string ⟨#[]⟩, .slice none 0 0, .string ⟨#[]⟩, .string ⟨#[]⟩] 48)
  obtain ⟨w0, hw0⟩ : ∃ x, w.alloc (.cells #[.bool false, .bool false, .bool false, .int .i64 0, .int .i64 0, .string ⟨#[]⟩, .slice none 0 0, .string ⟨#[]⟩, .slice none 0 0, .string ⟨#[]⟩, .string ⟨#[]⟩] 48) = x := ⟨_, rfl⟩
  rw [hw0] at V T h
  have hRV : R ≠ w.heap.size := by omega
  have hVR : ¬ On R w.heap.size := by show w.heap.size ≠ R; omega
  have c0 := next_c R s i e w0 h his hs
  have k1 := h.cell 1
  simp only [List.getElem?_toArray, List.getElem?_cons_zero, List.getElem?_cons_succ] at k1
  go_enter Try.func26, Try.ntmps26
  go_wp2_with fail
  (with_reducible refine c0.mono ?_)
  rintro x w1 ⟨c, i1, e1, rfl, h1, t1, hN⟩
  clear c0 k1
  have hc8 := c.toNat_lt
  obtain ⟨x0, hx0⟩ : ∃ x, ((c.toNat : Int) % 2 == 1) = x := ⟨_, rfl⟩
  obtain ⟨x1, hx1⟩ : ∃ x, ((c.toNat : Int) / 2 % 2 == 1) = x := ⟨_, rfl⟩
  obtain ⟨x2, hx2⟩ : ∃ x, ((c.toNat : Int) / 4 == 1) = x := ⟨_, rfl⟩
  by_cases hc : c.toNat ≤ 7
  · have d7 : decide ((7 : Int) < (c.toNat : Int)) = false := by simp; omega
    obtain ⟨E1, rfl, hi1, r0⟩ := side_start hN his hc
    obtain ⟨f, hf7, hf0, hf1, hf2, r0⟩ : ∃ f : UInt8, f.toNat ≤ 7 ∧ b0 f = x0 ∧ b1 f = x1 ∧ b2 f = x2 ∧ Run flagP (ab s i e) (ab s i1 E1) (fun m => m = f) := ⟨c, hc, by rw [← hx0, bitq0], by rw [← hx1, bitq1], by rw [← hx2, bitq2 c hc], r0⟩
    obtain ⟨W1, rfl⟩ : ∃ W : World, W = w1 := ⟨_, rfl⟩
    obtain ⟨I1, rfl⟩ : ∃ I : Nat, I = i1 := ⟨_, rfl⟩
    replace T := T.trans t1
    replace V := V.tch t1 hVR
    clear hN t1 hc
    go_wp2_with fail
    have c2 := num_c R s I1 E1 W1 h1 hi1 hs
    (with_reducible refine c2.mono ?_)
    rintro x w2 ⟨p, i2, e2, rfl, bp, h2, hi2, t2, -, r2⟩
    clear c2
    replace V := V.tch t2 hVR
    replace T := T.trans t2
    have hVS : w.heap.size ≠ w2.heap.size := by have := V.lt; omega
    have hRS : R ≠ w2.heap.size := by have := h2.lt; omega
    have hwS : w.heap.size ≤ w2.heap.size := T.size
    go_upto_region 6 with (refine wpList_store_row (by rfl) 48 (.tmp 5) (.tmp 30) (by rfl) w2.heap.size #[.bool x0, .bool x1, .bool x2, .int .i64 p, .int .i64 0, .string ⟨#[]⟩, .slice none 0 0, .string ⟨#[]⟩, .slice none 0 0, .string ⟨#[]⟩, .string ⟨#[]⟩] (by rfl) (by rfl) 48 _ (by exact Blk.new _ _ _) (by as_aux_lemma => kernel_rfl) (by rfl) (by simp [Value.oneCell']) ?_)
    obtain ⟨z, hz⟩ : ∃ x, (w2.alloc (.cells #[.bool false, .bool false, .bool false, .int .i64 0, .int .i64 0, .string ⟨#[]⟩, .slice none 0 0, .string ⟨#[]⟩, .slice none 0 0, .string ⟨#[]⟩, .string ⟨#[]⟩] 48)).setRow w2.heap.size #[.bool x0, .bool x1, .bool x2, .int .i64 p, .int .i64 0, .string ⟨#[]⟩, .slice none 0 0, .string ⟨#[]⟩, .slice none 0 0, .string ⟨#[]⟩, .string ⟨#[]⟩] = x := ⟨_, rfl⟩
    have B : Blk z w2.heap.size 48 #[.bool x0, .bool x1, .bool x2, .int .i64 p, .int .i64 0, .string ⟨#[]⟩, .slice none 0 0, .string ⟨#[]⟩, .slice none 0 0, .string ⟨#[]⟩, .string ⟨#[]⟩] := by rw [← hz]; exact Rowk.blk_row (Blk.new _ _ _) _
    replace V : Blk z w.heap.size 48 #[.bool false, .bool false, .bool false, .int .i64 0, .int .i64 0, .string ⟨#[]⟩, .slice none 0 0, .string ⟨#[]⟩, .slice none 0 0, .string ⟨#[]⟩, .string ⟨#[]⟩] := by rw [← hz]; exact Rowk.far_row (V.alloc _) hVS _
    replace h2 : Rdq z R s i2 e2 := by rw [← hz]; exact Rowk.far_row (h2.alloc _) hRS _
    replace T : Tch (On R) w z := by rw [← hz]; exact Rowk.tch_row (T.alloc _) hwS _
    rw [hz]
    clear hz
    obtain ⟨S, hS⟩ : ∃ S, w2.heap.size = S := ⟨_, rfl⟩
    rw [hS] at hVS hRS hwS B ⊢
    clear hS
    have hSR : ¬ On R S := fun e => hRS e.symm
    have cc := num_c R s i2 e2 z h2 hi2 hs
    go_wp2_with fail
    (with_reducible refine cc.mono ?_)
    rintro x w3 ⟨q, i3, e3, rfl, bq, h3, hi3, t3, -, r3⟩
    clear cc
    replace B := B.tch t3 hSR
    replace V := V.tch t3 hVR
    replace T := T.trans t3
    have k4 := B.cell 4
    have l4 := B.loose 4
    simp only [List.getElem?_toArray, List.getElem?_cons_zero, List.getElem?_cons_succ] at k4
    go_upto_region 7 with fail
    obtain ⟨z, hz⟩ : ∃ x, w3.setCell ⟨S, 4, none⟩ (.int .i64 q) = x := ⟨_, rfl⟩
    replace B := B.set_ 4 (.int .i64 q)
    replace V := V.far (p := ⟨S, 4, none⟩) hVS (.int .i64 q)
    replace h3 := h3.far (p := ⟨S, 4, none⟩) hRS (.int .i64 q)
    replace T := tch_new (o := 4) T hwS (.int .i64 q)
    rw [hz] at B V h3 T ⊢
    replace B : Blk z S 48 #[.bool x0, .bool x1, .bool x2, .int .i64 p, .int .i64 q, .string ⟨#[]⟩, .slice none 0 0, .string ⟨#[]⟩, .slice none 0 0, .string ⟨#[]⟩, .string ⟨#[]⟩] := B
    clear k4 l4 hz
    have cc := text_c R s i3 e3 z h3 hi3 hs
    go_wp2_with fail
    (with_reducible refine cc.mono ?_)
    rintro x w4 ⟨t, i4, e4, rfl, bt, h4, hi4, t4, r4⟩
    clear cc
    replace B := B.tch t4 hSR
    replace V := V.tch t4 hVR
    replace T := T.trans t4
    have k5 := B.cell 5
    have l5 := B.loose 5
    simp only [List.getElem?_toArray, List.getElem?_cons_zero, List.getElem?_cons_succ] at k5
    go_upto_region 8 with fail
    obtain ⟨z, hz⟩ : ∃ x, w4.setCell ⟨S, 5, none⟩ (.string t) = x := ⟨_, rfl⟩
    replace B := B.set_ 5 (.string t)
    replace V := V.far (p := ⟨S, 5, none⟩) hVS (.string t)
    replace h4 := h4.far (p := ⟨S, 5, none⟩) hRS (.string t)
    replace T := tch_new (o := 5) T hwS (.string t)
    rw [hz] at B V h4 T ⊢
    replace B : Blk z S 48 #[.bool x0, .bool x1, .bool x2, .int .i64 p, .int .i64 q, .string t, .slice none 0 0, .string ⟨#[]⟩, .slice none 0 0, .string ⟨#[]⟩, .string ⟨#[]⟩] := B
    clear k5 l5 hz
    have cc := many_c R s i4 e4 z h4 hi4 hs
    go_wp2_with fail
    (with_reducible refine cc.mono ?_)
    rintro x w5 ⟨n5, i5, e5, rfl, hn5, h5, hi5, t5, -, hrun⟩
    clear cc
    replace B := B.tch t5 hSR
    replace V := V.tch t5 hVR
    replace T := T.trans t5
    have hL : QTL s R i4 e4 S x0 x1 x2 p q t w (.int .i64 n5) w5 :=
      ⟨n5, 0, [], none, 0, i5, e5, rfl, B, V, World.ownsRow_nil _ _ _ _, h5, hi5, T, by omega, (fun b hb => by cases hb), Lib.hid (Stp.start hrun)⟩
    clear B V h5 hi5 T hrun t5 hn5
    go_wp2_with fail
    go_loopw [6] (fun nv wr => QTL s R i4 e4 S x0 x1 x2 p q t w nv wr) (fun nv _ => (intOf nv).toNat)
    case atStart => exact hL
    case round =>
      clear hL
      obtain ⟨k, m, ls, Als, Cls, i5, e5, rfl, B, V, ols, h5, hi5, T, hmk, dls, HST⟩ := hrel
      obtain ⟨z, rfl⟩ : ∃ z : World, z = wr := ⟨_, rfl⟩
      have k2 := h5.cell 2
      simp only [List.getElem?_toArray, List.getElem?_cons_zero, List.getElem?_cons_succ] at k2
      have hBz := T.size
      by_cases hgo : k ≠ 0 ∧ e5 = 0
      · obtain ⟨hk, rfl⟩ := hgo
        have dk : decide ((0 : Int) < (k : Int)) = true := by simp; omega
        have d0 : (((0 : Nat) : Int) == 0) = true := by simp
        obtain ⟨k', rfl⟩ : ∃ k', k = k' + 1 := ⟨k - 1, by omega⟩
        have hrd : Rdq z.drew R s i5 (0 : Nat) := h5
        have ct := text_c R s i5 0 z.drew hrd hi5 hs
        have k6 : z.cell? ⟨S, 6, none⟩ = some (.slice Als m Cls) := B.cell 6
        go_wp2_with fail
        go_region_law (first
          | (go_simp
             go_at_call 24
             (with_reducible refine ct.mono ?_)
             rintro x w2 ⟨tt, j2, e2, rfl, btt, h2, hj2, tq, rq⟩
             have B0 : Blk z.drew S 48 (sarr x0 x1 x2 p q t (.slice Als m Cls)) := B
             have V0 : Blk z.drew w.heap.size 48 zside := V
             have ols0 : z.drew.ownsRow w.heap.size 9 1 (.slice Als m Cls) m (strs ls) := ols
             have B2 := B0.tch tq hSR
             have V2 := V0.tch tq hVR
             have ols2 := own_keep ols0 (rdq_rows hrd tq (by decide))
             have T2 : Tch (On R) w w2 := (Rowk.tch_drew T).trans tq
             have hz2' := T2.size
             have k62 : w2.cell? ⟨S, 6, none⟩ = some (.slice Als m Cls) := B2.cell 6
             have k63 : (w2.alloc (Obj.cells #[.string tt] 9)).cell? ⟨S, 6, none⟩ = some (.slice Als m Cls) := (B2.alloc _).cell 6)
          | (refine step_append_lies _ rfl (.tmp 51) (.tmp 54) 46 rfl w.heap.size 9 i0 (.string ⟨#[]⟩) 1 16 Try.underlying46 hi0 hz0 hz1 hz2 rfl (by decide) (.slice Als m Cls) m (strs ls) (by simp [Act.eval]) (ols2.alloc _) ⟨w2.heap.size, 0, none⟩ 1 1 [.string tt] (by simp [Act.eval]) rfl
               (World.news_of_block (heap_alloc_new w2 _)) (by intro u hu; simp at hu; subst hu; rfl) (by omega) (by unfold maxLen; omega) (by omega) (by simp; omega) _ rfl ?_
             intro g cap w3 hown3 hgrow hat hlt
             have B3 : Blk w3 S 48 (sarr x0 x1 x2 p q t (.slice Als m Cls)) := grow_keep (ols2.alloc _) hgrow _ _ _ _ (by decide) (B2.alloc _)
             have k64 : w3.cell? ⟨S, 6, none⟩ = some (.slice Als m Cls) := B3.cell 6
             have l64 := B3.loose 6))
        all_goals
          have keep : ∀ (g : Nat) (c : Array Value) (t : TypeId) (f : Nat × Nat), t ≠ 9 → w2.heap[g]? = some (.cells c t f) → w3.heap[g]? = some (.cells c t f) := fun g c t f h1 hg => grow_keep (ols2.alloc _) hgrow g c t f h1 (alloc_keep _ g c t f hg)
          have h3 : Rdq w3 R s j2 e2 := keep _ _ _ _ (by decide) h2
          have V3 : Blk w3 w.heap.size 48 zside := keep _ _ _ _ (by decide) V2
          have T3 : Tch (On R) w w3 := tch_grown (T2.alloc _) hgrow (fun k hk => (ols2.lt k hk).1)
          have hown4 : w3.ownsRow w.heap.size 9 1 (.slice (some ⟨g, 0, none⟩) (m + 1) cap) (m + 1) (strs (ls ++ [tt.data.toList])) := by rw [strs, List.map_append]; simp only [List.map_cons, List.map_nil, bz_of]; exact hown3
          obtain ⟨z4, hz4⟩ : ∃ x, w3.setCell ⟨S, 6, none⟩ (.slice (some ⟨g, 0, none⟩) (m + 1) cap) = x := ⟨_, rfl⟩
          have own5 := own_keep hown4 (set_rows B3 (by decide) (.slice (some ⟨g, 0, none⟩) (m + 1) cap) (o := 6))
          have B4 := B3.set_ 6 (.slice (some ⟨g, 0, none⟩) (m + 1) cap)
          have V4 := V3.far (p := ⟨S, 6, none⟩) hVS (.slice (some ⟨g, 0, none⟩) (m + 1) cap)
          have h4' := h3.far (p := ⟨S, 6, none⟩) hRS (.slice (some ⟨g, 0, none⟩) (m + 1) cap)
          have T4 := tch_new (o := 6) T3 hwS (.slice (some ⟨g, 0, none⟩) (m + 1) cap)
          rw [hz4] at own5 B4 V4 h4' T4 ⊢
          replace B4 : Blk z4 S 48 (sarr x0 x1 x2 p q t (.slice (some ⟨g, 0, none⟩) (m + 1) cap)) := B4
          have HS4 : Hid (Stp (onto textP) [] (ls ++ [tt.data.toList]) s i4 e4 j2 e2 k') := Lib.hid (HST.out.step (onto_case rq))
          have dls4 : ∀ b ∈ ls ++ [tt.data.toList], b.length ≤ 65536 := by
            intro b hb
            rcases List.mem_append.1 hb with hb | hb
            · exact dls b hb
            · rw [List.mem_singleton] at hb; rw [hb, ← Lib.size_eq]; exact btt
          clear keep hz4 hown3 hown4 ols ols2 ols0 B B0 B2 B3 k6 k62 k63 k64 l64
          go_wp2
          go_roundw
          case rel => exact ⟨k', m + 1, ls ++ [tt.data.toList], some ⟨g, 0, none⟩, cap, j2, e2, by go_num, B4, V4, own5, h4', hj2, T4, by omega, dls4, HS4⟩
          case measure => simp [intOf] <;> omega
      have hl := own_len ols
      rw [List.length_map] at hl
      subst hl
      have r5 : Run (listP textP) (ab s i4 e4) (ab s i5 e5) (fun m => m = ls) := by
        refine run_eq (list_onto textP) ?_
        by_cases he : e5 = 0
        · have hk : k = 0 := by
            by_cases hk : k = 0
            · exact hk
            · exact absurd ⟨hk, he⟩ hgo
          subst hk
          exact HST.out.stop
        · exact HST.out.fail he
      have bls : ls.length ≤ 65536 := by omega
      have hk2 : (k = 0 ∧ decide ((0 : Int) < (k : Int)) = false) ∨ (k ≠ 0 ∧ decide ((0 : Int) < (k : Int)) = true ∧ ((e5 : Int) == 0) = false) := by
        by_cases hk : k = 0
        · exact Or.inl ⟨hk, by simp; omega⟩
        · refine Or.inr ⟨hk, by simp; omega, ?_⟩
          rw [beq_eq_false_iff_ne]
          intro he
          exact hgo ⟨hk, by omega⟩
      clear hgo HST hmk hBz
      replace B : Blk z S 48 #[.bool x0, .bool x1, .bool x2, .int .i64 p, .int .i64 q, .string t, .slice Als ls.length Cls, .string ⟨#[]⟩, .slice none 0 0, .string ⟨#[]⟩, .string ⟨#[]⟩] := B
      rcases hk2 with ⟨hk, dk⟩ | ⟨hk, dk, d5⟩
      all_goals
        have cc := text_c R s i5 e5 z h5 hi5 hs
        go_wp2_with fail
        (with_reducible refine cc.mono ?_)
        rintro x w6 ⟨f6, i6, e6, rfl, bf6, h6, hi6, t6, r6⟩
        clear cc
        replace ols := own_keep ols (rdq_rows h5 t6 (by decide))
        replace B := B.tch t6 hSR
        replace V := V.tch t6 hVR
        replace T := T.trans t6
        have k7 := B.cell 7
        have l7 := B.loose 7
        simp only [List.getElem?_toArray, List.getElem?_cons_zero, List.getElem?_cons_succ] at k7
        go_upto_region 13 with fail
        obtain ⟨z, hz⟩ : ∃ x, w6.setCell ⟨S, 7, none⟩ (.string f6) = x := ⟨_, rfl⟩
        replace ols := own_keep ols (set_rows B (by decide) (.string f6) (o := 7))
        replace B := B.set_ 7 (.string f6)
        replace V := V.far (p := ⟨S, 7, none⟩) hVS (.string f6)
        replace h6 := h6.far (p := ⟨S, 7, none⟩) hRS (.string f6)
        replace T := tch_new (o := 7) T hwS (.string f6)
        rw [hz] at B V h6 T ols ⊢
        replace B : Blk z S 48 #[.bool x0, .bool x1, .bool x2, .int .i64 p, .int .i64 q, .string t, .slice Als ls.length Cls, .string f6, .slice none 0 0, .string ⟨#[]⟩, .string ⟨#[]⟩] := B
        clear k7 l7 hz
        have cc := ages_c R s i6 e6 z h6 hi6 hs
        go_wp2_with fail
        (with_reducible refine cc.mono ?_)
        rintro x w7 ⟨vo, o, i7, e7, rfl, oo, bo, h7, hi7, t7, r7⟩
        obtain ⟨Ao, Co, rfl⟩ := StaL.own_shape oo
        replace oo := own_mono oo T.size
        clear cc
        replace ols := own_keep ols (rdq_rows h6 t7 (by decide))
        replace B := B.tch t7 hSR
        replace V := V.tch t7 hVR
        replace T := T.trans t7
        have k8 := B.cell 8
        have l8 := B.loose 8
        simp only [List.getElem?_toArray, List.getElem?_cons_zero, List.getElem?_cons_succ] at k8
        go_upto_region 14 with fail
        obtain ⟨z, hz⟩ : ∃ x, w7.setCell ⟨S, 8, none⟩ (.slice Ao o.length Co) = x := ⟨_, rfl⟩
        replace ols := own_keep ols (set_rows B (by decide) (.slice Ao o.length Co) (o := 8))
        replace oo := own_keep oo (set_rows B (by decide) (.slice Ao o.length Co) (o := 8))
        replace B := B.set_ 8 (.slice Ao o.length Co)
        replace V := V.far (p := ⟨S, 8, none⟩) hVS (.slice Ao o.length Co)
        replace h7 := h7.far (p := ⟨S, 8, none⟩) hRS (.slice Ao o.length Co)
        replace T := tch_new (o := 8) T hwS (.slice Ao o.length Co)
        rw [hz] at B V h7 T ols oo ⊢
        replace B : Blk z S 48 #[.bool x0, .bool x1, .bool x2, .int .i64 p, .int .i64 q, .string t, .slice Als ls.length Cls, .string f6, .slice Ao o.length Co, .string ⟨#[]⟩, .string ⟨#[]⟩] := B
        clear k8 l8 hz
        have cc := text_c R s i7 e7 z h7 hi7 hs
        go_wp2_with fail
        (with_reducible refine cc.mono ?_)
        rintro x w8 ⟨r, i8, e8, rfl, br, h8, hi8, t8, r8⟩
        clear cc
        replace ols := own_keep ols (rdq_rows h7 t8 (by decide))
        replace oo := own_keep oo (rdq_rows h7 t8 (by decide))
        replace B := B.tch t8 hSR
        replace V := V.tch t8 hVR
        replace T := T.trans t8
        have k9 := B.cell 9
        have l9 := B.loose 9
        simp only [List.getElem?_toArray, List.getElem?_cons_zero, List.getElem?_cons_succ] at k9
        go_upto_region 15 with fail
        obtain ⟨z, hz⟩ : ∃ x, w8.setCell ⟨S, 9, none⟩ (.string r) = x := ⟨_, rfl⟩
        replace ols := own_keep ols (set_rows B (by decide) (.string r) (o := 9))
        replace oo := own_keep oo (set_rows B (by decide) (.string r) (o := 9))
        replace B := B.set_ 9 (.string r)
        replace V := V.far (p := ⟨S, 9, none⟩) hVS (.string r)
        replace h8 := h8.far (p := ⟨S, 9, none⟩) hRS (.string r)
        replace T := tch_new (o := 9) T hwS (.string r)
        rw [hz] at B V h8 T ols oo ⊢
        replace B : Blk z S 48 #[.bool x0, .bool x1, .bool x2, .int .i64 p, .int .i64 q, .string t, .slice Als ls.length Cls, .string f6, .slice Ao o.length Co, .string r, .string ⟨#[]⟩] := B
        clear k9 l9 hz
        have cc := text_c R s i8 e8 z h8 hi8 hs
        go_wp2_with fail
        (with_reducible refine cc.mono ?_)
        rintro x w9 ⟨u, i9, e9, rfl, bu, h9, hi9, t9, r9⟩
        clear cc
        replace ols := own_keep ols (rdq_rows h8 t9 (by decide))
        replace oo := own_keep oo (rdq_rows h8 t9 (by decide))
        replace B := B.tch t9 hSR
        replace V := V.tch t9 hVR
        replace T := T.trans t9
        have k10 := B.cell 10
        have l10 := B.loose 10
        simp only [List.getElem?_toArray, List.getElem?_cons_zero, List.getElem?_cons_succ] at k10
        go_upto_region 16 with fail
        obtain ⟨z, hz⟩ : ∃ x, w9.setCell ⟨S, 10, none⟩ (.string u) = x := ⟨_, rfl⟩
        replace ols := own_keep ols (set_rows B (by decide) (.string u) (o := 10))
        replace oo := own_keep oo (set_rows B (by decide) (.string u) (o := 10))
        replace B := B.set_ 10 (.string u)
        replace V := V.far (p := ⟨S, 10, none⟩) hVS (.string u)
        replace h9 := h9.far (p := ⟨S, 10, none⟩) hRS (.string u)
        replace T := tch_new (o := 10) T hwS (.string u)
        rw [hz] at B V h9 T ols oo ⊢
        replace B : Blk z S 48 #[.bool x0, .bool x1, .bool x2, .int .i64 p, .int .i64 q, .string t, .slice Als ls.length Cls, .string f6, .slice Ao o.length Co, .string r, .string u] := B
        clear k10 l10 hz
        go_wp2_with (first
          | (refine wpList_load_row (by rfl) 48 (.tmp 5) (by rfl) S (by rfl) _ _ _ _ (by exact B) Try.underlying48 (by rfl) (by as_aux_lemma => kernel_rfl) ?_)
          | (refine wpList_store_row (by rfl) 48 (.tmp 2) (.tmp 69) (by rfl) w.heap.size #[.bool x0, .bool x1, .bool x2, .int .i64 p, .int .i64 q, .string t, .slice Als ls.length Cls, .string f6, .slice Ao o.length Co, .string r, .string u] (by rfl) (by rfl) 48 _ (by exact V) (by as_aux_lemma => kernel_rfl) (by rfl) (by simp [Value.oneCell']) ?_))
        obtain ⟨zf, hzf⟩ : ∃ x, z.setRow w.heap.size #[.bool x0, .bool x1, .bool x2, .int .i64 p, .int .i64 q, .string t, .slice Als ls.length Cls, .string f6, .slice Ao o.length Co, .string r, .string u] = x := ⟨_, rfl⟩
        have W : Blk zf w.heap.size 48 #[.bool x0, .bool x1, .bool x2, .int .i64 p, .int .i64 q, .string t, .slice Als ls.length Cls, .string f6, .slice Ao o.length Co, .string r, .string u] := by rw [← hzf]; exact Rowk.blk_row V _
        have hF : Rdq zf R s i9 e9 := by rw [← hzf]; exact Rowk.far_row h9 hRV _
        have TF : Tch (On R) w zf := by rw [← hzf]; exact Rowk.tch_row T (Nat.le_refl _) _
        replace ols : zf.ownsRow w.heap.size 9 1 (.slice Als ls.length Cls) ls.length (strs ls) := own_keep ols (fun g c hg => by rw [← hzf]; exact Rowk.other_row V _ g c _ _ (by decide) hg)
        replace oo : zf.ownsRow w.heap.size 3 1 (.slice Ao o.length Co) o.length (ints o) := own_keep oo (fun g c hg => by rw [← hzf]; exact Rowk.other_row V _ g c _ _ (by decide) hg)
        rw [hzf]
        refine bodyPost_ret (results_cell_row (p := 2) rfl _ _ w.heap.size 48 #[.bool x0, .bool x1, .bool x2, .int .i64 p, .int .i64 q, .string t, .slice Als ls.length Cls, .string f6, .slice Ao o.length Co, .string r, .string u] (0, 0) _ rfl (by exact W) Try.underlying48 rfl (by as_aux_lemma => kernel_rfl)) rfl ?_
        exact ⟨mkSd (f, p, q, t.data.toList, ls, f6.data.toList, o, r.data.toList, u.data.toList) Als Cls Ao Co, (f, p, q, t.data.toList, ls, f6.data.toList, o, r.data.toList, u.data.toList), i9, e9,
          by simp only [mkSd, Sd.v, bz_of, hf0, hf1, hf2], ⟨Als, Cls, Ao, Co, rfl, ols, oo, bp, bq, by rw [← Lib.size_eq]; exact bt, ⟨bls, dls⟩, by rw [← Lib.size_eq]; exact bf6, bo, by rw [← Lib.size_eq]; exact br, by rw [← Lib.size_eq]; exact bu⟩, hF, hi9, TF,
          (Run.pair r0 (Run.pair r2 (Run.pair r3 (Run.pair r4 (Run.pair r5 (Run.pair r6 (Run.pair r7 (Run.pair r8 r9)))))))).mono fun x hx => by
            obtain ⟨x1, x2, x3, x4, x5, x6, x7, x8, x9⟩ := x
            obtain ⟨rfl, rfl, rfl, rfl, rfl, rfl, rfl, rfl, rfl⟩ := hx
            rfl⟩
  · have d7 : decide ((7 : Int) < (c.toNat : Int)) = true := by simp; omega
    obtain ⟨f, hf7, hf0, hf1, hf2⟩ := flag_of x0 x1 x2
    rcases hN with ⟨_, rfl, _⟩ | ⟨_, rfl, _⟩ | ⟨he, rfl, rfl, hd, hlt⟩
    · simp at hc
    · simp at hc
    have he : e = 0 := by omega
    subst he
    have r0 : Run flagP (ab s i 0) (ab s i 1) (fun m => m = f) := by
      rw [ab_ok, ab_bad s i (e := 1) (by omega), hd]
      exact Run.err (by rw [flagP, if_pos (by omega)])
    have cf := fail_yes R s (i + 1) i 1 w1 h1
    clear hd
    go_wp2_with fail
    (with_reducible refine cf.mono ?_)
    rintro e wf ⟨rfl, hf, tf⟩
    obtain ⟨W1, rfl⟩ : ∃ W : World, W = wf := ⟨_, rfl⟩
    obtain ⟨I1, E1, h1, hi1, r0⟩ : ∃ I1 E1 : Nat, Rdq W1 R s I1 E1 ∧ I1 ≤ s.size ∧ Run flagP (ab s i 0) (ab s I1 E1) (fun m => m = f) := ⟨i, 1, hf, his, r0⟩
    replace T := (T.trans t1).trans tf
    replace V := (V.tch t1 hVR).tch tf hVR
    clear hf tf t1 cf
    go_wp2_with fail
    have c2 := num_c R s I1 E1 W1 h1 hi1 hs
    (with_reducible refine c2.mono ?_)
    rintro x w2 ⟨p, i2, e2, rfl, bp, h2, hi2, t2, -, r2⟩
    clear c2
    replace V := V.tch t2 hVR
    replace T := T.trans t2
    have hVS : w.heap.size ≠ w2.heap.size := by have := V.lt; omega
    have hRS : R ≠ w2.heap.size := by have := h2.lt; omega
    have hwS : w.heap.size ≤ w2.heap.size := T.size
    go_upto_region 6 with (refine wpList_store_row (by rfl) 48 (.tmp 5) (.tmp 30) (by rfl) w2.heap.size #[.bool x0, .bool x1, .bool x2, .int .i64 p, .int .i64 0, .string ⟨#[]⟩, .slice none 0 0, .string ⟨#[]⟩, .slice none 0 0, .string ⟨#[]⟩, .string ⟨#[]⟩] (by rfl) (by rfl) 48 _ (by exact Blk.new _ _ _) (by as_aux_lemma => kernel_rfl) (by rfl) (by simp [Value.oneCell']) ?_)
    obtain ⟨z, hz⟩ : ∃ x, (w2.alloc (.cells #[.bool false, .bool false, .bool false, .int .i64 0, .int .i64 0, .string ⟨#[]⟩, .slice none 0 0, .string ⟨#[]⟩, .slice none 0 0, .string ⟨#[]⟩, .string ⟨#[]⟩] 48)).setRow w2.heap.size #[.bool x0, .bool x1, .bool x2, .int .i64 p, .int .i64 0, .string ⟨#[]⟩, .slice none 0 0, .string ⟨#[]⟩, .slice none 0 0, .string ⟨#[]⟩, .string ⟨#[]⟩] = x := ⟨_, rfl⟩
    have B : Blk z w2.heap.size 48 #[.bool x0, .bool x1, .bool x2, .int .i64 p, .int .i64 0, .string ⟨#[]⟩, .slice none 0 0, .string ⟨#[]⟩, .slice none 0 0, .string ⟨#[]⟩, .string ⟨#[]⟩] := by rw [← hz]; exact Rowk.blk_row (Blk.new _ _ _) _
    replace V : Blk z w.heap.size 48 #[.bool false, .bool false, .bool false, .int .i64 0, .int .i64 0, .string ⟨#[]⟩, .slice none 0 0, .string ⟨#[]⟩, .slice none 0 0, .string ⟨#[]⟩, .string ⟨#[]⟩] := by rw [← hz]; exact Rowk.far_row (V.alloc _) hVS _
    replace h2 : Rdq z R s i2 e2 := by rw [← hz]; exact Rowk.far_row (h2.alloc _) hRS _
    replace T : Tch (On R) w z := by rw [← hz]; exact Rowk.tch_row (T.alloc _) hwS _
    rw [hz]
    clear hz
    obtain ⟨S, hS⟩ : ∃ S, w2.heap.size = S := ⟨_, rfl⟩
    rw [hS] at hVS hRS hwS B ⊢
    clear hS
    have hSR : ¬ On R S := fun e => hRS e.symm
    have cc := num_c R s i2 e2 z h2 hi2 hs
    go_wp2_with fail
    (with_reducible refine cc.mono ?_)
    rintro x w3 ⟨q, i3, e3, rfl, bq, h3, hi3, t3, -, r3⟩
    clear cc
    replace B := B.tch t3 hSR
    replace V := V.tch t3 hVR
    replace T := T.trans t3
    have k4 := B.cell 4
    have l4 := B.loose 4
    simp only [List.getElem?_toArray, List.getElem?_cons_zero, List.getElem?_cons_succ] at k4
    go_upto_region 7 with fail
    obtain ⟨z, hz⟩ : ∃ x, w3.setCell ⟨S, 4, none⟩ (.int .i64 q) = x := ⟨_, rfl⟩
    replace B := B.set_ 4 (.int .i64 q)
    replace V := V.far (p := ⟨S, 4, none⟩) hVS (.int .i64 q)
    replace h3 := h3.far (p := ⟨S, 4, none⟩) hRS (.int .i64 q)
    replace T := tch_new (o := 4) T hwS (.int .i64 q)
    rw [hz] at B V h3 T ⊢
    replace B : Blk z S 48 #[.bool x0, .bool x1, .bool x2, .int .i64 p, .int .i64 q, .string ⟨#[]⟩, .slice none 0 0, .string ⟨#[]⟩, .slice none 0 0, .string ⟨#[]⟩, .string ⟨#[]⟩] := B
    clear k4 l4 hz
    have cc := text_c R s i3 e3 z h3 hi3 hs
    go_wp2_with fail
    (with_reducible refine cc.mono ?_)
    rintro x w4 ⟨t, i4, e4, rfl, bt, h4, hi4, t4, r4⟩
    clear cc
    replace B := B.tch t4 hSR
    replace V := V.tch t4 hVR
    replace T := T.trans t4
    have k5 := B.cell 5
    have l5 := B.loose 5
    simp only [List.getElem?_toArray, List.getElem?_cons_zero, List.getElem?_cons_succ] at k5
    go_upto_region 8 with fail
    obtain ⟨z, hz⟩ : ∃ x, w4.setCell ⟨S, 5, none⟩ (.string t) = x := ⟨_, rfl⟩
    replace B := B.set_ 5 (.string t)
    replace V := V.far (p := ⟨S, 5, none⟩) hVS (.string t)
    replace h4 := h4.far (p := ⟨S, 5, none⟩) hRS (.string t)
    replace T := tch_new (o := 5) T hwS (.string t)
    rw [hz] at B V h4 T ⊢
    replace B : Blk z S 48 #[.bool x0, .bool x1, .bool x2, .int .i64 p, .int .i64 q, .string t, .slice none 0 0, .string ⟨#[]⟩, .slice none 0 0, .string ⟨#[]⟩, .string ⟨#[]⟩] := B
    clear k5 l5 hz
    have cc := many_c R s i4 e4 z h4 hi4 hs
    go_wp2_with fail
    (with_reducible refine cc.mono ?_)
    rintro x w5 ⟨n5, i5, e5, rfl, hn5, h5, hi5, t5, -, hrun⟩
    clear cc
    replace B := B.tch t5 hSR
    replace V := V.tch t5 hVR
    replace T := T.trans t5
    have hL : QTL s R i4 e4 S x0 x1 x2 p q t w (.int .i64 n5) w5 :=
      ⟨n5, 0, [], none, 0, i5, e5, rfl, B, V, World.ownsRow_nil _ _ _ _, h5, hi5, T, by omega, (fun b hb => by cases hb), Lib.hid (Stp.start hrun)⟩
    clear B V h5 hi5 T hrun t5 hn5
    go_wp2_with fail
    go_loopw [6] (fun nv wr => QTL s R i4 e4 S x0 x1 x2 p q t w nv wr) (fun nv _ => (intOf nv).toNat)
    case atStart => exact hL
    case round =>
      clear hL
      obtain ⟨k, m, ls, Als, Cls, i5, e5, rfl, B, V, ols, h5, hi5, T, hmk, dls, HST⟩ := hrel
      obtain ⟨z, rfl⟩ : ∃ z : World, z = wr := ⟨_, rfl⟩
      have k2 := h5.cell 2
      simp only [List.getElem?_toArray, List.getElem?_cons_zero, List.getElem?_cons_succ] at k2
      have hBz := T.size
      by_cases hgo : k ≠ 0 ∧ e5 = 0
      · obtain ⟨hk, rfl⟩ := hgo
        have dk : decide ((0 : Int) < (k : Int)) = true := by simp; omega
        have d0 : (((0 : Nat) : Int) == 0) = true := by simp
        obtain ⟨k', rfl⟩ : ∃ k', k = k' + 1 := ⟨k - 1, by omega⟩
        have hrd : Rdq z.drew R s i5 (0 : Nat) := h5
        have ct := text_c R s i5 0 z.drew hrd hi5 hs
        have k6 : z.cell? ⟨S, 6, none⟩ = some (.slice Als m Cls) := B.cell 6
        go_wp2_with fail
        go_region_law (first
          | (go_simp
             go_at_call 24
             (with_reducible refine ct.mono ?_)
             rintro x w2 ⟨tt, j2, e2, rfl, btt, h2, hj2, tq, rq⟩
             have B0 : Blk z.drew S 48 (sarr x0 x1 x2 p q t (.slice Als m Cls)) := B
             have V0 : Blk z.drew w.heap.size 48 zside := V
             have ols0 : z.drew.ownsRow w.heap.size 9 1 (.slice Als m Cls) m (strs ls) := ols
             have B2 := B0.tch tq hSR
             have V2 := V0.tch tq hVR
             have ols2 := own_keep ols0 (rdq_rows hrd tq (by decide))
             have T2 : Tch (On R) w w2 := (Rowk.tch_drew T).trans tq
             have hz2' := T2.size
             have k62 : w2.cell? ⟨S, 6, none⟩ = some (.slice Als m Cls) := B2.cell 6
             have k63 : (w2.alloc (Obj.cells #[.string tt] 9)).cell? ⟨S, 6, none⟩ = some (.slice Als m Cls) := (B2.alloc _).cell 6)
          | (refine step_append_lies _ rfl (.tmp 51) (.tmp 54) 46 rfl w.heap.size 9 i0 (.string ⟨#[]⟩) 1 16 Try.underlying46 hi0 hz0 hz1 hz2 rfl (by decide) (.slice Als m Cls) m (strs ls) (by simp [Act.eval]) (ols2.alloc _) ⟨w2.heap.size, 0, none⟩ 1 1 [.string tt] (by simp [Act.eval]) rfl
               (World.news_of_block (heap_alloc_new w2 _)) (by intro u hu; simp at hu; subst hu; rfl) (by omega) (by unfold maxLen; omega) (by omega) (by simp; omega) _ rfl ?_
             intro g cap w3 hown3 hgrow hat hlt
             have B3 : Blk w3 S 48 (sarr x0 x1 x2 p q t (.slice Als m Cls)) := grow_keep (ols2.alloc _) hgrow _ _ _ _ (by decide) (B2.alloc _)
             have k64 : w3.cell? ⟨S, 6, none⟩ = some (.slice Als m Cls) := B3.cell 6
             have l64 := B3.loose 6))
        all_goals
          have keep : ∀ (g : Nat) (c : Array Value) (t : TypeId) (f : Nat × Nat), t ≠ 9 → w2.heap[g]? = some (.cells c t f) → w3.heap[g]? = some (.cells c t f) := fun g c t f h1 hg => grow_keep (ols2.alloc _) hgrow g c t f h1 (alloc_keep _ g c t f hg)
          have h3 : Rdq w3 R s j2 e2 := keep _ _ _ _ (by decide) h2
          have V3 : Blk w3 w.heap.size 48 zside := keep _ _ _ _ (by decide) V2
          have T3 : Tch (On R) w w3 := tch_grown (T2.alloc _) hgrow (fun k hk => (ols2.lt k hk).1)
          have hown4 : w3.ownsRow w.heap.size 9 1 (.slice (some ⟨g, 0, none⟩) (m + 1) cap) (m + 1) (strs (ls ++ [tt.data.toList])) := by rw [strs, List.map_append]; simp only [List.map_cons, List.map_nil, bz_of]; exact hown3
          obtain ⟨z4, hz4⟩ : ∃ x, w3.setCell ⟨S, 6, none⟩ (.slice (some ⟨g, 0, none⟩) (m + 1) cap) = x := ⟨_, rfl⟩
          have own5 := own_keep hown4 (set_rows B3 (by decide) (.slice (some ⟨g, 0, none⟩) (m + 1) cap) (o := 6))
          have B4 := B3.set_ 6 (.slice (some ⟨g, 0, none⟩) (m + 1) cap)
          have V4 := V3.far (p := ⟨S, 6, none⟩) hVS (.slice (some ⟨g, 0, none⟩) (m + 1) cap)
          have h4' := h3.far (p := ⟨S, 6, none⟩) hRS (.slice (some ⟨g, 0, none⟩) (m + 1) cap)
          have T4 := tch_new (o := 6) T3 hwS (.slice (some ⟨g, 0, none⟩) (m + 1) cap)
          rw [hz4] at own5 B4 V4 h4' T4 ⊢
          replace B4 : Blk z4 S 48 (sarr x0 x1 x2 p q t (.slice (some ⟨g, 0, none⟩) (m + 1) cap)) := B4
          have HS4 : Hid (Stp (onto textP) [] (ls ++ [tt.data.toList]) s i4 e4 j2 e2 k') := Lib.hid (HST.out.step (onto_case rq))
          have dls4 : ∀ b ∈ ls ++ [tt.data.toList], b.length ≤ 65536 := by
            intro b hb
            rcases List.mem_append.1 hb with hb | hb
            · exact dls b hb
            · rw [List.mem_singleton] at hb; rw [hb, ← Lib.size_eq]; exact btt
          clear keep hz4 hown3 hown4 ols ols2 ols0 B B0 B2 B3 k6 k62 k63 k64 l64
          go_wp2
          go_roundw
          case rel => exact ⟨k', m + 1, ls ++ [tt.data.toList], some ⟨g, 0, none⟩, cap, j2, e2, by go_num, B4, V4, own5, h4', hj2, T4, by omega, dls4, HS4⟩
          case measure => simp [intOf] <;> omega
      have hl := own_len ols
      rw [List.length_map] at hl
      subst hl
      have r5 : Run (listP textP) (ab s i4 e4) (ab s i5 e5) (fun m => m = ls) := by
        refine run_eq (list_onto textP) ?_
        by_cases he : e5 = 0
        · have hk : k = 0 := by
            by_cases hk : k = 0
            · exact hk
            · exact absurd ⟨hk, he⟩ hgo
          subst hk
          exact HST.out.stop
        · exact HST.out.fail he
      have bls : ls.length ≤ 65536 := by omega
      have hk2 : (k = 0 ∧ decide ((0 : Int) < (k : Int)) = false) ∨ (k ≠ 0 ∧ decide ((0 : Int) < (k : Int)) = true ∧ ((e5 : Int) == 0) = false) := by
        by_cases hk : k = 0
        · exact Or.inl ⟨hk, by simp; omega⟩
        · refine Or.inr ⟨hk, by simp; omega, ?_⟩
          rw [beq_eq_false_iff_ne]
          intro he
          exact hgo ⟨hk, by omega⟩
      clear hgo HST hmk hBz
      replace B : Blk z S 48 #[.bool x0, .bool x1, .bool x2, .int .i64 p, .int .i64 q, .string t, .slice Als ls.length Cls, .string ⟨#[]⟩, .slice none 0 0, .string ⟨#[]⟩, .string ⟨#[]⟩] := B
      rcases hk2 with ⟨hk, dk⟩ | ⟨hk, dk, d5⟩
      all_goals
        have cc := text_c R s i5 e5 z h5 hi5 hs
        go_wp2_with fail
        (with_reducible refine cc.mono ?_)
        rintro x w6 ⟨f6, i6, e6, rfl, bf6, h6, hi6, t6, r6⟩
        clear cc
        replace ols := own_keep ols (rdq_rows h5 t6 (by decide))
        replace B := B.tch t6 hSR
        replace V := V.tch t6 hVR
        replace T := T.trans t6
        have k7 := B.cell 7
        have l7 := B.loose 7
        simp only [List.getElem?_toArray, List.getElem?_cons_zero, List.getElem?_cons_succ] at k7
        go_upto_region 13 with fail
        obtain ⟨z, hz⟩ : ∃ x, w6.setCell ⟨S, 7, none⟩ (.string f6) = x := ⟨_, rfl⟩
        replace ols := own_keep ols (set_rows B (by decide) (.string f6) (o := 7))
        replace B := B.set_ 7 (.string f6)
        replace V := V.far (p := ⟨S, 7, none⟩) hVS (.string f6)
        replace h6 := h6.far (p := ⟨S, 7, none⟩) hRS (.string f6)
        replace T := tch_new (o := 7) T hwS (.string f6)
        rw [hz] at B V h6 T ols ⊢
        replace B : Blk z S 48 #[.bool x0, .bool x1, .bool x2, .int .i64 p, .int .i64 q, .string t, .slice Als ls.length Cls, .string f6, .slice none 0 0, .string ⟨#[]⟩, .string ⟨#[]⟩] := B
        clear k7 l7 hz
        have cc := ages_c R s i6 e6 z h6 hi6 hs
        go_wp2_with fail
        (with_reducible refine cc.mono ?_)
        rintro x w7 ⟨vo, o, i7, e7, rfl, oo, bo, h7, hi7, t7, r7⟩
        obtain ⟨Ao, Co, rfl⟩ := StaL.own_shape oo
        replace oo := own_mono oo T.size
        clear cc
        replace ols := own_keep ols (rdq_rows h6 t7 (by decide))
        replace B := B.tch t7 hSR
        replace V := V.tch t7 hVR
        replace T := T.trans t7
        have k8 := B.cell 8
        have l8 := B.loose 8
        simp only [List.getElem?_toArray, List.getElem?_cons_zero, List.getElem?_cons_succ] at k8
        go_upto_region 14 with fail
        obtain ⟨z, hz⟩ : ∃ x, w7.setCell ⟨S, 8, none⟩ (.slice Ao o.length Co) = x := ⟨_, rfl⟩
        replace ols := own_keep ols (set_rows B (by decide) (.slice Ao o.length Co) (o := 8))
        replace oo := own_keep oo (set_rows B (by decide) (.slice Ao o.length Co) (o := 8))
        replace B := B.set_ 8 (.slice Ao o.length Co)
        replace V := V.far (p := ⟨S, 8, none⟩) hVS (.slice Ao o.length Co)
        replace h7 := h7.far (p := ⟨S, 8, none⟩) hRS (.slice Ao o.length Co)
        replace T := tch_new (o := 8) T hwS (.slice Ao o.length Co)
        rw [hz] at B V h7 T ols oo ⊢
        replace B : Blk z S 48 #[.bool x0, .bool x1, .bool x2, .int .i64 p, .int .i64 q, .string t, .slice Als ls.length Cls, .string f6, .slice Ao o.length Co, .string ⟨#[]⟩, .string ⟨#[]⟩] := B
        clear k8 l8 hz
        have cc := text_c R s i7 e7 z h7 hi7 hs
        go_wp2_with fail
        (with_reducible refine cc.mono ?_)
        rintro x w8 ⟨r, i8, e8, rfl, br, h8, hi8, t8, r8⟩
        clear cc
        replace ols := own_keep ols (rdq_rows h7 t8 (by decide))
        replace oo := own_keep oo (rdq_rows h7 t8 (by decide))
        replace B := B.tch t8 hSR
        replace V := V.tch t8 hVR
        replace T := T.trans t8
        have k9 := B.cell 9
        have l9 := B.loose 9
        simp only [List.getElem?_toArray, List.getElem?_cons_zero, List.getElem?_cons_succ] at k9
        go_upto_region 15 with fail
        obtain ⟨z, hz⟩ : ∃ x, w8.setCell ⟨S, 9, none⟩ (.string r) = x := ⟨_, rfl⟩
        replace ols := own_keep ols (set_rows B (by decide) (.string r) (o := 9))
        replace oo := own_keep oo (set_rows B (by decide) (.string r) (o := 9))
        replace B := B.set_ 9 (.string r)
        replace V := V.far (p := ⟨S, 9, none⟩) hVS (.string r)
        replace h8 := h8.far (p := ⟨S, 9, none⟩) hRS (.string r)
        replace T := tch_new (o := 9) T hwS (.string r)
        rw [hz] at B V h8 T ols oo ⊢
        replace B : Blk z S 48 #[.bool x0, .bool x1, .bool x2, .int .i64 p, .int .i64 q, .string t, .slice Als ls.length Cls, .string f6, .slice Ao o.length Co, .string r, .string ⟨#[]⟩] := B
        clear k9 l9 hz
        have cc := text_c R s i8 e8 z h8 hi8 hs
        go_wp2_with fail
        (with_reducible refine cc.mono ?_)
        rintro x w9 ⟨u, i9, e9, rfl, bu, h9, hi9, t9, r9⟩
        clear cc
        replace ols := own_keep ols (rdq_rows h8 t9 (by decide))
        replace oo := own_keep oo (rdq_rows h8 t9 (by decide))
        replace B := B.tch t9 hSR
        replace V := V.tch t9 hVR
        replace T := T.trans t9
        have k10 := B.cell 10
        have l10 := B.loose 10
        simp only [List.getElem?_toArray, List.getElem?_cons_zero, List.getElem?_cons_succ] at k10
        go_upto_region 16 with fail
        obtain ⟨z, hz⟩ : ∃ x, w9.setCell ⟨S, 10, none⟩ (.string u) = x := ⟨_, rfl⟩
        replace ols := own_keep ols (set_rows B (by decide) (.string u) (o := 10))
        replace oo := own_keep oo (set_rows B (by decide) (.string u) (o := 10))
        replace B := B.set_ 10 (.string u)
        replace V := V.far (p := ⟨S, 10, none⟩) hVS (.string u)
        replace h9 := h9.far (p := ⟨S, 10, none⟩) hRS (.string u)
        replace T := tch_new (o := 10) T hwS (.string u)
        rw [hz] at B V h9 T ols oo ⊢
        replace B : Blk z S 48 #[.bool x0, .bool x1, .bool x2, .int .i64 p, .int .i64 q, .string t, .slice Als ls.length Cls, .string f6, .slice Ao o.length Co, .string r, .string u] := B
        clear k10 l10 hz
        go_wp2_with (first
          | (refine wpList_load_row (by rfl) 48 (.tmp 5) (by rfl) S (by rfl) _ _ _ _ (by exact B) Try.underlying48 (by rfl) (by as_aux_lemma => kernel_rfl) ?_)
          | (refine wpList_store_row (by rfl) 48 (.tmp 2) (.tmp 69) (by rfl) w.heap.size #[.bool x0, .bool x1, .bool x2, .int .i64 p, .int .i64 q, .string t, .slice Als ls.length Cls, .string f6, .slice Ao o.length Co, .string r, .string u] (by rfl) (by rfl) 48 _ (by exact V) (by as_aux_lemma => kernel_rfl) (by rfl) (by simp [Value.oneCell']) ?_))
        obtain ⟨zf, hzf⟩ : ∃ x, z.setRow w.heap.size #[.bool x0, .bool x1, .bool x2, .int .i64 p, .int .i64 q, .string t, .slice Als ls.length Cls, .string f6, .slice Ao o.length Co, .string r, .string u] = x := ⟨_, rfl⟩
        have W : Blk zf w.heap.size 48 #[.bool x0, .bool x1, .bool x2, .int .i64 p, .int .i64 q, .string t, .slice Als ls.length Cls, .string f6, .slice Ao o.length Co, .string r, .string u] := by rw [← hzf]; exact Rowk.blk_row V _
        have hF : Rdq zf R s i9 e9 := by rw [← hzf]; exact Rowk.far_row h9 hRV _
        have TF : Tch (On R) w zf := by rw [← hzf]; exact Rowk.tch_row T (Nat.le_refl _) _
        replace ols : zf.ownsRow w.heap.size 9 1 (.slice Als ls.length Cls) ls.length (strs ls) := own_keep ols (fun g c hg => by rw [← hzf]; exact Rowk.other_row V _ g c _ _ (by decide) hg)
        replace oo : zf.ownsRow w.heap.size 3 1 (.slice Ao o.length Co) o.length (ints o) := own_keep oo (fun g c hg => by rw [← hzf]; exact Rowk.other_row V _ g c _ _ (by decide) hg)
        rw [hzf]
        refine bodyPost_ret (results_cell_row (p := 2) rfl _ _ w.heap.size 48 #[.bool x0, .bool x1, .bool x2, .int .i64 p, .int .i64 q, .string t, .slice Als ls.length Cls, .string f6, .slice Ao o.length Co, .string r, .string u] (0, 0) _ rfl (by exact W) Try.underlying48 rfl (by as_aux_lemma => kernel_rfl)) rfl ?_
        exact ⟨mkSd (f, p, q, t.data.toList, ls, f6.data.toList, o, r.data.toList, u.data.toList) Als Cls Ao Co, (f, p, q, t.data.toList, ls, f6.data.toList, o, r.data.toList, u.data.toList), i9, e9,
          by simp only [mkSd, Sd.v, bz_of, hf0, hf1, hf2], ⟨Als, Cls, Ao, Co, rfl, ols, oo, bp, bq, by rw [← Lib.size_eq]; exact bt, ⟨bls, dls⟩, by rw [← Lib.size_eq]; exact bf6, bo, by rw [← Lib.size_eq]; exact br, by rw [← Lib.size_eq]; exact bu⟩, hF, hi9, TF,
          (Run.pair r0 (Run.pair r2 (Run.pair r3 (Run.pair r4 (Run.pair r5 (Run.pair r6 (Run.pair r7 (Run.pair r8 r9)))))))).mono fun x hx => by
            obtain ⟨x1, x2, x3, x4, x5, x6, x7, x8, x9⟩ := x
            obtain ⟨rfl, rfl, rfl, rfl, rfl, rfl, rfl, rfl, rfl⟩ := hx
            rfl⟩
end StaRq
end Go.Proofs.Ytfkjogkpdebepaa
