/- The walk of state's reader.side. Conditions: texts that fit. -/
import Derived.Test.YtfkjogkpdebepaaStaG
namespace Go.Proofs.Ytfkjogkpdebepaa
open Go.RowKit
namespace StaG
open StaP StaR StaN StaL StaV StaA
def b0 (c : UInt8) : Bool := c.toNat % 2 == 1
def b1 (c : UInt8) : Bool := c.toNat / 2 % 2 == 1
def b2 (c : UInt8) : Bool := c.toNat / 4 % 2 == 1
theorem bit0 (c : UInt8) : (bits .and .u8 (c.toNat : Int) 1 != 0) = b0 c := by
  have : ∀ c : Fin 256, (bits .and .u8 (c.val : Int) 1 != 0) = (c.val % 2 == 1) := by decide +kernel
  exact this ⟨c.toNat, c.toNat_lt⟩
theorem bit1 (c : UInt8) : (bits .and .u8 (c.toNat : Int) 2 != 0) = b1 c := by
  have : ∀ c : Fin 256, (bits .and .u8 (c.val : Int) 2 != 0) = (c.val / 2 % 2 == 1) := by decide +kernel
  exact this ⟨c.toNat, c.toNat_lt⟩
theorem bit2 (c : UInt8) : (bits .and .u8 (c.toNat : Int) 4 != 0) = b2 c := by
  have : ∀ c : Fin 256, (bits .and .u8 (c.val : Int) 4 != 0) = (c.val / 4 % 2 == 1) := by decide +kernel
  exact this ⟨c.toNat, c.toNat_lt⟩
def mkSd (m : MSd) (la : Option Addr) (lc : Nat) (ga : Option Addr) (gc : Nat) : Sd :=
  ⟨b0 m.1, b1 m.1, b2 m.1, m.2.1, m.2.2.1, bz m.2.2.2.1, la, m.2.2.2.2.1.length, lc, bz m.2.2.2.2.2.1, ga, m.2.2.2.2.2.2.1.length, gc, bz m.2.2.2.2.2.2.2.1, bz m.2.2.2.2.2.2.2.2⟩
/-- What fits into a side. -/
def MOk (m : MSd) : Prop := I64 m.2.1 ∧ I64 m.2.2.1 ∧ m.2.2.2.1.length ≤ 65536 ∧ (m.2.2.2.2.1.length ≤ 65536 ∧ ∀ b ∈ m.2.2.2.2.1, b.length ≤ 65536) ∧ m.2.2.2.2.2.1.length ≤ 65536 ∧ m.2.2.2.2.2.2.1.length ≤ 65536 ∧ m.2.2.2.2.2.2.2.1.length ≤ 65536 ∧ m.2.2.2.2.2.2.2.2.length ≤ 65536
/-- A side that was read: its rows are its own. -/
def SdO (w : World) (B : Nat) (sd : Sd) (m : MSd) : Prop := ∃ la lc ga gc, sd = mkSd m la lc ga gc ∧ w.ownsRow B 9 1 (.slice la m.2.2.2.2.1.length lc) m.2.2.2.2.1.length (strs m.2.2.2.2.1) ∧
  w.ownsRow B 3 1 (.slice ga m.2.2.2.2.2.2.1.length gc) m.2.2.2.2.2.2.1.length (ints m.2.2.2.2.2.2.1) ∧ MOk m
theorem next_flag {s : ByteArray} {i e : Nat} {c : UInt8} {i' : Nat} {e' : Int} (h : SNx 7 s i e c i' e') (hi : i ≤ s.size) : ∃ e'' : Nat, e' = e'' ∧ i' ≤ s.size ∧ Run flagP (ab s i e) (ab s i' e'') (fun m => m = c) := by
  rcases h with ⟨he, rfl, rfl, rfl⟩ | ⟨he, rfl, rfl, rfl, hx⟩ | ⟨he, rfl, rfl, hd, hc, hlt⟩
  · have he : e ≠ 0 := by omega
    exact ⟨e, rfl, hi, by rw [ab_bad _ _ he]; exact Run.bad⟩
  · have he : e = 0 := by omega
    subst he
    refine ⟨1, rfl, hi, ?_⟩
    rw [ab_ok, ab_bad _ _ (by omega)]
    refine Run.err ?_
    cases hl : s.data.toList.drop i' with
    | nil => rfl
    | cons c r => rw [flagP, if_pos (hx c r hl)]
  · have he : e = 0 := by omega
    subst he
    refine ⟨0, rfl, by omega, ?_⟩
    rw [ab_ok, ab_ok, hd]
    refine Run.go (x := c) ?_ rfl
    rw [flagP, if_neg (by omega)]
/-- What 'side' answers. -/
def SPost (s : ByteArray) (R i e : Nat) (w : World) (x : Ending) (w' : World) : Prop :=
  ∃ (sd : Sd) (m : MSd) (i' e' : Nat), x = .returned sd.v ∧ SdO w' w.heap.size sd m ∧ Rdr w' R s i' e' ∧ i' ≤ s.size ∧ Tch (On R) w w' ∧ Run sideP (ab s i e) (ab s i' e') (fun a => a = m)
def zside : Array Value := #[.bool false, .bool false, .bool false, .int .i64 0, .int .i64 0, .string ⟨#[]⟩, .slice none 0 0, .string ⟨#[]⟩, .slice none 0 0, .string ⟨#[]⟩, .string ⟨#[]⟩]
theorem set_rows {w : World} {g o : Nat} {cs : Array Value} {t e : TypeId} (h : Blk w g t cs) (hte : t ≠ e) (v : Value) : StaL.Rows e w (w.setCell ⟨g, o, none⟩ v) := fun k _ hk =>
  (Below.heap_setCell w ⟨g, o, none⟩ v k (blk_ne hk h (Ne.symm hte))).trans hk
/-- Cells written one behind the other. -/
def sets (w : World) (g : Nat) : Nat → List Value → World
  | _, [] => w
  | o, v :: vs => sets (w.setCell ⟨g, o, none⟩ v) g (o + 1) vs
theorem sets_far {g h : Nat} {t : TypeId} {cs : Array Value} : ∀ {w : World} (_ : Blk w h t cs) (_ : h ≠ g) (o : Nat) (vs : List Value), Blk (sets w g o vs) h t cs := by
  intro w hb hg o vs
  induction vs generalizing w o with
  | nil => exact hb
  | cons v vs ih => exact ih (hb.far (p := ⟨g, o, none⟩) hg v) _
theorem sets_tch {S : Nat → Prop} {a : World} {g : Nat} : ∀ {w : World} (_ : Tch S a w) (_ : a.heap.size ≤ g) (o : Nat) (vs : List Value), Tch S a (sets w g o vs) := by
  intro w hb hg o vs
  induction vs generalizing w o with
  | nil => exact hb
  | cons v vs ih => exact ih (tch_new hb hg v) _
theorem sets_rows {g : Nat} {t e : TypeId} : ∀ {w : World} {cs : Array Value} (_ : Blk w g t cs) (_ : t ≠ e) (vs : List Value) (o : Nat), StaL.Rows e w (sets w g o vs) := by
  intro w cs hb hte vs o
  induction vs generalizing w o cs with
  | nil => exact fun _ _ h => h
  | cons v vs ih => exact fun k c hk => ih (hb.set_ o v) (o + 1) k c (set_rows hb hte v k c hk)
theorem sets_blk {g : Nat} {t : TypeId} : ∀ (vs : List Value) {w : World} (pre old : List Value) (o : Nat) (_ : Blk w g t (pre ++ old).toArray) (_ : pre.length = o) (_ : old.length = vs.length), Blk (sets w g o vs) g t (pre ++ vs).toArray := by
  intro vs
  induction vs with
  | nil => intro w pre old o hb _ hl; rw [List.length_nil, List.length_eq_zero_iff] at hl; subst hl; exact hb
  | cons v vs ih =>
    intro w pre old o hb ho hl
    cases old with
    | nil => simp at hl
    | cons a old =>
      have h1 := hb.set_ o v
      have e : (pre ++ a :: old).toArray.setIfInBounds o v = ((pre ++ [v]) ++ old).toArray := by
        subst ho; simp
      rw [e] at h1
      have h2 := ih (pre ++ [v]) old (o + 1) h1 (by simp [ho]) (by simpa using hl)
      rw [List.append_assoc] at h2
      exact h2
theorem own_mono {w : World} {B B' : Nat} {e : TypeId} {size : Nat} {v : Value} {n : Nat} {xs : List Value} (h : w.ownsRow B e size v n xs) (hb : B' ≤ B) : w.ownsRow B' e size v n xs := by
  refine ⟨h.1, ?_⟩
  rcases h.2 with hn | ⟨g, cap, cur, rfl, h1, rest⟩
  · exact .inl hn
  · exact .inr ⟨g, cap, cur, rfl, Nat.le_trans hb h1, rest⟩
set_option maxHeartbeats 12800000 in
set_option maxRecDepth 100000 in
theorem side_c (R : Nat) (s : ByteArray) (i e : Nat) (w : World) (h : Rdr w R s i e) (his : i ≤ s.size) (hs : s.size ≤ 4611686018427387904) :
    Calls Try.prog 20 #[.pointer (some ⟨R, 0, none⟩)] w (SPost s R i e w) := by
  have hR := h.lt
  have c0 := next_c R s i e 7 (w.alloc (.cells zside 48)) (h.alloc _) his hs (by omega)
  have V := Blk.new w 48 zside
  rw [show ((7 : Nat) : Int) = 7 from rfl] at c0
  have T := (Tch.refl (On R) w).alloc (.cells zside 48)
  obtain ⟨w0, hw0⟩ : ∃ x, w.alloc (.cells zside 48) = x := ⟨_, rfl⟩
  rw [hw0] at c0 V T
  unfold zside at hw0
  go_enter Try.func20, Try.ntmps20
  go_wp2_with fail
  (with_reducible refine c0.mono ?_)
  rintro x w1 ⟨c, i1, e1, rfl, h1, t1, hN⟩
  obtain ⟨e1, rfl, hi1, r0⟩ := next_flag hN his
  have hb0 := bit0 c
  have hb1 := bit1 c
  have hb2 := bit2 c
  have hVS : w.heap.size ≠ w1.heap.size := by have := (V.tch t1 (by show w.heap.size ≠ R; omega)).lt; omega
  have hRS : R ≠ w1.heap.size := by have := h1.lt; omega
  have hwS : w.heap.size ≤ w1.heap.size := (T.trans t1).size
  have hSR : ¬ On R w1.heap.size := fun e => hRS e.symm
  have hRV : R ≠ w.heap.size := by omega
  have hVR : ¬ On R w.heap.size := by show w.heap.size ≠ R; omega
  go_wp2_with fail
  obtain ⟨z, hz⟩ : ∃ x, w1.alloc (.cells #[.bool (b0 c), .bool (b1 c), .bool (b2 c), .int .i64 0, .int .i64 0, .string ⟨#[]⟩, .slice none 0 0, .string ⟨#[]⟩, .slice none 0 0, .string ⟨#[]⟩, .string ⟨#[]⟩] 48) = x := ⟨_, rfl⟩
  have B : Blk z w1.heap.size 48 #[.bool (b0 c), .bool (b1 c), .bool (b2 c), .int .i64 0, .int .i64 0, .string ⟨#[]⟩, .slice none 0 0, .string ⟨#[]⟩, .slice none 0 0, .string ⟨#[]⟩, .string ⟨#[]⟩] := by rw [← hz]; exact Blk.new _ _ _
  have V1 : Blk z w.heap.size 48 zside := by rw [← hz]; exact (V.tch t1 hVR).alloc _
  have h0 : Rdr z R s i1 e1 := by rw [← hz]; exact h1.alloc _
  have T0 : Tch (On R) w z := by rw [← hz]; exact (T.trans t1).alloc _
  clear V T h1 t1 hN c0
  have V := V1
  have T := T0
  clear V1 T0
  have c2 := num_c R s i1 e1 z h0 hi1 hs
  rw [hz]
  (with_reducible refine c2.mono ?_)
  rintro x w2 ⟨p, i2, e2, rfl, bp, h2, hi2, t2, r2⟩
  clear c2 hz
  replace B := B.tch t2 hSR
  replace V := V.tch t2 hVR
  replace T := T.trans t2
  have k3 := B.cell 3
  have l3 := B.loose 3
  simp only [List.getElem?_toArray, List.getElem?_cons_zero, List.getElem?_cons_succ] at k3
  go_wp2_with fail
  obtain ⟨z, hz⟩ : ∃ x, w2.setCell ⟨w1.heap.size, 3, none⟩ (.int .i64 p) = x := ⟨_, rfl⟩
  replace B := B.set_ 3 (.int .i64 p)
  replace V := V.far (p := ⟨w1.heap.size, 3, none⟩) hVS (.int .i64 p)
  replace h2 := h2.far (p := ⟨w1.heap.size, 3, none⟩) hRS (.int .i64 p)
  replace T := tch_new (o := 3) T hwS (.int .i64 p)
  rw [hz] at B V h2 T
  replace B : Blk z w1.heap.size 48 #[.bool (b0 c), .bool (b1 c), .bool (b2 c), .int .i64 p, .int .i64 0, .string ⟨#[]⟩, .slice none 0 0, .string ⟨#[]⟩, .slice none 0 0, .string ⟨#[]⟩, .string ⟨#[]⟩] := B
  have c3 := num_c R s i2 e2 z h2 hi2 hs
  rw [hz]
  (with_reducible refine c3.mono ?_)
  rintro x w3 ⟨q, i3, e3, rfl, bq, h3, hi3, t3, r3⟩
  clear c3 hz
  replace B := B.tch t3 hSR
  replace V := V.tch t3 hVR
  replace T := T.trans t3
  have k4 := B.cell 4
  have l4 := B.loose 4
  simp only [List.getElem?_toArray, List.getElem?_cons_zero, List.getElem?_cons_succ] at k4
  go_wp2_with fail
  obtain ⟨z, hz⟩ : ∃ x, w3.setCell ⟨w1.heap.size, 4, none⟩ (.int .i64 q) = x := ⟨_, rfl⟩
  replace B := B.set_ 4 (.int .i64 q)
  replace V := V.far (p := ⟨w1.heap.size, 4, none⟩) hVS (.int .i64 q)
  replace h3 := h3.far (p := ⟨w1.heap.size, 4, none⟩) hRS (.int .i64 q)
  replace T := tch_new (o := 4) T hwS (.int .i64 q)
  rw [hz] at B V h3 T
  replace B : Blk z w1.heap.size 48 #[.bool (b0 c), .bool (b1 c), .bool (b2 c), .int .i64 p, .int .i64 q, .string ⟨#[]⟩, .slice none 0 0, .string ⟨#[]⟩, .slice none 0 0, .string ⟨#[]⟩, .string ⟨#[]⟩] := B
  have c4 := text_c R s i3 e3 z h3 hi3 hs
  rw [hz]
  (with_reducible refine c4.mono ?_)
  rintro x w4 ⟨t, i4, e4, rfl, bt, h4, hi4, t4, r4⟩
  clear c4 hz
  replace B := B.tch t4 hSR
  replace V := V.tch t4 hVR
  replace T := T.trans t4
  have k5 := B.cell 5
  have l5 := B.loose 5
  simp only [List.getElem?_toArray, List.getElem?_cons_zero, List.getElem?_cons_succ] at k5
  go_wp2_with fail
  obtain ⟨z, hz⟩ : ∃ x, w4.setCell ⟨w1.heap.size, 5, none⟩ (.string t) = x := ⟨_, rfl⟩
  replace B := B.set_ 5 (.string t)
  replace V := V.far (p := ⟨w1.heap.size, 5, none⟩) hVS (.string t)
  replace h4 := h4.far (p := ⟨w1.heap.size, 5, none⟩) hRS (.string t)
  replace T := tch_new (o := 5) T hwS (.string t)
  rw [hz] at B V h4 T
  replace B : Blk z w1.heap.size 48 #[.bool (b0 c), .bool (b1 c), .bool (b2 c), .int .i64 p, .int .i64 q, .string t, .slice none 0 0, .string ⟨#[]⟩, .slice none 0 0, .string ⟨#[]⟩, .string ⟨#[]⟩] := B
  have c5 := texts_c R s i4 e4 z h4 hi4 hs
  rw [hz]
  (with_reducible refine c5.mono ?_)
  rintro x w5 ⟨vls, ls, i5, e5, rfl, ols, bls, dls, h5, hi5, t5, r5⟩
  clear c5 hz
  obtain ⟨Als, Cls, rfl⟩ := own_shape ols
  replace ols := own_mono ols T.size
  replace B := B.tch t5 hSR
  replace V := V.tch t5 hVR
  replace T := T.trans t5
  have k6 := B.cell 6
  have l6 := B.loose 6
  simp only [List.getElem?_toArray, List.getElem?_cons_zero, List.getElem?_cons_succ] at k6
  go_wp2_with fail
  obtain ⟨z, hz⟩ : ∃ x, w5.setCell ⟨w1.heap.size, 6, none⟩ (.slice Als ls.length Cls) = x := ⟨_, rfl⟩
  replace ols := own_keep ols (set_rows B (by decide) (.slice Als ls.length Cls) (o := 6))
  replace B := B.set_ 6 (.slice Als ls.length Cls)
  replace V := V.far (p := ⟨w1.heap.size, 6, none⟩) hVS (.slice Als ls.length Cls)
  replace h5 := h5.far (p := ⟨w1.heap.size, 6, none⟩) hRS (.slice Als ls.length Cls)
  replace T := tch_new (o := 6) T hwS (.slice Als ls.length Cls)
  rw [hz] at B V h5 T ols
  replace B : Blk z w1.heap.size 48 #[.bool (b0 c), .bool (b1 c), .bool (b2 c), .int .i64 p, .int .i64 q, .string t, .slice Als ls.length Cls, .string ⟨#[]⟩, .slice none 0 0, .string ⟨#[]⟩, .string ⟨#[]⟩] := B
  have c6 := text_c R s i5 e5 z h5 hi5 hs
  rw [hz]
  (with_reducible refine c6.mono ?_)
  rintro x w6 ⟨f, i6, e6, rfl, bf, h6, hi6, t6, r6⟩
  clear c6 hz
  replace ols := own_keep ols (rdr_rows h5 t6 (by decide))
  replace B := B.tch t6 hSR
  replace V := V.tch t6 hVR
  replace T := T.trans t6
  have k7 := B.cell 7
  have l7 := B.loose 7
  simp only [List.getElem?_toArray, List.getElem?_cons_zero, List.getElem?_cons_succ] at k7
  go_wp2_with fail
  obtain ⟨z, hz⟩ : ∃ x, w6.setCell ⟨w1.heap.size, 7, none⟩ (.string f) = x := ⟨_, rfl⟩
  replace ols := own_keep ols (set_rows B (by decide) (.string f) (o := 7))
  replace B := B.set_ 7 (.string f)
  replace V := V.far (p := ⟨w1.heap.size, 7, none⟩) hVS (.string f)
  replace h6 := h6.far (p := ⟨w1.heap.size, 7, none⟩) hRS (.string f)
  replace T := tch_new (o := 7) T hwS (.string f)
  rw [hz] at B V h6 T ols
  replace B : Blk z w1.heap.size 48 #[.bool (b0 c), .bool (b1 c), .bool (b2 c), .int .i64 p, .int .i64 q, .string t, .slice Als ls.length Cls, .string f, .slice none 0 0, .string ⟨#[]⟩, .string ⟨#[]⟩] := B
  have c7 := ages_c R s i6 e6 z h6 hi6 hs
  rw [hz]
  (with_reducible refine c7.mono ?_)
  rintro x w7 ⟨vo, o, i7, e7, rfl, oo, bo, h7, hi7, t7, r7⟩
  clear c7 hz
  obtain ⟨Ao, Co, rfl⟩ := own_shape oo
  replace oo := own_mono oo T.size
  replace ols := own_keep ols (rdr_rows h6 t7 (by decide))
  replace B := B.tch t7 hSR
  replace V := V.tch t7 hVR
  replace T := T.trans t7
  have k8 := B.cell 8
  have l8 := B.loose 8
  simp only [List.getElem?_toArray, List.getElem?_cons_zero, List.getElem?_cons_succ] at k8
  go_wp2_with fail
  obtain ⟨z, hz⟩ : ∃ x, w7.setCell ⟨w1.heap.size, 8, none⟩ (.slice Ao o.length Co) = x := ⟨_, rfl⟩
  replace ols := own_keep ols (set_rows B (by decide) (.slice Ao o.length Co) (o := 8))
  replace oo := own_keep oo (set_rows B (by decide) (.slice Ao o.length Co) (o := 8))
  replace B := B.set_ 8 (.slice Ao o.length Co)
  replace V := V.far (p := ⟨w1.heap.size, 8, none⟩) hVS (.slice Ao o.length Co)
  replace h7 := h7.far (p := ⟨w1.heap.size, 8, none⟩) hRS (.slice Ao o.length Co)
  replace T := tch_new (o := 8) T hwS (.slice Ao o.length Co)
  rw [hz] at B V h7 T ols oo
  replace B : Blk z w1.heap.size 48 #[.bool (b0 c), .bool (b1 c), .bool (b2 c), .int .i64 p, .int .i64 q, .string t, .slice Als ls.length Cls, .string f, .slice Ao o.length Co, .string ⟨#[]⟩, .string ⟨#[]⟩] := B
  have c8 := text_c R s i7 e7 z h7 hi7 hs
  rw [hz]
  (with_reducible refine c8.mono ?_)
  rintro x w8 ⟨r, i8, e8, rfl, br, h8, hi8, t8, r8⟩
  clear c8 hz
  replace ols := own_keep ols (rdr_rows h7 t8 (by decide))
  replace oo := own_keep oo (rdr_rows h7 t8 (by decide))
  replace B := B.tch t8 hSR
  replace V := V.tch t8 hVR
  replace T := T.trans t8
  have k9 := B.cell 9
  have l9 := B.loose 9
  simp only [List.getElem?_toArray, List.getElem?_cons_zero, List.getElem?_cons_succ] at k9
  go_wp2_with fail
  obtain ⟨z, hz⟩ : ∃ x, w8.setCell ⟨w1.heap.size, 9, none⟩ (.string r) = x := ⟨_, rfl⟩
  replace ols := own_keep ols (set_rows B (by decide) (.string r) (o := 9))
  replace oo := own_keep oo (set_rows B (by decide) (.string r) (o := 9))
  replace B := B.set_ 9 (.string r)
  replace V := V.far (p := ⟨w1.heap.size, 9, none⟩) hVS (.string r)
  replace h8 := h8.far (p := ⟨w1.heap.size, 9, none⟩) hRS (.string r)
  replace T := tch_new (o := 9) T hwS (.string r)
  rw [hz] at B V h8 T ols oo
  replace B : Blk z w1.heap.size 48 #[.bool (b0 c), .bool (b1 c), .bool (b2 c), .int .i64 p, .int .i64 q, .string t, .slice Als ls.length Cls, .string f, .slice Ao o.length Co, .string r, .string ⟨#[]⟩] := B
  have c9 := text_c R s i8 e8 z h8 hi8 hs
  rw [hz]
  (with_reducible refine c9.mono ?_)
  rintro x w9 ⟨u, i9, e9, rfl, bu, h9, hi9, t9, r9⟩
  clear c9 hz
  replace ols := own_keep ols (rdr_rows h8 t9 (by decide))
  replace oo := own_keep oo (rdr_rows h8 t9 (by decide))
  replace B := B.tch t9 hSR
  replace V := V.tch t9 hVR
  replace T := T.trans t9
  have kb0 := B.cell 0
  have kv0 := V.cell 0
  have lv0 := V.loose 0
  have kb1 := B.cell 1
  have kv1 := V.cell 1
  have lv1 := V.loose 1
  have kb2 := B.cell 2
  have kv2 := V.cell 2
  have lv2 := V.loose 2
  have kb3 := B.cell 3
  have kv3 := V.cell 3
  have lv3 := V.loose 3
  have kb4 := B.cell 4
  have kv4 := V.cell 4
  have lv4 := V.loose 4
  have kb5 := B.cell 5
  have kv5 := V.cell 5
  have lv5 := V.loose 5
  have kb6 := B.cell 6
  have kv6 := V.cell 6
  have lv6 := V.loose 6
  have kb7 := B.cell 7
  have kv7 := V.cell 7
  have lv7 := V.loose 7
  have kb8 := B.cell 8
  have kv8 := V.cell 8
  have lv8 := V.loose 8
  have kb9 := B.cell 9
  have kv9 := V.cell 9
  have lv9 := V.loose 9
  have kb10 := B.cell 10
  have kv10 := V.cell 10
  have lv10 := V.loose 10
  have l10 := B.loose 10
  unfold zside at kv0 kv1 kv2 kv3 kv4 kv5 kv6 kv7 kv8 kv9 kv10
  simp only [List.getElem?_toArray, List.getElem?_cons_zero, List.getElem?_cons_succ] at kb0 kv0 kb1 kv1 kb2 kv2 kb3 kv3 kb4 kv4 kb5 kv5 kb6 kv6 kb7 kv7 kb8 kv8 kb9 kv9 kb10 kv10
  go_wp2
  obtain ⟨z, hz⟩ : ∃ x, w9.setCell ⟨w1.heap.size, 10, none⟩ (.string u) = x := ⟨_, rfl⟩
  replace ols := own_keep ols (set_rows B (by decide) (.string u) (o := 10))
  replace oo := own_keep oo (set_rows B (by decide) (.string u) (o := 10))
  replace V := V.far (p := ⟨w1.heap.size, 10, none⟩) hVS (.string u)
  replace h9 := h9.far (p := ⟨w1.heap.size, 10, none⟩) hRS (.string u)
  replace T := tch_new (o := 10) T hwS (.string u)
  clear B kb0 kv0 lv0 kb1 kv1 lv1 kb2 kv2 lv2 kb3 kv3 lv3 kb4 kv4 lv4 kb5 kv5 lv5 kb6 kv6 lv6 kb7 kv7 lv7 kb8 kv8 lv8 kb9 kv9 lv9 kb10 kv10 lv10 l10
  rw [hz] at V h9 T ols oo ⊢
  obtain ⟨zz, hzz⟩ : ∃ x, sets z w.heap.size 0 [.bool (b0 c), .bool (b1 c), .bool (b2 c), .int .i64 p, .int .i64 q, .string t, .slice Als ls.length Cls, .string f, .slice Ao o.length Co, .string r, .string u] = x := ⟨_, rfl⟩
  unfold zside at V
  have W : Blk zz w.heap.size 48 #[.bool (b0 c), .bool (b1 c), .bool (b2 c), .int .i64 p, .int .i64 q, .string t, .slice Als ls.length Cls, .string f, .slice Ao o.length Co, .string r, .string u] := by rw [← hzz]; exact sets_blk [.bool (b0 c), .bool (b1 c), .bool (b2 c), .int .i64 p, .int .i64 q, .string t, .slice Als ls.length Cls, .string f, .slice Ao o.length Co, .string r, .string u] [] [.bool (false), .bool (false), .bool (false), .int .i64 0, .int .i64 0, .string ⟨#[]⟩, .slice none 0 0, .string ⟨#[]⟩, .slice none 0 0, .string ⟨#[]⟩, .string ⟨#[]⟩] 0 V rfl rfl
  have hF : Rdr zz R s i9 e9 := by rw [← hzz]; exact sets_far h9 hRV _ _
  have TF : Tch (On R) w zz := by rw [← hzz]; exact sets_tch T (Nat.le_refl _) _ _
  replace ols := own_keep ols (sets_rows V (by decide) [.bool (b0 c), .bool (b1 c), .bool (b2 c), .int .i64 p, .int .i64 q, .string t, .slice Als ls.length Cls, .string f, .slice Ao o.length Co, .string r, .string u] 0)
  replace oo := own_keep oo (sets_rows V (by decide) [.bool (b0 c), .bool (b1 c), .bool (b2 c), .int .i64 p, .int .i64 q, .string t, .slice Als ls.length Cls, .string f, .slice Ao o.length Co, .string r, .string u] 0)
  rw [hzz] at ols oo
  simp only [sets] at hzz
  rw [hzz]
  have k0 := W.cell 0
  have k1 := W.cell 1
  have k2 := W.cell 2
  have k3 := W.cell 3
  have k4 := W.cell 4
  have k5 := W.cell 5
  have k6 := W.cell 6
  have k7 := W.cell 7
  have k8 := W.cell 8
  have k9 := W.cell 9
  have k10 := W.cell 10
  simp only [List.getElem?_toArray, List.getElem?_cons_zero, List.getElem?_cons_succ] at k0 k1 k2 k3 k4 k5 k6 k7 k8 k9 k10
  refine bodyPost_ret (by simp [results, Try.results20, go_sem, k0, k1, k2, k3, k4, k5, k6, k7, k8, k9, k10]; try rfl) rfl ?_
  exact ⟨mkSd (c, p, q, t.data.toList, ls, f.data.toList, o, r.data.toList, u.data.toList) Als Cls Ao Co, (c, p, q, t.data.toList, ls, f.data.toList, o, r.data.toList, u.data.toList), i9, e9,
    by simp only [mkSd, Sd.v, bz_of], ⟨Als, Cls, Ao, Co, rfl, ols, oo, bp, bq, by rw [← Lib.size_eq]; exact bt, ⟨bls, dls⟩, by rw [← Lib.size_eq]; exact bf, bo, by rw [← Lib.size_eq]; exact br, by rw [← Lib.size_eq]; exact bu⟩, hF, hi9, TF,
    (Run.pair r0 (Run.pair r2 (Run.pair r3 (Run.pair r4 (Run.pair r5 (Run.pair r6 (Run.pair r7 (Run.pair r8 r9)))))))).mono fun x hx => by
      obtain ⟨x1, x2, x3, x4, x5, x6, x7, x8, x9⟩ := x
      obtain ⟨rfl, rfl, rfl, rfl, rfl, rfl, rfl, rfl, rfl⟩ := hx
      rfl⟩
end StaG
end Go.Proofs.Ytfkjogkpdebepaa
