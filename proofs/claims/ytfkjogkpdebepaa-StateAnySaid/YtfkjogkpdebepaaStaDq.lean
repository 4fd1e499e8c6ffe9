/- The walk of the reference's Decode. Conditions: texts that fit. -/
import Derived.Test.YtfkjogkpdebepaaStaSq
import Derived.Test.YtfkjogkpdebepaaStaD
import Derived.Deep.DeepCutAuto
namespace Go.Proofs.Ytfkjogkpdebepaa
open Go.RowKit
namespace StaRq
open StaP StaR StaN StaL StaV StaG StaA StaW StaD Rowk
attribute [local go_sem high] cells22 loads22
attribute [local go_sem] run_row22
/-- While the variables are read. -/
def QVL (s : ByteArray) (R i er N V0 : Nat) (f : Value → Array Value) (w : World) (nv : Value) (wr : World) : Prop :=
  ∃ (k m : Nat) (o : List MVr) (A : Option Addr) (c j e' : Nat), nv = .int .i64 k ∧ Blk wr N NT (f (.slice A m c)) ∧ Blk wr V0 NT znode ∧ wr.ownsRow w.heap.size 45 2 (.slice A m c) m (vcells o) ∧ Rdq wr R s j e' ∧ j ≤ s.size ∧ Tch (On R) w wr ∧ m + k ≤ 65536 ∧ (∀ b ∈ o, VOk b) ∧ Hid (Stp (onto varP) [] o s i er j e' k)
/-- Behind them. -/
def QVE (s : ByteArray) (R i er N V0 : Nat) (f : Value → Array Value) (w : World) (wr : World) : Prop :=
  ∃ (o : List MVr) (A : Option Addr) (c j e' : Nat), Blk wr N NT (f (.slice A o.length c)) ∧ Blk wr V0 NT znode ∧ wr.ownsRow w.heap.size 45 2 (.slice A o.length c) o.length (vcells o) ∧ Rdq wr R s j e' ∧ j ≤ s.size ∧ Tch (On R) w wr ∧ o.length ≤ 65536 ∧ (∀ b ∈ o, VOk b) ∧ Run (listP varP) (ab s i er) (ab s j e') (fun m => m = o)
theorem qv_end {s : ByteArray} {R i er N V0 : Nat} {f : Value → Array Value} {w wr : World} {k m : Nat} {o : List MVr} {A : Option Addr} {c j e' : Nat} (h1 : Blk wr N NT (f (.slice A m c))) (h2 : Blk wr V0 NT znode) (h3 : wr.ownsRow w.heap.size 45 2 (.slice A m c) m (vcells o)) (h4 : Rdq wr R s j e') (h5 : j ≤ s.size) (h6 : Tch (On R) w wr) (h7 : m ≤ 65536) (h8 : ∀ b ∈ o, VOk b)
    (h : Stp (onto varP) [] o s i er j e' k) (hk : k = 0 ∨ e' ≠ 0) : QVE s R i er N V0 f w wr := by
  have hl := h3.1
  rw [vcells_len] at hl
  have hl : m = o.length := by omega
  subst hl
  refine ⟨o, A, c, j, e', h1, h2, h3, h4, h5, h6, h7, h8, run_eq (list_onto varP) ?_⟩
  by_cases he : e' = 0
  · rcases hk with rfl | hk
    · exact h.stop
    · exact absurd he hk
  · exact h.fail he
/-- While the sides are read. -/
def QDL (s : ByteArray) (R i er N V0 : Nat) (f : Value → Array Value) (KP : World → Prop) (w : World) (nv : Value) (wr : World) : Prop :=
  ∃ (k m : Nat) (o : List MSd) (ds : List Sd) (A : Option Addr) (c j e' : Nat), nv = .int .i64 k ∧ Blk wr N NT (f (.slice A m c)) ∧ Blk wr V0 NT znode ∧ wr.ownsRow w.heap.size 48 11 (.slice A m c) m (scells ds) ∧ SdsO wr w.heap.size ds o ∧ KP wr ∧ Rdq wr R s j e' ∧ j ≤ s.size ∧ Tch (On R) w wr ∧ m + k ≤ 65536 ∧ Hid (Stp (onto sideP) [] o s i er j e' k)
set_option maxHeartbeats 51200000 in
set_option maxRecDepth 100000 in
theorem decode_c (s : ByteArray) (w : World) (hs : s.size ≤ 4611686018427387904) :
    Calls Try.prog 8 #[.string s] w (DPost s w) := by
  obtain ⟨iV, hiV, hzV0, hzV1, hzV2⟩ := info_parts info_Var
  obtain ⟨iS, hiS, hzS0, hzS1, hzS2⟩ := info_parts info_Side
  obtain ⟨V0, hV0⟩ : ∃ x, w.heap.size = x := ⟨_, rfl⟩
  obtain ⟨R, hR⟩ : ∃ R, V0 + 1 = R := ⟨_, rfl⟩
  obtain ⟨w0, hw0⟩ : ∃ x, (w.alloc (.cells #[.int .i64 0, .slice none 0 0, .string ⟨#[]⟩, .string ⟨#[]⟩, .string ⟨#[]⟩, .string ⟨#[]⟩, .string ⟨#[]⟩, .string ⟨#[]⟩, .string ⟨#[]⟩, .string ⟨#[]⟩, .string ⟨#[]⟩, .string ⟨#[]⟩, .slice none 0 0, .int .i64 0, .int .i64 0, .int .i64 0, .int .i64 0, .int .i64 0, .slice none 0 0, .slice none 0 0, .slice none 0 0, .int .i64 0] NT)).alloc (.cells #[.string s, .int .i64 0, .int .i64 0] QT) = x := ⟨_, rfl⟩
  have V : Blk w0 V0 NT #[.int .i64 0, .slice none 0 0, .string ⟨#[]⟩, .string ⟨#[]⟩, .string ⟨#[]⟩, .string ⟨#[]⟩, .string ⟨#[]⟩, .string ⟨#[]⟩, .string ⟨#[]⟩, .string ⟨#[]⟩, .string ⟨#[]⟩, .string ⟨#[]⟩, .slice none 0 0, .int .i64 0, .int .i64 0, .int .i64 0, .int .i64 0, .int .i64 0, .slice none 0 0, .slice none 0 0, .slice none 0 0, .int .i64 0] := by rw [← hw0, ← hV0]; exact (Blk.new _ _ _).alloc _
  have h0 : Rdq w0 R s (0 : Nat) (0 : Nat) := by rw [← hw0, ← hR, ← hV0]; exact Blk.new1 _ _ _ _
  have T : Tch (On R) w w0 := by rw [← hw0]; exact ((Tch.refl _ w).alloc _).alloc _
  have hRV : R ≠ V0 := by omega
  have hVR : ¬ On R V0 := fun e => hRV e.symm
  have c1 := num_c R s 0 0 w0 h0 (Nat.zero_le _) hs
  go_enter Try.func8, Try.ntmps8
  go_wp2_with fail
  try rw [hR]
  (with_reducible refine c1.mono ?_)
  rintro x w1 ⟨ta, i1, e1, rfl, bta, h1, hi1, t1, -, r1⟩
  have hV1 := V.tch t1 hVR
  have hVS : V0 ≠ w1.heap.size := by have := hV1.lt; omega
  have hRS : R ≠ w1.heap.size := by have := h1.lt; omega
  have hwS : w.heap.size ≤ w1.heap.size := (T.trans t1).size
  have hSR : ¬ On R w1.heap.size := fun e => hRS e.symm
  clear c1 hw0
  go_wp2_with (refine wpList_store_row rfl 31 (.tmp 6) (.tmp 16) rfl w1.heap.size #[.int .i64 0, .slice none 0 0, .string ⟨#[]⟩, .string ⟨#[]⟩, .string ⟨#[]⟩, .string ⟨#[]⟩, .string ⟨#[]⟩, .string ⟨#[]⟩, .string ⟨#[]⟩, .string ⟨#[]⟩, .string ⟨#[]⟩, .string ⟨#[]⟩, .slice none 0 0, .int .i64 0, .int .i64 0, .int .i64 0, .int .i64 0, .int .i64 0, .slice none 0 0, .slice none 0 0, .slice none 0 0, .int .i64 ta] rfl rfl 31 _ (Blk.new w1 31 #[.int .i64 0, .slice none 0 0, .string ⟨#[]⟩, .string ⟨#[]⟩, .string ⟨#[]⟩, .string ⟨#[]⟩, .string ⟨#[]⟩, .string ⟨#[]⟩, .string ⟨#[]⟩, .string ⟨#[]⟩, .string ⟨#[]⟩, .string ⟨#[]⟩, .slice none 0 0, .int .i64 0, .int .i64 0, .int .i64 0, .int .i64 0, .int .i64 0, .slice none 0 0, .slice none 0 0, .slice none 0 0, .int .i64 0]) (by as_aux_lemma => kernel_rfl) rfl (by simp [Value.oneCell']) ?_)
  obtain ⟨z, hz⟩ : ∃ x, (w1.alloc (.cells #[.int .i64 0, .slice none 0 0, .string ⟨#[]⟩, .string ⟨#[]⟩, .string ⟨#[]⟩, .string ⟨#[]⟩, .string ⟨#[]⟩, .string ⟨#[]⟩, .string ⟨#[]⟩, .string ⟨#[]⟩, .string ⟨#[]⟩, .string ⟨#[]⟩, .slice none 0 0, .int .i64 0, .int .i64 0, .int .i64 0, .int .i64 0, .int .i64 0, .slice none 0 0, .slice none 0 0, .slice none 0 0, .int .i64 0] 31)).setRow w1.heap.size #[.int .i64 0, .slice none 0 0, .string ⟨#[]⟩, .string ⟨#[]⟩, .string ⟨#[]⟩, .string ⟨#[]⟩, .string ⟨#[]⟩, .string ⟨#[]⟩, .string ⟨#[]⟩, .string ⟨#[]⟩, .string ⟨#[]⟩, .string ⟨#[]⟩, .slice none 0 0, .int .i64 0, .int .i64 0, .int .i64 0, .int .i64 0, .int .i64 0, .slice none 0 0, .slice none 0 0, .slice none 0 0, .int .i64 ta] = x := ⟨_, rfl⟩
  have B : Blk z w1.heap.size NT #[.int .i64 0, .slice none 0 0, .string ⟨#[]⟩, .string ⟨#[]⟩, .string ⟨#[]⟩, .string ⟨#[]⟩, .string ⟨#[]⟩, .string ⟨#[]⟩, .string ⟨#[]⟩, .string ⟨#[]⟩, .string ⟨#[]⟩, .string ⟨#[]⟩, .slice none 0 0, .int .i64 0, .int .i64 0, .int .i64 0, .int .i64 0, .int .i64 0, .slice none 0 0, .slice none 0 0, .slice none 0 0, .int .i64 ta] := by rw [← hz]; exact blk_row (Blk.new _ _ _) _
  have V1 : Blk z V0 NT #[.int .i64 0, .slice none 0 0, .string ⟨#[]⟩, .string ⟨#[]⟩, .string ⟨#[]⟩, .string ⟨#[]⟩, .string ⟨#[]⟩, .string ⟨#[]⟩, .string ⟨#[]⟩, .string ⟨#[]⟩, .string ⟨#[]⟩, .string ⟨#[]⟩, .slice none 0 0, .int .i64 0, .int .i64 0, .int .i64 0, .int .i64 0, .int .i64 0, .slice none 0 0, .slice none 0 0, .slice none 0 0, .int .i64 0] := by rw [← hz]; exact far_row (hV1.alloc _) hVS _
  have h0 : Rdq z R s i1 e1 := by rw [← hz]; exact far_row (h1.alloc _) hRS _
  have T0 : Tch (On R) w z := by rw [← hz]; exact tch_row ((T.trans t1).alloc _) hwS _
  clear V T h1 t1 hV1
  generalize w1.heap.size = N at *
  have V := V1
  have T := T0
  clear V1 T0
  have c2 := num_c R s i1 e1 z h0 hi1 hs
  rw [hz]
  (with_reducible refine c2.mono ?_)
  rintro x w2 ⟨pc, i2, e2, rfl, bpc, h2, hi2, t2, -, r2⟩
  clear c2 hz
  replace B := B.tch t2 hSR
  replace V := V.tch t2 hVR
  replace T := T.trans t2
  have k0 := B.cell 0
  have l0 := B.loose 0
  simp only [List.getElem?_toArray, List.getElem?_cons_zero] at k0
  go_wp2_with fail
  obtain ⟨z, hz⟩ : ∃ x, w2.setCell ⟨N, 0, none⟩ (.int .i64 pc) = x := ⟨_, rfl⟩
  replace B := B.set_ 0 (.int .i64 pc)
  replace V := V.far (p := ⟨N, 0, none⟩) hVS (.int .i64 pc)
  replace h2 := h2.far (p := ⟨N, 0, none⟩) hRS (.int .i64 pc)
  replace T := tch_new (o := 0) T hwS (.int .i64 pc)
  rw [hz] at B V h2 T
  replace B : Blk z N NT #[.int .i64 pc, .slice none 0 0, .string ⟨#[]⟩, .string ⟨#[]⟩, .string ⟨#[]⟩, .string ⟨#[]⟩, .string ⟨#[]⟩, .string ⟨#[]⟩, .string ⟨#[]⟩, .string ⟨#[]⟩, .string ⟨#[]⟩, .string ⟨#[]⟩, .slice none 0 0, .int .i64 0, .int .i64 0, .int .i64 0, .int .i64 0, .int .i64 0, .slice none 0 0, .slice none 0 0, .slice none 0 0, .int .i64 ta] := B
  clear k0 l0
  have c3 := num_c R s i2 e2 z h2 hi2 hs
  rw [hz]
  (with_reducible refine c3.mono ?_)
  rintro x w3 ⟨md, i3, e3, rfl, bmd, h3, hi3, t3, -, r3⟩
  clear c3 hz
  replace B := B.tch t3 hSR
  replace V := V.tch t3 hVR
  replace T := T.trans t3
  have k13 := B.cell 13
  have l13 := B.loose 13
  simp only [List.getElem?_toArray, List.getElem?_cons_zero, List.getElem?_cons_succ] at k13
  go_wp2_with fail
  obtain ⟨z, hz⟩ : ∃ x, w3.setCell ⟨N, 13, none⟩ (.int .i64 md) = x := ⟨_, rfl⟩
  replace B := B.set_ 13 (.int .i64 md)
  replace V := V.far (p := ⟨N, 13, none⟩) hVS (.int .i64 md)
  replace h3 := h3.far (p := ⟨N, 13, none⟩) hRS (.int .i64 md)
  replace T := tch_new (o := 13) T hwS (.int .i64 md)
  rw [hz] at B V h3 T
  replace B : Blk z N NT #[.int .i64 pc, .slice none 0 0, .string ⟨#[]⟩, .string ⟨#[]⟩, .string ⟨#[]⟩, .string ⟨#[]⟩, .string ⟨#[]⟩, .string ⟨#[]⟩, .string ⟨#[]⟩, .string ⟨#[]⟩, .string ⟨#[]⟩, .string ⟨#[]⟩, .slice none 0 0, .int .i64 md, .int .i64 0, .int .i64 0, .int .i64 0, .int .i64 0, .slice none 0 0, .slice none 0 0, .slice none 0 0, .int .i64 ta] := B
  clear k13 l13
  have c4 := num_c R s i3 e3 z h3 hi3 hs
  rw [hz]
  (with_reducible refine c4.mono ?_)
  rintro x w4 ⟨er, i4, e4, rfl, ber, h4, hi4, t4, -, r4⟩
  clear c4 hz
  replace B := B.tch t4 hSR
  replace V := V.tch t4 hVR
  replace T := T.trans t4
  have k14 := B.cell 14
  have l14 := B.loose 14
  simp only [List.getElem?_toArray, List.getElem?_cons_zero, List.getElem?_cons_succ] at k14
  go_wp2_with fail
  obtain ⟨z, hz⟩ : ∃ x, w4.setCell ⟨N, 14, none⟩ (.int .i64 er) = x := ⟨_, rfl⟩
  replace B := B.set_ 14 (.int .i64 er)
  replace V := V.far (p := ⟨N, 14, none⟩) hVS (.int .i64 er)
  replace h4 := h4.far (p := ⟨N, 14, none⟩) hRS (.int .i64 er)
  replace T := tch_new (o := 14) T hwS (.int .i64 er)
  rw [hz] at B V h4 T
  replace B : Blk z N NT #[.int .i64 pc, .slice none 0 0, .string ⟨#[]⟩, .string ⟨#[]⟩, .string ⟨#[]⟩, .string ⟨#[]⟩, .string ⟨#[]⟩, .string ⟨#[]⟩, .string ⟨#[]⟩, .string ⟨#[]⟩, .string ⟨#[]⟩, .string ⟨#[]⟩, .slice none 0 0, .int .i64 md, .int .i64 er, .int .i64 0, .int .i64 0, .int .i64 0, .slice none 0 0, .slice none 0 0, .slice none 0 0, .int .i64 ta] := B
  clear k14 l14
  have c5 := num_c R s i4 e4 z h4 hi4 hs
  rw [hz]
  (with_reducible refine c5.mono ?_)
  rintro x w5 ⟨us, i5, e5, rfl, bus, h5, hi5, t5, -, r5⟩
  clear c5 hz
  replace B := B.tch t5 hSR
  replace V := V.tch t5 hVR
  replace T := T.trans t5
  have k15 := B.cell 15
  have l15 := B.loose 15
  simp only [List.getElem?_toArray, List.getElem?_cons_zero, List.getElem?_cons_succ] at k15
  go_wp2_with fail
  obtain ⟨z, hz⟩ : ∃ x, w5.setCell ⟨N, 15, none⟩ (.int .i64 us) = x := ⟨_, rfl⟩
  replace B := B.set_ 15 (.int .i64 us)
  replace V := V.far (p := ⟨N, 15, none⟩) hVS (.int .i64 us)
  replace h5 := h5.far (p := ⟨N, 15, none⟩) hRS (.int .i64 us)
  replace T := tch_new (o := 15) T hwS (.int .i64 us)
  rw [hz] at B V h5 T
  replace B : Blk z N NT #[.int .i64 pc, .slice none 0 0, .string ⟨#[]⟩, .string ⟨#[]⟩, .string ⟨#[]⟩, .string ⟨#[]⟩, .string ⟨#[]⟩, .string ⟨#[]⟩, .string ⟨#[]⟩, .string ⟨#[]⟩, .string ⟨#[]⟩, .string ⟨#[]⟩, .slice none 0 0, .int .i64 md, .int .i64 er, .int .i64 us, .int .i64 0, .int .i64 0, .slice none 0 0, .slice none 0 0, .slice none 0 0, .int .i64 ta] := B
  clear k15 l15
  have c6 := num_c R s i5 e5 z h5 hi5 hs
  rw [hz]
  (with_reducible refine c6.mono ?_)
  rintro x w6 ⟨ti, i6, e6, rfl, bti, h6, hi6, t6, -, r6⟩
  clear c6 hz
  replace B := B.tch t6 hSR
  replace V := V.tch t6 hVR
  replace T := T.trans t6
  have k16 := B.cell 16
  have l16 := B.loose 16
  simp only [List.getElem?_toArray, List.getElem?_cons_zero, List.getElem?_cons_succ] at k16
  go_wp2_with fail
  obtain ⟨z, hz⟩ : ∃ x, w6.setCell ⟨N, 16, none⟩ (.int .i64 ti) = x := ⟨_, rfl⟩
  replace B := B.set_ 16 (.int .i64 ti)
  replace V := V.far (p := ⟨N, 16, none⟩) hVS (.int .i64 ti)
  replace h6 := h6.far (p := ⟨N, 16, none⟩) hRS (.int .i64 ti)
  replace T := tch_new (o := 16) T hwS (.int .i64 ti)
  rw [hz] at B V h6 T
  replace B : Blk z N NT #[.int .i64 pc, .slice none 0 0, .string ⟨#[]⟩, .string ⟨#[]⟩, .string ⟨#[]⟩, .string ⟨#[]⟩, .string ⟨#[]⟩, .string ⟨#[]⟩, .string ⟨#[]⟩, .string ⟨#[]⟩, .string ⟨#[]⟩, .string ⟨#[]⟩, .slice none 0 0, .int .i64 md, .int .i64 er, .int .i64 us, .int .i64 ti, .int .i64 0, .slice none 0 0, .slice none 0 0, .slice none 0 0, .int .i64 ta] := B
  clear k16 l16
  have c7 := num_c R s i6 e6 z h6 hi6 hs
  rw [hz]
  (with_reducible refine c7.mono ?_)
  rintro x w7 ⟨el, i7, e7, rfl, bel, h7, hi7, t7, -, r7⟩
  clear c7 hz
  replace B := B.tch t7 hSR
  replace V := V.tch t7 hVR
  replace T := T.trans t7
  have k17 := B.cell 17
  have l17 := B.loose 17
  simp only [List.getElem?_toArray, List.getElem?_cons_zero, List.getElem?_cons_succ] at k17
  go_wp2_with fail
  obtain ⟨z, hz⟩ : ∃ x, w7.setCell ⟨N, 17, none⟩ (.int .i64 el) = x := ⟨_, rfl⟩
  replace B := B.set_ 17 (.int .i64 el)
  replace V := V.far (p := ⟨N, 17, none⟩) hVS (.int .i64 el)
  replace h7 := h7.far (p := ⟨N, 17, none⟩) hRS (.int .i64 el)
  replace T := tch_new (o := 17) T hwS (.int .i64 el)
  rw [hz] at B V h7 T
  replace B : Blk z N NT #[.int .i64 pc, .slice none 0 0, .string ⟨#[]⟩, .string ⟨#[]⟩, .string ⟨#[]⟩, .string ⟨#[]⟩, .string ⟨#[]⟩, .string ⟨#[]⟩, .string ⟨#[]⟩, .string ⟨#[]⟩, .string ⟨#[]⟩, .string ⟨#[]⟩, .slice none 0 0, .int .i64 md, .int .i64 er, .int .i64 us, .int .i64 ti, .int .i64 el, .slice none 0 0, .slice none 0 0, .slice none 0 0, .int .i64 ta] := B
  clear k17 l17
  have cc := many_c R s i7 e7 z h7 hi7 hs
  rw [hz]
  (with_reducible refine cc.mono ?_)
  rintro x w8 ⟨n8, i8, e8, rfl, hn8, h8, hi8, t8, -, hrun⟩
  clear cc hz
  replace B := B.tch t8 hSR
  replace V := V.tch t8 hVR
  replace T := T.trans t8
  obtain ⟨fv, hfv⟩ : ∃ f : Value → Array Value, f = (fun v => #[.int .i64 pc, v, .string ⟨#[]⟩, .string ⟨#[]⟩, .string ⟨#[]⟩, .string ⟨#[]⟩, .string ⟨#[]⟩, .string ⟨#[]⟩, .string ⟨#[]⟩, .string ⟨#[]⟩, .string ⟨#[]⟩, .string ⟨#[]⟩, .slice none 0 0, .int .i64 md, .int .i64 er, .int .i64 us, .int .i64 ti, .int .i64 el, .slice none 0 0, .slice none 0 0, .slice none 0 0, .int .i64 ta]) := ⟨_, rfl⟩
  have hL : QVL s R i7 e7 N V0 fv w (.int .i64 n8) w8 :=
    ⟨n8, 0, [], none, 0, i8, e8, rfl, by rw [hfv]; exact B, V, World.ownsRow_nil _ _ _ _, h8, hi8, T, by omega, (fun b hb => by cases hb), Lib.hid (Stp.start hrun)⟩
  clear B V h8 hi8 T hrun t8 hn8
  go_upto_block 0 with fail
  go_cut [7, 8] (fun s7 s8 wx => QVE s R i7 e7 N V0 fv w wx)
  case first =>
    go_wp2_with fail
    go_loopw [7] (fun nv wr => QVL s R i7 e7 N V0 fv w nv wr) (fun nv _ => (intOf nv).toNat)
    case atStart => exact hL
    case round =>
      clear hL
      obtain ⟨k, m, o, A, c, j, e', rfl, B, V, own, hr, hj, T, hmk, hvo, HST⟩ := hrel
      obtain ⟨z, rfl⟩ : ∃ z : World, z = wr := ⟨_, rfl⟩
      have q2 := hr.cell 2
      simp only [List.getElem?_toArray, List.getElem?_cons_zero, List.getElem?_cons_succ] at q2
      have hBz := T.size
      by_cases hk : k = 0
      · have dk : decide ((0 : Int) < (k : Int)) = false := by simp; omega
        have dk2 : ¬ 0 < k := by omega
        have END := qv_end B V own hr hj T (by omega) hvo HST.out (Or.inl hk)
        go_wp2_with fail
        go_meet
        case rel => exact END
      have dk : decide ((0 : Int) < (k : Int)) = true := by simp; omega
      by_cases he : e' = 0
      rotate_left
      · have d : ((e' : Int) == 0) = false := by rw [beq_eq_false_iff_ne]; omega
        have END := qv_end B V own hr hj T (by omega) hvo HST.out (Or.inr he)
        go_wp2_with fail
        go_meet
        case rel => exact END
      subst he
      have d0 : (((0 : Nat) : Int) == 0) = true := by simp
      obtain ⟨k', rfl⟩ : ∃ k', k = k' + 1 := ⟨k - 1, by omega⟩
      have ct := text_c R s j 0 z hr hj hs
      go_wp2_with fail
      (with_reducible refine ct.mono ?_)
      rintro x w2 ⟨t, j2, e2, rfl, bt, h2, hj2, t2, r2⟩
      clear ct q2
      have own2 := own_keep own (rdq_rows hr t2 (by decide))
      have B2 := B.tch t2 hSR
      have V2 := V.tch t2 hVR
      have T2 := T.trans t2
      have hRS2 : R ≠ w2.heap.size := by have := h2.lt; omega
      have hNS2 : N ≠ w2.heap.size := by have := B2.lt; omega
      have hVS2 : V0 ≠ w2.heap.size := by have := V2.lt; omega
      have hT2s := T2.size
      obtain ⟨M, hM⟩ : ∃ M, w2.heap.size = M := ⟨_, rfl⟩
      go_upto_region 13 with fail
      obtain ⟨z3, hz3⟩ : ∃ x, w2.alloc (.cells #[.string t, .string ⟨#[]⟩] 45) = x := ⟨_, rfl⟩
      have BM : Blk z3 M 45 #[.string t, .string ⟨#[]⟩] := by rw [← hz3, ← hM]; exact Blk.new _ _ _
      have h3 : Rdq z3 R s j2 e2 := by rw [← hz3]; exact h2.alloc _
      have T3 : Tch (On R) w z3 := by rw [← hz3]; exact T2.alloc _
      rw [hz3]
      try rw [hM]
      rw [hM] at hRS2 hNS2 hVS2 hT2s
      have hMR : ¬ On R M := fun e => hRS2 e.symm
      have ct := text_c R s j2 e2 z3 h3 hj2 hs
      go_wp2_with fail
      (with_reducible refine ct.mono ?_)
      rintro x w4 ⟨u, j4, e4, rfl, bu, h4, hj4, t4, r4⟩
      clear ct
      have BM4 := BM.tch t4 hMR
      have T4 := T3.trans t4
      have m1 := BM4.cell 1
      have lm := BM4.loose 1
      simp only [List.getElem?_toArray, List.getElem?_cons_zero, List.getElem?_cons_succ] at m1
      go_upto_region 14 with fail
      obtain ⟨z5, hz5⟩ : ∃ x, w4.setCell ⟨M, 1, none⟩ (.string u) = x := ⟨_, rfl⟩
      have KEEP : ∀ (g : Nat) (c : Array Value) (t : TypeId) (f : Nat × Nat), t ≠ QT → w2.heap[g]? = some (.cells c t f) → z5.heap[g]? = some (.cells c t f) := fun g c t f ht hg => by
        have hl := (Array.getElem?_eq_some_iff.1 hg).1
        rw [← hz5, Below.heap_setCell w4 ⟨M, 1, none⟩ _ g (by show g ≠ M; omega)]
        exact rdq_keeps h3 t4 g c t f ht (by rw [← hz3]; exact alloc_keep _ g c t f hg)
      have BM5 : Blk z5 M 45 #[.string t, .string u] := by rw [← hz5]; exact BM4.set_ 1 (.string u)
      have h5 : Rdq z5 R s j4 e4 := by rw [← hz5]; exact h4.far (p := ⟨M, 1, none⟩) hRS2 (.string u)
      have T5 : Tch (On R) w z5 := by rw [← hz5]; exact tch_new (o := 1) T4 hT2s (.string u)
      have B5 := KEEP _ _ _ _ (by decide) B2
      have V5 := KEEP _ _ _ _ (by decide) V2
      have own5 := own_keep own2 (fun g c hg => KEEP g c _ _ (by decide) hg)
      rw [hz5]
      have hT5s := T5.size
      have kn1 : z5.cell? ⟨N, 1, none⟩ = some (.slice A m c) := (Blk.cell B5 1).trans (by rw [hfv]; rfl)
      have km0 := BM5.cell 0
      have km1 := BM5.cell 1
      simp only [List.getElem?_toArray, List.getElem?_cons_zero, List.getElem?_cons_succ] at km0 km1
      have HS4 : Hid (Stp (onto varP) [] (o ++ [(t.data.toList, u.data.toList)]) s i7 e7 j4 e4 k') := Lib.hid (HST.out.step (onto_case ((Run.pair r2 r4).mono fun x hx => by obtain ⟨a, b⟩ := x; obtain ⟨rfl, rfl⟩ := hx; rfl)))
      have hvo4 : ∀ b ∈ o ++ [(t.data.toList, u.data.toList)], VOk b := by
        intro b hb
        rcases List.mem_append.1 hb with hb | hb
        · exact hvo b hb
        · rw [List.mem_singleton] at hb; rw [hb]; exact ⟨by rw [← Lib.size_eq]; exact bt, by rw [← Lib.size_eq]; exact bu⟩
      clear own2 own B2 B V2 V BM BM4 h2 h3 h4 T2 T3 T4 t2 t4 r2 r4 hz3 hz5 KEEP m1 lm HST hr T d0 dk
      go_wp2_with (at_builtin; refine wpList_append_lies _ rfl (.tmp 62) (.tmp 64) 23 rfl w.heap.size 45 iV (.agg #[.string ⟨#[]⟩, .string ⟨#[]⟩]) 2 32 Try.underlying23 hiV hzV0 hzV1 hzV2 rfl (by decide) _ m (vcells o) rfl (World.ownsRow.alloc own5 _) ⟨z5.heap.size, 0, none⟩ 1 1 [.string t, .string u] rfl rfl (World.news_of_block (heap_alloc_new z5 _)) (by intro u hu; simp at hu; rcases hu with rfl | rfl <;> rfl) (by omega) (by unfold maxLen; omega) (by omega) (by simp; omega) _ rfl ?_)
      intro g cap w6 hown6 hgrow hat hlt6
      have keep : ∀ (g : Nat) (c : Array Value) (t : TypeId) (f : Nat × Nat), t ≠ 45 → z5.heap[g]? = some (.cells c t f) → w6.heap[g]? = some (.cells c t f) := fun g c t f h1 hg => grow_keep (World.ownsRow.alloc own5 _) hgrow g c t f h1 (alloc_keep _ g c t f hg)
      have h6 : Rdq w6 R s j4 e4 := keep _ _ _ _ (by decide) h5
      have B6 : Blk w6 N NT (fv (.slice A m c)) := keep _ _ _ _ (by decide) B5
      have V6 : Blk w6 V0 NT znode := keep _ _ _ _ (by decide) V5
      have T6 : Tch (On R) w w6 := tch_grown (T5.alloc _) hgrow (fun k hk => (World.ownsRow.lt own5 k hk).1)
      have kn6 : w6.cell? ⟨N, 1, none⟩ = some (.slice A m c) := (B6.cell 1).trans (by rw [hfv]; rfl)
      have ln6 := B6.loose 1
      have own6 : w6.ownsRow w.heap.size 45 2 (.slice (some ⟨g, 0, none⟩) (m + 1) cap) (m + 1) (vcells (o ++ [(t.data.toList, u.data.toList)])) := by
        rw [show vcells (o ++ [(t.data.toList, u.data.toList)]) = vcells o ++ [.string t, .string u] by rw [vcells, vcells, List.flatMap_append]; simp [bz_of], hV0]; exact hown6
      obtain ⟨z7, hz7⟩ : ∃ x, w6.setCell ⟨N, 1, none⟩ (.slice (some ⟨g, 0, none⟩) (m + 1) cap) = x := ⟨_, rfl⟩
      have own7 := own_keep own6 (set_rows B6 (by decide) (.slice (some ⟨g, 0, none⟩) (m + 1) cap) (o := 1))
      have B7 := B6.set_ 1 (.slice (some ⟨g, 0, none⟩) (m + 1) cap)
      have V7 := V6.far (p := ⟨N, 1, none⟩) hVS (.slice (some ⟨g, 0, none⟩) (m + 1) cap)
      have h7 := h6.far (p := ⟨N, 1, none⟩) hRS (.slice (some ⟨g, 0, none⟩) (m + 1) cap)
      have T7 := tch_new (o := 1) T6 hwS (.slice (some ⟨g, 0, none⟩) (m + 1) cap)
      rw [hz7] at own7 B7 V7 h7 T7
      replace B7 : Blk z7 N NT (fv (.slice (some ⟨g, 0, none⟩) (m + 1) cap)) := by rw [hfv] at B7 ⊢; exact B7
      clear keep hown6 own6 own5 B6 V6 h6 T6 B5 V5 h5 T5 BM5 hgrow hat hlt6 kn1 km0 km1
      go_wp2
      try rw [hz7]
      go_roundw
      case rel => exact ⟨k', m + 1, o ++ [(t.data.toList, u.data.toList)], some ⟨g, 0, none⟩, cap, j4, e4, by go_num, B7, V7, own7, h7, hj4, T7, by omega, hvo4, HS4⟩
      case measure => simp [intOf] <;> omega
  case rest =>
    clear hL
    obtain ⟨vs, Avs, Cvs, j8, e8, B, V, ovs, h8, hi8, T, bvs, dvs, r8⟩ := hcut
    rw [hfv] at B
    clear hfv
    replace B : Blk wc N NT #[.int .i64 pc, .slice Avs vs.length Cvs, .string ⟨#[]⟩, .string ⟨#[]⟩, .string ⟨#[]⟩, .string ⟨#[]⟩, .string ⟨#[]⟩, .string ⟨#[]⟩, .string ⟨#[]⟩, .string ⟨#[]⟩, .string ⟨#[]⟩, .string ⟨#[]⟩, .slice none 0 0, .int .i64 md, .int .i64 er, .int .i64 us, .int .i64 ti, .int .i64 el, .slice none 0 0, .slice none 0 0, .slice none 0 0, .int .i64 ta] := B
    have hV0' : w.heap.size = V0 := hV0
    go_wp2_with fail
    go_loopw [9] (fun v wr => ∃ (k : Nat) (cu : List Bs) (j e' : Nat), v = .int .i64 k ∧ cu.length = k ∧ k ≤ 10 ∧ (∀ b ∈ cu, b.length ≤ 65536) ∧ Blk wr N NT (cutArr [.int .i64 pc, .slice Avs vs.length Cvs] [.slice none 0 0, .int .i64 md, .int .i64 er, .int .i64 us, .int .i64 ti, .int .i64 el, .slice none 0 0, .slice none 0 0, .slice none 0 0, .int .i64 ta] cu) ∧ Blk wr V0 NT #[.int .i64 0, .slice none 0 0, .string ⟨#[]⟩, .string ⟨#[]⟩, .string ⟨#[]⟩, .string ⟨#[]⟩, .string ⟨#[]⟩, .string ⟨#[]⟩, .string ⟨#[]⟩, .string ⟨#[]⟩, .string ⟨#[]⟩, .string ⟨#[]⟩, .slice none 0 0, .int .i64 0, .int .i64 0, .int .i64 0, .int .i64 0, .int .i64 0, .slice none 0 0, .slice none 0 0, .slice none 0 0, .int .i64 0] ∧ Rdq wr R s j e' ∧ j ≤ s.size ∧ Tch (On R) w wr ∧
      wr.ownsRow w.heap.size 45 2 (.slice Avs vs.length Cvs) vs.length (vcells vs) ∧ Run (repP textP k) (ab s j8 e8) (ab s j e') (fun m => m = cu)) (fun v _ => 10 - (intOf v).toNat)
    case atStart => exact ⟨0, [], j8, e8, rfl, rfl, by omega, fun _ h => (by cases h), by rw [cut0]; exact B, V, h8, hi8, T, ovs, by cases hab : ab s j8 e8 <;> simp [Run, repP]⟩
    case round =>
      clear B V h8 hi8 T ovs
      obtain ⟨k, cu, j, e', rfl, hcu, hk, hcl, B, V, hr, hj, T, ovs, hrun⟩ := hrel
      obtain ⟨z, rfl⟩ : ∃ z : World, z = wr := ⟨_, rfl⟩
      by_cases hlt : k < 10
      · have dk : decide ((k : Int) < 10) = true := by simp; omega
        have hki : (k : Int) < 10 := by omega
        have ct := text_c R s j e' z hr hj hs
        go_wp2_with fail
        (with_reducible refine ct.mono ?_)
        rintro x w2 ⟨t, j2, e2, rfl, bt, h2, hj2, t2, r2⟩
        have B2 := B.tch t2 hSR
        have k2 := (B2.cell (2 + k)).trans (cut_get hcu hlt)
        have l2 := B2.loose (2 + k)
        have V2 := (V.tch t2 hVR).far (p := ⟨N, 2 + k, none⟩) hVS (.string t)
        have h3 := h2.far (p := ⟨N, 2 + k, none⟩) hRS (.string t)
        have T3 := tch_new (o := 2 + k) (T.trans t2) hwS (.string t)
        have o3 := own_keep (own_keep ovs (rdq_rows hr t2 (by decide))) (set_rows B2 (by decide) (.string t) (o := 2 + k))
        have B3 := B2.set_ (2 + k) (.string t)
        rw [cut_set t hcu hlt] at B3
        go_wp2
        go_roundw
        case rel => exact ⟨k + 1, cu ++ [t.data.toList], j2, e2, by go_num, by simp [hcu], by omega, fun b hb => (by
          rcases List.mem_append.1 hb with hb | hb
          · exact hcl b hb
          · rw [List.mem_singleton] at hb; rw [hb, ← Lib.size_eq]; exact bt), B3, V2, h3, hj2, T3, o3, Run.snoc hrun r2⟩
        case measure => simp [intOf] <;> omega
      have dk : decide ((k : Int) < 10) = false := by simp; omega
      obtain rfl : k = 10 := by omega
      obtain ⟨x0, x1, x2, x3, x4, x5, x6, x7, x8, x9, rfl⟩ := ten cu hcu
      rw [cut10] at B
      go_wp2_with fail
      obtain ⟨zz, rfl⟩ : ∃ zz : World, zz = z := ⟨_, rfl⟩
      have c10 := ints_c R s j e' zz hr hj hs
      skip
      (with_reducible refine c10.mono ?_)
      rintro x w10 ⟨vst, st, i10, e10, rfl, ost, bst, dst, h10, hi10, t10, r10⟩
      clear c10 
      obtain ⟨Ast, Cst, rfl⟩ := StaL.own_shape ost
      replace ost := own_mono ost T.size
      replace ovs := own_keep ovs (rdq_rows hr t10 (by decide))
      replace B := B.tch t10 hSR
      replace V := V.tch t10 hVR
      replace T := T.trans t10
      have k12 := B.cell 12
      have l12 := B.loose 12
      simp only [List.getElem?_toArray, List.getElem?_cons_zero, List.getElem?_cons_succ] at k12
      go_wp2_with fail
      obtain ⟨z, hz⟩ : ∃ x, w10.setCell ⟨N, 12, none⟩ (.slice Ast st.length Cst) = x := ⟨_, rfl⟩
      replace ovs := own_keep ovs (set_rows B (by decide) (.slice Ast st.length Cst) (o := 12))
      replace ost := own_keep ost (set_rows B (by decide) (.slice Ast st.length Cst) (o := 12))
      replace B := B.set_ 12 (.slice Ast st.length Cst)
      replace V := V.far (p := ⟨N, 12, none⟩) hVS (.slice Ast st.length Cst)
      replace h10 := h10.far (p := ⟨N, 12, none⟩) hRS (.slice Ast st.length Cst)
      replace T := tch_new (o := 12) T hwS (.slice Ast st.length Cst)
      rw [hz] at B V h10 T ovs ost
      replace B : Blk z N NT #[.int .i64 pc, .slice Avs vs.length Cvs, .string (bz x0), .string (bz x1), .string (bz x2), .string (bz x3), .string (bz x4), .string (bz x5), .string (bz x6), .string (bz x7), .string (bz x8), .string (bz x9), .slice Ast st.length Cst, .int .i64 md, .int .i64 er, .int .i64 us, .int .i64 ti, .int .i64 el, .slice none 0 0, .slice none 0 0, .slice none 0 0, .int .i64 ta] := B
      clear k12 l12
      have c11 := ints_c R s i10 e10 z h10 hi10 hs
      rw [hz]
      (with_reducible refine c11.mono ?_)
      rintro x w11 ⟨vbf, bf, i11, e11, rfl, obf, bbf, dbf, h11, hi11, t11, r11⟩
      clear c11 hz
      obtain ⟨Abf, Cbf, rfl⟩ := StaL.own_shape obf
      replace obf := own_mono obf T.size
      replace ovs := own_keep ovs (rdq_rows h10 t11 (by decide))
      replace ost := own_keep ost (rdq_rows h10 t11 (by decide))
      replace B := B.tch t11 hSR
      replace V := V.tch t11 hVR
      replace T := T.trans t11
      have k18 := B.cell 18
      have l18 := B.loose 18
      simp only [List.getElem?_toArray, List.getElem?_cons_zero, List.getElem?_cons_succ] at k18
      go_wp2_with fail
      obtain ⟨z, hz⟩ : ∃ x, w11.setCell ⟨N, 18, none⟩ (.slice Abf bf.length Cbf) = x := ⟨_, rfl⟩
      replace ovs := own_keep ovs (set_rows B (by decide) (.slice Abf bf.length Cbf) (o := 18))
      replace ost := own_keep ost (set_rows B (by decide) (.slice Abf bf.length Cbf) (o := 18))
      replace obf := own_keep obf (set_rows B (by decide) (.slice Abf bf.length Cbf) (o := 18))
      replace B := B.set_ 18 (.slice Abf bf.length Cbf)
      replace V := V.far (p := ⟨N, 18, none⟩) hVS (.slice Abf bf.length Cbf)
      replace h11 := h11.far (p := ⟨N, 18, none⟩) hRS (.slice Abf bf.length Cbf)
      replace T := tch_new (o := 18) T hwS (.slice Abf bf.length Cbf)
      rw [hz] at B V h11 T ovs ost obf
      replace B : Blk z N NT #[.int .i64 pc, .slice Avs vs.length Cvs, .string (bz x0), .string (bz x1), .string (bz x2), .string (bz x3), .string (bz x4), .string (bz x5), .string (bz x6), .string (bz x7), .string (bz x8), .string (bz x9), .slice Ast st.length Cst, .int .i64 md, .int .i64 er, .int .i64 us, .int .i64 ti, .int .i64 el, .slice Abf bf.length Cbf, .slice none 0 0, .slice none 0 0, .int .i64 ta] := B
      clear k18 l18
      have c12 := ints_c R s i11 e11 z h11 hi11 hs
      rw [hz]
      (with_reducible refine c12.mono ?_)
      rintro x w12 ⟨vaf, af, i12, e12, rfl, oaf, baf, daf, h12, hi12, t12, r12⟩
      clear c12 hz
      obtain ⟨Aaf, Caf, rfl⟩ := StaL.own_shape oaf
      replace oaf := own_mono oaf T.size
      replace ovs := own_keep ovs (rdq_rows h11 t12 (by decide))
      replace ost := own_keep ost (rdq_rows h11 t12 (by decide))
      replace obf := own_keep obf (rdq_rows h11 t12 (by decide))
      replace B := B.tch t12 hSR
      replace V := V.tch t12 hVR
      replace T := T.trans t12
      have k19 := B.cell 19
      have l19 := B.loose 19
      simp only [List.getElem?_toArray, List.getElem?_cons_zero, List.getElem?_cons_succ] at k19
      go_wp2_with fail
      obtain ⟨z, hz⟩ : ∃ x, w12.setCell ⟨N, 19, none⟩ (.slice Aaf af.length Caf) = x := ⟨_, rfl⟩
      replace ovs := own_keep ovs (set_rows B (by decide) (.slice Aaf af.length Caf) (o := 19))
      replace ost := own_keep ost (set_rows B (by decide) (.slice Aaf af.length Caf) (o := 19))
      replace obf := own_keep obf (set_rows B (by decide) (.slice Aaf af.length Caf) (o := 19))
      replace oaf := own_keep oaf (set_rows B (by decide) (.slice Aaf af.length Caf) (o := 19))
      replace B := B.set_ 19 (.slice Aaf af.length Caf)
      replace V := V.far (p := ⟨N, 19, none⟩) hVS (.slice Aaf af.length Caf)
      replace h12 := h12.far (p := ⟨N, 19, none⟩) hRS (.slice Aaf af.length Caf)
      replace T := tch_new (o := 19) T hwS (.slice Aaf af.length Caf)
      rw [hz] at B V h12 T ovs ost obf oaf
      replace B : Blk z N NT #[.int .i64 pc, .slice Avs vs.length Cvs, .string (bz x0), .string (bz x1), .string (bz x2), .string (bz x3), .string (bz x4), .string (bz x5), .string (bz x6), .string (bz x7), .string (bz x8), .string (bz x9), .slice Ast st.length Cst, .int .i64 md, .int .i64 er, .int .i64 us, .int .i64 ti, .int .i64 el, .slice Abf bf.length Cbf, .slice Aaf af.length Caf, .slice none 0 0, .int .i64 ta] := B
      clear k19 l19
      have cc := many_c R s i12 e12 z h12 hi12 hs
      rw [hz]
      (with_reducible refine cc.mono ?_)
      rintro x w13 ⟨n13, i13, e13, rfl, hn13, h13, hi13, t13, -, hdun⟩
      clear cc hz
      replace ovs := own_keep ovs (rdq_rows h12 t13 (by decide))
      replace ost := own_keep ost (rdq_rows h12 t13 (by decide))
      replace obf := own_keep obf (rdq_rows h12 t13 (by decide))
      replace oaf := own_keep oaf (rdq_rows h12 t13 (by decide))
      replace B := B.tch t13 hSR
      replace V := V.tch t13 hVR
      replace T := T.trans t13
      obtain ⟨fd, hfd⟩ : ∃ f : Value → Array Value, f = (fun v => #[.int .i64 pc, .slice Avs vs.length Cvs, .string (bz x0), .string (bz x1), .string (bz x2), .string (bz x3), .string (bz x4), .string (bz x5), .string (bz x6), .string (bz x7), .string (bz x8), .string (bz x9), .slice Ast st.length Cst, .int .i64 md, .int .i64 er, .int .i64 us, .int .i64 ti, .int .i64 el, .slice Abf bf.length Cbf, .slice Aaf af.length Caf, v, .int .i64 ta]) := ⟨_, rfl⟩
      obtain ⟨KP, hKP⟩ : ∃ KP : World → Prop, KP = fun W => W.ownsRow w.heap.size 45 2 (.slice Avs vs.length Cvs) vs.length (vcells vs) ∧ W.ownsRow w.heap.size 3 1 (.slice Ast st.length Cst) st.length (ints st) ∧ W.ownsRow w.heap.size 3 1 (.slice Abf bf.length Cbf) bf.length (ints bf) ∧ W.ownsRow w.heap.size 3 1 (.slice Aaf af.length Caf) af.length (ints af) := ⟨_, rfl⟩
      have KPs : ∀ W W' : World, (∀ (g : Nat) (c : Array Value) (t : TypeId), t = 45 ∨ t = 3 → W.heap[g]? = some (.cells c t (0, 0)) → W'.heap[g]? = some (.cells c t (0, 0))) → KP W → KP W' := by
        intro W W' hk h
        rw [hKP] at h ⊢
        exact ⟨own_keep h.1 fun g c hg => hk g c _ (Or.inl rfl) hg, own_keep h.2.1 fun g c hg => hk g c _ (Or.inr rfl) hg, own_keep h.2.2.1 fun g c hg => hk g c _ (Or.inr rfl) hg, own_keep h.2.2.2 fun g c hg => hk g c _ (Or.inr rfl) hg⟩
      have hL2 : QDL s R i12 e12 N V0 fd KP w (.int .i64 n13) w13 :=
        ⟨n13, 0, [], [], none, 0, i13, e13, rfl, by rw [hfd]; exact B, V, World.ownsRow_nil _ _ _ _, ⟨rfl, fun _ _ _ h => by cases h⟩, by rw [hKP]; exact ⟨ovs, ost, obf, oaf⟩, h13, hi13, T, by omega, Lib.hid (Stp.start hdun)⟩
      clear B V h13 hi13 T hdun t13 hn13 ovs ost obf oaf
      have VW := Lib.hid hV0
      have hV0 : True := trivial
      clear hV0'
      have hVge : w.heap.size ≤ V0 := by rw [VW.out]; exact Nat.le_refl _
      go_wp2_with fail
      go_loopw [10] (fun nv wr => QDL s R i12 e12 N V0 fd KP w nv wr) (fun nv _ => (intOf nv).toNat)
      case atStart => exact hL2
      case round =>
        clear hL2
        obtain ⟨k, m, so, ds, Aso, Cso, i14, e14, rfl, B, V, oso, dso, hkp, h14, hi14, T, hmk, HST⟩ := hrel
        obtain ⟨z, rfl⟩ : ∃ z : World, z = wr := ⟨_, rfl⟩
        have q2 := h14.cell 2
        simp only [List.getElem?_toArray, List.getElem?_cons_zero, List.getElem?_cons_succ] at q2
        have hBz := T.size
        by_cases hgo : k ≠ 0 ∧ e14 = 0
        · obtain ⟨hk, rfl⟩ := hgo
          have dk : decide ((0 : Int) < (k : Int)) = true := by simp; omega
          have d0 : (((0 : Nat) : Int) == 0) = true := by simp
          obtain ⟨k', rfl⟩ : ∃ k', k = k' + 1 := ⟨k - 1, by omega⟩
          have hrd : Rdq z.drew R s i14 (0 : Nat) := h14
          have ct := side_c R s i14 0 z.drew hrd hi14 hs
          have k20 : z.cell? ⟨N, 20, none⟩ = some (.slice Aso m Cso) := (B.cell 20).trans (by rw [hfd]; rfl)
          go_wp2_with fail
          go_region_law (first
            | (go_simp
               go_at_call 26
               (with_reducible refine ct.mono ?_)
               rintro x w2 ⟨sd, m', j2, e2, rfl, hsd, h2, hj2, tq, rq⟩
               obtain ⟨da, db, dc, dp, dq, dty, dla, dln, dlc, dfl, dga, dgn, dgc, dre, dbu⟩ := sd
               have B0 : Blk z.drew N NT (fd (.slice Aso m Cso)) := B
               have oso0 : z.drew.ownsRow w.heap.size 48 11 (.slice Aso m Cso) m (scells ds) := oso
               have B2 := B0.tch tq hSR
               have oso2 := own_keep oso0 (rdq_rows hrd tq (by decide))
               have T2 : Tch (On R) w w2 := (Rowk.tch_drew T).trans tq
               have hz2' := T2.size
               have k22 : w2.cell? ⟨N, 20, none⟩ = some (.slice Aso m Cso) := (B2.cell 20).trans (by rw [hfd]; rfl)
               have k23 : (w2.alloc (Obj.cells #[.bool da, .bool db, .bool dc, .int .i64 dp, .int .i64 dq, .string dty, .slice dla dln dlc, .string dfl, .slice dga dgn dgc, .string dre, .string dbu] 48)).cell? ⟨N, 20, none⟩ = some (.slice Aso m Cso) := ((B2.alloc _).cell 20).trans (by rw [hfd]; rfl))
            | (refine step_append_lies _ rfl (.tmp 105) (.tmp 108) 27 rfl w.heap.size 48 iS (.agg #[.bool false, .bool false, .bool false, .int .i64 0, .int .i64 0, .string ⟨#[]⟩, .slice none 0 0, .string ⟨#[]⟩, .slice none 0 0, .string ⟨#[]⟩, .string ⟨#[]⟩]) 11 136 Try.underlying27 hiS hzS0 hzS1 hzS2 rfl (by decide) (.slice Aso m Cso) m (scells ds) (by simp [Act.eval]) (oso2.alloc _) ⟨w2.heap.size, 0, none⟩ 1 1 [.bool da, .bool db, .bool dc, .int .i64 dp, .int .i64 dq, .string dty, .slice dla dln dlc, .string dfl, .slice dga dgn dgc, .string dre, .string dbu] (by simp [Act.eval]) rfl
                 (World.news_of_block (heap_alloc_new w2 _)) (by intro u hu; simp at hu; rcases hu with rfl | rfl | rfl | rfl | rfl | rfl | rfl | rfl | rfl | rfl | rfl <;> rfl) (by omega) (by unfold maxLen; omega) (by omega) (by simp; omega) _ rfl ?_
               intro g cap w3 hown3 hgrow hat hlt
               have B3 : Blk w3 N NT (fd (.slice Aso m Cso)) := grow_keep (oso2.alloc _) hgrow _ _ _ _ (by decide) (B2.alloc _)
               have k24 : w3.cell? ⟨N, 20, none⟩ = some (.slice Aso m Cso) := (B3.cell 20).trans (by rw [hfd]; rfl)
               have l24 := B3.loose 20))
          all_goals
            have keep : ∀ (g : Nat) (c : Array Value) (t : TypeId) (f : Nat × Nat), t ≠ 48 → w2.heap[g]? = some (.cells c t f) → w3.heap[g]? = some (.cells c t f) := fun g c t f h1 hg => grow_keep (oso2.alloc _) hgrow g c t f h1 (alloc_keep _ g c t f hg)
            have h3 : Rdq w3 R s j2 e2 := keep _ _ _ _ (by decide) h2
            have V0b : Blk z.drew V0 NT znode := V
            have V3 : Blk w3 V0 NT znode := keep _ _ _ _ (by decide) (V0b.tch tq hVR)
            have T3 : Tch (On R) w w3 := tch_grown (T2.alloc _) hgrow (fun k hk => (oso2.lt k hk).1)
            obtain ⟨z4, hz4⟩ : ∃ x, w3.setCell ⟨N, 20, none⟩ (.slice (some ⟨g, 0, none⟩) (m + 1) cap) = x := ⟨_, rfl⟩
            have keep4 : ∀ (g' : Nat) (c : Array Value) (t : TypeId), t ≠ QT → t ≠ 48 → t ≠ NT → z.heap[g']? = some (.cells c t (0, 0)) → z4.heap[g']? = some (.cells c t (0, 0)) := fun g' c t a1 a2 a3 hg => by
              rw [← hz4]
              exact set_rows B3 (Ne.symm a3) (.slice (some ⟨g, 0, none⟩) (m + 1) cap) (o := 20) g' c (keep g' c t (0, 0) a2 (rdq_keeps hrd tq g' c t (0, 0) a1 hg))
            have keep5 : ∀ (g' : Nat) (c : Array Value) (t : TypeId), t ≠ 48 → t ≠ NT → w2.heap[g']? = some (.cells c t (0, 0)) → z4.heap[g']? = some (.cells c t (0, 0)) := fun g' c t a2 a3 hg => by
              rw [← hz4]
              exact set_rows B3 (Ne.symm a3) (.slice (some ⟨g, 0, none⟩) (m + 1) cap) (o := 20) g' c (keep g' c t (0, 0) a2 hg)
            have own5 := own_keep hown3 (set_rows B3 (by decide) (.slice (some ⟨g, 0, none⟩) (m + 1) cap) (o := 20))
            have B4 := B3.set_ 20 (.slice (some ⟨g, 0, none⟩) (m + 1) cap)
            have V4 := V3.far (p := ⟨N, 20, none⟩) hVS (.slice (some ⟨g, 0, none⟩) (m + 1) cap)
            have h4' := h3.far (p := ⟨N, 20, none⟩) hRS (.slice (some ⟨g, 0, none⟩) (m + 1) cap)
            have T4 := tch_new (o := 20) T3 hwS (.slice (some ⟨g, 0, none⟩) (m + 1) cap)
            rw [hz4] at own5 B4 V4 h4' T4
            have B5 : Blk z4 N NT (fd (.slice (some ⟨g, 0, none⟩) (m + 1) cap)) := by rw [hfd] at B4 ⊢; exact B4
            have HS4 : Hid (Stp (onto sideP) [] (so ++ [m']) s i12 e12 j2 e2 k') := Lib.hid (HST.out.step (onto_case rq))
            have dso4 : SdsO z4 w.heap.size (ds ++ [⟨da, db, dc, dp, dq, dty, dla, dln, dlc, dfl, dga, dgn, dgc, dre, dbu⟩]) (so ++ [m']) := (dso.keep fun g' c t ht hg => keep4 g' c t (by rcases ht with rfl | rfl <;> decide) (by rcases ht with rfl | rfl <;> decide) (by rcases ht with rfl | rfl <;> decide) hg).snoc ((hsd.mono hBz).keep fun g' c t ht hg => keep5 g' c t (by rcases ht with rfl | rfl <;> decide) (by rcases ht with rfl | rfl <;> decide) hg)
            have kp4 : KP z4 := KPs z z4 (fun g' c t ht hg => keep4 g' c t (by rcases ht with rfl | rfl <;> decide) (by rcases ht with rfl | rfl <;> decide) (by rcases ht with rfl | rfl <;> decide) hg) hkp
            have own6 : z4.ownsRow w.heap.size 48 11 (.slice (some ⟨g, 0, none⟩) (m + 1) cap) (m + 1) (scells (ds ++ [⟨da, db, dc, dp, dq, dty, dla, dln, dlc, dfl, dga, dgn, dgc, dre, dbu⟩])) := by
              rw [scells, List.flatMap_append]; exact own5
            try rw [hz4]
            clear keep keep4 keep5 hz4 hown3 oso oso0 oso2 B B0 B2 B3 B4 k20 k22 k23 k24 l24 own5 KPs
            go_wp2
            go_roundw
            case rel => exact ⟨k', m + 1, so ++ [m'], _, some ⟨g, 0, none⟩, cap, j2, e2, by go_num, B5, V4, own6, dso4, kp4, h4', hj2, T4, by omega, HS4⟩
            case measure => simp [intOf] <;> omega
        have hl := oso.1
        rw [scells_len, dso.1] at hl
        have hl : m = so.length := by omega
        subst hl
        have r13 : Run (listP sideP) (ab s i12 e12) (ab s i14 e14) (fun m => m = so) := by
          refine run_eq (list_onto sideP) ?_
          by_cases he : e14 = 0
          · have hk : k = 0 := by
              by_cases hk : k = 0
              · exact hk
              · exact absurd ⟨hk, he⟩ hgo
            subst hk
            exact HST.out.stop
          · exact HST.out.fail he
        have bso : so.length ≤ 65536 := by omega
        have hk2 : (k = 0 ∧ decide ((0 : Int) < (k : Int)) = false) ∨ (k ≠ 0 ∧ decide ((0 : Int) < (k : Int)) = true ∧ ((e14 : Int) == 0) = false) := by
          by_cases hk : k = 0
          · exact Or.inl ⟨hk, by simp; omega⟩
          · refine Or.inr ⟨hk, by simp; omega, ?_⟩
            rw [beq_eq_false_iff_ne]
            intro he
            exact hgo ⟨hk, by omega⟩
        clear hgo HST hmk hBz
        rw [hfd] at B
        rw [hKP] at hkp
        obtain ⟨ovs, ost, obf, oaf⟩ := hkp
        replace B : Blk z N NT #[.int .i64 pc, .slice Avs vs.length Cvs, .string (bz x0), .string (bz x1), .string (bz x2), .string (bz x3), .string (bz x4), .string (bz x5), .string (bz x6), .string (bz x7), .string (bz x8), .string (bz x9), .slice Ast st.length Cst, .int .i64 md, .int .i64 er, .int .i64 us, .int .i64 ti, .int .i64 el, .slice Abf bf.length Cbf, .slice Aaf af.length Caf, .slice Aso so.length Cso, .int .i64 ta] := B
        have RUN := Run.pair r1 (Run.pair r2 (Run.pair r3 (Run.pair r4 (Run.pair r5 (Run.pair r6 (Run.pair r7 (Run.pair r8 (Run.pair hrun (Run.pair r10 (Run.pair r11 (Run.pair r12 r13)))))))))))
        replace RUN : Run nodeP (ab s 0 0) (ab s i14 e14) (fun x => x = (ta, pc, md, er, us, ti, el, vs, [x0, x1, x2, x3, x4, x5, x6, x7, x8, x9], st, bf, af, so)) := RUN.mono fun x hx => by
          obtain ⟨y1, y2, y3, y4, y5, y6, y7, y8, y9, y10, y11, y12, y13⟩ := x
          obtain ⟨rfl, rfl, rfl, rfl, rfl, rfl, rfl, rfl, rfl, rfl, rfl, rfl, rfl⟩ := hx
          rfl
        have q1 := h14.cell 1
        simp only [List.getElem?_toArray, List.getElem?_cons_zero, List.getElem?_cons_succ] at q1
        have HQ2 := Lib.hid hk2
        clear hk2
        rcases HQ2.out with ⟨hk, dk⟩ | ⟨hk, dk, d5⟩
        · skip
          by_cases hlt : i14 < s.size
          · have da : decide ((i14 : Int) < (s.size : Int)) = true := by simp; omega
            by_cases he : e14 = 0
            · subst he
              have cf := fail_yes R s i14 i14 1 z h14
              go_wp2_with fail
              (with_reducible refine cf.mono ?_)
              rintro x wf ⟨rfl, hf, tf⟩
              have VV := V.tch tf hVR
              have TT := T.trans tf
              clear q1 q2
              have q1 := hf.cell 1
              have q2 := hf.cell 2
              simp only [List.getElem?_toArray, List.getElem?_cons_zero, List.getElem?_cons_succ] at q1 q2
              have DEC := dec_more RUN hlt
              have II := hi14
              have RI : rowIs wf.drew V0 NT 22 := ⟨_, VV, rfl⟩
              have y1 := cell_row (show Rdq wf.drew R s i14 1 from hf) hRV #[.int .i64 0, .slice none 0 0, .string ⟨#[]⟩, .string ⟨#[]⟩, .string ⟨#[]⟩, .string ⟨#[]⟩, .string ⟨#[]⟩, .string ⟨#[]⟩, .string ⟨#[]⟩, .string ⟨#[]⟩, .string ⟨#[]⟩, .string ⟨#[]⟩, .slice none 0 0, .int .i64 0, .int .i64 0, .int .i64 0, .int .i64 0, .int .i64 0, .slice none 0 0, .slice none 0 0, .slice none 0 0, .int .i64 0] 1
              have y2 := cell_row (show Rdq wf.drew R s i14 1 from hf) hRV #[.int .i64 0, .slice none 0 0, .string ⟨#[]⟩, .string ⟨#[]⟩, .string ⟨#[]⟩, .string ⟨#[]⟩, .string ⟨#[]⟩, .string ⟨#[]⟩, .string ⟨#[]⟩, .string ⟨#[]⟩, .string ⟨#[]⟩, .string ⟨#[]⟩, .slice none 0 0, .int .i64 0, .int .i64 0, .int .i64 0, .int .i64 0, .int .i64 0, .slice none 0 0, .slice none 0 0, .slice none 0 0, .int .i64 0] 2
              simp only [List.getElem?_toArray, List.getElem?_cons_zero, List.getElem?_cons_succ] at y1 y2
              go_wp2
              go_region
              all_goals
                generalize hQ : bodyPost Try.prog Try.f8 (DPost s w) = Q at *
                go_wp2
                subst hQ
                refine bodyPost_ret (results_three (P := Try.prog) (p := 2) (a := 3) (b := 4) rfl _ _ V0 31 #[.int .i64 0, .slice none 0 0, .string ⟨#[]⟩, .string ⟨#[]⟩, .string ⟨#[]⟩, .string ⟨#[]⟩, .string ⟨#[]⟩, .string ⟨#[]⟩, .string ⟨#[]⟩, .string ⟨#[]⟩, .string ⟨#[]⟩, .string ⟨#[]⟩, .slice none 0 0, .int .i64 0, .int .i64 0, .int .i64 0, .int .i64 0, .int .i64 0, .slice none 0 0, .slice none 0 0, .slice none 0 0, .int .i64 0] (0, 0) _ _ _ rfl rfl rfl (blk_row VV _) Try.underlying31 rfl (by as_aux_lemma => kernel_rfl)) rfl ?_
                refine ⟨tch_below (tch_row (tch_drew TT) (by omega) _) (by omega), Or.inr ⟨_, _, DEC, II, rfl⟩⟩
            · have d0 : ((e14 : Int) == 0) = false := by rw [beq_eq_false_iff_ne]; omega
              have d1 : ((e14 : Int) != 0) = true := by rw [bne_iff_ne]; omega
              have cf := fail_no R s i14 i14 e14 1 z h14 (by omega)
              go_wp2_with fail
              (with_reducible refine cf.mono ?_)
              rintro x wf ⟨rfl, rfl⟩
              have VV := V
              have TT := T
              have DEC := dec_err RUN he
              have II := hi14
              have RI : rowIs z.drew V0 NT 22 := ⟨_, VV, rfl⟩
              have y1 := cell_row (show Rdq z.drew R s i14 e14 from h14) hRV #[.int .i64 0, .slice none 0 0, .string ⟨#[]⟩, .string ⟨#[]⟩, .string ⟨#[]⟩, .string ⟨#[]⟩, .string ⟨#[]⟩, .string ⟨#[]⟩, .string ⟨#[]⟩, .string ⟨#[]⟩, .string ⟨#[]⟩, .string ⟨#[]⟩, .slice none 0 0, .int .i64 0, .int .i64 0, .int .i64 0, .int .i64 0, .int .i64 0, .slice none 0 0, .slice none 0 0, .slice none 0 0, .int .i64 0] 1
              have y2 := cell_row (show Rdq z.drew R s i14 e14 from h14) hRV #[.int .i64 0, .slice none 0 0, .string ⟨#[]⟩, .string ⟨#[]⟩, .string ⟨#[]⟩, .string ⟨#[]⟩, .string ⟨#[]⟩, .string ⟨#[]⟩, .string ⟨#[]⟩, .string ⟨#[]⟩, .string ⟨#[]⟩, .string ⟨#[]⟩, .slice none 0 0, .int .i64 0, .int .i64 0, .int .i64 0, .int .i64 0, .int .i64 0, .slice none 0 0, .slice none 0 0, .slice none 0 0, .int .i64 0] 2
              simp only [List.getElem?_toArray, List.getElem?_cons_zero, List.getElem?_cons_succ] at y1 y2
              go_wp2
              go_region
              all_goals
                generalize hQ : bodyPost Try.prog Try.f8 (DPost s w) = Q at *
                go_wp2
                subst hQ
                refine bodyPost_ret (results_three (P := Try.prog) (p := 2) (a := 3) (b := 4) rfl _ _ V0 31 #[.int .i64 0, .slice none 0 0, .string ⟨#[]⟩, .string ⟨#[]⟩, .string ⟨#[]⟩, .string ⟨#[]⟩, .string ⟨#[]⟩, .string ⟨#[]⟩, .string ⟨#[]⟩, .string ⟨#[]⟩, .string ⟨#[]⟩, .string ⟨#[]⟩, .slice none 0 0, .int .i64 0, .int .i64 0, .int .i64 0, .int .i64 0, .int .i64 0, .slice none 0 0, .slice none 0 0, .slice none 0 0, .int .i64 0] (0, 0) _ _ _ rfl rfl rfl (blk_row VV _) Try.underlying31 rfl (by as_aux_lemma => kernel_rfl)) rfl ?_
                refine ⟨tch_below (tch_row (tch_drew TT) (by omega) _) (by omega), Or.inr ⟨_, _, DEC, II, rfl⟩⟩
          · have da : decide ((i14 : Int) < (s.size : Int)) = false := by simp; omega
            by_cases he : e14 = 0
            · subst he
              have d1 : (((0 : Nat) : Int) != 0) = false := by simp
              have RI : rowIs z V0 NT 22 := ⟨_, V, rfl⟩
              generalize hQ : bodyPost Try.prog Try.f8 (DPost s w) = Q at *
              go_wp2_with (refine wpList_load_row (by rfl) 31 (.tmp 6) (by rfl) N (by rfl) 31 _ (0, 0) _ (by exact B) Try.underlying31 (by rfl) (by as_aux_lemma => kernel_rfl) ?_)
              subst hQ
              refine bodyPost_ret (results_three (P := Try.prog) (p := 2) (a := 3) (b := 4) rfl _ _ V0 31 #[.int .i64 pc, .slice Avs vs.length Cvs, .string (bz x0), .string (bz x1), .string (bz x2), .string (bz x3), .string (bz x4), .string (bz x5), .string (bz x6), .string (bz x7), .string (bz x8), .string (bz x9), .slice Ast st.length Cst, .int .i64 md, .int .i64 er, .int .i64 us, .int .i64 ti, .int .i64 el, .slice Abf bf.length Cbf, .slice Aaf af.length Caf, .slice Aso so.length Cso, .int .i64 ta] (0, 0) _ _ _ rfl rfl rfl (blk_row V _) Try.underlying31 rfl (by as_aux_lemma => kernel_rfl)) rfl ?_
              have kr : ∀ (e : TypeId), NT ≠ e → StaL.Rows e z (z.setRow V0 #[.int .i64 pc, .slice Avs vs.length Cvs, .string (bz x0), .string (bz x1), .string (bz x2), .string (bz x3), .string (bz x4), .string (bz x5), .string (bz x6), .string (bz x7), .string (bz x8), .string (bz x9), .slice Ast st.length Cst, .int .i64 md, .int .i64 er, .int .i64 us, .int .i64 ti, .int .i64 el, .slice Abf bf.length Cbf, .slice Aaf af.length Caf, .slice Aso so.length Cso, .int .i64 ta]) := fun e he g c hg => other_row V _ g c e (0, 0) he hg
              exact ⟨tch_below (tch_row T (by omega) _) (by omega), Or.inl ⟨_, _, dec_ok RUN (by omega), rfl, Avs, Cvs, Ast, Cst, Abf, Cbf, Aaf, Caf, Aso, Cso, ds, by simp only [ndArr]; rw [cut10],
                ⟨bta, bpc, bmd, ber, bus, bti, bel, ⟨bvs, dvs⟩, ⟨rfl, hcl⟩, ⟨bst, dst⟩, ⟨bbf, dbf⟩, ⟨baf, daf⟩, bso⟩, own_keep ovs (kr _ (by decide)), own_keep ost (kr _ (by decide)), own_keep obf (kr _ (by decide)), own_keep oaf (kr _ (by decide)), own_keep oso (kr _ (by decide)),
                SdsO.keep dso (fun g c t ht hg => kr t (by rcases ht with rfl | rfl <;> decide) g c hg)⟩⟩
            · have d1 : ((e14 : Int) != 0) = true := by rw [bne_iff_ne]; omega
              have VV := V
              have TT := T
              have DEC := dec_err RUN he
              have II := hi14
              have RI : rowIs z.drew V0 NT 22 := ⟨_, VV, rfl⟩
              have y1 := cell_row (show Rdq z.drew R s i14 e14 from h14) hRV #[.int .i64 0, .slice none 0 0, .string ⟨#[]⟩, .string ⟨#[]⟩, .string ⟨#[]⟩, .string ⟨#[]⟩, .string ⟨#[]⟩, .string ⟨#[]⟩, .string ⟨#[]⟩, .string ⟨#[]⟩, .string ⟨#[]⟩, .string ⟨#[]⟩, .slice none 0 0, .int .i64 0, .int .i64 0, .int .i64 0, .int .i64 0, .int .i64 0, .slice none 0 0, .slice none 0 0, .slice none 0 0, .int .i64 0] 1
              have y2 := cell_row (show Rdq z.drew R s i14 e14 from h14) hRV #[.int .i64 0, .slice none 0 0, .string ⟨#[]⟩, .string ⟨#[]⟩, .string ⟨#[]⟩, .string ⟨#[]⟩, .string ⟨#[]⟩, .string ⟨#[]⟩, .string ⟨#[]⟩, .string ⟨#[]⟩, .string ⟨#[]⟩, .string ⟨#[]⟩, .slice none 0 0, .int .i64 0, .int .i64 0, .int .i64 0, .int .i64 0, .int .i64 0, .slice none 0 0, .slice none 0 0, .slice none 0 0, .int .i64 0] 2
              simp only [List.getElem?_toArray, List.getElem?_cons_zero, List.getElem?_cons_succ] at y1 y2
              go_wp2
              go_region
              all_goals
                generalize hQ : bodyPost Try.prog Try.f8 (DPost s w) = Q at *
                go_wp2
                subst hQ
                refine bodyPost_ret (results_three (P := Try.prog) (p := 2) (a := 3) (b := 4) rfl _ _ V0 31 #[.int .i64 0, .slice none 0 0, .string ⟨#[]⟩, .string ⟨#[]⟩, .string ⟨#[]⟩, .string ⟨#[]⟩, .string ⟨#[]⟩, .string ⟨#[]⟩, .string ⟨#[]⟩, .string ⟨#[]⟩, .string ⟨#[]⟩, .string ⟨#[]⟩, .slice none 0 0, .int .i64 0, .int .i64 0, .int .i64 0, .int .i64 0, .int .i64 0, .slice none 0 0, .slice none 0 0, .slice none 0 0, .int .i64 0] (0, 0) _ _ _ rfl rfl rfl (blk_row VV _) Try.underlying31 rfl (by as_aux_lemma => kernel_rfl)) rfl ?_
                refine ⟨tch_below (tch_row (tch_drew TT) (by omega) _) (by omega), Or.inr ⟨_, _, DEC, II, rfl⟩⟩
        · have he : e14 ≠ 0 := by
            intro h
            rw [h] at d5
            simp at d5
          by_cases hlt : i14 < s.size
          · have da : decide ((i14 : Int) < (s.size : Int)) = true := by simp; omega
            · have d0 : ((e14 : Int) == 0) = false := by rw [beq_eq_false_iff_ne]; omega
              have d1 : ((e14 : Int) != 0) = true := by rw [bne_iff_ne]; omega
              have cf := fail_no R s i14 i14 e14 1 z h14 (by omega)
              go_wp2_with fail
              (with_reducible refine cf.mono ?_)
              rintro x wf ⟨rfl, rfl⟩
              have VV := V
              have TT := T
              have DEC := dec_err RUN he
              have II := hi14
              have RI : rowIs z.drew V0 NT 22 := ⟨_, VV, rfl⟩
              have y1 := cell_row (show Rdq z.drew R s i14 e14 from h14) hRV #[.int .i64 0, .slice none 0 0, .string ⟨#[]⟩, .string ⟨#[]⟩, .string ⟨#[]⟩, .string ⟨#[]⟩, .string ⟨#[]⟩, .string ⟨#[]⟩, .string ⟨#[]⟩, .string ⟨#[]⟩, .string ⟨#[]⟩, .string ⟨#[]⟩, .slice none 0 0, .int .i64 0, .int .i64 0, .int .i64 0, .int .i64 0, .int .i64 0, .slice none 0 0, .slice none 0 0, .slice none 0 0, .int .i64 0] 1
              have y2 := cell_row (show Rdq z.drew R s i14 e14 from h14) hRV #[.int .i64 0, .slice none 0 0, .string ⟨#[]⟩, .string ⟨#[]⟩, .string ⟨#[]⟩, .string ⟨#[]⟩, .string ⟨#[]⟩, .string ⟨#[]⟩, .string ⟨#[]⟩, .string ⟨#[]⟩, .string ⟨#[]⟩, .string ⟨#[]⟩, .slice none 0 0, .int .i64 0, .int .i64 0, .int .i64 0, .int .i64 0, .int .i64 0, .slice none 0 0, .slice none 0 0, .slice none 0 0, .int .i64 0] 2
              simp only [List.getElem?_toArray, List.getElem?_cons_zero, List.getElem?_cons_succ] at y1 y2
              go_wp2
              go_region
              all_goals
                generalize hQ : bodyPost Try.prog Try.f8 (DPost s w) = Q at *
                go_wp2
                subst hQ
                refine bodyPost_ret (results_three (P := Try.prog) (p := 2) (a := 3) (b := 4) rfl _ _ V0 31 #[.int .i64 0, .slice none 0 0, .string ⟨#[]⟩, .string ⟨#[]⟩, .string ⟨#[]⟩, .string ⟨#[]⟩, .string ⟨#[]⟩, .string ⟨#[]⟩, .string ⟨#[]⟩, .string ⟨#[]⟩, .string ⟨#[]⟩, .string ⟨#[]⟩, .slice none 0 0, .int .i64 0, .int .i64 0, .int .i64 0, .int .i64 0, .int .i64 0, .slice none 0 0, .slice none 0 0, .slice none 0 0, .int .i64 0] (0, 0) _ _ _ rfl rfl rfl (blk_row VV _) Try.underlying31 rfl (by as_aux_lemma => kernel_rfl)) rfl ?_
                refine ⟨tch_below (tch_row (tch_drew TT) (by omega) _) (by omega), Or.inr ⟨_, _, DEC, II, rfl⟩⟩
          · have da : decide ((i14 : Int) < (s.size : Int)) = false := by simp; omega
            · have d1 : ((e14 : Int) != 0) = true := by rw [bne_iff_ne]; omega
              have VV := V
              have TT := T
              have DEC := dec_err RUN he
              have II := hi14
              have RI : rowIs z.drew V0 NT 22 := ⟨_, VV, rfl⟩
              have y1 := cell_row (show Rdq z.drew R s i14 e14 from h14) hRV #[.int .i64 0, .slice none 0 0, .string ⟨#[]⟩, .string ⟨#[]⟩, .string ⟨#[]⟩, .string ⟨#[]⟩, .string ⟨#[]⟩, .string ⟨#[]⟩, .string ⟨#[]⟩, .string ⟨#[]⟩, .string ⟨#[]⟩, .string ⟨#[]⟩, .slice none 0 0, .int .i64 0, .int .i64 0, .int .i64 0, .int .i64 0, .int .i64 0, .slice none 0 0, .slice none 0 0, .slice none 0 0, .int .i64 0] 1
              have y2 := cell_row (show Rdq z.drew R s i14 e14 from h14) hRV #[.int .i64 0, .slice none 0 0, .string ⟨#[]⟩, .string ⟨#[]⟩, .string ⟨#[]⟩, .string ⟨#[]⟩, .string ⟨#[]⟩, .string ⟨#[]⟩, .string ⟨#[]⟩, .string ⟨#[]⟩, .string ⟨#[]⟩, .string ⟨#[]⟩, .slice none 0 0, .int .i64 0, .int .i64 0, .int .i64 0, .int .i64 0, .int .i64 0, .slice none 0 0, .slice none 0 0, .slice none 0 0, .int .i64 0] 2
              simp only [List.getElem?_toArray, List.getElem?_cons_zero, List.getElem?_cons_succ] at y1 y2
              go_wp2
              go_region
              all_goals
                generalize hQ : bodyPost Try.prog Try.f8 (DPost s w) = Q at *
                go_wp2
                subst hQ
                refine bodyPost_ret (results_three (P := Try.prog) (p := 2) (a := 3) (b := 4) rfl _ _ V0 31 #[.int .i64 0, .slice none 0 0, .string ⟨#[]⟩, .string ⟨#[]⟩, .string ⟨#[]⟩, .string ⟨#[]⟩, .string ⟨#[]⟩, .string ⟨#[]⟩, .string ⟨#[]⟩, .string ⟨#[]⟩, .string ⟨#[]⟩, .string ⟨#[]⟩, .slice none 0 0, .int .i64 0, .int .i64 0, .int .i64 0, .int .i64 0, .int .i64 0, .slice none 0 0, .slice none 0 0, .slice none 0 0, .int .i64 0] (0, 0) _ _ _ rfl rfl rfl (blk_row VV _) Try.underlying31 rfl (by as_aux_lemma => kernel_rfl)) rfl ?_
                refine ⟨tch_below (tch_row (tch_drew TT) (by omega) _) (by omega), Or.inr ⟨_, _, DEC, II, rfl⟩⟩
end StaRq
end Go.Proofs.Ytfkjogkpdebepaa
