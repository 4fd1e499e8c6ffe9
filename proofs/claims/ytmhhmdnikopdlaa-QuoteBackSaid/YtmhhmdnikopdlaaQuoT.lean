/- The walk of quote's reader: a variable. Conditions: texts that fit. -/
import Derived.Test.YtmhhmdnikopdlaaQuoS
namespace Go.Proofs.Ytmhhmdnikopdlaa
open Go.RowKit
namespace QuoR
open QuoP QuoW
theorem is_mk (x : UInt8) (w : World) : Calls Try.prog 38 #[.int .u8 x.toNat] w fun e w' => e = .returned (.func (.func 61) #[] #[.pointer (some ⟨w.heap.size, 0, none⟩)]) ∧ w' = w.alloc (.cells #[.int .u8 x.toNat] 5) := by
  go_enter Try.func38, Try.ntmps38
  go_wp2
  go_ret
  exact ⟨rfl, rfl⟩
/-- What 'variable' answers. -/
def VaP (s : ByteArray) (i : Nat) (nm : ByteArray) (i' : Nat) (b' : Bool) : Prop :=
  i ≤ i' ∧ i' ≤ s.size ∧ ((b' = true ∧ ∀ o t, run .dollar o t (s.data.toList.drop i) = .bad (s.data.toList.drop i')) ∨
  (b' = false ∧ i < i' ∧ ∀ o t, run .dollar o t (s.data.toList.drop i) = run .text (o ++ [(nm.data.toList, [])]) t (s.data.toList.drop i')))
def VaPost (s : ByteArray) (R i : Nat) (w : World) (e : Ending) (w' : World) : Prop :=
  ∃ nm i' b', e = .returned (.string nm) ∧ nm.size ≤ s.size ∧ Rdr w' R s i' b' ∧ Tch (On R) w w' ∧ VaP s i nm i' b'
/-- Where it stands. -/
def atOf (R : Nat) (w : World) : Nat := match w.cell? ⟨R, 1, none⟩ with
  | some v => (intOf v).toNat
  | none => 0
theorem atOf_is {R i : Nat} {w : World} {s : ByteArray} {b : Bool} (h : Rdr w R s i b) : atOf R w = i := by
  have := h.cell 1
  unfold atOf; rw [this]; simp [intOf]
theorem extract_list (s : ByteArray) (i j : Nat) : (s.extract i j).data.toList = (s.data.toList.drop i).take (j - i) := by
  simp [List.extract_eq_take_drop]
/-- The name so far. -/
def nmTo (s : ByteArray) (i j : Nat) : Bs := (s.data.toList.drop i).take (j - i)
theorem nmTo_one {s : ByteArray} {i : Nat} {c : UInt8} {r : Bs} (h : s.data.toList.drop i = c :: r) : nmTo s i (i + 1) = [c] := by
  rw [nmTo, h]; simp
theorem nmTo_more {s : ByteArray} {i j : Nat} (hij : i ≤ j) (hj : j < s.size) : nmTo s i (j + 1) = nmTo s i j ++ [s[j]'hj] := by
  rw [nmTo, nmTo, show j + 1 - i = (j - i) + 1 by omega, List.take_add_one, List.getElem?_drop, show i + (j - i) = j by omega, List.getElem?_eq_getElem (by simpa using hj)]
  rfl
theorem nmTo_len {s : ByteArray} {i j : Nat} (hij : i ≤ j) (hj : j ≤ s.size) : (nmTo s i j).length = j - i := by
  rw [nmTo, List.length_take, List.length_drop, ← Lib.size_eq]; omega
theorem nmTo_head {s : ByteArray} {i j : Nat} {c : UInt8} {r : Bs} (h : s.data.toList.drop i = c :: r) (hij : i < j) : (nmTo s i j).head? = some c := by
  rw [nmTo, h, show j - i = (j - i - 1) + 1 by omega]; simp
set_option maxHeartbeats 3200000 in
theorem variable_c (R : Nat) (s : ByteArray) (i : Nat) (w : World) (h : Rdr w R s i false) (hi : i ≤ s.size) (hs : s.size ≤ 4611686018427387904) :
    Calls Try.prog 40 #[.pointer (some ⟨R, 0, none⟩)] w (VaPost s R i w) := by
  have cm := fun W => is_mk 123 W
  have cm2 := fun W => is_mk 125 W
  rw [show (((123 : UInt8).toNat : Nat) : Int) = 123 from rfl] at cm
  rw [show (((125 : UInt8).toNat : Nat) : Int) = 125 from rfl] at cm2
  go_enter Try.func40, Try.ntmps40
  go_wp2_with fail
  (with_reducible refine (cm _).mono ?_)
  rintro e w0 ⟨rfl, hw0⟩
  have h0 : Rdr w0 R s i false := by rw [hw0]; exact h.alloc _
  have t0 : Tch (On R) w w0 := by rw [hw0]; exact (Tch.refl _ _).alloc _
  have b0 : w0.cell? ⟨w.heap.size, 0, none⟩ = some (.int .u8 (123 : UInt8).toNat) := by rw [hw0]; exact (Blk.new w _ _).cell 0
  clear hw0
  have cn := next_is R s i false w0 h0 hi hs 123 w.heap.size b0
  clear b0
  go_wp2_with fail
  (with_reducible refine cn.mono ?_)
  rintro e w1 ⟨c, i1, b1, rfl, h1, t1', hN⟩
  have t1 := t0.trans t1'
  clear t0 t1' h0 cn
  rcases hN with ⟨rfl, rfl, rfl, hb⟩ | ⟨-, rfl, rfl, hd, hp, hlt⟩
  · have HB := Lib.hid hb
    clear hb
    have cn := next_var R s i1 true w1 h1 hi hs
    have k0 := h1.cell 0
    have k1 := h1.cell 1
    have k2 := h1.cell 2
    have l1 := h1.loose 1
    have l2 := h1.loose 2
    simp only [List.getElem?_toArray, List.getElem?_cons_zero, List.getElem?_cons_succ] at k0 k1 k2
    go_wp2_with fail
    (with_reducible refine cn.mono ?_)
    rintro e w2 ⟨c2, i2, b2, rfl, h2, t2', hN⟩
    rcases hN with ⟨rfl, rfl, rfl, -⟩ | ⟨h', -⟩
    · have t2 := t1.trans t2'
      clear t1 t2' h1 cn k0 k1 k2 l1 l2
      go_wp2_with fail
      go_loopw [] (fun wr => Rdr wr R s (i2) true ∧ Tch (On R) w wr) (fun wr => s.size - atOf R wr)
      case atStart => exact ⟨h2, t2⟩
      case round =>
        obtain ⟨hq0, tq0⟩ := hrel
        have k0 := hq0.cell 0
        have k1 := hq0.cell 1
        have k2 := hq0.cell 2
        have l1 := hq0.loose 1
        have l2 := hq0.loose 2
        simp only [List.getElem?_toArray, List.getElem?_cons_zero, List.getElem?_cons_succ] at k0 k1 k2
        go_wp2_with fail
        go_quiet (fail)
        generalize hq : wr.drewN nq = wq
        have hq1 : Rdr wq R s (i2) true := by subst hq; exact hq0.drewN nq
        have tq1 : Tch (On R) w wq := by subst hq; exact tq0.drewN nq
        clear hq k0 k1 k2 l1 l2 hq0 tq0
        have k0 := hq1.cell 0
        have k1 := hq1.cell 1
        have k2 := hq1.cell 2
        have l1 := hq1.loose 1
        have l2 := hq1.loose 2
        simp only [List.getElem?_toArray, List.getElem?_cons_zero, List.getElem?_cons_succ] at k0 k1 k2
        go_wp2_with fail
        (with_reducible refine (cm2 _).mono ?_)
        rintro e w5 ⟨rfl, hw5⟩
        have h5 : Rdr w5 R s (i2) true := by rw [hw5]; exact hq1.alloc _
        have t5 : Tch (On R) w w5 := by rw [hw5]; exact tq1.alloc _
        have b5 : w5.cell? ⟨wq.heap.size, 0, none⟩ = some (.int .u8 (125 : UInt8).toNat) := by rw [hw5]; exact (Blk.new wq _ _).cell 0
        clear hw5 k0 k1 k2 l1 l2 hq1 tq1
        have cn5 := next_is R s (i2) true w5 h5 (by omega) hs 125 wq.heap.size b5
        go_wp2_with fail
        (with_reducible refine cn5.mono ?_)
        rintro e w6 ⟨c6, i6, b6, rfl, h6, t6, hN6⟩
        rcases hN6 with ⟨rfl, rfl, rfl, -⟩ | ⟨h', -⟩
        · skip
          have k0 := h6.cell 0
          have k1 := h6.cell 1
          have k2 := h6.cell 2
          have l1 := h6.loose 1
          have l2 := h6.loose 2
          simp only [List.getElem?_toArray, List.getElem?_cons_zero, List.getElem?_cons_succ] at k0 k1 k2
          go_wp2
          go_ret
          refine ⟨_, _, _, rfl, by simp, h6, t5.trans t6, by omega, by omega, Or.inl ⟨rfl, fun o t => ?_⟩⟩
          refine run_stop _ _ _ _ fun c r e => ?_
          have : eqB 123 c = false := (HB.out.resolve_left (by simp)) c r e
          simp only [eqB, beq_eq_false_iff_ne] at this
          simp [QuoP.step, this]
        · cases h'
    · cases h'
  · have RD := Lib.hid hd
    have hc : c = 123 := by simpa [eqB] using hp
    subst hc
    clear hd hp
    have cn := next_var R s (i + 1) false w1 h1 (by omega) hs
    have k0 := h1.cell 0
    have k1 := h1.cell 1
    have k2 := h1.cell 2
    have l1 := h1.loose 1
    have l2 := h1.loose 2
    simp only [List.getElem?_toArray, List.getElem?_cons_zero, List.getElem?_cons_succ] at k0 k1 k2
    go_wp2_with fail
    (with_reducible refine cn.mono ?_)
    rintro e w2 ⟨c2, i2, b2, rfl, h2, t2', hN⟩
    have t2 := t1.trans t2'
    clear t1 t2' h1 cn k0 k1 k2 l1 l2
    rcases hN with ⟨rfl, rfl, rfl, hb⟩ | ⟨-, rfl, rfl, hd, hp, hlt2⟩
    · have HB := Lib.hid hb
      clear hb
      go_wp2_with fail
      go_loopw [] (fun wr => Rdr wr R s (i + 1) true ∧ Tch (On R) w wr) (fun wr => s.size - atOf R wr)
      case atStart => exact ⟨h2, t2⟩
      case round =>
        obtain ⟨hq0, tq0⟩ := hrel
        have k0 := hq0.cell 0
        have k1 := hq0.cell 1
        have k2 := hq0.cell 2
        have l1 := hq0.loose 1
        have l2 := hq0.loose 2
        simp only [List.getElem?_toArray, List.getElem?_cons_zero, List.getElem?_cons_succ] at k0 k1 k2
        go_wp2_with fail
        go_quiet (fail)
        generalize hq : wr.drewN nq = wq
        have hq1 : Rdr wq R s (i + 1) true := by subst hq; exact hq0.drewN nq
        have tq1 : Tch (On R) w wq := by subst hq; exact tq0.drewN nq
        clear hq k0 k1 k2 l1 l2 hq0 tq0
        have k0 := hq1.cell 0
        have k1 := hq1.cell 1
        have k2 := hq1.cell 2
        have l1 := hq1.loose 1
        have l2 := hq1.loose 2
        simp only [List.getElem?_toArray, List.getElem?_cons_zero, List.getElem?_cons_succ] at k0 k1 k2
        go_wp2_with fail
        (with_reducible refine (cm2 _).mono ?_)
        rintro e w5 ⟨rfl, hw5⟩
        have h5 : Rdr w5 R s (i + 1) true := by rw [hw5]; exact hq1.alloc _
        have t5 : Tch (On R) w w5 := by rw [hw5]; exact tq1.alloc _
        have b5 : w5.cell? ⟨wq.heap.size, 0, none⟩ = some (.int .u8 (125 : UInt8).toNat) := by rw [hw5]; exact (Blk.new wq _ _).cell 0
        clear hw5 k0 k1 k2 l1 l2 hq1 tq1
        have cn5 := next_is R s (i + 1) true w5 h5 (by omega) hs 125 wq.heap.size b5
        go_wp2_with fail
        (with_reducible refine cn5.mono ?_)
        rintro e w6 ⟨c6, i6, b6, rfl, h6, t6, hN6⟩
        rcases hN6 with ⟨rfl, rfl, rfl, -⟩ | ⟨h', -⟩
        · skip
          have k0 := h6.cell 0
          have k1 := h6.cell 1
          have k2 := h6.cell 2
          have l1 := h6.loose 1
          have l2 := h6.loose 2
          simp only [List.getElem?_toArray, List.getElem?_cons_zero, List.getElem?_cons_succ] at k0 k1 k2
          go_wp2
          go_ret
          refine ⟨_, _, _, rfl, by simp, h6, t5.trans t6, by omega, by omega, Or.inl ⟨rfl, fun o t => ?_⟩⟩
          rw [RD.out, run_go _ (show QuoP.step .dollar o t 123 = .go .brace o t from rfl)]
          refine run_stop _ _ _ _ fun c r e => ?_
          have : headB c = false := (HB.out.resolve_left (by simp)) c r e
          simp only [headB] at this
          simp [QuoP.step, this]
        · cases h'
    · have RD2 := Lib.hid hd
      have HP := Lib.hid hp
      clear hd hp
      have RN : Hid (∀ o t, run .dollar o t (s.data.toList.drop i) = run (.nam [c2]) o t (s.data.toList.drop (i + 1 + 1))) := Lib.hid fun o t => by
        rw [RD.out, run_go _ (show QuoP.step .dollar o t 123 = .go .brace o t from rfl), RD2.out, run_go _ (show QuoP.step .brace o t c2 = .go (.nam [c2]) o t by have := HP.out; simp only [headB] at this; simp [QuoP.step, this])]
      have cl := fun W => letter_c c2 W
      go_wp2_with fail
      go_loopw [] (fun wr => ∃ j : Nat, i + 1 + 1 ≤ j ∧ j ≤ s.size ∧ j ≤ i + 1 + 8 ∧ (letterB c2 = false → j = i + 1 + 1) ∧ Rdr wr R s j false ∧ Tch (On R) w wr ∧
        Hid (∀ o t, run .dollar o t (s.data.toList.drop i) = run (.nam (nmTo s (i + 1) j)) o t (s.data.toList.drop j))) (fun wr => s.size - atOf R wr)
      case atStart => exact ⟨i + 1 + 1, by omega, by omega, by omega, fun _ => rfl, h2, t2, Lib.hid fun o t => by rw [RN.out, nmTo_one RD2.out]⟩
      case round =>
        obtain ⟨j, hj0, hj1, hj2, hj3, hq0, tq0, HJ⟩ := hrel
        have ha := atOf_is hq0
        cases hl : letterB c2 <;> rw [hl] at cl
        · skip
          have EX : Hid (∀ x r, s.data.toList.drop j = x :: r → ((nmTo s (i + 1) j).head?.any letterB && decide ((nmTo s (i + 1) j).length < 8) && withB x) = false) := Lib.hid fun x r e => by
            rw [nmTo_head RD2.out (show i + 1 < j by omega)]
            simp [hl]
          have k0 := hq0.cell 0
          have k1 := hq0.cell 1
          have k2 := hq0.cell 2
          have l1 := hq0.loose 1
          have l2 := hq0.loose 2
          simp only [List.getElem?_toArray, List.getElem?_cons_zero, List.getElem?_cons_succ] at k0 k1 k2
          go_wp2_with fail
          go_quiet (exact quiet_w (fun m => cl (wr.drewN m)))
          generalize hq : wr.drewN nq = wq
          have hq1 : Rdr wq R s j false := by subst hq; exact hq0.drewN nq
          have tq1 : Tch (On R) w wq := by subst hq; exact tq0.drewN nq
          clear hq k0 k1 k2 l1 l2 hq0 tq0 ha
          have k0 := hq1.cell 0
          have k1 := hq1.cell 1
          have k2 := hq1.cell 2
          have l1 := hq1.loose 1
          have l2 := hq1.loose 2
          simp only [List.getElem?_toArray, List.getElem?_cons_zero, List.getElem?_cons_succ] at k0 k1 k2
          go_wp2_with fail
          (with_reducible refine (cm2 _).mono ?_)
          rintro e w5 ⟨rfl, hw5⟩
          have h5 : Rdr w5 R s j false := by rw [hw5]; exact hq1.alloc _
          have t5 : Tch (On R) w w5 := by rw [hw5]; exact tq1.alloc _
          have b5 : w5.cell? ⟨wq.heap.size, 0, none⟩ = some (.int .u8 (125 : UInt8).toNat) := by rw [hw5]; exact (Blk.new wq _ _).cell 0
          clear hw5 k0 k1 k2 l1 l2 hq1 tq1
          have cn5 := next_is R s j false w5 h5 (by omega) hs 125 wq.heap.size b5
          go_wp2_with fail
          (with_reducible refine cn5.mono ?_)
          rintro e w6 ⟨c6, i6, b6, rfl, h6, t6, hN6⟩
          rcases hN6 with ⟨rfl, rfl, rfl, hb6⟩ | ⟨-, rfl, rfl, hd6, hp6, hlt6⟩
          · have HB := Lib.hid hb6
            clear hb6
            have k0 := h6.cell 0
            have k1 := h6.cell 1
            have k2 := h6.cell 2
            have l1 := h6.loose 1
            have l2 := h6.loose 2
            simp only [List.getElem?_toArray, List.getElem?_cons_zero, List.getElem?_cons_succ] at k0 k1 k2
            go_wp2
            go_ret
            refine ⟨_, _, _, rfl, by simp; omega, h6, t5.trans t6, by omega, by omega, Or.inl ⟨rfl, fun o t => ?_⟩⟩
            rw [HJ.out]
            refine run_stop _ _ _ _ fun c r e => ?_
            have h1 : eqB 125 c = false := (HB.out.resolve_left (by simp)) c r e
            simp only [eqB, beq_eq_false_iff_ne] at h1
            have h2 := EX.out c r e
            simp only [QuoP.step]
            rw [if_neg h1, h2]; rfl
          · have HD := Lib.hid hd6
            have hc6 : c6 = 125 := by simpa [eqB] using hp6
            subst hc6
            clear hd6 hp6
            have k0 := h6.cell 0
            have k1 := h6.cell 1
            have k2 := h6.cell 2
            have l1 := h6.loose 1
            have l2 := h6.loose 2
            simp only [List.getElem?_toArray, List.getElem?_cons_zero, List.getElem?_cons_succ] at k0 k1 k2
            go_wp2
            go_ret
            refine ⟨_, _, _, rfl, by simp; omega, h6, t5.trans t6, by omega, by omega, Or.inr ⟨rfl, by omega, fun o t => ?_⟩⟩
            rw [HJ.out, HD.out, run_go _ (show QuoP.step (.nam (nmTo s (i + 1) j)) o t 125 = .go .text (o ++ [(nmTo s (i + 1) j, [])]) t from rfl), extract_list]
            first | rfl | (have e := hj3 hl; subst e; rfl)
        · by_cases g1 : j < s.size
          · have gd1 : decide (j < s.size) = true := by simpa using g1
            have hwr : IntKind.i64.wrap ((i : Int) + 1 + 8) = (i : Int) + 9 := by simp [IntKind.wrap, IntKind.bits, IntKind.signed]; omega
            by_cases g2 : j < i + 1 + 8
            · have gd2 : decide ((j : Int) < (i : Int) + 9) = true := by simp; omega
              have hdj := drop_cons s j g1
              obtain ⟨x, hx⟩ : ∃ x, s[j]'g1 = x := ⟨_, rfl⟩
              rw [hx] at hdj
              have cw := fun W => within_c x W
              have HX := Lib.hid hdj
              clear hdj
              cases hw : withB x <;> rw [hw] at cw
              · skip
                have EX : Hid (∀ x r, s.data.toList.drop j = x :: r → ((nmTo s (i + 1) j).head?.any letterB && decide ((nmTo s (i + 1) j).length < 8) && withB x) = false) := Lib.hid fun x r e => by
                  rw [HX.out] at e; injection e with e1 e2; subst e1; rw [hw, Bool.and_false]
                have k0 := hq0.cell 0
                have k1 := hq0.cell 1
                have k2 := hq0.cell 2
                have l1 := hq0.loose 1
                have l2 := hq0.loose 2
                simp only [List.getElem?_toArray, List.getElem?_cons_zero, List.getElem?_cons_succ] at k0 k1 k2
                go_wp2_with fail
                go_quiet (first | exact quiet_w (fun m => cl (wr.drewN m)) | exact quiet_w (fun m => cw (wr.drewN m)))
                generalize hq : wr.drewN nq = wq
                have hq1 : Rdr wq R s j false := by subst hq; exact hq0.drewN nq
                have tq1 : Tch (On R) w wq := by subst hq; exact tq0.drewN nq
                clear hq k0 k1 k2 l1 l2 hq0 tq0 ha
                have k0 := hq1.cell 0
                have k1 := hq1.cell 1
                have k2 := hq1.cell 2
                have l1 := hq1.loose 1
                have l2 := hq1.loose 2
                simp only [List.getElem?_toArray, List.getElem?_cons_zero, List.getElem?_cons_succ] at k0 k1 k2
                go_wp2_with fail
                (with_reducible refine (cm2 _).mono ?_)
                rintro e w5 ⟨rfl, hw5⟩
                have h5 : Rdr w5 R s j false := by rw [hw5]; exact hq1.alloc _
                have t5 : Tch (On R) w w5 := by rw [hw5]; exact tq1.alloc _
                have b5 : w5.cell? ⟨wq.heap.size, 0, none⟩ = some (.int .u8 (125 : UInt8).toNat) := by rw [hw5]; exact (Blk.new wq _ _).cell 0
                clear hw5 k0 k1 k2 l1 l2 hq1 tq1
                have cn5 := next_is R s j false w5 h5 (by omega) hs 125 wq.heap.size b5
                go_wp2_with fail
                (with_reducible refine cn5.mono ?_)
                rintro e w6 ⟨c6, i6, b6, rfl, h6, t6, hN6⟩
                rcases hN6 with ⟨rfl, rfl, rfl, hb6⟩ | ⟨-, rfl, rfl, hd6, hp6, hlt6⟩
                · have HB := Lib.hid hb6
                  clear hb6
                  have k0 := h6.cell 0
                  have k1 := h6.cell 1
                  have k2 := h6.cell 2
                  have l1 := h6.loose 1
                  have l2 := h6.loose 2
                  simp only [List.getElem?_toArray, List.getElem?_cons_zero, List.getElem?_cons_succ] at k0 k1 k2
                  go_wp2
                  go_ret
                  refine ⟨_, _, _, rfl, by simp; omega, h6, t5.trans t6, by omega, by omega, Or.inl ⟨rfl, fun o t => ?_⟩⟩
                  rw [HJ.out]
                  refine run_stop _ _ _ _ fun c r e => ?_
                  have h1 : eqB 125 c = false := (HB.out.resolve_left (by simp)) c r e
                  simp only [eqB, beq_eq_false_iff_ne] at h1
                  have h2 := EX.out c r e
                  simp only [QuoP.step]
                  rw [if_neg h1, h2]; rfl
                · have HD := Lib.hid hd6
                  have hc6 : c6 = 125 := by simpa [eqB] using hp6
                  subst hc6
                  clear hd6 hp6
                  have k0 := h6.cell 0
                  have k1 := h6.cell 1
                  have k2 := h6.cell 2
                  have l1 := h6.loose 1
                  have l2 := h6.loose 2
                  simp only [List.getElem?_toArray, List.getElem?_cons_zero, List.getElem?_cons_succ] at k0 k1 k2
                  go_wp2
                  go_ret
                  refine ⟨_, _, _, rfl, by simp; omega, h6, t5.trans t6, by omega, by omega, Or.inr ⟨rfl, by omega, fun o t => ?_⟩⟩
                  rw [HJ.out, HD.out, run_go _ (show QuoP.step (.nam (nmTo s (i + 1) j)) o t 125 = .go .text (o ++ [(nmTo s (i + 1) j, [])]) t from rfl), extract_list]
                  first | rfl | (have e := hj3 hl; subst e; rfl)
              · skip
                have k0 := hq0.cell 0
                have k1 := hq0.cell 1
                have k2 := hq0.cell 2
                have l1 := hq0.loose 1
                have l2 := hq0.loose 2
                simp only [List.getElem?_toArray, List.getElem?_cons_zero, List.getElem?_cons_succ] at k0 k1 k2
                go_wp2_with fail
                go_quiet (first | exact quiet_w (fun m => cl (wr.drewN m)) | exact quiet_w (fun m => cw (wr.drewN m)))
                generalize hq : wr.drewN nq = wq
                have hq1 : Rdr wq R s j false := by subst hq; exact hq0.drewN nq
                have tq1 : Tch (On R) w wq := by subst hq; exact tq0.drewN nq
                clear hq k0 k1 k2 l1 l2 hq0 tq0
                have k0 := hq1.cell 0
                have k1 := hq1.cell 1
                have k2 := hq1.cell 2
                have l1 := hq1.loose 1
                have l2 := hq1.loose 2
                simp only [List.getElem?_toArray, List.getElem?_cons_zero, List.getElem?_cons_succ] at k0 k1 k2
                go_wp2_with fail
                go_roundw
                case rel =>
                  refine ⟨j + 1, by omega, by omega, by omega, fun h => (by cases h), hq1.set_ 1 _, Tch.setCell (S := On R) tq1 (p := ⟨R, 1, none⟩) rfl _, Lib.hid fun o t => ?_⟩
                  have e2 : QuoP.step (.nam (nmTo s (i + 1) j)) o t x = .go (.nam (nmTo s (i + 1) j ++ [x])) o t := by
                    simp only [QuoP.step]
                    rw [if_neg (with_not x hw), nmTo_head RD2.out (show i + 1 < j by omega), nmTo_len (by omega) hj1]
                    simp [hl, hw]; omega
                  rw [HJ.out, HX.out, run_go _ e2, nmTo_more (by omega) g1, hx]
                case measure =>
                  have hz : Rdr (wq.setCell ⟨R, 1, none⟩ (.int .i64 ((j : Int) + 1))) R s (j + 1) false := hq1.set_ 1 _
                  rw [atOf_is hz, ha]; omega
            · have gd2 : decide ((j : Int) < (i : Int) + 9) = false := by simp; omega
              have EX : Hid (∀ x r, s.data.toList.drop j = x :: r → ((nmTo s (i + 1) j).head?.any letterB && decide ((nmTo s (i + 1) j).length < 8) && withB x) = false) := Lib.hid fun x r e => by
                rw [nmTo_len (by omega) hj1, show decide (j - (i + 1) < 8) = false by simp; omega, Bool.and_false]; rfl
              have k0 := hq0.cell 0
              have k1 := hq0.cell 1
              have k2 := hq0.cell 2
              have l1 := hq0.loose 1
              have l2 := hq0.loose 2
              simp only [List.getElem?_toArray, List.getElem?_cons_zero, List.getElem?_cons_succ] at k0 k1 k2
              go_wp2_with fail
              go_quiet (exact quiet_w (fun m => cl (wr.drewN m)))
              generalize hq : wr.drewN nq = wq
              have hq1 : Rdr wq R s j false := by subst hq; exact hq0.drewN nq
              have tq1 : Tch (On R) w wq := by subst hq; exact tq0.drewN nq
              clear hq k0 k1 k2 l1 l2 hq0 tq0 ha
              have k0 := hq1.cell 0
              have k1 := hq1.cell 1
              have k2 := hq1.cell 2
              have l1 := hq1.loose 1
              have l2 := hq1.loose 2
              simp only [List.getElem?_toArray, List.getElem?_cons_zero, List.getElem?_cons_succ] at k0 k1 k2
              go_wp2_with fail
              (with_reducible refine (cm2 _).mono ?_)
              rintro e w5 ⟨rfl, hw5⟩
              have h5 : Rdr w5 R s j false := by rw [hw5]; exact hq1.alloc _
              have t5 : Tch (On R) w w5 := by rw [hw5]; exact tq1.alloc _
              have b5 : w5.cell? ⟨wq.heap.size, 0, none⟩ = some (.int .u8 (125 : UInt8).toNat) := by rw [hw5]; exact (Blk.new wq _ _).cell 0
              clear hw5 k0 k1 k2 l1 l2 hq1 tq1
              have cn5 := next_is R s j false w5 h5 (by omega) hs 125 wq.heap.size b5
              go_wp2_with fail
              (with_reducible refine cn5.mono ?_)
              rintro e w6 ⟨c6, i6, b6, rfl, h6, t6, hN6⟩
              rcases hN6 with ⟨rfl, rfl, rfl, hb6⟩ | ⟨-, rfl, rfl, hd6, hp6, hlt6⟩
              · have HB := Lib.hid hb6
                clear hb6
                have k0 := h6.cell 0
                have k1 := h6.cell 1
                have k2 := h6.cell 2
                have l1 := h6.loose 1
                have l2 := h6.loose 2
                simp only [List.getElem?_toArray, List.getElem?_cons_zero, List.getElem?_cons_succ] at k0 k1 k2
                go_wp2
                go_ret
                refine ⟨_, _, _, rfl, by simp; omega, h6, t5.trans t6, by omega, by omega, Or.inl ⟨rfl, fun o t => ?_⟩⟩
                rw [HJ.out]
                refine run_stop _ _ _ _ fun c r e => ?_
                have h1 : eqB 125 c = false := (HB.out.resolve_left (by simp)) c r e
                simp only [eqB, beq_eq_false_iff_ne] at h1
                have h2 := EX.out c r e
                simp only [QuoP.step]
                rw [if_neg h1, h2]; rfl
              · have HD := Lib.hid hd6
                have hc6 : c6 = 125 := by simpa [eqB] using hp6
                subst hc6
                clear hd6 hp6
                have k0 := h6.cell 0
                have k1 := h6.cell 1
                have k2 := h6.cell 2
                have l1 := h6.loose 1
                have l2 := h6.loose 2
                simp only [List.getElem?_toArray, List.getElem?_cons_zero, List.getElem?_cons_succ] at k0 k1 k2
                go_wp2
                go_ret
                refine ⟨_, _, _, rfl, by simp; omega, h6, t5.trans t6, by omega, by omega, Or.inr ⟨rfl, by omega, fun o t => ?_⟩⟩
                rw [HJ.out, HD.out, run_go _ (show QuoP.step (.nam (nmTo s (i + 1) j)) o t 125 = .go .text (o ++ [(nmTo s (i + 1) j, [])]) t from rfl), extract_list]
                first | rfl | (have e := hj3 hl; subst e; rfl)
          · have gd1 : decide (j < s.size) = false := by simpa using g1
            have EX : Hid (∀ x r, s.data.toList.drop j = x :: r → ((nmTo s (i + 1) j).head?.any letterB && decide ((nmTo s (i + 1) j).length < 8) && withB x) = false) := Lib.hid fun x r e => by
              rw [List.drop_eq_nil_of_le (by rw [← Lib.size_eq]; omega)] at e; cases e
            have k0 := hq0.cell 0
            have k1 := hq0.cell 1
            have k2 := hq0.cell 2
            have l1 := hq0.loose 1
            have l2 := hq0.loose 2
            simp only [List.getElem?_toArray, List.getElem?_cons_zero, List.getElem?_cons_succ] at k0 k1 k2
            go_wp2_with fail
            go_quiet (exact quiet_w (fun m => cl (wr.drewN m)))
            generalize hq : wr.drewN nq = wq
            have hq1 : Rdr wq R s j false := by subst hq; exact hq0.drewN nq
            have tq1 : Tch (On R) w wq := by subst hq; exact tq0.drewN nq
            clear hq k0 k1 k2 l1 l2 hq0 tq0 ha
            have k0 := hq1.cell 0
            have k1 := hq1.cell 1
            have k2 := hq1.cell 2
            have l1 := hq1.loose 1
            have l2 := hq1.loose 2
            simp only [List.getElem?_toArray, List.getElem?_cons_zero, List.getElem?_cons_succ] at k0 k1 k2
            go_wp2_with fail
            (with_reducible refine (cm2 _).mono ?_)
            rintro e w5 ⟨rfl, hw5⟩
            have h5 : Rdr w5 R s j false := by rw [hw5]; exact hq1.alloc _
            have t5 : Tch (On R) w w5 := by rw [hw5]; exact tq1.alloc _
            have b5 : w5.cell? ⟨wq.heap.size, 0, none⟩ = some (.int .u8 (125 : UInt8).toNat) := by rw [hw5]; exact (Blk.new wq _ _).cell 0
            clear hw5 k0 k1 k2 l1 l2 hq1 tq1
            have cn5 := next_is R s j false w5 h5 (by omega) hs 125 wq.heap.size b5
            go_wp2_with fail
            (with_reducible refine cn5.mono ?_)
            rintro e w6 ⟨c6, i6, b6, rfl, h6, t6, hN6⟩
            rcases hN6 with ⟨rfl, rfl, rfl, hb6⟩ | ⟨-, rfl, rfl, hd6, hp6, hlt6⟩
            · have HB := Lib.hid hb6
              clear hb6
              have k0 := h6.cell 0
              have k1 := h6.cell 1
              have k2 := h6.cell 2
              have l1 := h6.loose 1
              have l2 := h6.loose 2
              simp only [List.getElem?_toArray, List.getElem?_cons_zero, List.getElem?_cons_succ] at k0 k1 k2
              go_wp2
              go_ret
              refine ⟨_, _, _, rfl, by simp; omega, h6, t5.trans t6, by omega, by omega, Or.inl ⟨rfl, fun o t => ?_⟩⟩
              rw [HJ.out]
              refine run_stop _ _ _ _ fun c r e => ?_
              have h1 : eqB 125 c = false := (HB.out.resolve_left (by simp)) c r e
              simp only [eqB, beq_eq_false_iff_ne] at h1
              have h2 := EX.out c r e
              simp only [QuoP.step]
              rw [if_neg h1, h2]; rfl
            · have HD := Lib.hid hd6
              exact absurd hlt6 g1
end QuoR
end Go.Proofs.Ytmhhmdnikopdlaa
