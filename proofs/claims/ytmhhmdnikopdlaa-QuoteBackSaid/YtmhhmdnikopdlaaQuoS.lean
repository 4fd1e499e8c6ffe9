/- The walks of quote's reader: a hex digit, what stands behind a stroke, a variable. Conditions: texts that fit. -/
import Derived.Test.YtmhhmdnikopdlaaQuoR
namespace Go.Proofs.Ytmhhmdnikopdlaa
open Go.RowKit
namespace QuoR
open QuoP QuoW
theorem run_stop (st : St) (o : List Pt) (t l : Bs) (h : ∀ c r, l = c :: r → QuoP.step st o t c = .no) : run st o t l = .bad l := by
  cases l with
  | nil => rfl
  | cons c r => exact run_no r (h c r rfl)
def HxP (s : ByteArray) (i : Nat) (b : Bool) (n i' : Nat) (b' : Bool) : Prop :=
  (b' = true ∧ i' = i ∧ n = 0 ∧ (b = true ∨ ∀ c r, s.data.toList.drop i = c :: r → hexB c = false)) ∨
  (b = false ∧ b' = false ∧ i' = i + 1 ∧ i < s.size ∧ ∃ c, s.data.toList.drop i = c :: s.data.toList.drop (i + 1) ∧ hexB c = true ∧ n = hexN c)
def HxPost (s : ByteArray) (R i : Nat) (b : Bool) (w : World) (e : Ending) (w' : World) : Prop :=
  ∃ (n : Nat) (i' : Nat) (b' : Bool), e = .returned (.int .u8 (n : Int)) ∧ n < 16 ∧ Rdr w' R s i' b' ∧ Tch (On R) w w' ∧ HxP s i b n i' b'
theorem hexN_lt (c : UInt8) (h : hexB c = true) : hexN c < 16 := by
  have := all_bytes (fun c => !hexB c || decide (hexN c < 16)) (by decide +kernel) c
  simpa [h] using this
theorem idx_none : Lib.indexByte [48, 49, 50, 51, 52, 53, 54, 55, 56, 57, 97, 98, 99, 100, 101, 102] 0 = -1 := by decide
set_option maxHeartbeats 400000 in
theorem hex_c (R : Nat) (s : ByteArray) (i : Nat) (b : Bool) (w : World) (h : Rdr w R s i b) (hi : i ≤ s.size) (hs : s.size ≤ 4611686018427387904) :
    Calls Try.prog 66 #[.pointer (some ⟨R, 0, none⟩)] w (HxPost s R i b w) := by
  have cn := next_hex R s i b w h hi hs
  go_enter Try.func66, Try.ntmps66
  go_wp2_with fail
  (with_reducible refine cn.mono ?_)
  rintro e w1 ⟨c, i', b', rfl, h1, t1, hN⟩
  rcases hN with ⟨rfl, rfl, rfl, hb⟩ | ⟨rfl, rfl, rfl, hd, hp, hlt⟩
  · have ci := fun W => idx_c 0 W ⟨#[48, 49, 50, 51, 52, 53, 54, 55, 56, 57, 97, 98, 99, 100, 101, 102]⟩
    rw [show (⟨#[48, 49, 50, 51, 52, 53, 54, 55, 56, 57, 97, 98, 99, 100, 101, 102]⟩ : ByteArray).data.toList = [48, 49, 50, 51, 52, 53, 54, 55, 56, 57, 97, 98, 99, 100, 101, 102] from rfl, idx_none, show (((0 : UInt8).toNat : Nat) : Int) = 0 from rfl] at ci
    go_wp2_with fail
    (with_reducible refine (ci _).mono ?_)
    rintro e w' ⟨rfl, rfl⟩
    go_wp2_with fail
    go_ret
    exact ⟨0, _, _, rfl, by omega, h1, t1, Or.inl ⟨rfl, rfl, rfl, hb⟩⟩
  · have ci := fun W => idx_c c W ⟨#[48, 49, 50, 51, 52, 53, 54, 55, 56, 57, 97, 98, 99, 100, 101, 102]⟩
    rw [show (⟨#[48, 49, 50, 51, 52, 53, 54, 55, 56, 57, 97, 98, 99, 100, 101, 102]⟩ : ByteArray).data.toList = [48, 49, 50, 51, 52, 53, 54, 55, 56, 57, 97, 98, 99, 100, 101, 102] from rfl, idx_val c hp] at ci
    have hv := hexN_lt c hp
    obtain ⟨n, hn⟩ : ∃ n, hexN c = n := ⟨_, rfl⟩
    rw [hn] at ci hv
    go_wp2_with fail
    (with_reducible refine (ci _).mono ?_)
    rintro e w' ⟨rfl, rfl⟩
    go_wp2_with fail
    go_ret
    refine ⟨n, _, _, ?_, hv, h1, t1, Or.inr ⟨rfl, rfl, rfl, hlt, c, hd, hp, hn.symm⟩⟩
    rfl
/-- What 'escape' answers. -/
def EsP (s : ByteArray) (i : Nat) (c : UInt8) (i' : Nat) (b' : Bool) : Prop :=
  i ≤ i' ∧ i' ≤ s.size ∧ ((b' = true ∧ ∀ o t, run .esc o t (s.data.toList.drop i) = .bad (s.data.toList.drop i')) ∨
  (b' = false ∧ i < i' ∧ ∀ o t, run .esc o t (s.data.toList.drop i) = run .text o (t ++ [c]) (s.data.toList.drop i')))
def EsPost (s : ByteArray) (R i : Nat) (w : World) (e : Ending) (w' : World) : Prop :=
  ∃ c i' b', e = .returned (.int .u8 c.toNat) ∧ Rdr w' R s i' b' ∧ Tch (On R) w w' ∧ EsP s i c i' b'
theorem esc_cases (c : UInt8) (h : escB c = true) : c = 110 ∨ c = 114 ∨ c = 116 ∨ c = 120 ∨ (c = 34 ∨ c = 92 ∨ c = 36) := by
  simp only [escB, Bool.or_eq_true, beq_iff_eq] at h
  rcases h with (((((h | h) | h) | h) | h) | h) | h <;> simp [h]
theorem esc_no {c : UInt8} (h : escB c = false) (o : List Pt) (t : Bs) : QuoP.step .esc o t c = .no := by
  simp only [escB, Bool.or_eq_false_iff, beq_eq_false_iff_ne] at h
  simp [QuoP.step, h]
theorem or_hex (a b : Nat) (ha : a < 16) (hb : b < 16) : bits BinOp.or IntKind.u8 ((a : Int) * 16) (b : Int) = ((UInt8.ofNat (a * 16 + b)).toNat : Int) := by
  have : ∀ (a b : Fin 16), bits BinOp.or IntKind.u8 ((a.val : Int) * 16) (b.val : Int) = ((UInt8.ofNat (a.val * 16 + b.val)).toNat : Int) := by decide +kernel
  exact this ⟨a, ha⟩ ⟨b, hb⟩
theorem ret_u8 {a b : Int} (h : a = b) : Ending.returned (.int .u8 a) = .returned (.int .u8 b) := by rw [h]
set_option maxHeartbeats 800000 in
theorem escape_c (R : Nat) (s : ByteArray) (i : Nat) (w : World) (h : Rdr w R s i false) (hi : i ≤ s.size) (hs : s.size ≤ 4611686018427387904) :
    Calls Try.prog 42 #[.pointer (some ⟨R, 0, none⟩)] w (EsPost s R i w) := by
  have cn := next_esc R s i false w h hi hs
  go_enter Try.func42, Try.ntmps42
  go_wp2_with fail
  (with_reducible refine cn.mono ?_)
  rintro e w1 ⟨c, i', b', rfl, h1, t1, hN⟩
  rcases hN with ⟨rfl, rfl, rfl, hb⟩ | ⟨-, rfl, rfl, hd, hp, hlt⟩
  · have hb2 : ∀ c r, s.data.toList.drop i' = c :: r → escB c = false := by
      rcases hb with hb | hb
      · cases hb
      · exact hb
    go_wp2_with fail
    go_ret
    exact ⟨0, _, _, rfl, h1, t1, Nat.le_refl _, hi, Or.inl ⟨rfl, fun o t => run_stop _ _ _ _ fun c r e => esc_no (hb2 c r e) o t⟩⟩
  · obtain ⟨z, hz⟩ : ∃ z : Int, (c.toNat : Int) = z := ⟨_, rfl⟩
    rw [hz]
    rcases esc_cases c hp with rfl | rfl | rfl | rfl | hc
    · obtain rfl : z = 110 := hz.symm
      go_wp2_with fail
      go_ret
      exact ⟨10, _, _, rfl, h1, t1, by omega, by omega, Or.inr ⟨rfl, by omega, fun o t => by rw [hd, run_go _ (show QuoP.step .esc o t 110 = .go .text o (t ++ [10]) from rfl)]⟩⟩
    · obtain rfl : z = 114 := hz.symm
      go_wp2_with fail
      go_ret
      exact ⟨13, _, _, rfl, h1, t1, by omega, by omega, Or.inr ⟨rfl, by omega, fun o t => by rw [hd, run_go _ (show QuoP.step .esc o t 114 = .go .text o (t ++ [13]) from rfl)]⟩⟩
    · obtain rfl : z = 116 := hz.symm
      go_wp2_with fail
      go_ret
      exact ⟨9, _, _, rfl, h1, t1, by omega, by omega, Or.inr ⟨rfl, by omega, fun o t => by rw [hd, run_go _ (show QuoP.step .esc o t 116 = .go .text o (t ++ [9]) from rfl)]⟩⟩
    · obtain rfl : z = 120 := hz.symm
      have c1 := hex_c R s (i + 1) false w1 h1 (by omega) hs
      have RD := Lib.hid hd
      clear hd
      go_wp2_with fail
      (with_reducible refine c1.mono ?_)
      rintro e w2 ⟨n, i2, b2, rfl, hn, h2, t2, hx⟩
      rcases hx with ⟨rfl, rfl, rfl, hb⟩ | ⟨-, rfl, rfl, hlt2, d, hd2, hp2, hv2⟩
      · have c2 := hex_c R s (i + 1) true w2 h2 (by omega) hs
        have HB := Lib.hid hb
        clear hb
        go_wp2_with fail
        (with_reducible refine c2.mono ?_)
        rintro e w3 ⟨n3, i3, b3, rfl, hn3, h3, t3, hx3⟩
        rcases hx3 with ⟨rfl, rfl, rfl, -⟩ | ⟨h', -⟩
        · go_wp2_with fail
          go_ret
          refine ⟨0, _, _, rfl, h3, t1.trans (t2.trans t3), by omega, by omega, Or.inl ⟨rfl, fun o t => ?_⟩⟩
          rw [RD.out, run_go _ (show QuoP.step .esc o t 120 = .go .hex1 o t from rfl)]
          refine run_stop _ _ _ _ fun c r e => ?_
          have : hexB c = false := (HB.out.resolve_left (by simp)) c r e
          simp [QuoP.step, this]
        · cases h'
      · have c2 := hex_c R s (i + 1 + 1) false w2 h2 (by omega) hs
        have RD2 := Lib.hid hd2
        clear hd2
        go_wp2_with fail
        (with_reducible refine c2.mono ?_)
        rintro e w3 ⟨n3, i3, b3, rfl, hn3, h3, t3, hx3⟩
        rcases hx3 with ⟨rfl, rfl, rfl, hb3⟩ | ⟨-, rfl, rfl, hlt3, d3, hd3, hp3, hv3⟩
        · have HB := Lib.hid hb3
          clear hb3
          go_wp2_with fail
          go_ret
          refine ⟨_, _, _, ret_u8 (or_hex (hexN d) 0 (hexN_lt d hp2) (by omega)), h3, t1.trans (t2.trans t3), by omega, by omega, Or.inl ⟨rfl, fun o t => ?_⟩⟩
          rw [RD.out, run_go _ (show QuoP.step .esc o t 120 = .go .hex1 o t from rfl), RD2.out, run_go _ (show QuoP.step .hex1 o t d = .go (.hex2 d) o t by simp [QuoP.step, hp2])]
          refine run_stop _ _ _ _ fun c r e => ?_
          have : hexB c = false := (HB.out.resolve_left (by simp)) c r e
          simp [QuoP.step, this]
        · have RD3 := Lib.hid hd3
          clear hd3
          go_wp2_with fail
          go_ret
          refine ⟨_, _, _, ret_u8 (or_hex (hexN d) (hexN d3) (hexN_lt d hp2) (hexN_lt d3 hp3)), h3, t1.trans (t2.trans t3), by omega, by omega, Or.inr ⟨rfl, by omega, fun o t => ?_⟩⟩
          rw [RD.out, run_go _ (show QuoP.step .esc o t 120 = .go .hex1 o t from rfl), RD2.out, run_go _ (show QuoP.step .hex1 o t d = .go (.hex2 d) o t by simp [QuoP.step, hp2]), RD3.out,
            run_go _ (show QuoP.step (.hex2 d) o t d3 = .go .text o (t ++ [UInt8.ofNat (hexN d * 16 + hexN d3)]) by simp [QuoP.step, hp3])]
    · have hz2 : (z == 110) = false ∧ (z == 114) = false ∧ (z == 116) = false ∧ (z == 120) = false := by
        subst hz; rcases hc with rfl | rfl | rfl <;> decide
      obtain ⟨z1, z2, z3, z4⟩ := hz2
      go_wp2_with fail
      go_ret
      refine ⟨c, _, _, by rw [hz]; rfl, h1, t1, by omega, by omega, Or.inr ⟨rfl, by omega, fun o t => ?_⟩⟩
      have e2 : QuoP.step .esc o t c = .go .text o (t ++ [c]) := by rcases hc with rfl | rfl | rfl <;> rfl
      rw [hd, run_go _ e2]
end QuoR
end Go.Proofs.Ytmhhmdnikopdlaa
