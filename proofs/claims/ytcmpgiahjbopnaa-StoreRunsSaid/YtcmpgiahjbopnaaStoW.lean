/- A store in memory; the walk of the search for a slot. Conditions: few texts, texts that fit. -/
import Derived.Test.YtcmpgiahjbopnaaHashS
import Derived.Test.YtcmpgiahjbopnaaMem
import Derived.Test.YtcmpgiahjbopnaaStoP
import Derived.OwnWalk
import Derived.IntWalk
import Derived.WalkMore
import Derived.Deep.LoopGhost
namespace Go.Proofs.Ytcmpgiahjbopnaa
set_option linter.unusedVariables false
set_option linter.unusedSimpArgs false
open Go.RowKit
namespace StoW
open StoP
abbrev stC (most : Int) (seed mask : Nat) (size : Int) (T : Value) (g m : Nat) : Array Value := #[.int .i64 most, .int .u64 (seed : Nat), .int .u64 (mask : Nat), .int .i64 size, T, .slice (some ⟨g, 0, none⟩) m m]
abbrev hM (seed mask : Nat) (key : Bs) : Nat := HashP.of key seed &&& mask
abbrev bs (x : ByteArray) : Bs := x.data.toList
abbrev slV (sl : List Nat) : Array Value := (sl.map (fun (v : Nat) => Value.int .i64 v)).toArray
def SlotPost (h : Bs → Nat) (X : List Bs) (sl : List Nat) (key : Bs) (w : World) (e : Ending) (w' : World) : Prop :=
  ∃ p : Nat, e = .returned (.int .i64 p) ∧ Res h X sl key p ∧ ∃ n, w' = w.drewN n
theorem i64_and_nat (a b : Nat) (ha : a < 9223372036854775808) (hb : b < 9223372036854775808) : bits .and .i64 (a : Int) (b : Int) = ((a &&& b : Nat) : Int) := by
  have hx : a &&& b < 2 ^ 63 := Nat.and_lt_two_pow _ (by omega)
  have ea : (BitVec.ofInt 64 (a : Int)).toNat = a := by simp; omega
  have eb : (BitVec.ofInt 64 (b : Int)).toNat = b := by simp; omega
  show IntKind.i64.wrap ((BitVec.ofInt 64 (a : Int) &&& BitVec.ofInt 64 (b : Int)).toNat : Int) = _
  rw [BitVec.toNat_and, ea, eb]
  exact IntWalk.i64_in _ (by omega)
theorem str_eq_bool {x y : ByteArray} : ((x).toList == (y).toList) = decide (bs x = bs y) := by
  rw [Lib.toList_data, Lib.toList_data]
  by_cases h : x.data.toList = y.data.toList
  · rw [h]; simp [bs, h]
  · rw [decide_eq_false h]; simpa using h
set_option maxHeartbeats 1600000 in
set_option maxRecDepth 100000 in
theorem slot_c (R g : Nat) (most size : Int) (seed mask : Nat) (A : Option Addr) (c M : Nat) (X : List ByteArray) (sl : List Nat) (key : ByteArray) (w : World)
    (hb : Blk w R 53 (stC most seed mask size (.slice A X.length c) g (M + 1))) (hX : Rd w w.heap.size 1 A X.length (X.map Value.string)) (hs : Blk w g 3 (slV sl))
    (hM1 : sl.length = M + 1) (h2 : Two (M + 1)) (hz : 0 < sl.count 0) (hok : ∀ p v : Nat, sl[p]? = some (v + 1) → v < X.length)
    (hsd : seed < 18446744073709551616) (hmk : mask < 18446744073709551616) (hk : key.size ≤ 4611686018427387904) (hXl : X.length ≤ 1000000) :
    Calls Try.prog 14 #[.pointer (some ⟨R, 0, none⟩), .string key] w (SlotPost (hM seed mask) (X.map bs) sl (bs key) w) := by
  have hm30 : M + 1 ≤ 1073741824 := by obtain ⟨k, hk, e⟩ := h2; rw [e]; exact Nat.pow_le_pow_right (by decide) hk
  have u0 := hb.cell 0
  have u1 := hb.cell 1
  have u2 := hb.cell 2
  have u3 := hb.cell 3
  have u4 := hb.cell 4
  have u5 := hb.cell 5
  simp only [List.getElem?_toArray, List.getElem?_cons_zero, List.getElem?_cons_succ] at u0 u1 u2 u3 u4 u5
  have cm := fun W => HashW.masked_c key seed mask W hsd hmk hk
  obtain ⟨H, hH⟩ : ∃ H, hM seed mask (bs key) = H := ⟨_, rfl⟩
  have hH2 : HashP.of key.data.toList seed &&& mask = H := hH
  have hHlt : H < 18446744073709551616 := by rw [← hH2]; exact Nat.and_lt_two_pow (n := 64) _ hmk
  rw [hH2] at cm
  have HE := Lib.hid hH
  have HM1 := Lib.hid hM1
  have H2 := Lib.hid h2
  have HOK := Lib.hid hok
  have ea := Lib.hid (u64_and_nat H M hHlt (by omega))
  have eb := Lib.hid (h2.and H)
  clear hH hH2 hM1 h2 hok
  have e1 : ((M + 1 : Nat) : Int) - 1 = (M : Int) := by omega
  go_enter Try.func14, Try.ntmps14
  go_wp2_with fail
  go_step3
  go_wp2_with fail
  clear e1
  go_quiet (with_reducible exact Calls.quiet_of (cm _))
  have ew : wrap64 (bits .and .u64 (H : Int) (M : Int)) = (((H + 0) % (M + 1) : Nat) : Int) := by
    rw [ea.out]
    have := eb.out
    simp only [Nat.add_sub_cancel] at this
    rw [this, Nat.add_zero]
    have h9 : H % (M + 1) < M + 1 := Nat.mod_lt _ (by omega)
    generalize H % (M + 1) = z at *
    unfold wrap64; omega
  rw [ew]
  clear ew ea eb u0 u1 u2 u3 u4 u5 cm hHlt
  obtain ⟨wq, hq⟩ : ∃ q, w.drewN nq = q := ⟨_, rfl⟩
  have hb : Blk wq R 53 (stC most seed mask size (.slice A X.length c) g (M + 1)) := by rw [← hq]; exact hb
  have hX : Rd wq w.heap.size 1 A X.length (X.map Value.string) := by rw [← hq]; exact hX
  have hs : Blk wq g 3 (slV sl) := by rw [← hq]; exact hs
  have HWQ : Hid (∃ n, wq = w.drewN n) := Lib.hid ⟨nq, hq.symm⟩
  rw [hq]
  clear hq
  have u4 := hb.cell 4
  have u5 := hb.cell 5
  simp only [List.getElem?_toArray, List.getElem?_cons_zero, List.getElem?_cons_succ] at u4 u5
  have em : ∀ p : Nat, p < M + 1 → Hid (bits .and .i64 (((p + 1 : Nat)) : Int) (M : Int) = (((p + 1) % (M + 1) : Nat) : Int)) := fun p hp => Lib.hid (by
    rw [i64_and_nat (p + 1) M (by omega) (by omega)]
    have := H2.out.and (p + 1)
    rw [Nat.add_sub_cancel] at this
    rw [this])
  have EM := Lib.hid em
  clear em
  go_wp2_with fail
  go_step3
  go_wp2_with fail
  go_loopg [6] (M + 1) (fun gg at' wr => ∃ d : Nat, at' = .int .i64 (((H + d) % (M + 1) : Nat) : Int) ∧ Hid (Wy (hM seed mask) (X.map bs) sl (bs key) d) ∧ wr = wq ∧ d + gg = M + 1)
  case atStart => exact ⟨0, rfl, Lib.hid Wy.zero, rfl, by omega⟩
  case round =>
    obtain ⟨d, rfl, hw, rfl, hdg⟩ := hrel
    have hlt := hw.out.lt hz
    rw [HM1.out] at hlt
    obtain ⟨p, hp⟩ : ∃ p, (H + d) % (M + 1) = p := ⟨_, rfl⟩
    have hpl : p < M + 1 := by rw [← hp]; exact Nat.mod_lt _ (by omega)
    have hnx := next_at H d (M + 1)
    rw [hp] at hnx ⊢
    have HP := Lib.hid hp
    have HNX := Lib.hid hnx
    clear hp hnx
    have hpl2 : p < sl.length := by rw [HM1.out]; exact hpl
    have c0 := hs.cell p
    rw [List.getElem?_toArray, List.getElem?_map, List.getElem?_eq_getElem hpl2] at c0
    simp only [Option.map_some] at c0
    obtain ⟨v, hv⟩ : ∃ v, sl[p]'hpl2 = v := ⟨_, rfl⟩
    have hsv : Hid (sl[p]? = some v) := Lib.hid (by rw [List.getElem?_eq_getElem hpl2, hv])
    rw [hv] at c0
    clear hv hpl2
    have hres : (sl[p]? = some 0 ∨ ∃ v, sl[p]? = some (v + 1) ∧ (X.map bs)[v]? = some (bs key)) → Res (hM seed mask) (X.map bs) sl (bs key) p := fun h0 => ⟨d, by rw [HE.out, HM1.out]; exact HP.out.symm, hw.out, h0⟩
    have HRES := Lib.hid hres
    clear hres
    cases v with
    | zero =>
      go_wp2_with fail
      rw [Exit.noGoto_ret]
      go_ret
      exact ⟨p, rfl, HRES.out (.inl hsv.out), HWQ.out⟩
    | succ u =>
      have hu := HOK.out p u hsv.out
      have hvr : ((u + 1 : Nat) : Int) - 1 = (u : Int) := by omega
      have tz : (((u + 1 : Nat) : Int) == 0) = false := by simp; omega
      have tz2 : (((u : Nat) : Int) + 1 == 0) = false := by simp; omega
      obtain ⟨ad, x, rfl, hadb, hx, cx⟩ := hX.str hu
      have HX2 := Lib.hid hx
      clear hx
      by_cases hk2 : bs x = bs key
      · have tk : (x.toList == key.toList) = true := by rw [str_eq_bool, decide_eq_true hk2]
        have hr := HRES.out (.inr ⟨u, hsv.out, by rw [List.getElem?_map, HX2.out, Option.map_some, hk2]⟩)
        clear hk2
        go_wp2_with fail
        rw [Exit.noGoto_ret]
        go_ret
        exact ⟨p, rfl, hr, HWQ.out⟩
      · have tk : (x.toList == key.toList) = false := by rw [str_eq_bool, decide_eq_false hk2]
        have hw2 : Hid (Wy (hM seed mask) (X.map bs) sl (bs key) (d + 1)) := Lib.hid (hw.out.succ (by rw [HE.out, HM1.out, HP.out]; exact hsv.out) (by rw [List.getElem?_map, HX2.out, Option.map_some]; exact fun e => hk2 (Option.some.inj e)))
        clear hk2
        have ee := (EM.out p hpl).out
        rw [HNX.out, Int.natCast_add, Int.natCast_one] at ee
        go_wp2_with fail
        go_roundg (M + 1 - (d + 1))
        case rel => exact ⟨d + 1, by first | rfl | (rw [ee]) | (simp only [ee]), hw2, rfl, by omega⟩
        case measure => omega
end StoW
end Go.Proofs.Ytcmpgiahjbopnaa
