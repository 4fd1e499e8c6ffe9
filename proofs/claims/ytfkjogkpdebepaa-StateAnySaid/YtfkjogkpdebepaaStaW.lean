/- The walks of state's writer: a number, a text, a list of numbers. Conditions: numbers of 64 bits; fewer bytes than 2^47. -/
import Derived.Test.YtfkjogkpdebepaaStaB
import Derived.Test.YtfkjogkpdebepaaStaP
import Derived.Laws.BitsAllLaws
namespace Go.Proofs.Ytfkjogkpdebepaa
open Go.RowKit
namespace StaW
open StaP StaB
theorem count_len : ∀ (j m : Nat), m < 128 ^ (j + 1) → (count m).length ≤ j + 1 := by
  intro j
  induction j with
  | zero => intro m h; rw [count_small (by simpa using h)]; simp
  | succ j ih =>
    intro m h
    by_cases h1 : m < 128
    · rw [count_small h1]; simp
    · rw [count_big h1, List.length_cons]
      have := ih (m / 128) (by rw [Nat.pow_succ] at h; omega)
      omega
theorem num_len {n : Int} (h0 : -9223372036854775808 ≤ n) (h1 : n ≤ 9223372036854775807) : (numB n).length ≤ 10 := by
  have hp : (128 : Nat) ^ (8 + 1) = 9223372036854775808 := by rfl
  rw [numB]; split
  · rw [List.length_cons]; have := count_len 8 (-1 - n).toNat (by rw [hp]; omega); omega
  · rw [List.length_cons]; have := count_len 8 n.toNat (by rw [hp]; omega); omega
theorem ofInt_nat (a : Nat) (h : a < 9223372036854775808) : (BitVec.ofInt 64 (a : Int)).toNat = a := by
  rw [BitVec.ofInt_natCast, BitVec.toNat_ofNat]; omega
theorem and127 (m : Nat) (h : m < 9223372036854775808) : bits .and .i64 (m : Int) 127 = ((m % 128 : Nat) : Int) := by
  show IntKind.i64.wrap ((BitVec.ofInt 64 (m : Int) &&& BitVec.ofInt 64 ((127 : Nat) : Int)).toNat : Int) = _
  rw [BitVec.toNat_and, ofInt_nat m h, ofInt_nat 127 (by omega), show m &&& 127 = m % 128 from Nat.and_two_pow_sub_one_eq_mod m 7]
  have : m % 128 < 128 := Nat.mod_lt _ (by omega)
  generalize m % 128 = r at *
  simp [IntKind.wrap, IntKind.bits, IntKind.signed]; omega
theorem or128 (r : Nat) (h : r < 128) : bits .or .i64 (r : Int) 128 = ((r + 128 : Nat) : Int) := by
  have : ∀ r : Fin 128, bits .or .i64 (r.val : Int) 128 = ((r.val + 128 : Nat) : Int) := by decide +kernel
  exact this ⟨r, h⟩
set_option maxHeartbeats 3200000 in
set_option maxRecDepth 100000 in
theorem wnum_c (B b : Nat) (l : List UInt8) (n : Int) (w : World) (h : IsB B b l w) (hl : l.length ≤ 140737488355000) (h0 : -9223372036854775808 ≤ n) (h1 : n ≤ 9223372036854775807) (hBw : B ≤ w.heap.size) :
    Calls Try.prog 29 #[.pointer (some ⟨b, 0, none⟩), .int .i64 n] w fun e w' => e = .returned (.tuple #[]) ∧ IsB B b (l ++ numB n) w' ∧ Wr B b w w' := by
  have hlen := num_len h0 h1
  by_cases hn : n < 0
  · have d : decide (n < 0) = true := by simpa using hn
    have cw := wbyte_c B b l 1 w h (by omega) hBw
    rw [show (((1 : UInt8).toNat : Nat) : Int) = 1 from rfl] at cw
    go_enter Try.func29, Try.ntmps29
    go_wp2_with fail
    (with_reducible refine cw.mono ?_)
    rintro e w1 ⟨rfl, hb1, hw1⟩
    go_wp2_with fail
    go_loopw [1] (fun v wr => ∃ (m : Nat) (l' : List UInt8), v = .int .i64 m ∧ m ≤ 9223372036854775807 ∧ IsB B b l' wr ∧ Wr B b w wr ∧ Hid (l' ++ count m = l ++ numB n) ∧ l'.length ≤ l.length + 10) (fun v _ => (intOf v).toNat)
    case atStart => exact ⟨(-1 - n).toNat, l ++ [1], by go_num, by omega, hb1, hw1, Lib.hid (by rw [numB, if_pos hn]; simp), by simp⟩
    case round =>
      clear hb1 hw1
      obtain ⟨m, l', rfl, hm, hI, hW, HE, hle⟩ := hrel
      have hz := hW.below.size
      by_cases hg : m < 128
      · have cz := wbyte_c B b l' (UInt8.ofNat m) wr hI (by omega) (by omega)
        rw [show (((UInt8.ofNat m).toNat : Nat) : Int) = m by rw [ofNat_toNat (by omega)]] at cz
        have HC := Lib.hid (count_small hg)
        go_wp2_with fail
        (with_reducible refine cz.mono ?_)
        rintro e w5 ⟨rfl, hI5, hW5⟩
        go_wp2
        go_end0
        exact ⟨rfl, by rw [← HE.out, HC.out]; exact hI5, hW.trans hW5⟩
      · have hr : m % 128 < 128 := Nat.mod_lt _ (by omega)
        have k1 := and127 m (by omega)
        have k2 := or128 (m % 128) hr
        have HC := Lib.hid (count_big hg)
        have hll : Hid ((l' ++ [UInt8.ofNat (m % 128 + 128)]).length ≤ l.length + 10) := Lib.hid (by
          have := congrArg List.length HE.out
          rw [HC.out] at this
          have h5 : 0 < (count (m / 128)).length := by rw [count]; split <;> simp
          rw [List.length_append, List.length_append, List.length_cons] at this
          rw [List.length_append, List.length_cons, List.length_nil]; omega)
        obtain ⟨q, hq⟩ : ∃ q, m % 128 = q := ⟨_, rfl⟩
        rw [hq] at k1 k2 hr
        have cz := wbyte_c B b l' (UInt8.ofNat (q + 128)) wr hI (by omega) (by omega)
        rw [show (((UInt8.ofNat (q + 128)).toNat : Nat) : Int) = (q : Int) + 128 by rw [ofNat_toNat (by omega)]; omega] at cz
        have HQ := Lib.hid hq
        clear hq
        go_wp2_with fail
        (with_reducible refine cz.mono ?_)
        rintro e w5 ⟨rfl, hI5, hW5⟩
        go_wp2
        go_roundw
        case rel => exact ⟨m / 128, _, by go_num, by omega, hI5, hW.trans hW5, Lib.hid (by rw [← HE.out, HC.out, HQ.out, List.append_assoc]; rfl), by have := hll.out; rw [HQ.out] at this; exact this⟩
        case measure => simp [intOf]; omega
  · have d : decide (n < 0) = false := by simpa using hn
    have cw := wbyte_c B b l 0 w h (by omega) hBw
    rw [show (((0 : UInt8).toNat : Nat) : Int) = 0 from rfl] at cw
    go_enter Try.func29, Try.ntmps29
    go_wp2_with fail
    (with_reducible refine cw.mono ?_)
    rintro e w1 ⟨rfl, hb1, hw1⟩
    go_wp2_with fail
    go_loopw [1] (fun v wr => ∃ (m : Nat) (l' : List UInt8), v = .int .i64 m ∧ m ≤ 9223372036854775807 ∧ IsB B b l' wr ∧ Wr B b w wr ∧ Hid (l' ++ count m = l ++ numB n) ∧ l'.length ≤ l.length + 10) (fun v _ => (intOf v).toNat)
    case atStart => exact ⟨n.toNat, l ++ [0], by go_num, by omega, hb1, hw1, Lib.hid (by rw [numB, if_neg (by omega)]; simp), by simp⟩
    case round =>
      clear hb1 hw1
      obtain ⟨m, l', rfl, hm, hI, hW, HE, hle⟩ := hrel
      have hz := hW.below.size
      by_cases hg : m < 128
      · have cz := wbyte_c B b l' (UInt8.ofNat m) wr hI (by omega) (by omega)
        rw [show (((UInt8.ofNat m).toNat : Nat) : Int) = m by rw [ofNat_toNat (by omega)]] at cz
        have HC := Lib.hid (count_small hg)
        go_wp2_with fail
        (with_reducible refine cz.mono ?_)
        rintro e w5 ⟨rfl, hI5, hW5⟩
        go_wp2
        go_end0
        exact ⟨rfl, by rw [← HE.out, HC.out]; exact hI5, hW.trans hW5⟩
      · have hr : m % 128 < 128 := Nat.mod_lt _ (by omega)
        have k1 := and127 m (by omega)
        have k2 := or128 (m % 128) hr
        have HC := Lib.hid (count_big hg)
        have hll : Hid ((l' ++ [UInt8.ofNat (m % 128 + 128)]).length ≤ l.length + 10) := Lib.hid (by
          have := congrArg List.length HE.out
          rw [HC.out] at this
          have h5 : 0 < (count (m / 128)).length := by rw [count]; split <;> simp
          rw [List.length_append, List.length_append, List.length_cons] at this
          rw [List.length_append, List.length_cons, List.length_nil]; omega)
        obtain ⟨q, hq⟩ : ∃ q, m % 128 = q := ⟨_, rfl⟩
        rw [hq] at k1 k2 hr
        have cz := wbyte_c B b l' (UInt8.ofNat (q + 128)) wr hI (by omega) (by omega)
        rw [show (((UInt8.ofNat (q + 128)).toNat : Nat) : Int) = (q : Int) + 128 by rw [ofNat_toNat (by omega)]; omega] at cz
        have HQ := Lib.hid hq
        clear hq
        go_wp2_with fail
        (with_reducible refine cz.mono ?_)
        rintro e w5 ⟨rfl, hI5, hW5⟩
        go_wp2
        go_roundw
        case rel => exact ⟨m / 128, _, by go_num, by omega, hI5, hW.trans hW5, Lib.hid (by rw [← HE.out, HC.out, HQ.out, List.append_assoc]; rfl), by have := hll.out; rw [HQ.out] at this; exact this⟩
        case measure => simp [intOf]; omega
set_option maxHeartbeats 800000 in
theorem wtext_c (B b : Nat) (l : List UInt8) (s : ByteArray) (w : World) (h : IsB B b l w) (hl : l.length ≤ 100000000000000) (hs : s.size ≤ 1000000000000) (hBw : B ≤ w.heap.size) :
    Calls Try.prog 30 #[.pointer (some ⟨b, 0, none⟩), .string s] w fun e w' => e = .returned (.tuple #[]) ∧ IsB B b (l ++ textB s.data.toList) w' ∧ Wr B b w w' := by
  have hnl := num_len (n := (s.size : Int)) (by omega) (by omega)
  have cn := wnum_c B b l s.size w h (by omega) (by omega) (by omega) hBw
  go_enter Try.func30, Try.ntmps30
  go_wp2_with fail
  (with_reducible refine cn.mono ?_)
  rintro e w1 ⟨rfl, hb1, hw1⟩
  have cs := wstr_c B b (l ++ numB s.size) s w1 hb1 (by rw [List.length_append]; omega) (by have := hw1.below.size; omega)
  go_wp2_with fail
  (with_reducible refine cs.mono ?_)
  rintro e w2 ⟨rfl, hb2, hw2⟩
  go_wp2
  go_end0
  refine ⟨rfl, ?_, hw1.trans hw2⟩
  rw [textB, ← Lib.size_eq, ← List.append_assoc]; exact hb2
theorem nums_len : ∀ xs : List Int, (∀ x ∈ xs, -9223372036854775808 ≤ x ∧ x ≤ 9223372036854775807) → (xs.flatMap numB).length ≤ 10 * xs.length := by
  intro xs
  induction xs with
  | nil => intro _; simp
  | cons x xs ih =>
    intro h
    have h1 := h x (List.mem_cons_self ..)
    have h2 := num_len h1.1 h1.2
    have h3 := ih (fun y hy => h y (List.mem_cons_of_mem _ hy))
    rw [List.flatMap_cons, List.length_append, List.length_cons]; omega
theorem take_nums (xs : List Int) (k : Nat) (x : Int) (h : xs[k]? = some x) : (xs.take (k + 1)).flatMap numB = (xs.take k).flatMap numB ++ numB x := by
  rw [List.take_add_one, h, List.flatMap_append]; simp
set_option maxHeartbeats 1600000 in
theorem wints_c (B b : Nat) (l : List UInt8) (A : Option Addr) (n c : Nat) (xs : List Int) (w : World) (h : IsB B b l w) (hl : l.length ≤ 100000000000000) (hr : Rd w B 1 A n (xs.map (Value.int .i64))) (hn : n ≤ 1000000) (hx : ∀ x ∈ xs, -9223372036854775808 ≤ x ∧ x ≤ 9223372036854775807) (hBw : B ≤ w.heap.size) :
    Calls Try.prog 31 #[.pointer (some ⟨b, 0, none⟩), .slice A n c] w fun e w' => e = .returned (.tuple #[]) ∧ IsB B b (l ++ listB numB xs) w' ∧ Wr B b w w' := by
  have hxl : xs.length = n := by have := hr.1; rw [List.length_map] at this; omega
  have hnl := num_len (n := (n : Int)) (by omega) (by omega)
  have cn := wnum_c B b l n w h (by omega) (by omega) (by omega) hBw
  have HX := Lib.hid hx
  clear hx
  go_enter Try.func31, Try.ntmps31
  go_wp2_with fail
  (with_reducible refine cn.mono ?_)
  rintro e w1 ⟨rfl, hb1, hw1⟩
  go_wp2_with fail
  go_loopw [12] (fun v wr => ∃ k : Nat, v = .int .i64 k ∧ k ≤ n ∧ IsB B b (l ++ numB n ++ (xs.take k).flatMap numB) wr ∧ Wr B b w wr) (fun v _ => n - (intOf v).toNat)
  case atStart => exact ⟨0, rfl, by omega, by simpa using hb1, hw1⟩
  case round =>
    clear hb1 hw1
    obtain ⟨k, rfl, hk, hI, hW⟩ := hrel
    have hz := hW.below.size
    by_cases hlt : k < n
    · obtain ⟨ad, x, rfl, hab, hxk, hc⟩ := (Rd.num (hr.below hW.below) hlt)
      have hb := HX.out x (List.mem_of_getElem? hxk)
      have hlen := nums_len (xs.take k) (fun y hy => HX.out y (List.mem_of_mem_take hy))
      rw [List.length_take] at hlen
      have TK := Lib.hid (take_nums xs k x hxk)
      have cz := wnum_c B b _ x wr hI (by rw [List.length_append, List.length_append]; omega) hb.1 hb.2 (by omega)
      clear hxk
      go_wp2_with fail
      (with_reducible refine cz.mono ?_)
      rintro e w5 ⟨rfl, hI5, hW5⟩
      go_wp2
      go_roundw
      case rel => exact ⟨k + 1, by go_num, by omega, by rw [TK.out, ← List.append_assoc]; exact hI5, hW.trans hW5⟩
      case measure => simp [intOf]; omega
    · obtain rfl : k = n := by omega
      rw [List.take_of_length_le (by omega)] at hI
      go_wp2
      go_end0
      exact ⟨rfl, by rw [listB, hxl, ← List.append_assoc]; exact hI, hW⟩
end StaW
end Go.Proofs.Ytfkjogkpdebepaa
