/- The walks of the reference's Print and Parse. Condition: a text that fits. -/
import Derived.Test.YtooinkhjoppijaaDoorNumHt
namespace Go.Proofs.YtooinkhjoppijaaDoor
set_option linter.unusedVariables false
set_option linter.unusedSimpArgs false
open Go.RowKit
namespace NumW
open NumP
theorem dec_split (u : Nat) : Lib.decDigits u = if u < 10 then [UInt8.ofNat (48 + u)] else Lib.decDigits (u / 10) ++ [UInt8.ofNat (48 + u % 10)] := by
  rw [Lib.decDigits]; split <;> simp_all
theorem dec_len (u : Nat) : (Lib.decDigits u).length ≤ u / 10 + 1 := by
  induction u using Nat.strongRecOn with
  | _ u ih =>
    rw [dec_split]
    split
    · simp
    · have := ih (u / 10) (by omega)
      rw [List.length_append]; simp only [List.length_cons, List.length_nil]; omega
theorem dig_add (k : Nat) : UInt8.ofNat (48 + k) = 48 + UInt8.ofNat k := by rw [UInt8.ofNat_add]; rfl
theorem out_more (k : Nat) (out : ByteArray) (l : List UInt8) (h : 10 ≤ k) (ho : Lib.decDigits k ++ out.data.toList = l) : Lib.decDigits (k / 10) ++ ((⟨#[48 + UInt8.ofNat (k % 10)]⟩ : ByteArray) ++ out).data.toList = l := by
  rw [dec_split, if_neg (by omega), dig_add] at ho
  rw [← ho]; simp
theorem out_last (k : Nat) (out : ByteArray) (l : List UInt8) (h : k < 10) (ho : Lib.decDigits k ++ out.data.toList = l) : ((⟨#[48 + UInt8.ofNat k]⟩ : ByteArray) ++ out).data.toList = l := by
  rw [dec_split, if_pos (by omega), dig_add] at ho
  rw [← ho]; simp
theorem conv_one (W : World) (z : Int) : (convert 45 9 (.slice (some ⟨W.heap.size, 0, none⟩) 1 1)).run Tryd.prog (W.alloc (.cells #[.int .u8 z] 5)) = .ok (.string ⟨#[UInt8.ofNat z.toNat]⟩) (W.alloc (.cells #[.int .u8 z] 5)) := by
  have := run_convert_bytes_arg (P := Tryd.prog) (W.alloc (.cells #[.int .u8 z] 5)) 45 5 (by kernel_rfl) (by kernel_rfl) W.heap.size 0 1 1 [z] rfl (fun i hi => by
    obtain rfl : i = 0 := by omega
    rw [cell_of_row _ _ _ _ _ _ (heap_alloc_new W _)]; rfl) 9 (by kernel_rfl)
  rw [this]; rfl
set_option maxHeartbeats 400000 in
theorem rprint_c (n : Int) (w : World) (h0 : -9223372036854775808 ≤ n) (h1 : n ≤ 9223372036854775807) : Calls Tryd.prog 42 #[.int .i64 n] w fun e w' => e = .returned (.string ⟨(Lib.itoa n).toArray⟩) ∧ Below w.heap.size w w' := by
  have cx := fun W => mag_c n W h0 h1
  have kc := conv_one
  obtain ⟨rs, hrs⟩ : ∃ rs, (⟨(Lib.itoa n).toArray⟩ : ByteArray) = rs := ⟨_, rfl⟩
  rw [hrs]
  have HS := Lib.hid hrs
  clear hrs
  go_enter Tryd.func42, Tryd.ntmps42
  go_wp2_with fail
  (with_reducible refine (cx _).mono ?_)
  rintro e w' ⟨rfl, rfl⟩
  go_wp2_with fail
  have hL := dec_len n.natAbs
  go_loopw [3, 4] (fun m o wr => ∃ (k : Nat) (out : ByteArray), k ≤ n.natAbs ∧ m = .int .u64 k ∧ o = .string out ∧ Hid (Lib.decDigits k ++ out.data.toList = Lib.decDigits n.natAbs) ∧ out.size ≤ 922337203685477581 ∧ Below w.heap.size w wr) (fun m _ _ => (intOf m).toNat)
  case atStart => exact ⟨n.natAbs, ByteArray.empty, by omega, rfl, rfl, by show _ ++ [] = _; simp, by decide, Below.refl _ _⟩
  case round =>
    obtain ⟨k, out, hk, rfl, rfl, hout, hsz, hB⟩ := hrel
    by_cases hlt : 10 ≤ k
    · have t1 : decide (10 ≤ (k : Int)) = true := by simp; omega
      have O := Lib.hid (out_more k out _ hlt hout.out)
      have hsz2 : ((⟨#[48 + UInt8.ofNat (k % 10)]⟩ : ByteArray) ++ out).size ≤ 922337203685477581 := by
        have h1 := congrArg List.length O.out
        rw [List.length_append] at h1
        rw [Lib.size_eq]; omega
      have z := hB.size
      go_wp2
      go_roundw
      case rel => exact ⟨k / 10, _, by omega, by go_num, rfl, O.out, hsz2, by go_grown⟩
      case measure => simp [intOf]; omega
    · have t1 : decide (10 ≤ (k : Int)) = false := by simp; omega
      have O := Lib.hid (out_last k out _ (by omega) hout.out)
      by_cases hn : n < 0
      · have t2 : decide (n < 0) = true := by simpa using hn
        have he : (⟨(Lib.itoa n).toArray⟩ : ByteArray) = ⟨#[45]⟩ ++ (⟨#[48 + UInt8.ofNat k]⟩ ++ out) := bytes_ext (by rw [Lib.itoa, if_pos hn, ← O.out]; simp)
        obtain rfl := HS.out.symm.trans he
        have z := hB.size
        go_wp2
        go_ret
        exact ⟨rfl, by go_grown⟩
      · have t2 : decide (n < 0) = false := by simpa using hn
        have he : (⟨(Lib.itoa n).toArray⟩ : ByteArray) = ⟨#[48 + UInt8.ofNat k]⟩ ++ out := bytes_ext (by rw [Lib.itoa, if_neg hn, show n.toNat = n.natAbs by omega, ← O.out])
        obtain rfl := HS.out.symm.trans he
        have z := hB.size
        go_wp2
        go_ret
        exact ⟨rfl, by go_grown⟩
def sg (neg : Bool) (m : Nat) : Int := if neg = true then -(m : Int) else m
theorem dv_take (d : ByteArray) (k : Nat) (h : k < d.size) : dv 0 (d.data.toList.take (k + 1)) = dv 0 (d.data.toList.take k) * 10 + ((d[k]'h).toNat - 48) := by
  have hk : d.data.toList[k]? = some (d[k]'h) := by rw [List.getElem?_eq_getElem (by simpa using h)]; rfl
  rw [List.take_add_one, hk]
  exact dv_app _ _ _
/-- What the loop keeps. -/
structure PS (d : ByteArray) (k a : Nat) (b : Bool) : Prop where
  all : (d.data.toList.take k).all digB = true
  low : b = false → a = dv 0 (d.data.toList.take k)
  top : b = true → 10000000000000000000 < dv 0 (d.data.toList.take k) ∧ 1000000000000000000 < a
theorem PS.digit {d : ByteArray} {k a : Nat} {b : Bool} (_p : PS d k a b) (h : k < d.size) (l1 : decide (((d[k]'h).toNat : Int) < 48) = false) (l2 : decide (57 < ((d[k]'h).toNat : Int)) = false) : digB (d[k]'h) = true := by
  have := dig_tests (d[k]'h); rw [l1, l2] at this; simpa using this.symm
theorem PS.over {d : ByteArray} {k a : Nat} {b : Bool} (p : PS d k a b) (h : k < d.size) (hd : digB (d[k]'h) = true) (ho : decide (1000000000000000000 < (a : Int)) = true) : PS d (k + 1) a true := by
  have ho' : (1000000000000000000 : Int) < a := by simpa using ho
  have hs := dv_take d k h
  refine ⟨by rw [all_step d k h, p.all, hd]; rfl, by simp, fun _ => ⟨?_, by omega⟩⟩
  cases b with
  | false => have := p.low rfl; omega
  | true => have := (p.top rfl).1; omega
theorem PS.step {d : ByteArray} {k a : Nat} {b : Bool} (p : PS d k a b) (h : k < d.size) (hd : digB (d[k]'h) = true) (ho : decide (1000000000000000000 < (a : Int)) = false) : PS d (k + 1) (a * 10 + ((d[k]'h).toNat - 48)) b := by
  have ho' : (a : Int) ≤ 1000000000000000000 := by simpa using ho
  have hs := dv_take d k h
  refine ⟨by rw [all_step d k h, p.all, hd]; rfl, fun hb => ?_, fun hb => ?_⟩
  · have := p.low hb; omega
  · have := (p.top hb).2; omega
theorem PS.wrap {d : ByteArray} {k a : Nat} (h : k < d.size) (hd : digB (d[k]'h) = true) (ho : decide (1000000000000000000 < (a : Int)) = false) :
    IntKind.u64.wrap ((a : Int) * 10 + ((d[k]'h).toNat : Int) - 48) = ((a * 10 + ((d[k]'h).toNat - 48) : Nat) : Int) := by
  have ho' : (a : Int) ≤ 1000000000000000000 := by simpa using ho
  have := (digB_iff _).1 hd
  generalize (d[k]'h).toNat = c at *
  simp only [IntKind.wrap_u64]
  omega
set_option maxRecDepth 20000 in
set_option maxHeartbeats 1600000 in
theorem rparse_neg (s : ByteArray) (w : World) (r : Value) (h0 : 0 < s.size) (hs : s.size ≤ 4611686018427387904) (x2 : (((s[0]'h0).toNat : Int) == 45) = true) (h1 : 0 < (s.extract 1 s.size).size) (x3 : ((((s.extract 1 s.size)[0]'h1).toNat : Int) == 48) = false)
    (hr0 : (s.extract 1 s.size).data.toList.all digB = false → r = .tuple #[.int .i64 0, .int .i64 1]) (hr1 : (s.extract 1 s.size).data.toList.all digB = true → r = res (sg true (dv 0 (s.extract 1 s.size).data.toList))) : Calls Tryd.prog 32 #[.string s] w fun e w' => e = .returned r ∧ w = w' := by
  have hx : decide (0 < (s.size : Int)) = true := by simp; omega
  have hds : (s.extract 1 s.size).size ≤ 4611686018427387904 := by simp; omega
  generalize hd : s.extract 1 s.size = d at *
  have hx2 : ((d.size : Int) == 0) = false := by simp; intro h; rw [h] at h1; exact absurd h1 (by simp)
  have H0 := Lib.hid hr0
  have H1 := Lib.hid hr1
  clear hr0 hr1
  all_goals go_enter Tryd.func32, Tryd.ntmps32
  all_goals go_wp2_with fail
  all_goals clear x2 hx x3 hx2 hd
  all_goals
    go_loop [6, 7, 8] (fun m o i => ∃ (k a : Nat) (b : Bool), k ≤ d.size ∧ i = .int .i64 k ∧ m = .int .u64 a ∧ o = .bool b ∧ a ≤ 10000000000000000009 ∧ PS d k a b) (fun _ _ i => d.size - (intOf i).toNat)
    case atStart => exact ⟨0, 0, false, by omega, rfl, rfl, rfl, by omega, ⟨rfl, fun _ => by rw [List.take_zero, dv_nil], by simp⟩⟩
    case round =>
      obtain ⟨k, a, b, hk, rfl, rfl, rfl, ha, hp⟩ := hrel
      by_cases hlt : k < d.size
      · by_cases l1 : decide (((d[k]'hlt).toNat : Int) < 48) = true
        · obtain rfl := H0.out (all_false _ k hlt (by have := dig_tests (d[k]'hlt); rw [l1] at this; simpa using this.symm))
          go_wp2
          go_ret2
          exact ⟨rfl, rfl⟩
        · rw [Bool.not_eq_true] at l1
          by_cases l2 : decide (57 < ((d[k]'hlt).toNat : Int)) = true
          · obtain rfl := H0.out (all_false _ k hlt (by have := dig_tests (d[k]'hlt); rw [l1, l2] at this; simpa using this.symm))
            go_wp2
            go_ret2
            exact ⟨rfl, rfl⟩
          · rw [Bool.not_eq_true] at l2
            have hdg := hp.digit hlt l1 l2
            by_cases ho : decide (1000000000000000000 < (a : Int)) = true
            · have P := Lib.hid (hp.over hlt hdg ho)
              go_wp2
              go_round
              case rel => exact ⟨k + 1, a, true, by omega, by go_num, rfl, rfl, ha, P.out⟩
              case measure => simp [intOf]; omega
            · rw [Bool.not_eq_true] at ho
              have P := Lib.hid (hp.step hlt hdg ho)
              have W := Lib.hid (PS.wrap hlt hdg ho)
              have hb1 : a * 10 + ((d[k]'hlt).toNat - 48) ≤ 10000000000000000009 := by
                have ho' : (a : Int) ≤ 1000000000000000000 := by simpa using ho
                have := (digB_iff _).1 hdg
                omega
              go_wp2
              go_round
              case rel => exact ⟨k + 1, _, b, by omega, by go_num, congrArg (Value.int .u64) W.out, rfl, hb1, P.out⟩
              case measure => simp [intOf]; omega
      · obtain rfl : k = d.size := by omega
        have hal := hp.all
        rw [List.take_of_length_le (by simp)] at hal
        have hr := H1.out hal
        have hlo := hp.low
        have hto := hp.top
        rw [List.take_of_length_le (by simp)] at hlo hto
        cases b with
        | true =>
          rw [res_out (by have := (hto rfl).1; simp only [sg]; try simp only [if_true, Bool.false_eq_true, if_false]; omega)] at hr
          subst hr
          clear hp hal hlo hto H0 H1
          go_wp2_with fail
          go_ret2
          exact ⟨rfl, rfl⟩
        | false =>
          rw [← hlo rfl] at hr
          have co := fun W => of_c true a W (by omega) (by omega)
          obtain ⟨x, hx⟩ : ∃ x, res (sg true a) = x := ⟨_, rfl⟩
          have hxx := res_two hx
          have co' : ∀ W, Calls Tryd.prog 43 #[.bool true, .int .u64 a] W fun e w' => e = .returned x ∧ W = w' := fun W => hx ▸ co W
          rw [hx] at hr
          obtain ⟨p, q, rfl⟩ := hxx
          subst hr
          clear hp hal hlo hto H0 H1 co hx
          go_wp2_with fail
          (with_reducible refine (co' _).mono ?_)
          rintro e w' ⟨rfl, rfl⟩
          go_wp2_with fail
          go_ret2
          exact ⟨rfl, rfl⟩
set_option maxRecDepth 20000 in
set_option maxHeartbeats 1600000 in
theorem rparse_pos (s : ByteArray) (w : World) (r : Value) (z : Bool) (h0 : 0 < s.size) (hs : s.size ≤ 4611686018427387904) (x2 : (((s[0]'h0).toNat : Int) == 45) = false) (x3 : (((s[0]'h0).toNat : Int) == 48) = z) (hz : z = true → s.size = 1)
    (hr0 : s.data.toList.all digB = false → r = .tuple #[.int .i64 0, .int .i64 1]) (hr1 : s.data.toList.all digB = true → r = res (sg false (dv 0 s.data.toList))) : Calls Tryd.prog 32 #[.string s] w fun e w' => e = .returned r ∧ w = w' := by
  have hx : decide (0 < (s.size : Int)) = true := by simp; omega
  have hx2 : ((s.size : Int) == 0) = false := by simp; intro h; rw [h] at h0; exact absurd h0 (by simp)
  have hx4 : z = true → decide (1 < (s.size : Int)) = false := fun h => by have := hz h; simp; omega
  clear hz
  have H0 := Lib.hid hr0
  have H1 := Lib.hid hr1
  clear hr0 hr1
  cases z
  case' true => have hx4 := hx4 rfl
  case' false => clear hx4
  all_goals go_enter Tryd.func32, Tryd.ntmps32
  all_goals go_wp2_with fail
  all_goals clear x2 hx x3 hx2
  all_goals
    go_loop [6, 7, 8] (fun m o i => ∃ (k a : Nat) (b : Bool), k ≤ s.size ∧ i = .int .i64 k ∧ m = .int .u64 a ∧ o = .bool b ∧ a ≤ 10000000000000000009 ∧ PS s k a b) (fun _ _ i => s.size - (intOf i).toNat)
    case atStart => exact ⟨0, 0, false, by omega, rfl, rfl, rfl, by omega, ⟨rfl, fun _ => by rw [List.take_zero, dv_nil], by simp⟩⟩
    case round =>
      obtain ⟨k, a, b, hk, rfl, rfl, rfl, ha, hp⟩ := hrel
      by_cases hlt : k < s.size
      · by_cases l1 : decide (((s[k]'hlt).toNat : Int) < 48) = true
        · obtain rfl := H0.out (all_false _ k hlt (by have := dig_tests (s[k]'hlt); rw [l1] at this; simpa using this.symm))
          go_wp2
          go_ret2
          exact ⟨rfl, rfl⟩
        · rw [Bool.not_eq_true] at l1
          by_cases l2 : decide (57 < ((s[k]'hlt).toNat : Int)) = true
          · obtain rfl := H0.out (all_false _ k hlt (by have := dig_tests (s[k]'hlt); rw [l1, l2] at this; simpa using this.symm))
            go_wp2
            go_ret2
            exact ⟨rfl, rfl⟩
          · rw [Bool.not_eq_true] at l2
            have hdg := hp.digit hlt l1 l2
            by_cases ho : decide (1000000000000000000 < (a : Int)) = true
            · have P := Lib.hid (hp.over hlt hdg ho)
              go_wp2
              go_round
              case rel => exact ⟨k + 1, a, true, by omega, by go_num, rfl, rfl, ha, P.out⟩
              case measure => simp [intOf]; omega
            · rw [Bool.not_eq_true] at ho
              have P := Lib.hid (hp.step hlt hdg ho)
              have W := Lib.hid (PS.wrap hlt hdg ho)
              have hb1 : a * 10 + ((s[k]'hlt).toNat - 48) ≤ 10000000000000000009 := by
                have ho' : (a : Int) ≤ 1000000000000000000 := by simpa using ho
                have := (digB_iff _).1 hdg
                omega
              go_wp2
              go_round
              case rel => exact ⟨k + 1, _, b, by omega, by go_num, congrArg (Value.int .u64) W.out, rfl, hb1, P.out⟩
              case measure => simp [intOf]; omega
      · obtain rfl : k = s.size := by omega
        have hal := hp.all
        rw [List.take_of_length_le (by simp)] at hal
        have hr := H1.out hal
        have hlo := hp.low
        have hto := hp.top
        rw [List.take_of_length_le (by simp)] at hlo hto
        cases b with
        | true =>
          rw [res_out (by have := (hto rfl).1; simp only [sg]; try simp only [if_true, Bool.false_eq_true, if_false]; omega)] at hr
          subst hr
          clear hp hal hlo hto H0 H1
          go_wp2_with fail
          go_ret2
          exact ⟨rfl, rfl⟩
        | false =>
          rw [← hlo rfl] at hr
          have co := fun W => of_c false a W (by omega) (by omega)
          obtain ⟨x, hx⟩ : ∃ x, res (sg false a) = x := ⟨_, rfl⟩
          have hxx := res_two hx
          have co' : ∀ W, Calls Tryd.prog 43 #[.bool false, .int .u64 a] W fun e w' => e = .returned x ∧ W = w' := fun W => hx ▸ co W
          rw [hx] at hr
          obtain ⟨p, q, rfl⟩ := hxx
          subst hr
          clear hp hal hlo hto H0 H1 co hx
          go_wp2_with fail
          (with_reducible refine (co' _).mono ?_)
          rintro e w' ⟨rfl, rfl⟩
          go_wp2_with fail
          go_ret2
          exact ⟨rfl, rfl⟩
theorem len_f (n : Nat) (h : 0 < n) : ((n : Int) == 0) = false := by rw [beq_eq_false_iff_ne]; omega
theorem len_t (n : Nat) (h : ¬ 0 < n) : ((n : Int) == 0) = true := by rw [beq_iff_eq]; omega
theorem len_d (n : Nat) (h : ¬ 0 < n) : decide (0 < (n : Int)) = false := by rw [decide_eq_false_iff_not]; omega
theorem pr_none (l : List UInt8) (h : formB l = false) : pr l = .tuple #[.int .i64 0, .int .i64 1] := by rw [pr, h]; rfl
set_option maxRecDepth 20000 in
set_option maxHeartbeats 800000 in
theorem rparse_c (s : ByteArray) (w : World) (hs : s.size ≤ 4611686018427387904) : Calls Tryd.prog 32 #[.string s] w fun e w' => e = .returned (pr s.data.toList) ∧ w = w' := by
  by_cases h0 : 0 < s.size
  · have hx : decide (0 < (s.size : Int)) = true := by simp; omega
    by_cases x2 : (((s[0]'h0).toNat : Int) == 45) = true
    · have h2 : (((s[0]'h0).toNat : Int) == 45) = (s.data.toList.head? == some 45) := byte_eq s h0 45
      have h45 : s.data.toList.head? = some 45 := by rw [x2] at h2; simpa using h2.symm
      have hne : (s.toList == [48]) = false := by
        rw [Lib.toList_data]; rw [Bool.eq_false_iff]; intro h
        rw [beq_iff_eq] at h; rw [h] at h45; exact absurd h45 (by decide)
      have hF := formB_neg s h0 hne x2
      have hds : (s.extract 1 s.size).size ≤ 4611686018427387904 := by simp; omega
      have htl : s.data.toList.tail = (s.extract 1 s.size).data.toList := by rw [Lib.extract_to_end]; simp
      by_cases h1 : 0 < (s.extract 1 s.size).size
      · by_cases x3 : ((((s.extract 1 s.size)[0]'h1).toNat : Int) == 48) = true
        · rw [pr_none _ (hF.trans (digsB_zero _ h1 x3))]
          have hx2 : (((s.extract 1 s.size).size : Int) == 0) = false := len_f _ h1
          generalize hd : s.extract 1 s.size = d at *
          clear hF htl h45 h2 hne
          go_enter Tryd.func32, Tryd.ntmps32
          go_wp2_with fail
          go_ret2
          exact ⟨rfl, rfl⟩
        · rw [Bool.not_eq_true] at x3
          refine rparse_neg s w _ h0 hs x2 h1 x3 (fun h => pr_none _ ?_) (fun h => ?_)
          · rw [hF, digsB_full _ h1 x3, h]
          · rw [pr, if_pos (by rw [hF, digsB_full _ h1 x3, h]), pv, if_pos h45, htl]; rfl
      · rw [pr_none _ (hF.trans (digsB_none _ h1))]
        have hx2 : (((s.extract 1 s.size).size : Int) == 0) = true := len_t _ h1
        generalize hd : s.extract 1 s.size = d at *
        clear hF htl h45 h2 hne
        go_enter Tryd.func32, Tryd.ntmps32
        go_wp2_with fail
        go_ret2
        exact ⟨rfl, rfl⟩
    · rw [Bool.not_eq_true] at x2
      have h2 : (((s[0]'h0).toNat : Int) == 45) = (s.data.toList.head? == some 45) := byte_eq s h0 45
      have h45 : ¬ s.data.toList.head? = some 45 := by rw [x2] at h2; simpa using h2.symm
      have hpv : pv s.data.toList = sg false (dv 0 s.data.toList) := by rw [pv, if_neg h45]; rfl
      by_cases x3 : (((s[0]'h0).toNat : Int) == 48) = true
      · by_cases h1 : s.size = 1
        · have he : s.data.toList = [48] := by
            have h3 : (((s[0]'h0).toNat : Int) == 48) = (s.data.toList.head? == some 48) := byte_eq s h0 48
            rw [x3] at h3
            rw [Lib.size_eq] at h1
            cases h4 : s.data.toList with
            | nil => rw [h4] at h1; cases h1
            | cons c r =>
              rw [h4] at h1 h3
              have : r = [] := by cases r with
                | nil => rfl
                | cons => simp at h1
              subst this
              have : c = 48 := by simpa using h3.symm
              rw [this]
          have hf : formB s.data.toList = true := by rw [he]; rfl
          have hd : s.data.toList.all digB = true := by rw [he]; rfl
          refine rparse_pos s w _ _ h0 hs x2 x3 (fun _ => h1) (fun h => ?_) (fun h => ?_)
          · rw [hd] at h; cases h
          · rw [pr, if_pos hf, hpv]
        · have hne : (s.toList == [48]) = false := by
            rw [Lib.toList_data]; rw [Bool.eq_false_iff]; intro h
            rw [beq_iff_eq] at h; rw [Lib.size_eq, h] at h1; exact h1 rfl
          rw [pr_none _ ((formB_pos s h0 hne x2).trans (digsB_zero _ h0 x3))]
          have hx2 : ((s.size : Int) == 0) = false := by simp; intro h; rw [h] at h0; exact absurd h0 (by simp)
          have hx4 : decide (1 < (s.size : Int)) = true := by simp; omega
          clear h45 h2 hne hpv
          go_enter Tryd.func32, Tryd.ntmps32
          go_wp2_with fail
          go_ret2
          exact ⟨rfl, rfl⟩
      · rw [Bool.not_eq_true] at x3
        have hne : (s.toList == [48]) = false := by
          have h3 : (((s[0]'h0).toNat : Int) == 48) = (s.data.toList.head? == some 48) := byte_eq s h0 48
          rw [x3] at h3
          rw [Lib.toList_data, Bool.eq_false_iff]; intro h
          rw [beq_iff_eq] at h; rw [h] at h3; cases h3
        have hF := formB_pos s h0 hne x2
        refine rparse_pos s w _ false h0 hs x2 x3 (fun h => by cases h) (fun h => pr_none _ ?_) (fun h => ?_)
        · rw [hF, digsB_full _ h0 x3, h]
        · rw [pr, if_pos (by rw [hF, digsB_full _ h0 x3, h]), hpv]
  · have hn : s.data.toList = [] := by rw [Lib.size_eq] at h0; exact List.eq_nil_of_length_eq_zero (by omega)
    have hz : s.size = 0 := by omega
    rw [pr_none _ (by rw [hn]; rfl)]
    have hx : decide (0 < (s.size : Int)) = false := len_d _ h0
    have hx2 : ((s.size : Int) == 0) = true := len_t _ h0
    clear hz
    clear hn
    go_enter Tryd.func32, Tryd.ntmps32
    go_wp2_with fail
    go_ret2
    exact ⟨rfl, rfl⟩
end NumW
end Go.Proofs.YtooinkhjoppijaaDoor
