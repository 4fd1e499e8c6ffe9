/- The laws of traces: the walks. Conditions: arguments that fit; the tables of strconv. -/
import Derived.Test.YtooinkhjoppijaaDoorTraH
import Derived.Test.YtooinkhjoppijaaDoorTraE
import Derived.Laws.AppendOwnNone
namespace Go.Proofs.YtooinkhjoppijaaDoor
set_option linter.unusedVariables false
set_option linter.unusedSimpArgs false
open Go.RowKit
namespace TraW
open TraP NumP NumW QuoB
/-- What the call made, read as choices. -/
theorem own_chs {w : World} {B : Nat} {v : Value} {l : List Ch} (h : OwnC w B v l) : ∃ A c, v = .slice A l.length c ∧ l.length ≤ c ∧ Chs w w.heap.size A l.length l := by
  rcases h.2 with ⟨h1, h2⟩ | ⟨g, cap, cur, h1, h2, h3, h4, h5, h6, h7⟩
  · refine ⟨none, 0, by rw [h1, h2], by omega, ?_⟩
    have : l = [] := List.eq_nil_of_length_eq_zero h2
    subst this; exact Rd.nil
  · refine ⟨some ⟨g, 0, none⟩, cap, h1, h4, ccs_len l, fun _ => ⟨_, rfl, (Array.getElem?_eq_some_iff.1 h3).1, ?_⟩⟩
    subst h1
    exact h.cells rfl
theorem runs_len : ∀ (n : Nat) (l : List Ch), l.length = n → l.all oneB = true → l.length ≤ 4000 → (runsL l).length ≤ 5000 * l.length := by
  intro n
  induction n using Nat.strongRecOn with
  | ind n ih =>
    intro l hn ho hl
    cases l with
    | nil => simp [runsL]
    | cons c r =>
      have hc : oneB c = true := List.all_eq_true.1 ho c (List.mem_cons_self ..)
      have h1 := lineL_len hc
      have hle := lead_le c r
      simp only [List.length_cons] at hl hn
      have h2 := dec_len (1 + lead c r)
      have hd : (r.drop (lead c r)).all oneB = true := by
        rw [List.all_eq_true] at ho ⊢
        exact fun x hx => ho x (List.mem_cons_of_mem _ (List.mem_of_mem_drop hx))
      have h3 := ih (r.drop (lead c r)).length (by rw [List.length_drop]; omega) _ rfl hd (by rw [List.length_drop]; omega)
      rw [runs_lead, List.length_append, seg, itoa_nat]
      rw [List.length_drop] at h3
      simp only [List.length_append, List.length_cons, List.length_nil]
      omega
theorem enc_len {t : Tr} (h : mayB t = true) : (encL t).length ≤ 20000100 := by
  obtain ⟨h1, h2, h3⟩ := may_parts h
  have a := headL_len h1
  have b := runs_len _ _ rfl h3 h2
  unfold encL; rw [List.length_append, List.length_cons]; omega
theorem itoa_two : Lib.itoa ((2 : Nat) : Int) = [50] := by rw [itoa_nat, dec_split]; rfl
theorem itoa_one : Lib.itoa ((1 : Nat) : Int) = [49] := by rw [itoa_nat, dec_split]; rfl
theorem awake_enc : encL (1, 1, [(2, 0, 0), (2, 0, 0)]) = [102, 97, 117, 108, 116, 32, 100, 101, 97, 100, 108, 111, 99, 107, 10, 50, 32, 116, 105, 99, 107, 10] := by
  show headL 1 1 ++ 10 :: seg 2 (2, 0, 0) = _
  rw [seg, itoa_two]; rfl
theorem awake_line : lineL (5, 1, 0) = [101, 110, 100, 32, 49] := by
  show wEn ++ 32 :: Lib.itoa ((1 : Nat) : Int) = _
  rw [itoa_one]; rfl
set_option maxHeartbeats 6400000 in
set_option maxRecDepth 100000 in
theorem awake_c (w : World) (hw : Rdy w) : Calls Tryd.prog 6 #[] w fun e w' => e = .returned (.bool true) ∧ Below w.heap.size w w' := by
  have hmay : mayB (1, 1, [(2, 0, 0), (2, 0, 0)]) = true := by decide
  have hdec := dec_enc hmay
  have HMAY := Lib.hid hmay
  have HDEC := Lib.hid hdec
  have HENC := Lib.hid awake_enc
  clear hmay hdec
  have HW := Lib.hid hw
  clear hw
  go_enter Tryd.func6, Tryd.ntmps6
  go_wp2_with fail
  have L0 := (Blk.new w 39 #[.int .i64 2, .int .i64 0, .int .i64 0, .int .i64 2, .int .i64 0, .int .i64 0]).alloc (.cells #[.int .i64 1, .int .i64 1, .slice (some ⟨w.heap.size, 0, none⟩) 2 2] 24)
  have T0 := Blk.new1 w (.cells #[.int .i64 2, .int .i64 0, .int .i64 0, .int .i64 2, .int .i64 0, .int .i64 0] 39) 24 #[.int .i64 1, .int .i64 1, .slice (some ⟨w.heap.size, 0, none⟩) 2 2]
  have B0 : Below w.heap.size w ((w.alloc (.cells #[.int .i64 2, .int .i64 0, .int .i64 0, .int .i64 2, .int .i64 0, .int .i64 0] 39)).alloc (.cells #[.int .i64 1, .int .i64 1, .slice (some ⟨w.heap.size, 0, none⟩) 2 2] 24)) := by go_grown
  obtain ⟨w1, hw1⟩ : ∃ q, (w.alloc (.cells #[.int .i64 2, .int .i64 0, .int .i64 0, .int .i64 2, .int .i64 0, .int .i64 0] 39)).alloc (.cells #[.int .i64 1, .int .i64 1, .slice (some ⟨w.heap.size, 0, none⟩) 2 2] 24) = q := ⟨_, rfl⟩
  rw [hw1] at L0 T0 B0 ⊢
  clear hw1
  have hch : ∀ W, Blk W w.heap.size 39 #[.int .i64 2, .int .i64 0, .int .i64 0, .int .i64 2, .int .i64 0, .int .i64 0] → Chs W W.heap.size (some ⟨w.heap.size, 0, none⟩) 2 [(2, 0, 0), (2, 0, 0)] := by
    intro W h
    refine ⟨rfl, fun _ => ⟨_, rfl, h.lt, fun j u hu => ?_⟩⟩
    have := h.cell j
    unfold Addr.add
    split
    · next hj => subst hj; rw [this]; exact hu
    · rw [Nat.zero_add, this]; simpa [ccs, chC] using hu
  have ce := encode_c 1 1 (some ⟨w.heap.size, 0, none⟩) 2 2 _ w1 (hch w1 L0) (by omega) (by omega) (HW.out.below B0)
  unfold EncPost at ce
  rw [if_pos HMAY.out, if_pos HMAY.out, HENC.out] at ce
  simp only [trV] at ce
  (with_reducible refine ce.mono ?_)
  rintro e w2 ⟨rfl, b2⟩
  have L2 := L0.next b2
  have T2 := T0.next b2
  have B2 := via b2 B0
  have cd := decode_c (ba [102, 97, 117, 108, 116, 32, 100, 101, 97, 100, 108, 111, 99, 107, 10, 50, 32, 116, 105, 99, 107, 10]) w2 (by rw [ba_size]; simp) (HW.out.below B2)
  rw [ba_list, ← HENC.out] at cd
  unfold DecPost at cd
  rw [HDEC.out, HENC.out] at cd
  simp only at cd
  clear ce L0 T0 B0 b2
  go_wp2_with fail
  (with_reducible refine cd.mono ?_)
  rintro e w3 ⟨v, rfl, hown, _, b3⟩
  obtain ⟨A3, c3, rfl, _, hch3⟩ := own_chs hown
  have L3 := L2.next b3
  have T3 := T2.next b3
  have B3 := via b3 B2
  clear cd L2 T2 B2 hown
  go_wp2_with fail
  have L4 := L3.alloc (.cells #[.int .i64 1, .int .i64 1, .slice A3 2 c3] 24)
  have T4 := T3.alloc (.cells #[.int .i64 1, .int .i64 1, .slice A3 2 c3] 24)
  have U4 := Blk.new w3 24 #[.int .i64 1, .int .i64 1, .slice A3 2 c3]
  have B4 := B3.alloc B3.size (.cells #[.int .i64 1, .int .i64 1, .slice A3 2 c3] 24)
  have hch4 : Chs (w3.alloc (.cells #[.int .i64 1, .int .i64 1, .slice A3 2 c3] 24)) (w3.alloc (.cells #[.int .i64 1, .int .i64 1, .slice A3 2 c3] 24)).heap.size A3 2 [(2, 0, 0), (2, 0, 0)] := (hch3.alloc (Nat.le_refl _) _).more (by simp)
  obtain ⟨w4, hw4⟩ : ∃ q, w3.alloc (.cells #[.int .i64 1, .int .i64 1, .slice A3 2 c3] 24) = q := ⟨_, rfl⟩
  rw [show ([((2 : Int), (0 : Int), (0 : Int)), (2, 0, 0)] : List Ch).length = 2 from rfl] at *
  rw [hw4] at L4 T4 U4 B4 hch4 ⊢
  clear hw4 L3 T3 B3 hch3 b3
  have cl := line_c (5, 1, 0) w4 (by decide)
  rw [awake_line] at cl
  simp only [chV] at cl
  (with_reducible refine cl.mono ?_)
  rintro e w5 ⟨rfl, b5⟩
  have L5 := L4.next b5
  have T5 := T4.next b5
  have U5 := U4.next b5
  have B5 := via b5 B4
  have hch5 := (hch4.below b5).more b5.size
  clear cl L4 T4 U4 B4 hch4 b5
  have x0 := T5.cell 0
  have x1 := T5.cell 1
  have x2 := T5.cell 2
  have u0 := U5.cell 0
  have u1 := U5.cell 1
  have u2 := U5.cell 2
  simp only [List.getElem?_toArray, List.getElem?_cons_zero, List.getElem?_cons_succ] at x0 x1 x2 u0 u1 u2
  have cs := same_c 1 1 1 1 _ _ _ 2 _ c3 _ _ w5 (hch w5 L5) hch5 (by omega) (by omega)
  simp only [trV, decide_true] at cs
  have z1 : ((ba [102, 97, 117, 108, 116, 32, 100, 101, 97, 100, 108, 111, 99, 107, 10, 50, 32, 116, 105, 99, 107, 10]).toList == [102, 97, 117, 108, 116, 32, 100, 101, 97, 100, 108, 111, 99, 107, 10, 50, 32, 116, 105, 99, 107, 10]) = true := by rw [toList_ba]; simp
  have z2 : ((ba [101, 110, 100, 32, 49]).toList == [101, 110, 100, 32, 49]) = true := by rw [toList_ba]; simp
  go_wp2_with fail
  (with_reducible refine cs.mono ?_)
  rintro e w6 ⟨rfl, b6⟩
  have L6 := L5.next b6
  have T6 := T5.next b6
  have B6 := via b6 B5
  clear cs L5 T5 U5 B5 hch5 b6 x0 x1 x2 u0 u1 u2
  have x0 := T6.cell 0
  have x1 := T6.cell 1
  have x2 := T6.cell 2
  simp only [List.getElem?_toArray, List.getElem?_cons_zero, List.getElem?_cons_succ] at x0 x1 x2
  have cm := may_c 1 1 _ _ 2 _ w6 (hch w6 L6) (by omega)
  rw [HMAY.out] at cm
  simp only [trV] at cm
  go_wp2_with fail
  (with_reducible refine cm.mono ?_)
  rintro e w7 ⟨rfl, b7⟩
  go_wp2
  go_ret
  exact ⟨rfl, via b7 B6⟩
set_option maxHeartbeats 6400000 in
theorem lines_c (c : Ch) (w : World) (hw : Rdy w) : Calls Tryd.prog 5 #[chV c] w fun e w' => e = .returned (.bool true) ∧ Below w.heap.size w w' := by
  have ca := fun W (h : Below w.heap.size w W) => awake_c W (hw.below h)
  have co := fun W => rone_c c W
  cases ho : oneB c
  all_goals
    first
    | (have cl := fun W => linez_c c W ho
       have tag := 0)
    | have cl := fun W => line_c c W ho
    rw [ho] at co
    try (have cr := fun W => rline_c c W ho)
    obtain ⟨k, p, n⟩ := c
    obtain ⟨LB, hLB⟩ : ∃ x, ba (lineL (k, p, n)) = x := ⟨_, rfl⟩
    try rw [hLB] at cl
    try rw [hLB] at cr
    simp only [chV] at cl co ⊢
    try simp only [chV] at cr
    clear hLB ho
    have z1 : (ByteArray.empty.toList == []) = true := by rw [Lib.toList_data]; rfl
    have z2 : ByteArray.empty.toList.isEmpty = true := by rw [Lib.toList_data]; rfl
    have z4 : (LB.toList == LB.toList) = true := by simp
    have hbx : Below w.heap.size w (w.alloc (.cells #[.int .i64 k, .int .i64 p, .int .i64 n] 39)) := by go_grown
    have E0 := Blk.new w 39 #[.int .i64 k, .int .i64 p, .int .i64 n]
    obtain ⟨w1, hw1⟩ : ∃ q, w.alloc (.cells #[.int .i64 k, .int .i64 p, .int .i64 n] 39) = q := ⟨_, rfl⟩
    rw [hw1] at hbx E0
    clear hw
    go_enter Tryd.func5, Tryd.ntmps5
    go_wp2_with fail
    try rw [hw1]
    clear hw1
    (with_reducible refine (ca _ hbx).mono ?_)
    rintro e w2 ⟨rfl, b2⟩
    have E2 := E0.next b2
    have B2 := via b2 hbx
    clear E0 ca b2 hbx
    have x0 := E2.cell 0
    have x1 := E2.cell 1
    have x2 := E2.cell 2
    simp only [List.getElem?_toArray, List.getElem?_cons_zero, List.getElem?_cons_succ] at x0 x1 x2
    go_wp2_with fail
    (with_reducible refine (cl _).mono ?_)
    rintro e w3 ⟨rfl, b3⟩
    have E3 := E2.next b3
    have B3 := via b3 B2
    clear E2 B2 b3 x0 x1 x2
    have x0 := E3.cell 0
    have x1 := E3.cell 1
    have x2 := E3.cell 2
    simp only [List.getElem?_toArray, List.getElem?_cons_zero, List.getElem?_cons_succ] at x0 x1 x2
    go_wp2_with fail
    (with_reducible refine (co _).mono ?_)
    rintro e w4 ⟨rfl, b4⟩
    have E4 := E3.next b4
    have B4 := via b4 B3
    clear E3 B3 b4 x0 x1 x2
    have x0 := E4.cell 0
    have x1 := E4.cell 1
    have x2 := E4.cell 2
    simp only [List.getElem?_toArray, List.getElem?_cons_zero, List.getElem?_cons_succ] at x0 x1 x2
    go_wp2_with fail
    first
    | (go_ret
       exact ⟨rfl, B4⟩)
    | ((with_reducible refine (cr _).mono ?_)
       rintro e w5 ⟨rfl, b5⟩
       go_wp2
       go_ret
       exact ⟨rfl, via b5 B4⟩)
/-- A list so many times. -/
def reps (l : List Ch) (j : Nat) : List Ch := (List.replicate j l).flatten
theorem reps_succ (l : List Ch) (j : Nat) : reps l (j + 1) = reps l j ++ l := by
  unfold reps; rw [List.replicate_succ', List.flatten_append]; simp
theorem reps_len (l : List Ch) (j : Nat) : (reps l j).length = j * l.length := by
  unfold reps; rw [List.length_flatten]; simp
set_option maxHeartbeats 6400000 in
set_option maxRecDepth 100000 in
theorem back_c (k n : Int) (A : Option Addr) (m c : Nat) (l : List Ch) (a : Int) (w : World) (hr : Chs w w.heap.size A m l) (hm : m ≤ 9223372036854775807) (hA : A = none → c = 0) (ha0 : 0 ≤ a) (ha1 : a ≤ 255) (hw : Rdy w) :
    Calls Tryd.prog 3 #[trV k n A m c, .int .u8 a] w fun e w' => e = .returned (.bool true) ∧ Below w.heap.size w w' := by
  have ca := fun W (h : Below w.heap.size w W) => awake_c W (hw.below h)
  have hl := Chs.len hr
  simp only [trV]
  have hbx : Below w.heap.size w (w.alloc (.cells #[.int .i64 k, .int .i64 n, .slice A m c] 24)) := by go_grown
  have E0 := Blk.new w 24 #[.int .i64 k, .int .i64 n, .slice A m c]
  obtain ⟨w1, hw1⟩ : ∃ q, w.alloc (.cells #[.int .i64 k, .int .i64 n, .slice A m c] 24) = q := ⟨_, rfl⟩
  rw [hw1] at hbx E0
  have hz1 : w.heap.size + 1 ≤ w1.heap.size := by rw [← hw1]; simp
  have HZ1 := Lib.hid (show w1.heap.size = w.heap.size + 1 by rw [← hw1]; simp)
  have HW := Lib.hid hw
  have HL := Lib.hid hl
  clear hw hl
  go_enter Tryd.func3, Tryd.ntmps3
  go_wp2_with fail
  try rw [hw1]
  clear hw1
  (with_reducible refine (ca _ hbx).mono ?_)
  rintro e w2 ⟨rfl, b2⟩
  have E2 := E0.next b2
  have B2 := via b2 hbx
  have hz2 : w1.heap.size ≤ w2.heap.size := b2.size
  clear E0 ca b2 hbx
  have x0 := E2.cell 0
  have x1 := E2.cell 1
  have x2 := E2.cell 2
  have l2 := E2.loose 2
  simp only [List.getElem?_toArray, List.getElem?_cons_zero, List.getElem?_cons_succ] at x0 x1 x2
  by_cases h60 : 60 < m
  · have d : decide ((60 : Int) < (m : Int)) = true := decide_eq_true (by omega)
    go_wp2
    go_ret
    exact ⟨rfl, B2⟩
  have d : decide ((60 : Int) < (m : Int)) = false := decide_eq_false (by omega)
  have E3 := E2.set_ 2 (.slice none 0 0)
  simp only [List.setIfInBounds_toArray, List.set_cons_zero, List.set_cons_succ] at E3
  have B3 := B2.setCell (p := ⟨w.heap.size, 2, none⟩) (Nat.le_refl _) (.slice none 0 0)
  obtain ⟨r, hr1⟩ : ∃ r : Nat, a.tmod 70 = r := ⟨(a.tmod 70).toNat, by have := Int.tmod_nonneg 70 ha0; omega⟩
  have hr70 : r < 70 := by have := Int.tmod_lt_of_pos a (show (0 : Int) < 70 by decide); omega
  obtain ⟨i0, hi0, hz0, hz1', hz2'⟩ := info_parts info_C
  go_wp2_with fail
  clear x0 x1 x2 l2 E2 B2
  go_loopw [25] (fun iv wr => ∃ j : Nat, iv = .int .i64 j ∧ j ≤ r + 1 ∧ ∃ v : Value, Blk wr w.heap.size 24 #[.int .i64 k, .int .i64 n, v] ∧ OwnC wr w1.heap.size v (reps l j) ∧ Below w.heap.size w wr) (fun iv _ => r + 1 - (intOf iv).toNat)
  case atStart => exact ⟨0, rfl, by omega, _, E3, World.ownsRow_nil _ _ _ _, B3⟩
  case round =>
    clear E3 B3
    obtain ⟨j, rfl, hj, v, E4, own4, B4⟩ := hrel
    obtain ⟨w4, rfl⟩ : ∃ x : World, x = wr := ⟨_, rfl⟩
    obtain ⟨A4, c4, rfl, hlt4, _⟩ := own_shape own4
    have hrl := reps_len l j
    have hjm : j * l.length ≤ 4200 := by
      rw [HL.out]
      calc j * m ≤ 70 * 60 := Nat.mul_le_mul (by omega) (by omega)
        _ = 4200 := rfl
    obtain ⟨N, hN⟩ : ∃ N, (reps l j).length = N := ⟨_, rfl⟩
    unfold OwnC at own4
    rw [hN] at own4 E4 hlt4 hrl
    have hN42 : N ≤ 4200 := by omega
    have HN := Lib.hid hN
    have hsz4 : w1.heap.size ≤ w4.heap.size := by have := HZ1.out; have := E4.lt; omega
    clear hN hrl hjm
    have x0 := E4.cell 0
    have x1 := E4.cell 1
    have x2 := E4.cell 2
    have l2 := E4.loose 2
    simp only [List.getElem?_toArray, List.getElem?_cons_zero, List.getElem?_cons_succ] at x0 x1 x2
    by_cases hlt : j < r + 1
    · have dj : decide ((j : Int) < (r : Int) + 1) = true := decide_eq_true (by omega)
      cases A with
      | none =>
        obtain rfl : m = 0 := by
          rcases Nat.eq_zero_or_pos m with h | h
          · exact h
          · obtain ⟨ad, e, _⟩ := hr.2 h; cases e
        obtain rfl := hA rfl
        have hle : l = [] := List.eq_nil_of_length_eq_zero HL.out
        have hrs : reps l (j + 1) = reps l j := by rw [reps_succ, hle, List.append_nil]
        have HRS := Lib.hid hrs
        clear hle hrs
        go_wp2_with (at_builtin; refine wpList_append_own_none rfl (.tmp 28) (.tmp 29) 22 rfl w1.heap.size 39 i0 3 Tryd.underlying22 hi0 _ N (ccs (reps l j)) rfl own4 rfl ?_)
        have E5 := E4.set_ 2 (.slice A4 N c4)
        simp only [List.setIfInBounds_toArray, List.set_cons_zero, List.set_cons_succ] at E5
        have B5 := B4.setCell (p := ⟨w.heap.size, 2, none⟩) (Nat.le_refl _) (.slice A4 N c4)
        have own5 := own_far own4 ⟨w.heap.size, 2, none⟩ (fun g hg => by have := (hlt4 g hg).1; simp only; omega) (.slice A4 N c4)
        go_wp2
        go_roundw
        case rel => exact ⟨j + 1, by go_num, by omega, .slice A4 N c4, E5, by unfold OwnC; rw [HRS.out, HN.out]; exact own5, B5⟩
        case measure => simp [intOf]; omega
      | some ad =>
        have hnews : ∀ i u, (ccs l)[i]? = some u → w4.cell? (ad.add i) = some u := by
          intro i u hu
          have hi : i < (ccs l).length := (List.getElem?_eq_some_iff.1 hu).1
          rw [ccs_len, HL.out] at hi
          obtain ⟨ad', e, hb, hc⟩ := (hr.below B4).2 (by omega)
          cases e
          exact hc i u hu
        have HNW := Lib.hid hnews
        clear hnews
        go_wp2_with (at_builtin; refine wpList_append_own _ rfl (.tmp 28) (.tmp 29) 22 rfl w1.heap.size 39 i0 (.agg #[.int .i64 0, .int .i64 0, .int .i64 0]) 3 24 Tryd.underlying22 hi0 hz0 hz1' hz2' rfl (by decide) _ N (ccs (reps l j)) rfl own4 ad m c (ccs l) rfl (by rw [ccs_len, HL.out]) HNW.out ccs_one (by unfold maxLen; omega) (by omega) hsz4 ?_)
        intro v5 w5 own5 hgrow5 _
        have own5' : OwnC w5 w1.heap.size v5 (reps l (j + 1)) := by
          unfold OwnC
          rw [reps_succ, ccs_app, List.length_append, HN.out, HL.out]
          exact own5
        have E5 : Blk w5 w.heap.size 24 #[.int .i64 k, .int .i64 n, .slice A4 N c4] := (hgrow5.block _ E4.lt (fun e => by have := (hlt4 _ e.symm).1; omega)).trans E4
        have B5 : Below w.heap.size w w5 := B4.grown hgrow5 B4.size (fun i hi => by have := (hlt4 i hi).1; omega)
        clear own5 hgrow5 own4 E4 B4 hlt4 x0 x1 x2 l2
        obtain ⟨A5, c5, rfl, hlt5, _⟩ := own_shape own5'
        have hrl := reps_len l (j + 1)
        obtain ⟨N5, hN5⟩ : ∃ N, (reps l (j + 1)).length = N := ⟨_, rfl⟩
        unfold OwnC at own5'
        rw [hN5] at own5' hlt5
        rw [hN5]
        have HN5 := Lib.hid hN5
        clear hN5 hrl
        have x2 := E5.cell 2
        have l2 := E5.loose 2
        simp only [List.getElem?_toArray, List.getElem?_cons_zero, List.getElem?_cons_succ] at x2
        have E6 := E5.set_ 2 (.slice A5 N5 c5)
        simp only [List.setIfInBounds_toArray, List.set_cons_zero, List.set_cons_succ] at E6
        have B6 := B5.setCell (p := ⟨w.heap.size, 2, none⟩) (Nat.le_refl _) (.slice A5 N5 c5)
        have own6 := own_far own5' ⟨w.heap.size, 2, none⟩ (fun g hg => by have := (hlt5 g hg).1; simp only; omega) (.slice A5 N5 c5)
        go_wp2
        go_roundw
        case rel => exact ⟨j + 1, by go_num, by omega, .slice A5 N5 c5, E6, by unfold OwnC; rw [HN5.out]; exact own6, B6⟩
        case measure => simp [intOf]; omega
    · have dj : decide ((j : Int) < (r : Int) + 1) = false := decide_eq_false (by omega)
      obtain ⟨L, hL⟩ : ∃ L, reps l j = L := ⟨_, rfl⟩
      rw [hL] at own4 HN
      clear hL
      have hch4 : Chs w4 w4.heap.size A4 N L ∧ N ≤ c4 := by
        have : OwnC w4 w1.heap.size (.slice A4 N c4) L := by unfold OwnC; rw [HN.out]; exact own4
        obtain ⟨A', c', e, h1, h2⟩ := own_chs this
        cases e
        rw [HN.out] at h1 h2
        exact ⟨h2, h1⟩
      obtain ⟨hch4, hNc⟩ := hch4
      have hch : ∀ W, Below w4.heap.size w4 W → Chs W W.heap.size A4 N L := fun W h => (hch4.below h).more h.size
      have HCH := Lib.hid hch
      clear hch hch4 own4 hlt4 l2
      have ce := encode_c k n A4 N c4 L w4 (HCH.out w4 (Below.refl _ _)) (by omega) hNc (HW.out.below B4)
      have cm := fun W h => may_c k n A4 N c4 L W (HCH.out W h) (by omega)
      have crm := fun W h => rmay_c k n A4 N c4 L W (HCH.out W h) (by omega)
      have cre := fun W h hmay => rencode_c k n A4 N c4 L W (HCH.out W h) hmay
      unfold EncPost at ce
      simp only [trV] at ce cm crm cre
      obtain ⟨MB, hMB⟩ : ∃ b, mayB (k, n, L) = b := ⟨_, rfl⟩
      rw [hMB] at ce cm crm
      have HMB := Lib.hid hMB
      clear hMB
      obtain ⟨TX, hTX⟩ : ∃ T, encL (k, n, L) = T := ⟨_, rfl⟩
      rw [hTX] at ce
      have HTX := Lib.hid hTX
      clear hTX
      cases MB
      · rw [if_neg (by decide), if_neg (by decide)] at ce
        have z1 : (ByteArray.empty.toList == []) = true := by rw [Lib.toList_data]; rfl
        have z2 : ByteArray.empty.toList.isEmpty = true := by rw [Lib.toList_data]; rfl
        clear cre
        go_wp2_with fail
        (with_reducible refine ce.mono ?_)
        rintro e w5 ⟨rfl, b5⟩
        have E5 := E4.next b5
        clear x0 x1 x2
        have x0 := E5.cell 0
        have x1 := E5.cell 1
        have x2 := E5.cell 2
        simp only [List.getElem?_toArray, List.getElem?_cons_zero, List.getElem?_cons_succ] at x0 x1 x2
        go_wp2_with fail
        (with_reducible refine (crm _ b5).mono ?_)
        rintro e w6 ⟨rfl, b6⟩
        have E6 := E5.next b6
        have c6 := via b6 b5
        clear x0 x1 x2
        have x0 := E6.cell 0
        have x1 := E6.cell 1
        have x2 := E6.cell 2
        simp only [List.getElem?_toArray, List.getElem?_cons_zero, List.getElem?_cons_succ] at x0 x1 x2
        go_wp2_with fail
        (with_reducible refine (cm _ c6).mono ?_)
        rintro e w7 ⟨rfl, b7⟩
        go_wp2
        go_ret
        exact ⟨rfl, via (via b7 c6) B4⟩
      · rw [if_pos rfl, if_pos rfl] at ce
        have hdec := dec_enc HMB.out
        rw [HTX.out] at hdec
        have hlen := enc_len HMB.out
        rw [HTX.out] at hlen
        have HDEC := Lib.hid hdec
        have cre2 := fun W h => cre W h HMB.out
        rw [HTX.out] at cre2
        have hz : (ba TX).size ≤ 281474976 := by rw [ba_size]; omega
        clear hdec cre hlen
        go_wp2_with fail
        (with_reducible refine ce.mono ?_)
        rintro e w5 ⟨rfl, b5⟩
        have E5 := E4.next b5
        clear x0 x1 x2 ce
        have x0 := E5.cell 0
        have x1 := E5.cell 1
        have x2 := E5.cell 2
        simp only [List.getElem?_toArray, List.getElem?_cons_zero, List.getElem?_cons_succ] at x0 x1 x2
        go_wp2_with fail
        (with_reducible refine (crm _ b5).mono ?_)
        rintro e w6 ⟨rfl, b6⟩
        have E6 := E5.next b6
        have c6 := via b6 b5
        clear x0 x1 x2 E5
        have x0 := E6.cell 0
        have x1 := E6.cell 1
        have x2 := E6.cell 2
        simp only [List.getElem?_toArray, List.getElem?_cons_zero, List.getElem?_cons_succ] at x0 x1 x2
        go_wp2_with fail
        (with_reducible refine (cm _ c6).mono ?_)
        rintro e w7 ⟨rfl, b7⟩
        have E7 := E6.next b7
        have c7 := via b7 c6
        have B7 := via c7 B4
        clear x0 x1 x2 E6 cm crm
        have cd := decode_c (ba TX) w7 hz (HW.out.below B7)
        unfold DecPost at cd
        rw [ba_list, HDEC.out] at cd
        simp only at cd
        go_wp2_with fail
        (with_reducible refine cd.mono ?_)
        rintro e w8 ⟨v8, rfl, own8, _, b8⟩
        obtain ⟨A8, c8, rfl, _, hch8⟩ := own_chs own8
        rw [HN.out] at hch8
        rw [HN.out]
        have c8' := via b8 c7
        have E8 := E7.next b8
        have E9 := E8.alloc (.cells #[.int .i64 k, .int .i64 n, .slice A8 N c8] 24)
        have F9 := Blk.new w8 24 #[.int .i64 k, .int .i64 n, .slice A8 N c8]
        have c9 := c8'.alloc c8'.size (.cells #[.int .i64 k, .int .i64 n, .slice A8 N c8] 24)
        have hch9 : Chs (w8.alloc (.cells #[.int .i64 k, .int .i64 n, .slice A8 N c8] 24)) (w8.alloc (.cells #[.int .i64 k, .int .i64 n, .slice A8 N c8] 24)).heap.size A8 N L := (hch8.alloc (Nat.le_refl _) _).more (by simp)
        clear cd own8 hch8 E7 E8 b8 c8'
        obtain ⟨w9, hw9⟩ : ∃ q, w8.alloc (.cells #[.int .i64 k, .int .i64 n, .slice A8 N c8] 24) = q := ⟨_, rfl⟩
        rw [hw9] at E9 F9 c9 hch9
        have x0 := E9.cell 0
        have x1 := E9.cell 1
        have x2 := E9.cell 2
        simp only [List.getElem?_toArray, List.getElem?_cons_zero, List.getElem?_cons_succ] at x0 x1 x2
        have tt : ((ba TX).toList == (ba TX).toList) = true := by simp
        go_wp2_with fail
        try rw [hw9]
        clear hw9
        (with_reducible refine (cre2 _ c9).mono ?_)
        rintro e w10 ⟨rfl, b10⟩
        have E10 := E9.next b10
        have F10 := F9.next b10
        have c10 := via b10 c9
        have hch10 := (hch9.below b10).more b10.size
        clear x0 x1 x2 E9 F9 hch9
        have x0 := E10.cell 0
        have x1 := E10.cell 1
        have x2 := E10.cell 2
        have y0 := F10.cell 0
        have y1 := F10.cell 1
        have y2 := F10.cell 2
        simp only [List.getElem?_toArray, List.getElem?_cons_zero, List.getElem?_cons_succ] at x0 x1 x2 y0 y1 y2
        have cs := same_c k n k n A4 A8 N c4 N c8 L L w10 (HCH.out _ c10) hch10 (by omega) (by omega)
        simp only [trV, decide_true] at cs
        go_wp2_with fail
        (with_reducible refine cs.mono ?_)
        rintro e w11 ⟨rfl, b11⟩
        go_wp2
        go_ret
        exact ⟨rfl, via (via b11 c10) B4⟩
end TraW
end Go.Proofs.YtooinkhjoppijaaDoor
