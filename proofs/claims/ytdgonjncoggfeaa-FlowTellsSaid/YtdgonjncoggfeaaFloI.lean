/- Where one may go on from a place: the walk of the reference. Condition: codes that are small. -/
import Derived.Test.YtdgonjncoggfeaaFloH
import Derived.Deep.DeepCutAuto
import Derived.Deep.CutBlock
import Derived.StillTailTactics
namespace Go.Proofs.Ytdgonjncoggfeaa
set_option linter.unusedVariables false
set_option linter.unusedSimpArgs false
open Go.RowKit
namespace FloW
open FloP
def NextR (I : List In) (W : List Wt) (p : Int) (w : World) (e : Ending) (w' : World) : Prop := ∃ v, e = .returned v ∧ RdL w' v (nextN I W p) ∧ Below w.heap.size w w'
theorem nextr_nil {I : List In} {W : List Wt} {p : Int} {w w' : World} (h : rawN I W p = []) (hb : Below w.heap.size w w') : NextR I W p w (.returned (.slice none 0 0)) w' :=
  ⟨_, rfl, by rw [norm_nil h]; exact RdL.nil _, hb⟩
theorem nextr_one {I : List In} {W : List Wt} {p x : Int} {w w' w0 : World} (h : rawN I W p = [x]) (hb : Below w.heap.size w w0) (hw : w' = w0.alloc (.cells #[.int .i64 x] 3)) : NextR I W p w (.returned (.slice (some ⟨w0.heap.size, 0, none⟩) 1 1)) w' := by
  subst hw
  refine ⟨_, rfl, ?_, hb.alloc hb.size _⟩
  have e : nextN I W p = [x] := by unfold nextN; rw [h, ← norm_put]; rfl
  rw [e]
  exact RdL.of (B := w0.heap.size) (World.ownsRow_lit w0 _ 1 (Nat.le_refl _) (by unfold maxLen; omega) rfl)
set_option maxHeartbeats 12800000 in
set_option maxRecDepth 100000 in
theorem rnext_c (A A' : Option Addr) (n c n' c' : Nat) (xs : List Ix) (ws : List Wx) (p : Int) (w : World) (h : Cd w w.heap.size A n A' n' xs ws) (hs : Sm n n' xs) :
    Calls Try.prog 7 #[cdv A n c A' n' c', .int .i64 p] w (NextR (xs.map inOf) (ws.map wtOf) p w) := by
  have HS := Lib.hid hs
  simp only [cdv]
  obtain ⟨hsn, hsm, hsl⟩ := hs
  have HSL := Lib.hid hsl
  have hlw := h.len.1
  have HLW := Lib.hid hlw
  clear hlw hsl
  have E0 := Blk.new w 33 #[.slice A n c, .slice A' n' c']
  have B0 : Below w.heap.size w (w.alloc (.cells #[.slice A n c, .slice A' n' c'] 33)) := by go_grown
  obtain ⟨w1, hw1⟩ : ∃ q, w.alloc (.cells #[.slice A n c, .slice A' n' c'] 33) = q := ⟨_, rfl⟩
  have hz : w1.heap.size = w.heap.size + 1 := by rw [← hw1]; simp
  have HZ := Lib.hid hz
  clear hz
  rw [hw1] at E0 B0
  have u0 := E0.cell 0
  have u1 := E0.cell 1
  simp only [List.getElem?_toArray, List.getElem?_cons_zero, List.getElem?_cons_succ] at u0 u1
  obtain ⟨I, hI⟩ : ∃ I, xs.map inOf = I := ⟨_, rfl⟩
  obtain ⟨W, hW⟩ : ∃ W, ws.map wtOf = W := ⟨_, rfl⟩
  rw [hI, hW]
  have HI := Lib.hid hI
  have HW := Lib.hid hW
  have hIl : I.length = n := by rw [← hI, List.length_map, HLW.out]
  have HIl := Lib.hid hIl
  have hWl : W.length = n' := by rw [← hW, List.length_map, h.len.2]
  have HWl := Lib.hid hWl
  clear hIl hI hW hWl
  go_enter Try.func7, Try.ntmps7
  by_cases hp0 : p < 0
  · have dp : decide (p < 0) = true := decide_eq_true hp0
    have hr := nextr_nil (W := W) (raw_out (I := I) (W := W) (.inl hp0)) B0
    clear hsn hsm
    go_wp2
    go_ret
    exact hr
  obtain ⟨q, rfl⟩ : ∃ q : Nat, p = q := ⟨p.toNat, by omega⟩
  have dp : decide ((q : Int) < 0) = false := decide_eq_false (by omega)
  by_cases hqn : n ≤ q
  · have dq : decide ((q : Int) ≥ (n : Int)) = true := decide_eq_true (by omega)
    have dq2 : decide ((n : Int) ≤ (q : Int)) = true := decide_eq_true (by omega)
    have hr := nextr_nil (W := W) (raw_out (I := I) (W := W) (p := (q : Int)) (.inr (by rw [HIl.out]; omega))) B0
    clear hsn hsm
    go_wp2
    go_ret
    exact hr
  have dq : decide ((q : Int) ≥ (n : Int)) = false := decide_eq_false (by omega)
  have dq2 : decide ((n : Int) ≤ (q : Int)) = false := decide_eq_false (by omega)
  have ew : IntKind.i64.wrap ((q : Int) + 1) = (q : Int) + 1 := IntWalk.i64_in _ (by omega)
  obtain ⟨gw, ow, y, hAe, hgw, hy, y0, y1, y2, y3, y4, y5, y6, y7, y8, y9, y10⟩ := (h.below B0).instr (k := q) (by omega)
  have HAE := Lib.hid hAe
  have HRAW := Lib.hid (raw_at (W := W) (x := inOf y) (by rw [← HI.out, List.getElem?_map, hy]; rfl : I[q]? = some (inOf y)))
  have hym := List.mem_of_getElem? hy
  have HYL := Lib.hid (HSL.out y hym)
  have HYK := Lib.hid (h.ils y hym)
  clear hy hym
  obtain ⟨op, a, nm, num, pA, pn, pc, ck, cN, cn, co, kA, kn, kc, lA, ln, lc, ks⟩ := y
  simp only at y0 y1 y2 y3 y4 y5 y6 y7 y8 y9 y10
  subst hAe
  have E4 := E0.alloc (.cells #[.int .i64 op, .int .i64 a, .string nm, .int .i64 num, .slice pA pn pc, .int .i64 ck, .int .i64 cN, .string cn, .string co, .slice kA kn kc, .slice lA ln lc] 31)
  have G4 := Blk.new w1 31 #[.int .i64 op, .int .i64 a, .string nm, .int .i64 num, .slice pA pn pc, .int .i64 ck, .int .i64 cN, .string cn, .string co, .slice kA kn kc, .slice lA ln lc]
  have B4 := B0.alloc B0.size (.cells #[.int .i64 op, .int .i64 a, .string nm, .int .i64 num, .slice pA pn pc, .int .i64 ck, .int .i64 cN, .string cn, .string co, .slice kA kn kc, .slice lA ln lc] 31)
  go_upto_region 5 with fail
  obtain ⟨A, hA⟩ : ∃ A, some (⟨gw, ow, none⟩ : Addr) = A := ⟨_, rfl⟩
  rw [hA] at E4 E0 u0 h hw1 ⊢
  obtain ⟨w4, hw4⟩ : ∃ x, w1.alloc (.cells #[.int .i64 op, .int .i64 a, .string nm, .int .i64 num, .slice pA pn pc, .int .i64 ck, .int .i64 cN, .string cn, .string co, .slice kA kn kc, .slice lA ln lc] 31) = x := ⟨_, rfl⟩
  rw [hw4] at E4 B4 G4 ⊢
  rw [HZ.out] at G4 ⊢
  clear hA hw4 hw1 u0 u1 E0 B0 y0 y1 y2 y3 y4 y5 y6 y7 y8 y9 y10 HAE
  have u0 := E4.cell 0
  have u1 := E4.cell 1
  have z0 := G4.cell 0
  have z1 := G4.cell 1
  have z2 := G4.cell 2
  have z3 := G4.cell 3
  have z4 := G4.cell 4
  have z5 := G4.cell 5
  have z6 := G4.cell 6
  have z7 := G4.cell 7
  have z8 := G4.cell 8
  have z9 := G4.cell 9
  have z10 := G4.cell 10
  simp only [List.getElem?_toArray, List.getElem?_cons_zero, List.getElem?_cons_succ] at u0 u1 z0 z1 z2 z3 z4 z5 z6 z7 z8 z9 z10
  have hne : ∀ k : Int, ¬ op = k → (op == k) = false := fun k hk => by simpa using hk
  by_cases h4 : op = 4
  · subst h4
    have HR : Hid (rawN I W (q : Int) = [a]) := Lib.hid (by rw [HRAW.out]; rfl)
    have hr := nextr_one HR.out B4 rfl
    go_wp2_with fail
    go_ret
    exact hr
  have d4 := hne 4 h4
  by_cases h6 : op = 6
  · subst h6
    have HR : Hid (rawN I W (q : Int) = [a]) := Lib.hid (by rw [HRAW.out]; rfl)
    have hr := nextr_one HR.out B4 rfl
    go_wp2_with fail
    go_ret
    exact hr
  have d6 := hne 6 h6
  by_cases h7 : op = 7
  · subst h7
    have HR : Hid (rawN I W (q : Int) = placesF [6, 12] 1 0 I) := Lib.hid (by rw [HRAW.out]; rfl)
    go_upto_region 10 with fail
    go_wp2_with fail
    go_loopw [7, 5] (fun iv ov wr => ∃ i : Nat, iv = .int .i64 i ∧ i ≤ n ∧ Blk wr w.heap.size 33 #[.slice A n c, .slice A' n' c'] ∧ Blk wr (w.heap.size + 1) 31 #[.int .i64 7, .int .i64 a, .string nm, .int .i64 num, .slice pA pn pc, .int .i64 ck, .int .i64 cN, .string cn, .string co, .slice kA kn kc, .slice lA ln lc] ∧ Below w.heap.size w wr ∧ RdL wr ov (putAll [] (placesF [6, 12] 1 0 (I.take i)))) (fun iv _ _ => n - (intOf iv).toNat)
    case atStart => exact ⟨0, rfl, by omega, E4, G4, B4, RdL.nil _⟩
    case round =>
      clear E4 G4 B4 z0 z1 z2 z3 z4 z5 z6 z7 z8 z9 z10 u0 u1
      obtain ⟨i, rfl, hi, E1, G1, B1, R1⟩ := hrel
      obtain ⟨w1, rfl⟩ : ∃ x : World, x = wr := ⟨_, rfl⟩
      obtain ⟨ov, rfl⟩ : ∃ x : Value, x = u5 := ⟨_, rfl⟩
      have hll : (putAll [] (placesF [6, 12] 1 0 (I.take i))).length ≤ 30 := by
        have h1 := putAll_len (placesF [6, 12] 1 0 (I.take i)) []
        have h2 := places_len [6, 12] 1 (I.take i) 0
        rw [List.length_take, HIl.out] at h2
        rw [List.length_nil] at h1; omega
      obtain ⟨L1, hL1⟩ : ∃ L, putAll [] (placesF [6, 12] 1 0 (I.take i)) = L := ⟨_, rfl⟩
      have HL1 := Lib.hid hL1
      rw [hL1] at R1 hll
      clear hL1
      have u0 := E1.cell 0
      have u1 := E1.cell 1
      have z0 := G1.cell 0
      simp only [List.getElem?_toArray, List.getElem?_cons_zero, List.getElem?_cons_succ] at u0 u1 z0
      by_cases hi2 : i < n
      · have di : decide ((i : Int) < (n : Int)) = true := decide_eq_true (by omega)
        have ew1 : IntKind.i64.wrap ((i : Int) + 1) = (i : Int) + 1 := IntWalk.i64_in _ (by omega)
        obtain ⟨gw, ow, y, rfl, hgw, hy, y0, _⟩ := (h.below B1).instr hi2
        have HKI : Hid (putAll [] (placesF [6, 12] 1 0 (I.take (i + 1))) = if y.op ∈ ([6, 12] : List Int) then putS ((i : Int) + 1) L1 else L1) := Lib.hid (by
          rw [take_snoc (x := inOf y) (by rw [← HI.out, List.getElem?_map, hy]; rfl), places_snoc, putAll_app, HL1.out, List.length_take, HIl.out, Nat.min_eq_left (by omega), Nat.zero_add]
          split <;> rfl)
        clear hy
        obtain ⟨yo, hyo⟩ : ∃ x, y.op = x := ⟨_, rfl⟩
        rw [hyo] at y0 HKI
        clear hyo
        by_cases h6 : yo = 6
        · subst h6
          have d : ((6 : Int) == 6) = true := rfl
          have HL3 : Hid (putS ((i : Int) + 1) L1 = putAll [] (placesF [6, 12] 1 0 (I.take (i + 1)))) := Lib.hid (by rw [HKI.out, if_pos (by decide)])
          have cp := put_c ov _ ((i : Int) + 1) w1 R1 (by omega)
          go_wp2_with fail
          (with_reducible refine cp.mono ?_)
          clear cp
          rintro e w5 ⟨v5, rfl, r5, b5⟩
          have B5 := via b5 B1
          have E5 := E1.next b5
          have G5 := G1.next b5
          rw [HL3.out] at r5
          clear E1 G1 B1 R1 u0 u1 z0
          have u0 := E5.cell 0
          have u1 := E5.cell 1
          have z0 := G5.cell 0
          simp only [List.getElem?_toArray, List.getElem?_cons_zero, List.getElem?_cons_succ] at u0 u1 z0
          go_wp2_with fail
          go_roundw
          case rel => exact ⟨i + 1, by go_num, by omega, E5, G5, B5, r5⟩
          case measure => simp [intOf]; omega
        have d6 : (yo == 6) = false := by simpa using h6
        by_cases h12 : yo = 12
        · subst h12
          have d : ((12 : Int) == 12) = true := rfl
          have HL3 : Hid (putS ((i : Int) + 1) L1 = putAll [] (placesF [6, 12] 1 0 (I.take (i + 1)))) := Lib.hid (by rw [HKI.out, if_pos (by decide)])
          have cp := put_c ov _ ((i : Int) + 1) w1 R1 (by omega)
          go_wp2_with fail
          (with_reducible refine cp.mono ?_)
          clear cp
          rintro e w5 ⟨v5, rfl, r5, b5⟩
          have B5 := via b5 B1
          have E5 := E1.next b5
          have G5 := G1.next b5
          rw [HL3.out] at r5
          clear E1 G1 B1 R1 u0 u1 z0
          have u0 := E5.cell 0
          have u1 := E5.cell 1
          have z0 := G5.cell 0
          simp only [List.getElem?_toArray, List.getElem?_cons_zero, List.getElem?_cons_succ] at u0 u1 z0
          go_wp2_with fail
          go_roundw
          case rel => exact ⟨i + 1, by go_num, by omega, E5, G5, B5, r5⟩
          case measure => simp [intOf]; omega
        have d12 : (yo == 12) = false := by simpa using h12
        have HL3 : Hid (L1 = putAll [] (placesF [6, 12] 1 0 (I.take (i + 1)))) := Lib.hid (by rw [HKI.out, if_neg (by simp; omega)])
        rw [HL3.out] at R1
        go_wp2_with fail
        go_roundw
        case rel => exact ⟨i + 1, by go_num, by omega, E1, G1, B1, R1⟩
        case measure => simp [intOf]; omega
      · obtain rfl : i = n := by omega
        have di : decide ((i : Int) < (i : Int)) = false := decide_eq_false (by omega)
        have HF : Hid (nextN I W (q : Int) = L1) := Lib.hid (by
          unfold nextN
          rw [HR.out, ← norm_put, ← HL1.out, ← HIl.out, List.take_length])
        go_wp2_with fail
        go_ret
        exact ⟨_, rfl, by rw [HF.out]; exact R1, B1⟩
  have d7 := hne 7 h7
  by_cases h15 : op = 15
  · subst h15
    have HR : Hid (rawN I W (q : Int) = placesF [12] 0 0 I) := Lib.hid (by rw [HRAW.out]; rfl)
    go_upto_region 10 with fail
    go_wp2_with fail
    go_loopw [7, 5] (fun iv ov wr => ∃ i : Nat, iv = .int .i64 i ∧ i ≤ n ∧ Blk wr w.heap.size 33 #[.slice A n c, .slice A' n' c'] ∧ Blk wr (w.heap.size + 1) 31 #[.int .i64 15, .int .i64 a, .string nm, .int .i64 num, .slice pA pn pc, .int .i64 ck, .int .i64 cN, .string cn, .string co, .slice kA kn kc, .slice lA ln lc] ∧ Below w.heap.size w wr ∧ RdL wr ov (putAll [] (placesF [12] 0 0 (I.take i)))) (fun iv _ _ => n - (intOf iv).toNat)
    case atStart => exact ⟨0, rfl, by omega, E4, G4, B4, RdL.nil _⟩
    case round =>
      clear E4 G4 B4 z0 z1 z2 z3 z4 z5 z6 z7 z8 z9 z10 u0 u1
      obtain ⟨i, rfl, hi, E1, G1, B1, R1⟩ := hrel
      obtain ⟨w1, rfl⟩ : ∃ x : World, x = wr := ⟨_, rfl⟩
      obtain ⟨ov, rfl⟩ : ∃ x : Value, x = u5 := ⟨_, rfl⟩
      have hll : (putAll [] (placesF [12] 0 0 (I.take i))).length ≤ 30 := by
        have h1 := putAll_len (placesF [12] 0 0 (I.take i)) []
        have h2 := places_len [12] 0 (I.take i) 0
        rw [List.length_take, HIl.out] at h2
        rw [List.length_nil] at h1; omega
      obtain ⟨L1, hL1⟩ : ∃ L, putAll [] (placesF [12] 0 0 (I.take i)) = L := ⟨_, rfl⟩
      have HL1 := Lib.hid hL1
      rw [hL1] at R1 hll
      clear hL1
      have u0 := E1.cell 0
      have u1 := E1.cell 1
      have z0 := G1.cell 0
      simp only [List.getElem?_toArray, List.getElem?_cons_zero, List.getElem?_cons_succ] at u0 u1 z0
      by_cases hi2 : i < n
      · have di : decide ((i : Int) < (n : Int)) = true := decide_eq_true (by omega)
        have ew1 : IntKind.i64.wrap ((i : Int) + 1) = (i : Int) + 1 := IntWalk.i64_in _ (by omega)
        obtain ⟨gw, ow, y, rfl, hgw, hy, y0, _⟩ := (h.below B1).instr hi2
        have HKI : Hid (putAll [] (placesF [12] 0 0 (I.take (i + 1))) = if y.op ∈ ([12] : List Int) then putS ((i : Int) + 0) L1 else L1) := Lib.hid (by
          rw [take_snoc (x := inOf y) (by rw [← HI.out, List.getElem?_map, hy]; rfl), places_snoc, putAll_app, HL1.out, List.length_take, HIl.out, Nat.min_eq_left (by omega), Nat.zero_add]
          split <;> rfl)
        clear hy
        obtain ⟨yo, hyo⟩ : ∃ x, y.op = x := ⟨_, rfl⟩
        rw [hyo] at y0 HKI
        clear hyo
        by_cases h12 : yo = 12
        · subst h12
          have d : ((12 : Int) == 12) = true := rfl
          have HL3 : Hid (putS (i : Int) L1 = putAll [] (placesF [12] 0 0 (I.take (i + 1)))) := Lib.hid (by rw [HKI.out, if_pos (by decide)]; simp)
          have cp := put_c ov _ (i : Int) w1 R1 (by omega)
          go_wp2_with fail
          (with_reducible refine cp.mono ?_)
          clear cp
          rintro e w5 ⟨v5, rfl, r5, b5⟩
          have B5 := via b5 B1
          have E5 := E1.next b5
          have G5 := G1.next b5
          rw [HL3.out] at r5
          clear E1 G1 B1 R1 u0 u1 z0
          have u0 := E5.cell 0
          have u1 := E5.cell 1
          have z0 := G5.cell 0
          simp only [List.getElem?_toArray, List.getElem?_cons_zero, List.getElem?_cons_succ] at u0 u1 z0
          go_wp2_with fail
          go_roundw
          case rel => exact ⟨i + 1, by go_num, by omega, E5, G5, B5, r5⟩
          case measure => simp [intOf]; omega
        have d12 : (yo == 12) = false := by simpa using h12
        have HL3 : Hid (L1 = putAll [] (placesF [12] 0 0 (I.take (i + 1)))) := Lib.hid (by rw [HKI.out, if_neg (by simp; omega)])
        rw [HL3.out] at R1
        go_wp2_with fail
        go_roundw
        case rel => exact ⟨i + 1, by go_num, by omega, E1, G1, B1, R1⟩
        case measure => simp [intOf]; omega
      · obtain rfl : i = n := by omega
        have di : decide ((i : Int) < (i : Int)) = false := decide_eq_false (by omega)
        have HF : Hid (nextN I W (q : Int) = L1) := Lib.hid (by
          unfold nextN
          rw [HR.out, ← norm_put, ← HL1.out, ← HIl.out, List.take_length])
        go_wp2_with fail
        go_ret
        exact ⟨_, rfl, by rw [HF.out]; exact R1, B1⟩
  have d15 := hne 15 h15
  have E6 := E4.alloc (.cells #[.int .i64 ((q : Int) + 1)] 3)
  have G6 := G4.alloc (.cells #[.int .i64 ((q : Int) + 1)] 3)
  have B6 := B4.alloc B4.size (.cells #[.int .i64 ((q : Int) + 1)] 3)
  have R6 : RdL (w4.alloc (.cells #[.int .i64 ((q : Int) + 1)] 3)) (.slice (some ⟨w4.heap.size, 0, none⟩) 1 1) [(q : Int) + 1] := RdL.of (B := w4.heap.size) (World.ownsRow_lit w4 _ 1 (Nat.le_refl _) (by unfold maxLen; omega) rfl)
  have v0 := E6.cell 0
  have v1 := E6.cell 1
  have x0 := G6.cell 0
  have x1 := G6.cell 1
  have x10 := G6.cell 10
  simp only [List.getElem?_toArray, List.getElem?_cons_zero, List.getElem?_cons_succ] at v0 v1 x0 x1 x10
  by_cases h5 : op = 5
  · subst h5
    have HR : Hid (rawN I W (q : Int) = [(q : Int) + 1, a]) := Lib.hid (by rw [HRAW.out]; rfl)
    have cp := put_c _ _ a _ R6 (by simp)
    have HF : Hid (nextN I W (q : Int) = putS a [(q : Int) + 1]) := Lib.hid (by unfold nextN; rw [HR.out, ← norm_put]; rfl)
    go_wp2_with fail
    (with_reducible refine cp.mono ?_)
    clear cp
    rintro e w7 ⟨v7, rfl, r7, b7⟩
    have B7 := via b7 B6
    have G7 := G6.next b7
    have y0 := G7.cell 0
    simp only [List.getElem?_toArray, List.getElem?_cons_zero, List.getElem?_cons_succ] at y0
    go_wp2_with fail
    go_ret
    exact ⟨_, rfl, by rw [HF.out]; exact r7, B7⟩
  have d5 := hne 5 h5
  by_cases h12 : op = 12
  · subst h12
    have HR : Hid (rawN I W (q : Int) = ((q : Int) + 1) :: (listT W ks ++ openT W)) := Lib.hid (by rw [HRAW.out]; rfl)
    have hwt : ∀ k : Nat, k ≤ ks.length → (putAll [(q : Int) + 1] (listT W (ks.take k))).length ≤ 13 + 1 := by
      intro k hk
      have h1 := putAll_len (listT W (ks.take k)) [(q : Int) + 1]
      have h2 : (listT W (ks.take k)).length ≤ (ks.take k).length := filterMap_len _ _
      have h3 := ils_len HYK.out
      have h4 := HYL.out
      rw [List.length_take] at h2
      simp only [List.length_cons, List.length_nil] at h1
      simp only at h3 h4
      omega
    have HWT := Lib.hid hwt
    clear hwt
    have hlk := ils_len HYK.out
    simp only at hlk
    have HLK := Lib.hid hlk
    clear hlk
    have HYL2 : Hid (ln ≤ 12) := HYL
    have hln : ln ≤ 12 := HYL2.out
    go_upto_region 22 with fail
    go_wp2_with fail
    go_loopw [8, 5] (fun iv ov wr => ∃ i : Nat, iv = .int .i64 i ∧ i ≤ ln ∧ Blk wr w.heap.size 33 #[.slice A n c, .slice A' n' c'] ∧ Blk wr (w.heap.size + 1) 31 #[.int .i64 12, .int .i64 a, .string nm, .int .i64 num, .slice pA pn pc, .int .i64 ck, .int .i64 cN, .string cn, .string co, .slice kA kn kc, .slice lA ln lc] ∧ Below w.heap.size w wr ∧ RdL wr ov (putAll [(q : Int) + 1] (listT W (ks.take i)))) (fun iv _ _ => ln - (intOf iv).toNat)
    case atStart => exact ⟨0, rfl, by omega, E6, G6, B6, R6⟩
    case round =>
      clear E6 G6 B6 R6 E4 G4 B4 z0 z1 z2 z3 z4 z5 z6 z7 z8 z9 z10 u0 u1 v0 v1 x0 x1 x10
      obtain ⟨i, rfl, hi, E1, G1, B1, R1⟩ := hrel
      obtain ⟨w1, rfl⟩ : ∃ x : World, x = wr := ⟨_, rfl⟩
      obtain ⟨ov, rfl⟩ : ∃ x : Value, x = u5 := ⟨_, rfl⟩
      have hll := HWT.out i (by rw [HLK.out]; exact hi)
      obtain ⟨L1, hL1⟩ : ∃ L, putAll [(q : Int) + 1] (listT W (ks.take i)) = L := ⟨_, rfl⟩
      have HL1 := Lib.hid hL1
      rw [hL1] at R1 hll
      clear hL1
      have u0 := E1.cell 0
      have u1 := E1.cell 1
      have z0 := G1.cell 0
      have z10 := G1.cell 10
      simp only [List.getElem?_toArray, List.getElem?_cons_zero, List.getElem?_cons_succ] at u0 u1 z0 z10
      by_cases hi2 : i < ln
      · have di : decide ((i : Int) < (ln : Int)) = true := decide_eq_true (by omega)
        obtain ⟨g, o, k, rfl, hg, hki, hck⟩ := ils_get (HYK.out.below B1) hi2
        have HKI := Lib.hid (take_snoc hki)
        clear hki
        by_cases hin : 0 ≤ k ∧ k < (n' : Int)
        · obtain ⟨hk0, hk1⟩ := hin
          obtain ⟨m, rfl⟩ : ∃ m : Nat, k = m := ⟨k.toNat, by omega⟩
          have dk : decide ((m : Int) ≥ 0) = true := decide_eq_true (by omega)
          have dk2 : decide ((0 : Int) ≤ (m : Int)) = true := decide_eq_true (by omega)
          have dm : decide ((m : Int) < (n' : Int)) = true := decide_eq_true (by omega)
          obtain ⟨gw, ow, y, rfl, hgw, hy, _, _, _, _, y4, _, _⟩ := (h.below B1).watch (k := m) (by omega)
          have HR2 : Hid (putS y.to L1 = putAll [(q : Int) + 1] (listT W (ks.take (i + 1)))) := Lib.hid (by
            rw [HKI.out, listT_snoc, putAll_app, HL1.out, if_pos ⟨by omega, by rw [HWl.out]; omega⟩, ← HW.out, List.getElem?_map, Int.toNat_natCast, hy]; rfl)
          clear hy
          go_upto_region 25 with fail
          go_cut [135] (fun bv wx => bv = .bool true ∧ ∃ nq, wx = w1.drewN nq)
          case first =>
            go_quiet (fail)
            go_wp2_with fail
            go_meet
            case rel => exact ⟨rfl, _, rfl⟩
          case rest =>
            obtain ⟨rfl, nq, rfl⟩ := hcut
            have E2 := E1.drewN nq
            have G2 := G1.drewN nq
            have B2 := below_dn B1 nq
            have R2 : RdL (w1.drewN nq) ov L1 := R1
            have y42 : (w1.drewN nq).cell? ⟨gw, ow + m * 7 + 4, none⟩ = some (.int .i64 y.to) := y4
            have hck2 : (w1.drewN nq).cell? ⟨g, o + i, none⟩ = some (.int .i64 (m : Int)) := hck
            obtain ⟨w2, hw2⟩ : ∃ x, w1.drewN nq = x := ⟨_, rfl⟩
            rw [hw2] at E2 G2 B2 R2 y42 hck2 ⊢
            clear hw2 E1 G1 B1 R1 u0 u1 z0 z10 y4 hck
            have u0 := E2.cell 0
            have u1 := E2.cell 1
            have z10 := G2.cell 10
            simp only [List.getElem?_toArray, List.getElem?_cons_zero, List.getElem?_cons_succ] at u0 u1 z10
            go_upto_region 26 with fail
            go_still_tail 11, (by kernel_rfl)
            change wpList _ _ _ _ _ w2.drew
            have E3 : Blk w2.drew w.heap.size 33 _ := E2
            have G3 : Blk w2.drew (w.heap.size + 1) 31 _ := G2
            have B3 : Below w.heap.size w w2.drew := below_dn B2 1
            have R3 : RdL w2.drew ov L1 := R2
            obtain ⟨w3, hw3⟩ : ∃ x, w2.drew = x := ⟨_, rfl⟩
            rw [hw3] at E3 G3 B3 R3 ⊢
            clear hw3
            have cp := put_c ov _ y.to w3 R3 (by omega)
            go_wp2_with fail
            (with_reducible refine cp.mono ?_)
            clear cp
            rintro e w5 ⟨v5, rfl, r5, b5⟩
            have B5 := via b5 B3
            have E5 := E3.next b5
            have G5 := G3.next b5
            rw [HR2.out] at r5
            go_wp2_with fail
            go_roundw
            case rel => exact ⟨i + 1, by go_num, by omega, E5, G5, B5, r5⟩
            case measure => simp [intOf]; omega
        · have HR2 : Hid (L1 = putAll [(q : Int) + 1] (listT W (ks.take (i + 1)))) := Lib.hid (by
            rw [HKI.out, listT_snoc, putAll_app, HL1.out, if_neg (by rw [HWl.out]; exact hin)]; rfl)
          have dd : (decide (k ≥ 0) = false ∧ decide (0 ≤ k) = false) ∨ (decide (k ≥ 0) = true ∧ decide (0 ≤ k) = true ∧ decide (k < (n' : Int)) = false) := by
            by_cases hk0 : 0 ≤ k
            · exact .inr ⟨decide_eq_true hk0, decide_eq_true hk0, decide_eq_false (by omega)⟩
            · exact .inl ⟨decide_eq_false (by omega), decide_eq_false hk0⟩
          clear hin
          go_upto_region 25 with fail
          go_cut [135] (fun bv wx => bv = .bool false ∧ ∃ nq, wx = w1.drewN nq)
          case first =>
            rcases dd with ⟨e1, e2⟩ | ⟨e1, e2, e3⟩
            · go_quiet (fail)
              go_wp2_with fail
              go_meet
              case rel => exact ⟨rfl, _, rfl⟩
            · go_quiet (fail)
              go_wp2_with fail
              go_meet
              case rel => exact ⟨rfl, _, rfl⟩
          case rest =>
            obtain ⟨rfl, nq, rfl⟩ := hcut
            have E2 := E1.drewN nq
            have G2 := G1.drewN nq
            have B2 := below_dn B1 nq
            have R2 : RdL (w1.drewN nq) ov L1 := R1
            rw [HR2.out] at R2
            go_wp2_with fail
            go_roundw
            case rel => exact ⟨i + 1, by go_num, by omega, E2, G2, B2, R2⟩
            case measure => simp [intOf]; omega
      · obtain rfl : i = ln := by omega
        have di : decide ((i : Int) < (i : Int)) = false := decide_eq_false (by omega)
        have HL2 : Hid (putAll [(q : Int) + 1] (listT W ks) = L1) := Lib.hid (by rw [← HL1.out, ← HLK.out, List.take_length])
        go_wp2_with fail
        clear di u0 u1 z0 z10
        go_loopw [9, 5] (fun iv ov wr => ∃ j : Nat, iv = .int .i64 j ∧ j ≤ n' ∧ Blk wr w.heap.size 33 #[.slice A n c, .slice A' n' c'] ∧ Below w.heap.size w wr ∧ RdL wr ov (putAll L1 (openT (W.take j)))) (fun iv _ _ => n' - (intOf iv).toNat)
        case atStart => exact ⟨0, rfl, by omega, E1, B1, R1⟩
        case round =>
          clear E1 G1 B1 R1
          obtain ⟨j, rfl, hj, E1, B1, R1⟩ := hrel
          obtain ⟨w1, rfl⟩ : ∃ x : World, x = wr := ⟨_, rfl⟩
          obtain ⟨ov, rfl⟩ : ∃ x : Value, x = u5 := ⟨_, rfl⟩
          have hl3 : (putAll L1 (openT (W.take j))).length ≤ 40 := by
            have h1 := putAll_len (openT (W.take j)) L1
            have h2 : (openT (W.take j)).length ≤ (W.take j).length := filterMap_len _ _
            rw [List.length_take, HWl.out] at h2
            omega
          obtain ⟨L3, hL3⟩ : ∃ L, putAll L1 (openT (W.take j)) = L := ⟨_, rfl⟩
          have HL3 := Lib.hid hL3
          rw [hL3] at R1 hl3
          clear hL3
          have u0 := E1.cell 0
          have u1 := E1.cell 1
          simp only [List.getElem?_toArray, List.getElem?_cons_zero, List.getElem?_cons_succ] at u0 u1
          by_cases hj2 : j < n'
          · have dj : decide ((j : Int) < (n' : Int)) = true := decide_eq_true (by omega)
            obtain ⟨gw, ow, y, rfl, hgw, hy, _, _, _, _, y4, y5, _⟩ := (h.below B1).watch hj2
            have HKJ : Hid (W.take (j + 1) = W.take j ++ [wtOf y]) := Lib.hid (take_snoc (by rw [← HW.out, List.getElem?_map, hy]; rfl))
            clear hy
            obtain ⟨yo, hyo⟩ : ∃ x, y.own = x := ⟨_, rfl⟩
            obtain ⟨yt, hyt⟩ : ∃ x, y.to = x := ⟨_, rfl⟩
            have HKJ2 : Hid (putAll L1 (openT (W.take (j + 1))) = putAll L3 (if yo = true then [] else [yt])) := Lib.hid (by
              rw [HKJ.out, openT_snoc, putAll_app, HL3.out, ← hyo, ← hyt])
            rw [hyo] at y5
            rw [hyt] at y4
            clear hyo hyt
            cases yo with
            | true =>
              have R2 := R1
              rw [show L3 = putAll L1 (openT (W.take (j + 1))) by rw [HKJ2.out]; rfl] at R2
              go_wp2_with fail
              go_roundw
              case rel => exact ⟨j + 1, by go_num, by omega, E1, B1, R2⟩
              case measure => simp [intOf]; omega
            | false =>
              have cp := put_c ov _ yt w1 R1 (by omega)
              go_wp2_with fail
              (with_reducible refine cp.mono ?_)
              clear cp
              rintro e w5 ⟨v5, rfl, r5, b5⟩
              have B5 := via b5 B1
              have E5 := E1.next b5
              rw [show putS yt L3 = putAll L1 (openT (W.take (j + 1))) by rw [HKJ2.out]; rfl] at r5
              go_wp2_with fail
              go_roundw
              case rel => exact ⟨j + 1, by go_num, by omega, E5, B5, r5⟩
              case measure => simp [intOf]; omega
          · obtain rfl : j = n' := by omega
            have dj : decide ((j : Int) < (j : Int)) = false := decide_eq_false (by omega)
            have HF : Hid (nextN I W (q : Int) = L3) := Lib.hid (by
              unfold nextN
              rw [HR.out, ← norm_put, ← HL3.out, ← HL2.out, ← HWl.out, List.take_length, ← putAll_app]
              rfl)
            go_wp2_with fail
            go_ret
            exact ⟨_, rfl, by rw [HF.out]; exact R1, B1⟩
  have d12 := hne 12 h12
  by_cases hlo : op < 1
  · have dl : decide (op < 1) = true := decide_eq_true hlo
    have HR : Hid (rawN I W (q : Int) = []) := Lib.hid (by rw [HRAW.out]; simp only; rw [if_neg (by omega), if_neg h5, if_neg h7, if_neg h15, if_neg h12, if_pos (.inl hlo)])
    have hr := nextr_nil HR.out B4
    go_wp2
    go_ret
    exact hr
  have dl : decide (op < 1) = false := decide_eq_false hlo
  by_cases hhi : 15 < op
  · have dh : decide (op > 15) = true := decide_eq_true hhi
    have dh2 : decide (15 < op) = true := decide_eq_true hhi
    have HR : Hid (rawN I W (q : Int) = []) := Lib.hid (by rw [HRAW.out]; simp only; rw [if_neg (by omega), if_neg h5, if_neg h7, if_neg h15, if_neg h12, if_pos (.inr (by omega))])
    have hr := nextr_nil HR.out B4
    go_wp2
    go_ret
    exact hr
  have dh : decide (op > 15) = false := decide_eq_false hhi
  have dh2 : decide (15 < op) = false := decide_eq_false hhi
  have HR : Hid (rawN I W (q : Int) = [(q : Int) + 1]) := Lib.hid (by rw [HRAW.out]; simp only; rw [if_neg (by omega), if_neg h5, if_neg h7, if_neg h15, if_neg h12, if_neg (by omega)])
  have hr := nextr_one HR.out B4 rfl
  go_wp2_with fail
  go_ret
  exact hr
end FloW
end Go.Proofs.Ytdgonjncoggfeaa
