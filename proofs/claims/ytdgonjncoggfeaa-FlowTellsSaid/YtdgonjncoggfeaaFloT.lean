/- The law: the walk (its last region is left). Condition: a code that is read. -/
import Derived.Test.YtdgonjncoggfeaaFloN
import Derived.Deep.RegionHeld3
namespace Go.Proofs.Ytdgonjncoggfeaa
set_option linter.unusedVariables false
set_option linter.unusedSimpArgs false
open Go.RowKit
namespace FloW
open FloP
theorem cell_bel {W w' : World} {b o : Nat} {u : Value} (h : W.cell? ⟨b, o, none⟩ = some u) (hb : Below W.heap.size W w') : w'.cell? ⟨b, o, none⟩ = some u := by
  have hlt : b < W.heap.size := by
    unfold World.cell? at h
    simp only at h
    rcases Nat.lt_or_ge b W.heap.size with h' | h'
    · exact h'
    · rw [Array.getElem?_eq_none h'] at h; simp at h
  exact (hb.cell (p := ⟨b, o, none⟩) hlt).trans h
section
variable {A A' : Option Addr} {n c n' c' : Nat} {xs : List Ix} {ws : List Wx} {w0 W : World}
def PostP (w0 W : World) (L : List Int) (e : Ending) (w' : World) : Prop := ∃ v, e = .returned v ∧ RdL w' v L ∧ Below w0.heap.size w0 w' ∧ Below W.heap.size W w'
theorem next_p (p : Int) (h : Cd w0 w0.heap.size A n A' n' xs ws) (hs : Sm n n' xs) (b : Below w0.heap.size w0 W) : Calls Try.prog 6 #[cdv A n c A' n' c', .int .i64 p] W (PostP w0 W (nextN (xs.map inOf) (ws.map wtOf) p)) :=
  (next_c A A' n c n' c' xs ws p W (h.next b b.size) hs).mono (by
    rintro e w' ⟨v, rfl, o, b2⟩
    exact ⟨v, rfl, RdL.of o, via b2 b, b2⟩)
theorem rnext_p (p : Int) (h : Cd w0 w0.heap.size A n A' n' xs ws) (hs : Sm n n' xs) (b : Below w0.heap.size w0 W) : Calls Try.prog 7 #[cdv A n c A' n' c', .int .i64 p] W (PostP w0 W (nextN (xs.map inOf) (ws.map wtOf) p)) :=
  (rnext_c A A' n c n' c' xs ws p W (h.next b b.size) hs).mono (by
    rintro e w' ⟨v, rfl, o, b2⟩
    exact ⟨v, rfl, o, via b2 b, b2⟩)
theorem reach_ex (h : Cd w0 w0.heap.size A n A' n' xs ws) (hs : Sm n n' xs) : True := trivial
theorem reach_p {R : List Int} (hR : Inc R) (hR2 : ∀ i, i ∈ R ↔ Rch (xs.map inOf) (ws.map wtOf) i) (h : Cd w0 w0.heap.size A n A' n' xs ws) (hs : Sm n n' xs) (b : Below w0.heap.size w0 W) : Calls Try.prog 8 #[cdv A n c A' n' c'] W (PostP w0 W R) :=
  (reach_c A A' n c n' c' xs ws W (h.next b b.size) hs).mono (by
    rintro e w' ⟨v, L, rfl, o, h1, h2, b2⟩
    obtain rfl := reach_same h1 h2 hR hR2
    exact ⟨v, rfl, RdL.of o, via b2 b, b2⟩)
theorem rreach_p {R : List Int} (hR : Inc R) (hR2 : ∀ i, i ∈ R ↔ Rch (xs.map inOf) (ws.map wtOf) i) (h : Cd w0 w0.heap.size A n A' n' xs ws) (hs : Sm n n' xs) (b : Below w0.heap.size w0 W) : Calls Try.prog 9 #[cdv A n c A' n' c'] W (PostP w0 W R) :=
  (rreach_c A A' n c n' c' xs ws W (h.next b b.size) hs).mono (by
    rintro e w' ⟨v, L, rfl, o, h1, h2, b2⟩
    obtain rfl := reach_same h1 h2 hR hR2
    exact ⟨v, rfl, o, via b2 b, b2⟩)
theorem idle_p {R : List Int} (hR : IdleIs (xs.map inOf) (ws.map wtOf) (ws.map wtOf).length R) (h : Cd w0 w0.heap.size A n A' n' xs ws) (hs : Sm n n' xs) (b : Below w0.heap.size w0 W) : Calls Try.prog 10 #[cdv A n c A' n' c'] W (PostP w0 W R) :=
  (idle_c A A' n c n' c' xs ws W (h.next b b.size) hs).mono (by
    rintro e w' ⟨v, L, rfl, o, h1, b2⟩
    obtain rfl := idle_same h1 hR
    exact ⟨v, rfl, RdL.of o, via b2 b, b2⟩)
theorem ridle_p {R : List Int} (hR : IdleIs (xs.map inOf) (ws.map wtOf) (ws.map wtOf).length R) (h : Cd w0 w0.heap.size A n A' n' xs ws) (hs : Sm n n' xs) (b : Below w0.heap.size w0 W) : Calls Try.prog 11 #[cdv A n c A' n' c'] W (PostP w0 W R) :=
  (ridle_c A A' n c n' c' xs ws W (h.next b b.size) hs).mono (by
    rintro e w' ⟨v, L, rfl, o, h1, b2⟩
    obtain rfl := idle_same h1 hR
    exact ⟨v, rfl, RdL.of o, via b2 b, b2⟩)
theorem same_p {v v' : Value} {L : List Int} (h : RdL W v L) (h' : RdL W v' L) (hl : L.length ≤ 1000000) (b : Below w0.heap.size w0 W) : Calls Try.prog 5 #[v, v'] W fun e w' => e = .returned (.bool true) ∧ Below w0.heap.size w0 w' ∧ Below W.heap.size W w' :=
  (sameints_c v v' L L W h h' hl hl).mono (by
    rintro e w' ⟨rfl, b2⟩
    exact ⟨by simp, via b2 b, b2⟩)
end
theorem reach_list (I : List In) (W : List Wt) : ∃ R : List Int, Inc R ∧ ∀ i, i ∈ R ↔ Rch I W i := by
  classical
  refine ⟨((List.range I.length).filter (fun k : Nat => decide (Rch I W (k : Int)))).map (fun k : Nat => (k : Int)), ?_, fun i => ?_⟩
  · unfold Inc
    rw [List.pairwise_map]
    exact (List.Pairwise.filter _ List.pairwise_lt_range).imp (fun h => by omega)
  · rw [List.mem_map]
    constructor
    · rintro ⟨k, hk, rfl⟩
      exact of_decide_eq_true (List.mem_filter.1 hk).2
    · intro h
      have := rch_in h
      exact ⟨i.toNat, List.mem_filter.2 ⟨List.mem_range.2 (by omega), decide_eq_true (by rw [show ((i.toNat : Nat) : Int) = i by omega]; exact h)⟩, by omega⟩
theorem idle_list (I : List In) (W : List Wt) (m : Nat) : ∃ R : List Int, IdleIs I W m R := by
  classical
  refine ⟨((List.range m).filter (fun k : Nat => decide (∃ x, W[k]? = some x ∧ ¬ Rch I W x.1))).map (fun k : Nat => (k : Int)), ?_, fun i => ?_⟩
  · unfold Inc
    rw [List.pairwise_map]
    exact (List.Pairwise.filter _ List.pairwise_lt_range).imp (fun h => by omega)
  · rw [List.mem_map]
    constructor
    · rintro ⟨k, hk, rfl⟩
      obtain ⟨x, h1, h2⟩ := of_decide_eq_true (List.mem_filter.1 hk).2
      exact ⟨k, x, rfl, List.mem_range.1 (List.mem_filter.1 hk).1, h1, h2⟩
    · rintro ⟨k, x, rfl, hk, h1, h2⟩
      exact ⟨k, List.mem_filter.2 ⟨List.mem_range.2 hk, decide_eq_true ⟨x, h1, h2⟩⟩, rfl⟩
set_option maxHeartbeats 6400000 in
set_option maxRecDepth 100000 in
theorem tells_c (A A' : Option Addr) (n c n' c' : Nat) (xs : List Ix) (ws : List Wx) (p : Int) (w : World) (h : Cd w w.heap.size A n A' n' xs ws) :
    Calls Try.prog 3 #[.slice A n c, .slice A' n' c', .int .i64 p] w fun e w' => e = .returned (.bool true) ∧ Below w.heap.size w w' := by
  have ca := awake_c w
  have hlw := h.len
  have HLW := Lib.hid hlw
  clear hlw
  have hfit := h.fit
  go_enter Try.func3, Try.ntmps3
  go_wp2_with fail
  (with_reducible refine ca.mono ?_)
  clear ca
  rintro e w1 ⟨rfl, B1⟩
  by_cases hn : 30 < n
  · have d : decide ((n : Int) > 30) = true := decide_eq_true (by omega)
    have d2 : decide ((30 : Int) < (n : Int)) = true := decide_eq_true (by omega)
    go_wp2
    go_ret
    exact ⟨rfl, B1⟩
  have d : decide ((n : Int) > 30) = false := decide_eq_false (by omega)
  have d2 : decide ((30 : Int) < (n : Int)) = false := decide_eq_false (by omega)
  by_cases hn' : 12 < n'
  · have d : decide ((n' : Int) > 12) = true := decide_eq_true (by omega)
    have d2 : decide ((12 : Int) < (n' : Int)) = true := decide_eq_true (by omega)
    go_wp2
    go_ret
    exact ⟨rfl, B1⟩
  have d3 : decide ((n' : Int) > 12) = false := decide_eq_false (by omega)
  have d4 : decide ((12 : Int) < (n' : Int)) = false := decide_eq_false (by omega)
  go_wp2_with fail
  clear d d2 d3 d4
  go_loopw [22] (fun iv wr => ∃ i : Nat, iv = .int .i64 i ∧ i ≤ n ∧ Below w.heap.size w wr ∧ Hid (∀ x ∈ xs.take i, x.ln ≤ 12)) (fun iv _ => n - (intOf iv).toNat)
  case atStart => exact ⟨0, rfl, by omega, B1, Lib.hid (by simp)⟩
  case round =>
    clear B1
    obtain ⟨i, rfl, hi, B1, HX⟩ := hrel
    obtain ⟨w3, rfl⟩ : ∃ x : World, x = wr := ⟨_, rfl⟩
    by_cases hi2 : i < n
    · have di : decide ((i : Int) < (n : Int)) = true := decide_eq_true (by omega)
      obtain ⟨gw, ow, y, rfl, hgw, hy, y0, y1, y2, y3, y4, y5, y6, y7, y8, y9, y10⟩ := (h.below B1).instr hi2
      have HXN : y.ln ≤ 12 → Hid (∀ x ∈ xs.take (i + 1), x.ln ≤ 12) := fun hle => Lib.hid (fun x hx => by
        rw [take_snoc hy, List.mem_append, List.mem_singleton] at hx
        rcases hx with hx | rfl
        · exact HX.out x hx
        · exact hle)
      have HXM := Lib.hid HXN
      clear hy HXN
      obtain ⟨op, a, nm, num, pA, pn, pc, ck, cN, cn, co, kA, kn, kc, lA, ln, lc, ks⟩ := y
      simp only at y0 y1 y2 y3 y4 y5 y6 y7 y8 y9 y10
      have G4 := Blk.new w3 31 #[.int .i64 op, .int .i64 a, .string nm, .int .i64 num, .slice pA pn pc, .int .i64 ck, .int .i64 cN, .string cn, .string co, .slice kA kn kc, .slice lA ln lc]
      have B4 := B1.alloc B1.size (.cells #[.int .i64 op, .int .i64 a, .string nm, .int .i64 num, .slice pA pn pc, .int .i64 ck, .int .i64 cN, .string cn, .string co, .slice kA kn kc, .slice lA ln lc] 31)
      obtain ⟨w4, hw4⟩ : ∃ q, w3.alloc (.cells #[.int .i64 op, .int .i64 a, .string nm, .int .i64 num, .slice pA pn pc, .int .i64 ck, .int .i64 cN, .string cn, .string co, .slice kA kn kc, .slice lA ln lc] 31) = q := ⟨_, rfl⟩
      rw [hw4] at G4 B4
      have z10 := G4.cell 10
      simp only [List.getElem?_toArray, List.getElem?_cons_zero, List.getElem?_cons_succ] at z10
      by_cases hl : 12 < ln
      · have dl : decide ((ln : Int) > 12) = true := decide_eq_true (by omega)
        have dl2 : decide ((12 : Int) < (ln : Int)) = true := decide_eq_true (by omega)
        go_wp2
        go_ret
        exact ⟨rfl, B4⟩
      · have dl : decide ((ln : Int) > 12) = false := decide_eq_false (by omega)
        have dl2 : decide ((12 : Int) < (ln : Int)) = false := decide_eq_false (by omega)
        have hx := HXM.out (by show ln ≤ 12; omega)
        go_wp2_with fail
        go_roundw
        case rel => exact ⟨i + 1, by go_num, by omega, B4, hx⟩
        case measure => simp [intOf]; omega
    · obtain rfl : i = n := by omega
      have di : decide ((i : Int) < (i : Int)) = false := decide_eq_false (by omega)
      have HSM : Hid (Sm i n' xs) := Lib.hid ⟨by omega, by omega, fun x hx => HX.out x (by rw [← HLW.out.1, List.take_length]; exact hx)⟩
      have E5 := Blk.new w3 33 #[.slice A i c, .slice A' n' c']
      have B5 := B1.alloc B1.size (.cells #[.slice A i c, .slice A' n' c'] 33)
      go_upto_region 12 with fail
      obtain ⟨w5, hw5⟩ : ∃ q, w3.alloc (.cells #[.slice A i c, .slice A' n' c'] 33) = q := ⟨_, rfl⟩
      rw [hw5] at E5 B5 ⊢
      have hg5 := E5.lt
      clear hw5 di B1
      have cd5 := h.next B5 B5.size
      have u0 := E5.cell 0
      have u1 := E5.cell 1
      simp only [List.getElem?_toArray, List.getElem?_cons_zero, List.getElem?_cons_succ] at u0 u1
      obtain ⟨R, hR1, hR2⟩ := reach_list (xs.map inOf) (ws.map wtOf)
      obtain ⟨D, hD⟩ := idle_list (xs.map inOf) (ws.map wtOf) (ws.map wtOf).length
      have hRl : R.length ≤ 1000000 := by
        have := inc_len hR1 (n := (xs.map inOf).length) (fun x hx => by have := rch_in ((hR2 x).1 hx); exact this)
        rw [List.length_map, HLW.out.1] at this; omega
      have hDl : D.length ≤ 1000000 := by
        have := inc_len hD.1 (n := (ws.map wtOf).length) (fun x hx => by obtain ⟨k, _, rfl, hk, _⟩ := (hD.2 x).1 hx; omega)
        rw [List.length_map, HLW.out.2] at this; omega
      have hNl : (nextN (xs.map inOf) (ws.map wtOf) p).length ≤ 1000000 := by
        have h1 := norm_len (rawN (xs.map inOf) (ws.map wtOf) p)
        have h2 := raw_len (xs.map inOf) (ws.map wtOf) p (fun x hx => by
          obtain ⟨y, hy, rfl⟩ := List.mem_map.1 hx
          have h1 := HSM.out.2.2 y hy
          have h2 := ils_len (h.ils y hy)
          simp only; omega)
        rw [List.length_map, List.length_map, HLW.out.1, HLW.out.2] at h2
        have h3 : (nextN (xs.map inOf) (ws.map wtOf) p).length = (normL (rawN (xs.map inOf) (ws.map wtOf) p)).length := rfl
        omega
      obtain ⟨L, hL⟩ : ∃ L, nextN (xs.map inOf) (ws.map wtOf) p = L := ⟨_, rfl⟩
      rw [hL] at hNl
      have c1 := fun W b => next_p (W := W) (c := c) (c' := c') p cd5 HSM.out b
      have c2 := fun W b => rnext_p (W := W) (c := c) (c' := c') p cd5 HSM.out b
      rw [hL] at c1 c2
      have c3 := fun W b => reach_p (W := W) (c := c) (c' := c') hR1 hR2 cd5 HSM.out b
      have c4 := fun W b => rreach_p (W := W) (c := c) (c' := c') hR1 hR2 cd5 HSM.out b
      have c5 := fun W b => idle_p (W := W) (c := c) (c' := c') hD cd5 HSM.out b
      have c6 := fun W b => ridle_p (W := W) (c := c) (c' := c') hD cd5 HSM.out b
      simp only [cdv] at c1 c2 c3 c4 c5 c6
      have bb := Below.refl w5.heap.size w5
      clear hL hR1 hR2 hD cd5 E5
      go_region_held3 (fun w' => w'.cell? ⟨w3.heap.size, 0, none⟩ = some (.slice A i c) ∧ w'.cell? ⟨w3.heap.size, 1, none⟩ = some (.slice A' n' c') ∧ Below w5.heap.size w5 w')
        (first | (go_split_ands; refine ⟨?_, ?_, ?_⟩ <;> first | assumption | exact bb.drew | exact Below.drew bb | exact cell_bel (by assumption) (by assumption) | exact cell_bel u0 (by assumption) | exact cell_bel u1 (by assumption)) | go_keep)
        (first
          | (go_simp; go_at_call 6; (with_reducible refine (c1 _ (by first | assumption | go_grown)).mono ?_); rintro _ _ ⟨v1, rfl, r1, B1', b1'⟩)
          | (go_simp; go_at_call 7; (with_reducible refine (c2 _ (by first | assumption | go_grown)).mono ?_); rintro _ _ ⟨v2, rfl, r2, B2', b2'⟩)
          | (go_simp; go_at_call 8; (with_reducible refine (c3 _ (by first | assumption | go_grown)).mono ?_); rintro _ _ ⟨v3, rfl, r3, B3', b3'⟩)
          | (go_simp; go_at_call 9; (with_reducible refine (c4 _ (by first | assumption | go_grown)).mono ?_); rintro _ _ ⟨v4, rfl, r4, B4', b4'⟩)
          | (go_simp; go_at_call 10; (with_reducible refine (c5 _ (by first | assumption | go_grown)).mono ?_); rintro _ _ ⟨v5, rfl, r5, B5', b5'⟩)
          | (go_simp; go_at_call 11; (with_reducible refine (c6 _ (by first | assumption | go_grown)).mono ?_); rintro _ _ ⟨v6, rfl, r6, B6', b6'⟩)
          | (go_simp; go_at_call 5; first | ((with_reducible refine (same_p (w0 := w5) (r5.next b6') r6 hDl (by first | assumption | go_grown)).mono ?_); rintro _ _ ⟨rfl, B9', b9'⟩) | ((with_reducible refine (same_p (w0 := w5) (r3.next b4') r4 hRl (by first | assumption | go_grown)).mono ?_); rintro _ _ ⟨rfl, B8', b8'⟩) | ((with_reducible refine (same_p (w0 := w5) (r1.next b2') r2 hNl (by first | assumption | go_grown)).mono ?_); rintro _ _ ⟨rfl, B7', b7'⟩)))
      all_goals (
        go_wp2_with fail
        go_ret
        exact ⟨rfl, via B9' B5⟩)
end FloW
end Go.Proofs.Ytdgonjncoggfeaa
