/- The kids of the groups, laid by their numbers: the walks of gather and kids. Condition: trees that may be walked. -/
import Derived.Test.YtpdmjegbjcefjaaDoorGrpX
import Derived.Test.YtpdmjegbjcefjaaDoorEreF
import Derived.Deep.DeepCutAuto
import Derived.Deep.CutBlock
namespace Go.Proofs.YtpdmjegbjcefjaaDoor
set_option linter.unusedVariables false
set_option linter.unusedSimpArgs false
open Go.RowKit
namespace GrpW
open EreP EreW EreX GrpP GrpS
theorem flat_set : ∀ (css : List (List Value)), (∀ c ∈ css, c.length = 9) → ∀ (i : Nat), i < css.length → ∀ (cs : List Value), (css.set i cs).flatten = css.flatten.take (i * 9) ++ cs ++ css.flatten.drop (i * 9 + 9)
  | [], _, i, h, _ => absurd h (Nat.not_lt_zero _)
  | c :: css, hl, 0, _, cs => by
    have hc := hl c (List.mem_cons_self ..)
    rw [List.set_cons_zero, List.flatten_cons, List.flatten_cons, Nat.zero_mul, List.take_zero, List.nil_append, Nat.zero_add, ← hc, List.drop_left]
  | c :: css, hl, i + 1, h, cs => by
    have hc := hl c (List.mem_cons_self ..)
    rw [List.set_cons_succ, List.flatten_cons, List.flatten_cons, flat_set css (fun x hx => hl x (List.mem_cons_of_mem _ hx)) i (by simpa using h) cs,
      show (i + 1) * 9 = c.length + i * 9 by omega, Nat.add_assoc, List.take_length_add_append, List.drop_length_add_append]
    simp
theorem set9 (xs : List Value) (p : Nat) (hp : p + 9 ≤ xs.length) (a0 a1 a2 a3 a4 a5 a6 a7 a8 : Value) :
    ((((((((xs.set p a0).set (p + 1) a1).set (p + 2) a2).set (p + 3) a3).set (p + 4) a4).set (p + 5) a5).set (p + 6) a6).set (p + 7) a7).set (p + 8) a8 = xs.take p ++ [a0, a1, a2, a3, a4, a5, a6, a7, a8] ++ xs.drop (p + 9) := by
  obtain ⟨A, B, hA, rfl⟩ : ∃ A B, A.length = p ∧ xs = A ++ B := ⟨xs.take p, xs.drop p, by rw [List.length_take]; omega, (List.take_append_drop p xs).symm⟩
  subst hA
  rw [List.length_append] at hp
  match B, (by omega : 9 ≤ B.length) with
  | b0 :: b1 :: b2 :: b3 :: b4 :: b5 :: b6 :: b7 :: b8 :: B, _ => simp [List.set_append, List.take_append, List.drop_append]
theorem Rts.set {w : World} {K : Nat → Prop} {l : List Re} {xs : List Value} (h : Rts w K l xs) {i : Nat} (hi : i < l.length) {r : Re} {cs : List Value} (hr : Rt w K r cs) : Rts w K (l.set i r) (xs.take (i * 9) ++ cs ++ xs.drop (i * 9 + 9)) := by
  obtain ⟨css, hl, rfl, ha⟩ := h
  refine ⟨css.set i cs, by simp [hl], (flat_set css (Rts.all9 hl ha) i (by omega) cs).symm, fun j h h' => ?_⟩
  rw [List.getElem_set, List.getElem_set]
  split
  · exact hr
  · exact ha j (by simpa using h) (by simpa using h')
/-- Ten expressions, in a row of their own. -/
def Ten (w : World) (K : Nat → Prop) (g : Nat) (l : List Re) : Prop := ∃ xs, Rts w K l xs ∧ Blk w g 27 xs.toArray
theorem Ten.tch {S K : Nat → Prop} {w w' : World} {g : Nat} {l : List Re} (h : Ten w K g l) (t : Tch S w w') (hS : ∀ b, K b → ¬ S b) (hg : ¬ S g) : Ten w' K g l := by
  obtain ⟨xs, h1, h2⟩ := h
  exact ⟨xs, h1.tch t hS, h2.tch t hg⟩
theorem gk_take : ∀ (l : List Re) (i : Nat) (h : i < l.length), gkL (l.take (i + 1)) = gkL (l.take i) ++ gk (l[i]'h)
  | [], i, h => absurd h (Nat.not_lt_zero _)
  | x :: l, 0, _ => by simp [gkL]
  | x :: l, i + 1, h => by simp [gkL, gk_take l i (by simpa using h)]
theorem lay_app (a b : List (Nat × Re)) (o : List Re) : layS (a ++ b) o = layS b (layS a o) := List.foldl_append ..
theorem wfL_get : ∀ (l : List Re), wfL l → ∀ (i : Nat) (h : i < l.length), wfR (l[i]'h)
  | [], _, i, h => absurd h (Nat.not_lt_zero _)
  | x :: l, hw, 0, _ => by rw [wfL] at hw; exact hw.1
  | x :: l, hw, i + 1, h => by rw [wfL] at hw; exact wfL_get l hw.2 i (by simpa using h)
set_option maxRecDepth 100000 in
set_option maxHeartbeats 3200000 in
theorem gather_c {K : Nat → Prop} : ∀ (N : Nat) (r : Re), nodesR r ≤ N → wfR r → ∀ (w : World) (cs : List Value) (g : Nat) (l : List Re), Rt w K r cs → (∀ b, K b → b ≠ g) → l.length = 10 → Ten w K g l → nodesR r ≤ 1073741824 →
    Calls Tryd.prog 27 #[.agg cs.toArray, .slice (some ⟨g, 0, none⟩) 10 10] w fun e w' => e = .returned (.tuple #[]) ∧ Ten w' K g (layS (gk r) l) ∧ Tch (· = g) w w' := by
  intro N
  induction N with
  | zero => intro r h; cases r; simp [nodesR] at h
  | succ N ih =>
    intro r hN hwf w cs g l h hKg hl10 hten hb
    obtain ⟨A, c, rfl, hS, hnil⟩ := h.shape
    obtain ⟨kind, S, kids, lo, hi, nn⟩ := r
    simp only [Re.kind, Re.set, Re.kids, Re.lo, Re.hi, Re.n] at h hS hnil ⊢
    have hN2 : nodesL kids ≤ N := by simp [nodesR] at hN; omega
    have hb2 : nodesL kids ≤ 1073741824 := by simp [nodesR] at hb; omega
    have hl := len_nodes kids
    rw [wfR] at hwf
    have HWL := Lib.hid hwf.2.2
    have HW7 := Lib.hid hwf.2.1
    have HRT := Lib.hid h
    have HKG := Lib.hid hKg
    obtain ⟨kl, hkl⟩ : ∃ kl, kids.length = kl := ⟨_, rfl⟩
    obtain ⟨G0, hG0⟩ : ∃ G, (if kind = 7 ∧ 0 < nn then hdK nn.toNat kids else []) = G := ⟨_, rfl⟩
    have hgk : gk (.mk kind S kids lo hi nn) = G0 ++ gkL kids := by rw [gk, hG0]
    obtain ⟨L1, hL1⟩ : ∃ L, layS (gk (.mk kind S kids lo hi nn)) l = L := ⟨_, rfl⟩
    have HLL := Lib.hid (show layS (gkL kids) (layS G0 l) = L1 by rw [← hL1, hgk, lay_app])
    rw [hL1]
    have HG0 := Lib.hid hG0
    have glt : g < w.heap.size := by obtain ⟨xs, _, h2⟩ := hten; exact h2.lt
    have ba : Tch (· = g) w (w.alloc (.cells (reC kind S A kl c lo hi nn).toArray 27)) := (Tch.refl _ _).alloc _
    have xa : Blk (w.alloc (.cells (reC kind S A kl c lo hi nn).toArray 27)) w.heap.size 27 (reC kind S A kl c lo hi nn).toArray := Blk.new _ _ _
    have ta := hten.tch ((Tch.refl (fun _ => False) w).alloc (.cells (reC kind S A kl c lo hi nn).toArray 27)) (fun b _ hb => hb) (fun hb => hb)
    clear hgk hL1 hG0 h hnil hS hN hb hwf hKg hten
    rw [hkl] at hl HRT ⊢
    go_enter Tryd.func27, Tryd.ntmps27
    go_upto_region 1 with fail
    generalize w.alloc (.cells (reC kind S A kl c lo hi nn).toArray 27) = wa at *
    go_cut [18] (fun v wx => ∃ b : Bool, v = .bool b ∧ wx = wa ∧ (b = true ↔ (kind = 7 ∧ 0 < nn ∧ nn < 10)))
    case first =>
      have q0 := xa.cell 0
      have q2 := xa.cell 5
      have q8 := xa.cell 8
      simp only [List.getElem?_toArray, List.getElem?_cons_zero, List.getElem?_cons_succ] at q0 q2 q8
      have hex : ((kind == 7) = false) ∨ ((kind == 7) = true ∧ decide (0 < nn) = false) ∨ ((kind == 7) = true ∧ decide (0 < nn) = true ∧ decide (nn < 10) = false) ∨ ((kind == 7) = true ∧ decide (0 < nn) = true ∧ decide (nn < 10) = true) := by
        cases (kind == 7) <;> cases decide (0 < nn) <;> cases decide (nn < 10) <;> simp
      clear ta ba xa
      rcases hex with e0 | ⟨e0, e1⟩ | ⟨e0, e1, e2⟩ | ⟨e0, e1, e2⟩
      all_goals
        go_wp2_with fail
        go_meet
        refine ⟨_, rfl, rfl, ?_⟩
        simp_all
        try omega
    case rest =>
      obtain ⟨b, rfl, rfl, hb⟩ := hcut
      go_step
      go_cut [] (fun wx => Ten wx K g (layS G0 l) ∧ Tch (· = g) w wx ∧ Blk wx w.heap.size 27 (reC kind S A kl c lo hi nn).toArray)
      case first =>
        have q0 := xa.cell 0
        have q2 := xa.cell 5
        have q8 := xa.cell 8
        simp only [List.getElem?_toArray, List.getElem?_cons_zero, List.getElem?_cons_succ] at q0 q2 q8
        cases b with
        | false =>
          have hc : ¬ (kind = 7 ∧ 0 < nn ∧ nn < 10) := fun x => by simpa using hb.2 x
          have hlay : layS G0 l = l := by
            rw [← HG0.out]
            split
            · next x =>
              have hnn : ¬ nn < 10 := fun y => hc ⟨x.1, x.2, y⟩
              cases kids with
              | nil => rfl
              | cons y ks => rw [hdK]; show l.set nn.toNat y = l; rw [List.set_eq_of_length_le (by omega)]
            · rfl
          have FIN := Lib.hid (⟨by rw [hlay]; exact ta, ba, xa⟩ : Ten wc K g (layS G0 l) ∧ Tch (· = g) w wc ∧ Blk wc w.heap.size 27 (reC kind S A kl c lo hi nn).toArray)
          clear ta ba xa hlay hc hb
          go_wp2_with fail
          go_meet
          exact FIN.out
        | true =>
          obtain ⟨h7, h1, h2⟩ := hb.1 rfl
          clear hb
          obtain ⟨n, rfl⟩ := Int.eq_ofNat_of_zero_le (by omega : 0 ≤ nn)
          have hn1 : 0 < n := by omega
          have hn2 : n < 10 := by omega
          have hk1 := HW7.out h7
          have hk2 : 0 < kids.length := by omega
          have hkl1 : kl = 1 := by omega
          obtain ⟨gk0, o, rfl, hgk, A2, c2, hk, hc⟩ := (kid (HRT.out.tch ba HKG.out)).2 0 hk2
          have hlay : layS G0 l = l.set n (kids[0]'hk2) := by
            rw [← HG0.out, if_pos ⟨h7, h1⟩]
            cases kids with
            | nil => cases hk2
            | cons y ks => rfl
          have fk0 := hc 0 _ rfl
          have fk1 := hc 1 _ rfl
          have fk2 := hc 2 _ rfl
          have fk3 := hc 3 _ rfl
          have fk4 := hc 4 _ rfl
          have fk5 := hc 5 _ rfl
          have fk6 := hc 6 _ rfl
          have fk7 := hc 7 _ rfl
          have fk8 := hc 8 _ rfl
          simp only [Nat.add_zero, Nat.zero_mul] at fk0 fk1 fk2 fk3 fk4 fk5 fk6 fk7 fk8
          clear hc
          obtain ⟨x, hx⟩ : ∃ x, kids[0]'hk2 = x := ⟨_, rfl⟩
          rw [hx] at fk0 fk1 fk2 fk3 fk4 fk5 fk6 fk7 fk8 hk hlay
          have hKK := HKG.out gk0 hgk
          clear hgk
          generalize x.kind = k0 at *
          generalize x.set = k1 at *
          generalize x.kids.length = k2 at *
          generalize x.lo = k3 at *
          generalize x.hi = k4 at *
          generalize x.n = k5 at *
          obtain ⟨xs, hrs, hbl⟩ := ta
          have hxl := hrs.len
          rw [hl10] at hxl
          have hel : ∀ j, j < 9 → ∃ u, xs[n * 9 + j]? = some u := fun j hj => ⟨_, List.getElem?_eq_getElem (by omega)⟩
          obtain ⟨u0, e0⟩ := hel 0 (by omega)
          obtain ⟨u1, e1⟩ := hel 1 (by omega)
          obtain ⟨u2, e2⟩ := hel 2 (by omega)
          obtain ⟨u3, e3⟩ := hel 3 (by omega)
          obtain ⟨u4, e4⟩ := hel 4 (by omega)
          obtain ⟨u5, e5⟩ := hel 5 (by omega)
          obtain ⟨u6, e6⟩ := hel 6 (by omega)
          obtain ⟨u7, e7⟩ := hel 7 (by omega)
          obtain ⟨u8, e8⟩ := hel 8 (by omega)
          have v0 := (hbl.cell (n * 9 + 0)).trans ((List.getElem?_toArray ..).trans e0)
          have v1 := (hbl.cell (n * 9 + 1)).trans ((List.getElem?_toArray ..).trans e1)
          have v2 := (hbl.cell (n * 9 + 2)).trans ((List.getElem?_toArray ..).trans e2)
          have v3 := (hbl.cell (n * 9 + 3)).trans ((List.getElem?_toArray ..).trans e3)
          have v4 := (hbl.cell (n * 9 + 4)).trans ((List.getElem?_toArray ..).trans e4)
          have v5 := (hbl.cell (n * 9 + 5)).trans ((List.getElem?_toArray ..).trans e5)
          have v6 := (hbl.cell (n * 9 + 6)).trans ((List.getElem?_toArray ..).trans e6)
          have v7 := (hbl.cell (n * 9 + 7)).trans ((List.getElem?_toArray ..).trans e7)
          have v8 := (hbl.cell (n * 9 + 8)).trans ((List.getElem?_toArray ..).trans e8)
          have r0 := hbl.loose (n * 9 + 0)
          have r1 := hbl.loose (n * 9 + 1)
          have r2 := hbl.loose (n * 9 + 2)
          have r3 := hbl.loose (n * 9 + 3)
          have r4 := hbl.loose (n * 9 + 4)
          have r5 := hbl.loose (n * 9 + 5)
          have r6 := hbl.loose (n * 9 + 6)
          have r7 := hbl.loose (n * 9 + 7)
          have r8 := hbl.loose (n * 9 + 8)
          simp only [Nat.add_zero] at v0 r0
          clear hx hel e0 e1 e2 e3 e4 e5 e6 e7 e8 hkl1 hk1
          go_upto_region 2 with fail
          go_region
          go_wp2_with fail
          go_meet
          obtain ⟨W9, hW9⟩ : ∃ z : World, ((((((((wc.setCell ⟨g, n * 9, none⟩ (.int .i64 k0)).setCell ⟨g, n * 9 + 1, none⟩ (.int .u64 (word k1 0))).setCell ⟨g, n * 9 + 2, none⟩ (.int .u64 (word k1 1))).setCell ⟨g, n * 9 + 3, none⟩ (.int .u64 (word k1 2))).setCell ⟨g, n * 9 + 4, none⟩ (.int .u64 (word k1 3))).setCell ⟨g, n * 9 + 5, none⟩ (.slice A2 k2 c2)).setCell ⟨g, n * 9 + 6, none⟩ (.int .i64 k3)).setCell ⟨g, n * 9 + 7, none⟩ (.int .i64 k4)).setCell ⟨g, n * 9 + 8, none⟩ (.int .i64 k5) = z := ⟨_, rfl⟩
          have T9 := (((((((((Tch.refl (· = g) wc).setCell (p := ⟨g, n * 9, none⟩) rfl (.int .i64 k0)).setCell (p := ⟨g, n * 9 + 1, none⟩) rfl (.int .u64 (word k1 0))).setCell (p := ⟨g, n * 9 + 2, none⟩) rfl (.int .u64 (word k1 1))).setCell (p := ⟨g, n * 9 + 3, none⟩) rfl (.int .u64 (word k1 2))).setCell (p := ⟨g, n * 9 + 4, none⟩) rfl (.int .u64 (word k1 3))).setCell (p := ⟨g, n * 9 + 5, none⟩) rfl (.slice A2 k2 c2)).setCell (p := ⟨g, n * 9 + 6, none⟩) rfl (.int .i64 k3)).setCell (p := ⟨g, n * 9 + 7, none⟩) rfl (.int .i64 k4)).setCell (p := ⟨g, n * 9 + 8, none⟩) rfl (.int .i64 k5)
          have Y9 := ((((((((hbl.set_ (n * 9) (.int .i64 k0)).set_ (n * 9 + 1) (.int .u64 (word k1 0))).set_ (n * 9 + 2) (.int .u64 (word k1 1))).set_ (n * 9 + 3) (.int .u64 (word k1 2))).set_ (n * 9 + 4) (.int .u64 (word k1 3))).set_ (n * 9 + 5) (.slice A2 k2 c2)).set_ (n * 9 + 6) (.int .i64 k3)).set_ (n * 9 + 7) (.int .i64 k4)).set_ (n * 9 + 8) (.int .i64 k5)
          rw [hW9] at T9 Y9 ⊢
          clear hW9
          simp only [List.setIfInBounds_toArray] at Y9
          rw [set9 xs (n * 9) (by omega)] at Y9
          have T10 : Tch (· = g) wc W9.drew := ⟨T9.os, T9.tape, T9.output, T9.size, T9.block⟩
          have Y10 : Blk W9.drew g 27 (xs.take (n * 9) ++ reC k0 k1 A2 k2 c2 k3 k4 k5 ++ xs.drop (n * 9 + 9)).toArray := Y9
          have R10 := (Rts.set hrs (i := n) (by omega) hk).tch T10 HKG.out
          rw [← hlay] at R10
          exact ⟨⟨_, R10, Y10⟩, ba.trans T10, xa.tch T10 (by show ¬ w.heap.size = g; omega)⟩
      case rest =>
        obtain ⟨hT, bw, xw⟩ := hcut
        clear hb ta ba xa HW7 HG0
        have h0l : (layS G0 l).length = 10 := by rw [lay_len]; exact hl10
        generalize layS G0 l = l0 at *
        have q2 := xw.cell 5
        simp only [List.getElem?_toArray, List.getElem?_cons_zero, List.getElem?_cons_succ] at q2
        have hlN : kl ≤ 1073741824 := by omega
        clear xw hl10 hl
        go_upto_region 3 with fail
        go_wp2_with fail
        go_loopw [30] (fun iv wr => ∃ (i : Nat), iv = .int .i64 i ∧ i ≤ kl ∧ Ten wr K g (layS (gkL (kids.take i)) l0) ∧ Tch (· = g) w wr) (fun iv _ => kl - (intOf iv).toNat)
        case atStart => exact ⟨0, rfl, by omega, hT, bw⟩
        case round =>
          clear hT bw q2
          obtain ⟨i, rfl, hi, hT, bw⟩ := hrel
          by_cases hlt : i < kl
          · obtain ⟨gk0, o, rfl, hgk, A2, c2, hk, hc⟩ := (kid (HRT.out.tch bw HKG.out)).2 i (by omega)
            have fk0 := hc 0 _ rfl
            have fk1 := hc 1 _ rfl
            have fk2 := hc 2 _ rfl
            have fk3 := hc 3 _ rfl
            have fk4 := hc 4 _ rfl
            have fk5 := hc 5 _ rfl
            have fk6 := hc 6 _ rfl
            have fk7 := hc 7 _ rfl
            have fk8 := hc 8 _ rfl
            simp only [Nat.add_zero] at fk0
            clear hc
            have hnk := nodes_kid kids i (by omega)
            have hgt := gk_take kids i (by omega)
            have hwx := wfL_get kids HWL.out i (by omega)
            have hlen : (layS (gkL (kids.take i)) l0).length = 10 := by rw [lay_len]; exact h0l
            obtain ⟨x, hx⟩ : ∃ x, kids[i]'(by omega) = x := ⟨_, rfl⟩
            rw [hx] at fk0 fk1 fk2 fk3 fk4 fk5 fk6 fk7 fk8 hk hnk hgt hwx
            have tA : Tch (fun _ => False) wr (wr.alloc (.cells (reC x.kind x.set A2 x.kids.length c2 x.lo x.hi x.n).toArray 27)) := (Tch.refl _ _).alloc _
            have ci := ih x (by omega) hwx _ _ g _ (hk.tch tA (fun _ _ hb => hb)) HKG.out hlen (hT.tch tA (fun _ _ hb => hb) (fun hb => hb)) (by omega)
            have HG2 := Lib.hid (show layS (gk x) (layS (gkL (kids.take i)) l0) = layS (gkL (kids.take (i + 1))) l0 by rw [hgt, lay_app])
            rw [HG2.out] at ci
            clear hk hgk hgt hwx hx tA hT hlen
            generalize x.kind = k0 at *
            generalize x.set = k1 at *
            generalize x.kids.length = k2 at *
            generalize x.lo = k3 at *
            generalize x.hi = k4 at *
            generalize x.n = k5 at *
            have zB := bw.size
            go_wp2_with fail
            (with_reducible refine ci.mono ?_)
            clear ci
            rintro e w2 ⟨rfl, hT2, t2⟩
            have bw2 := (bw.alloc (.cells (reC k0 k1 A2 k2 c2 k3 k4 k5).toArray 27)).trans t2
            go_wp2_with fail
            go_roundw
            case rel => exact ⟨i + 1, by go_num, by omega, hT2, bw2⟩
            case measure => simp [intOf]; omega
          · have hi2 : i = kids.length := by omega
            rw [hi2, List.take_length, HLL.out] at hT
            subst hi2
            go_wp2_with fail
            go_end0
            exact ⟨rfl, hT, bw⟩
set_option maxRecDepth 100000 in
set_option maxHeartbeats 3200000 in
theorem kids_c {K : Nat → Prop} (r : Re) (w : World) (cs : List Value) (h : Rt w K r cs) (hwf : wfR r) (hb : nodesR r ≤ 1073741824) :
    Calls Tryd.prog 12 #[.agg cs.toArray] w fun e w' => ∃ g, e = .returned (.slice (some ⟨g, 0, none⟩) 10 10) ∧ w.heap.size ≤ g ∧ Ten w' (fun b => K b ∧ b < w.heap.size) g (layS (gk r) (List.replicate 10 (.mk 0 0 [] 0 0 0))) ∧ Below w.heap.size w w' := by
  obtain ⟨A, c, rfl, hS, hnil⟩ := h.shape
  have h2 := h.lt_
  generalize hk0 : r.kind = k0 at *
  generalize hk1 : r.set = k1 at *
  generalize hk2 : r.kids.length = k2 at *
  generalize hk3 : r.lo = k3 at *
  generalize hk4 : r.hi = k4 at *
  generalize hk5 : r.n = k5 at *
  clear hk0 hk1 hk2 hk3 hk4 hk5 h hS hnil
  have hmr : ∀ W : World, (Instr.makeSlice 25 (.int .i64 10) (.int .i64 10)).run Tryd.prog W = .ok (.slice (some ⟨W.heap.size, 0, none⟩) 10 10) (W.alloc (.cells (List.flatten (List.replicate 10 zC.toList)).toArray 27)) := fun W => by
    have hi : ∃ i, Tryd.prog.info? 27 = some i ∧ i.zero = some (.agg zC) ∧ i.size = 9 ∧ i.bytes ≤ 1000 := by
      exact ⟨_, rfl, by kernel_rfl, by kernel_rfl, of_decide_eq_true (by kernel_rfl)⟩
    obtain ⟨i, h1, h2, h3, h4⟩ := hi
    have := run_makeSlice W 25 27 i (.agg zC) Tryd.underlying25 h1 h2 .i64 .i64 10 10 (by decide) (by decide) (by rw [h3]; decide) (by omega) (by decide)
    rw [h3, show madeCells (Value.agg zC).cells (Int.toNat 10 * 9) = (List.flatten (List.replicate 10 zC.toList)).toArray by kernel_rfl] at this
    exact this
  obtain ⟨w1, hw1⟩ : ∃ z : World, (w.alloc (.cells (reC k0 k1 A k2 c k3 k4 k5).toArray 27)).alloc (.cells (List.flatten (List.replicate 10 zC.toList)).toArray 27) = z := ⟨_, rfl⟩
  have x1 : Blk w1 w.heap.size 27 (reC k0 k1 A k2 c k3 k4 k5).toArray := by rw [← hw1]; exact (Blk.new _ _ _).alloc _
  have m1 : Blk w1 (w.heap.size + 1) 27 (List.flatten (List.replicate 10 zC.toList)).toArray := by rw [← hw1]; exact Blk.new1 _ _ _ _
  have B1 : Below w.heap.size w w1 := by rw [← hw1]; go_grown
  have T1 : Ten w1 (fun b => K b ∧ b < w.heap.size) (w.heap.size + 1) (List.replicate 10 (.mk 0 0 [] 0 0 0)) := by
    refine ⟨_, ⟨List.replicate 10 zC.toList, by simp, rfl, fun i h1 h2 => ?_⟩, m1⟩
    rw [List.getElem_replicate, List.getElem_replicate]
    exact Rt.leaf 0 0 0 0 0 0 (by decide)
  have c1 := gather_c (nodesR r) r (Nat.le_refl _) hwf w1 _ (w.heap.size + 1) _ (h2.bel B1) (fun b hb => by omega) (by simp) T1 hb
  have p0 := x1.cell 0
  have p1 := x1.cell 1
  have p2 := x1.cell 2
  have p3 := x1.cell 3
  have p4 := x1.cell 4
  have p5 := x1.cell 5
  have p6 := x1.cell 6
  have p7 := x1.cell 7
  have p8 := x1.cell 8
  simp only [List.getElem?_toArray, List.getElem?_cons_zero, List.getElem?_cons_succ] at p0 p1 p2 p3 p4 p5 p6 p7 p8
  have hsz := x1.lt
  clear T1 x1 m1 h2
  generalize (List.flatten (List.replicate 10 zC.toList)).toArray = Z at *
  generalize layS (gk r) (List.replicate 10 (.mk 0 0 [] 0 0 0)) = L at *
  go_enter Tryd.func12, Tryd.ntmps12
  go_upto_region 2 with fail
  try rw [hw1]
  clear hw1 hmr
  go_wp2_with fail
  (with_reducible refine c1.mono ?_)
  rintro e w2 ⟨rfl, T2, t2⟩
  have B2 : Below w.heap.size w w2 := t2.below B1 (fun k hk => by omega) (by omega)
  clear p0 p1 p2 p3 p4 p5 p6 p7 p8 c1
  go_wp2_with fail
  go_ret
  exact ⟨w.heap.size + 1, rfl, by omega, T2, B2⟩
end GrpW
end Go.Proofs.YtpdmjegbjcefjaaDoor
