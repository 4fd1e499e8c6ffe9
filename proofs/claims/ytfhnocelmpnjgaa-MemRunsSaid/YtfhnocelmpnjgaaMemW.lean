/- The walks of mem.May, Get, of their references, of Same and Small. Conditions: lists that fit. -/
import Derived.Test.YtfhnocelmpnjgaaNam
import Derived.Test.YtfhnocelmpnjgaaMemP
import Derived.Laws.StructEq
namespace Go.Proofs.Ytfhnocelmpnjgaa
open Go.RowKit
namespace MemW
open QuoW MemP
def vcell (p : Vr) : List Value := [.string p.1, .string p.2]
def vcs (l : List Vr) : List Value := l.flatMap vcell
theorem vcs_len : ∀ l : List Vr, (vcs l).length = l.length * 2 := by
  intro l; induction l with
  | nil => rfl
  | cons p l ih => rw [vcs, List.flatMap_cons, List.length_append]; rw [vcs] at ih; rw [ih]; simp [vcell]; omega
theorem vcs_app (l r : List Vr) : vcs (l ++ r) = vcs l ++ vcs r := by simp [vcs]
theorem vcs_at : ∀ (l : List Vr) (k : Nat) (p : Vr), l[k]? = some p → (vcs l)[k * 2]? = some (.string p.1) ∧ (vcs l)[k * 2 + 1]? = some (.string p.2) := by
  intro l
  induction l with
  | nil => intro k p h; cases h
  | cons q l ih =>
    intro k p h
    cases k with
    | zero => simp at h; subst h; exact ⟨rfl, rfl⟩
    | succ k =>
      rw [List.getElem?_cons_succ] at h
      obtain ⟨h1, h2⟩ := ih k p h
      have e : vcs (q :: l) = .string q.1 :: .string q.2 :: vcs l := rfl
      rw [e, show (k + 1) * 2 = k * 2 + 1 + 1 by omega]
      exact ⟨by simpa using h1, by simpa using h2⟩
/-- A slice of variables. -/
abbrev Vrs (w : World) (B : Nat) (A : Option Addr) (n : Nat) (l : List Vr) : Prop := Rd w B 2 A n (vcs l)
theorem Vrs.len {w : World} {B n : Nat} {A : Option Addr} {l : List Vr} (h : Vrs w B A n l) : l.length = n := by
  have := h.1; rw [vcs_len] at this; omega
theorem Vrs.get {w : World} {B n k : Nat} {A : Option Addr} {l : List Vr} (h : Vrs w B A n l) (hk : k < n) : ∃ g o p, A = some ⟨g, o, none⟩ ∧ g < B ∧ l[k]? = some p ∧ w.cell? ⟨g, o + k * 2, none⟩ = some (.string p.1) ∧ w.cell? ⟨g, o + k * 2 + 1, none⟩ = some (.string p.2) := by
  obtain ⟨g, o, e, hb, hc⟩ := Rd.flat h (by omega) (by omega)
  have hl := Vrs.len h
  have hp : l[k]? = some (l[k]'(by omega)) := List.getElem?_eq_getElem (by omega)
  obtain ⟨h1, h2⟩ := vcs_at l k _ hp
  exact ⟨g, o, _, e, hb, hp, hc _ _ h1, hc _ _ h2⟩
theorem quiet_w {P : Program} {f : FuncId} {args : Array Value} {w : World} {n : Nat} {v : Value} (h : ∀ m, Calls P f args (w.drewN m) fun e w' => e = .returned v ∧ w.drewN m = w') :
    Calls P f args (w.drewN n) fun e w'' => e = .returned v ∧ ∃ m, w'' = w.drewN m := (h _).mono fun _ _ ⟨he, hm⟩ => ⟨he, n, hm.symm⟩
/-- Texts that fit. -/
def FitV (l : List Vr) : Prop := ∀ p ∈ l, p.1.size ≤ 4611686018427387904 ∧ p.2.size ≤ 4611686018427387904
set_option maxHeartbeats 800000 in
theorem nm_c (s : ByteArray) (w : World) (hs : s.size ≤ 4611686018427387904) : Calls Try.prog 18 #[.string s] w fun e w' => e = .returned (.bool (nmB s)) ∧ w = w' := by
  have c1 := fun W => name_c s W hs
  cases hb : QuoP.nameB s.data.toList
  · rw [hb] at c1
    have hr : nmB s = false := by simp [nmB, hb]
    rw [hr]
    clear hb hr
    go_enter Try.func18, Try.ntmps18
    go_wp2_with (first | (with_reducible refine (c1 _).mono ?_; rintro e w' ⟨rfl, rfl⟩))
    go_ret
    exact ⟨rfl, rfl⟩
  · rw [hb] at c1
    have h0 : 0 < s.size := by
      rcases Nat.eq_zero_or_pos s.size with h | h
      · rw [name_none s h] at hb; cases hb
      · exact h
    have e := drop_cons s 0 h0
    rw [List.drop_zero] at e
    have hr : nmB s = decide ((97 : Int) ≤ ((s[0]'h0).toNat : Int)) := by simp only [nmB, hb]; rw [e]; simp
    rw [hr]
    clear e hb hr
    generalize hb : decide ((97 : Int) ≤ ((s[0]'h0).toNat : Int)) = b
    cases b
    all_goals
      go_enter Try.func18, Try.ntmps18
      go_wp2_with (first | (with_reducible refine (c1 _).mono ?_; rintro e w' ⟨rfl, rfl⟩))
      go_ret
      exact ⟨rfl, rfl⟩
set_option maxHeartbeats 800000 in
theorem rnm_c (s : ByteArray) (w : World) (hs : s.size ≤ 4611686018427387904) : Calls Try.prog 24 #[.string s] w fun e w' => e = .returned (.bool (nmB s)) ∧ w = w' := by
  have c1 := fun W => rname_c s W hs
  cases hb : QuoP.nameB s.data.toList
  · rw [hb] at c1
    have hr : nmB s = false := by simp [nmB, hb]
    rw [hr]
    clear hb hr
    go_enter Try.func24, Try.ntmps24
    go_wp2_with (first | (with_reducible refine (c1 _).mono ?_; rintro e w' ⟨rfl, rfl⟩))
    go_ret
    exact ⟨rfl, rfl⟩
  · rw [hb] at c1
    have h0 : 0 < s.size := by
      rcases Nat.eq_zero_or_pos s.size with h | h
      · rw [name_none s h] at hb; cases hb
      · exact h
    have e := drop_cons s 0 h0
    rw [List.drop_zero] at e
    have hr : nmB s = decide ((97 : Int) ≤ ((s[0]'h0).toNat : Int)) := by simp only [nmB, hb]; rw [e]; simp
    rw [hr]
    clear e hb hr
    generalize hb : decide ((97 : Int) ≤ ((s[0]'h0).toNat : Int)) = b
    cases b
    all_goals
      go_enter Try.func24, Try.ntmps24
      go_wp2_with (first | (with_reducible refine (c1 _).mono ?_; rintro e w' ⟨rfl, rfl⟩))
      go_ret
      exact ⟨rfl, rfl⟩
theorem leq_lt (x y : ByteArray) : (Op.bytesLess x.toList y.toList || x.toList == y.toList) = !lt y x := by
  cases h : lt y x
  · cases h2 : lt x y
    · have := lt_total h2 h; subst this; simp
    · have h3 : Op.bytesLess x.toList y.toList = true := h2
      simp [h3]
  · have h2 : Op.bytesLess x.toList y.toList = false := asymm h
    have h3 : (x.toList == y.toList) = false := (eq_false x y).2 (fun e => lt_ne h e.symm)
    simp [h2, h3]
set_option maxHeartbeats 1600000 in
theorem may_c (A : Option Addr) (n c : Nat) (l : List Vr) (w : World) (hr : Vrs w w.heap.size A n l) (hf : FitV l) (hn : n ≤ 4611686018427387904) :
    Calls Try.prog 15 #[.slice A n c] w fun e w' => e = .returned (.bool (mayB l)) ∧ Below w.heap.size w w' := by
  have hl := Vrs.len hr
  obtain ⟨r, hR⟩ : ∃ r, mayB l = r := ⟨_, rfl⟩
  have HR := Lib.hid hR
  rw [hR]
  clear hR
  have HF := Lib.hid hf
  clear hf
  go_enter Try.func15, Try.ntmps15
  go_wp2
  go_loopw [7] (fun v wr => ∃ k : Nat, v = .int .i64 k ∧ k ≤ n ∧ Hid (okTo l k = true) ∧ Below w.heap.size w wr) (fun v _ => n - (intOf v).toNat)
  case atStart => exact ⟨0, rfl, by omega, rfl, Below.refl _ _⟩
  case round =>
    obtain ⟨k, rfl, hk, hx, hB⟩ := hrel
    have zB := hB.size
    by_cases hlt : k < n
    · obtain ⟨g, o, ⟨nm, tx⟩, rfl, hb, hp, q1, q2⟩ := Vrs.get (hr.below hB) hlt
      have fm := HF.out _ (List.mem_of_getElem? hp)
      simp only at q1 q2 fm
      have cn := fun W => nm_c nm W fm.1
      have NO := Lib.hid (fun h : okAt l k = false => may_no (by omega) h)
      have OK := Lib.hid (okTo_succ l k)
      cases ha : nmB nm
      · rw [ha] at cn
        have hz : Hid (okAt l k = false) := Lib.hid (by unfold okAt; rw [hp]; simp [goodB, ha])
        clear ha hp
        go_wp2_with fail
        go_quiet (first | (with_reducible exact quiet_w (fun m => cn _)))
        go_wp2_with fail
        go_ret
        exact ⟨by rw [← HR.out, NO.out hz.out]; rfl, below_dn (by go_grown) _⟩
      · rw [ha] at cn
        cases hs : decide (32 < (tx.size : Int))
        rotate_left
        · have hz : Hid (okAt l k = false) := Lib.hid (by unfold okAt; rw [hp]; simp at hs; simp [goodB, ha]; omega)
          clear ha hp
          go_wp2_with fail
          go_quiet (first | (with_reducible exact quiet_w (fun m => cn _)))
          go_wp2_with fail
          go_ret
          exact ⟨by rw [← HR.out, NO.out hz.out]; rfl, below_dn (by go_grown) _⟩
        · have hs2 : tx.size ≤ 32 := by simp at hs; omega
          by_cases hk0 : k = 0
          · have hz : Hid (okAt l k = true) := Lib.hid (by subst hk0; unfold okAt; rw [hp]; simp [goodB, ha, hs2])
            have hj : decide (0 < k) = false := by simp; omega
            clear ha hp hs2 hk0
            go_wp2_with fail
            go_quiet (first | (with_reducible exact quiet_w (fun m => cn _)))
            go_wp2_with fail
            go_roundw
            case rel => exact ⟨k + 1, by go_num, by omega, by show _ = true; rw [OK.out, hx.out, hz.out]; rfl, below_dn (by go_grown) _⟩
            case measure => simp [intOf]; omega
          · obtain ⟨j, hkj⟩ : ∃ j, k = j + 1 := ⟨k - 1, by omega⟩
            obtain ⟨g', o', ⟨nq, tq⟩, he, hb', hp', q1', q2'⟩ := Vrs.get (k := j) (hr.below hB) (by omega)
            cases he
            simp only at q1' q2'
            have hle := leq_lt nm nq
            have hj : decide (0 < k) = true := by simp; omega
            have e1 : IntKind.i64.wrap ((k : Int) - 1) = (j : Int) := by rw [IntKind.wrap_i64]; omega
            have hjn : j < n := by omega
            have hbw : g < wr.heap.size := by omega
            cases hq : lt nq nm
            · have hz : Hid (okAt l k = false) := Lib.hid (by subst hkj; unfold okAt; rw [hp]; simp only [hp']; simp [goodB, ha, hs2]; exact hq)
              rw [hq] at hle
              clear ha hp hs2 hp' hq hkj hk0
              go_wp2_with fail
              go_quiet (first | (with_reducible exact quiet_w (fun m => cn _)))
              go_wp2_with fail
              go_ret
              exact ⟨by rw [← HR.out, NO.out hz.out]; rfl, below_dn (by go_grown) _⟩
            · have hz : Hid (okAt l k = true) := Lib.hid (by subst hkj; unfold okAt; rw [hp]; simp only [hp']; simp [goodB, ha, hs2]; exact hq)
              rw [hq] at hle
              clear ha hp hs2 hp' hq hkj hk0
              go_wp2_with fail
              go_quiet (first | (with_reducible exact quiet_w (fun m => cn _)))
              go_wp2_with fail
              go_roundw
              case rel => exact ⟨k + 1, by go_num, by omega, by show _ = true; rw [OK.out, hx.out, hz.out]; rfl, below_dn (by go_grown) _⟩
              case measure => simp [intOf]; omega
    · obtain rfl : k = n := by omega
      go_wp2
      go_ret
      refine ⟨?_, hB⟩
      rw [← HR.out]
      unfold mayB
      have := hx.out
      rw [hl, this]
      refine ret_bool ?_
      rw [Bool.eq_iff_iff]; simp; omega
end MemW
end Go.Proofs.Ytfhnocelmpnjgaa
