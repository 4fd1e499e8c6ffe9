/- The walks of mem.May, Get, of their references, of Same and Small. Conditions: lists that fit. -/
import Derived.Test.YtledgkplddeghaaDoorNam
import Derived.Test.YtledgkplddeghaaDoorMemP
import Derived.Laws.StructEq
namespace Go.Proofs.YtledgkplddeghaaDoor
set_option linter.unusedVariables false
set_option linter.unusedSimpArgs false
open Go.RowKit
namespace MemW
open QuoW MemP
def vcell (p : Vr) : List Value := [.string p.1, .string p.2]
def vcs (l : List Vr) : List Value := l.flatMap vcell
theorem vcs_len : ∀ l : List Vr, (vcs l).length = l.length * 2 := by
  intro l; induction l with
  | nil => rfl
  | cons p l ih => rw [vcs, List.flatMap_cons, List.length_append]; rw [vcs] at ih; rw [ih]; simp [vcell]; omega
theorem vcs_app (l r : List Vr) : vcs (l ++ r) = vcs l ++ vcs r := by simp [vcs]
theorem vcs_at : ∀ (l : List Vr) (k : Nat) (p : Vr), l[k]? = some p → (vcs l)[k * 2]? = some (.string p.1) ∧ (vcs l)[k * 2 + 1]? = some (.string p.2) := by
  intro l
  induction l with
  | nil => intro k p h; cases h
  | cons q l ih =>
    intro k p h
    cases k with
    | zero => simp at h; subst h; exact ⟨rfl, rfl⟩
    | succ k =>
      rw [List.getElem?_cons_succ] at h
      obtain ⟨h1, h2⟩ := ih k p h
      have e : vcs (q :: l) = .string q.1 :: .string q.2 :: vcs l := rfl
      rw [e, show (k + 1) * 2 = k * 2 + 1 + 1 by omega]
      exact ⟨by simpa using h1, by simpa using h2⟩
/-- A slice of variables. -/
abbrev Vrs (w : World) (B : Nat) (A : Option Addr) (n : Nat) (l : List Vr) : Prop := Rd w B 2 A n (vcs l)
theorem Vrs.len {w : World} {B n : Nat} {A : Option Addr} {l : List Vr} (h : Vrs w B A n l) : l.length = n := by
  have := h.1; rw [vcs_len] at this; omega
theorem Vrs.get {w : World} {B n k : Nat} {A : Option Addr} {l : List Vr} (h : Vrs w B A n l) (hk : k < n) : ∃ g o p, A = some ⟨g, o, none⟩ ∧ g < B ∧ l[k]? = some p ∧ w.cell? ⟨g, o + k * 2, none⟩ = some (.string p.1) ∧ w.cell? ⟨g, o + k * 2 + 1, none⟩ = some (.string p.2) := by
  obtain ⟨g, o, e, hb, hc⟩ := Rd.flat h (by omega) (by omega)
  have hl := Vrs.len h
  have hp : l[k]? = some (l[k]'(by omega)) := List.getElem?_eq_getElem (by omega)
  obtain ⟨h1, h2⟩ := vcs_at l k _ hp
  exact ⟨g, o, _, e, hb, hp, hc _ _ h1, hc _ _ h2⟩
theorem quiet_w {P : Program} {f : FuncId} {args : Array Value} {w : World} {n : Nat} {v : Value} (h : ∀ m, Calls P f args (w.drewN m) fun e w' => e = .returned v ∧ w.drewN m = w') :
    Calls P f args (w.drewN n) fun e w'' => e = .returned v ∧ ∃ m, w'' = w.drewN m := (h _).mono fun _ _ ⟨he, hm⟩ => ⟨he, n, hm.symm⟩
/-- Texts that fit. -/
def FitV (l : List Vr) : Prop := ∀ p ∈ l, p.1.size ≤ 4611686018427387904 ∧ p.2.size ≤ 4611686018427387904
/-- What Get tells. -/
def GetPost (l : List Vr) (nm : ByteArray) (w : World) (e : Ending) (w' : World) : Prop :=
  e = .returned (.tuple #[.string ((getV l nm).getD ByteArray.empty), .bool (getV l nm).isSome]) ∧ Below w.heap.size w w'
theorem get_take : ∀ (l : List Vr) (nm : ByteArray) (k : Nat) (p : Vr), l[k]? = some p → getV (l.take k) nm = none → getV (l.take (k + 1)) nm = if eq p.1 nm = true then some p.2 else none := by
  intro l nm k p hp h
  have e : l.take (k + 1) = l.take k ++ [p] := by rw [List.take_add_one, hp]; rfl
  rw [e, get_app, h]
  simp [getV]
theorem get_hit (l : List Vr) (nm : ByteArray) (k : Nat) (v : ByteArray) (h : getV (l.take k) nm = some v) : getV l nm = some v := by
  have e : l = l.take k ++ l.drop k := (List.take_append_drop k l).symm
  rw [e, get_app, h]; rfl
set_option maxHeartbeats 800000 in
theorem get_c (A : Option Addr) (n c : Nat) (l : List Vr) (nm : ByteArray) (w : World) (hr : Vrs w w.heap.size A n l) (hn : n ≤ 4611686018427387904) :
    Calls Tryd.prog 44 #[.slice A n c, .string nm] w (GetPost l nm w) := by
  have hl := Vrs.len hr
  go_enter Tryd.func44, Tryd.ntmps44
  go_wp2
  go_loopw [10] (fun v wr => ∃ k : Nat, v = .int .i64 k ∧ k ≤ n ∧ Hid (getV (l.take k) nm = none) ∧ Below w.heap.size w wr) (fun v _ => n - (intOf v).toNat)
  case atStart => exact ⟨0, rfl, by omega, rfl, Below.refl _ _⟩
  case round =>
    obtain ⟨k, rfl, hk, hx, hB⟩ := hrel
    have zB := hB.size
    by_cases hlt : k < n
    · obtain ⟨g, o, ⟨a, v⟩, rfl, hb, hp, q1, q2⟩ := Vrs.get (hr.below hB) hlt
      simp only at q1 q2
      have ST := Lib.hid (get_take l nm k _ hp hx.out)
      clear hp
      cases he : (a.toList == nm.toList)
      · go_wp2
        go_roundw
        case rel => exact ⟨k + 1, by go_num, by omega, by show _ = none; rw [ST.out]; exact if_neg (by rw [show eq a nm = false from he]; decide), by first | exact hB | go_grown⟩
        case measure => simp [intOf]; omega
      · go_wp2
        have HT := Lib.hid (get_hit l nm (k + 1) v (by rw [ST.out]; exact if_pos he))
        first | go_ret2 | go_quiet (fail)
        exact ⟨by rw [HT.out]; rfl, by first | exact hB | go_grown⟩
    · obtain rfl : k = n := by omega
      have ha := hx.out
      rw [List.take_of_length_le (by omega)] at ha
      have HA := Lib.hid ha
      clear ha
      go_wp2
      go_ret2
      exact ⟨by rw [HA.out]; rfl, hB⟩
set_option maxHeartbeats 800000 in
theorem rget_c (A : Option Addr) (n c : Nat) (l : List Vr) (nm : ByteArray) (w : World) (hr : Vrs w w.heap.size A n l) (hn : n ≤ 4611686018427387904) :
    Calls Tryd.prog 45 #[.slice A n c, .string nm] w (GetPost l nm w) := by
  have hl := Vrs.len hr
  go_enter Tryd.func45, Tryd.ntmps45
  go_wp2
  go_loopw [6] (fun v wr => ∃ k : Nat, v = .int .i64 k ∧ k ≤ n ∧ Hid (getV (l.take k) nm = none) ∧ Below w.heap.size w wr) (fun v _ => n - (intOf v).toNat)
  case atStart => exact ⟨0, rfl, by omega, rfl, Below.refl _ _⟩
  case round =>
    obtain ⟨k, rfl, hk, hx, hB⟩ := hrel
    have zB := hB.size
    by_cases hlt : k < n
    · obtain ⟨g, o, ⟨a, v⟩, rfl, hb, hp, q1, q2⟩ := Vrs.get (hr.below hB) hlt
      simp only at q1 q2
      have ST := Lib.hid (get_take l nm k _ hp hx.out)
      clear hp
      cases he : (a.toList == nm.toList)
      · go_wp2
        go_roundw
        case rel => exact ⟨k + 1, by go_num, by omega, by show _ = none; rw [ST.out]; exact if_neg (by rw [show eq a nm = false from he]; decide), by first | exact hB | go_grown⟩
        case measure => simp [intOf]; omega
      · go_wp2
        have HT := Lib.hid (get_hit l nm (k + 1) v (by rw [ST.out]; exact if_pos he))
        first | go_ret2 | go_quiet (fail)
        exact ⟨by rw [HT.out]; rfl, by first | exact hB | go_grown⟩
    · obtain rfl : k = n := by omega
      have ha := hx.out
      rw [List.take_of_length_le (by omega)] at ha
      have HA := Lib.hid ha
      clear ha
      go_wp2
      go_ret2
      exact ⟨by rw [HA.out]; rfl, hB⟩
/-- Texts that can be. -/
def FitW (l : List Vr) : Prop := ∀ p ∈ l, p.1.size ≤ 9223372036854775807 ∧ p.2.size ≤ 9223372036854775807
def smallV (l : List Vr) : Bool := decide (l.length ≤ 20) && l.all fun p => decide (p.1.size ≤ 60) && decide (p.2.size ≤ 60)
theorem small_no {l : List Vr} {k : Nat} {p : Vr} (hp : l[k]? = some p) (h : 60 < p.1.size ∨ 60 < p.2.size) : smallV l = false := by
  unfold smallV
  rw [Bool.and_eq_false_iff]; right
  rw [List.all_eq_false]
  refine ⟨p, List.mem_of_getElem? hp, ?_⟩
  simp; omega
theorem all_take (l : List Vr) (f : Vr → Bool) (k : Nat) (p : Vr) (hp : l[k]? = some p) : (l.take (k + 1)).all f = ((l.take k).all f && f p) := by
  rw [List.take_add_one, hp]; simp
set_option maxHeartbeats 800000 in
theorem small_c (A : Option Addr) (n c : Nat) (l : List Vr) (w : World) (hr : Vrs w w.heap.size A n l) (hn : n ≤ 9223372036854775807) (hf : FitW l) :
    Calls Tryd.prog 8 #[.slice A n c] w fun e w' => e = .returned (.bool (smallV l)) ∧ Below w.heap.size w w' := by
  have hl := Vrs.len hr
  obtain ⟨r, hR⟩ : ∃ r, smallV l = r := ⟨_, rfl⟩
  have HR := Lib.hid hR
  rw [hR]
  clear hR
  have HF := Lib.hid hf
  clear hf
  by_cases h20 : 20 < n
  · have d : decide ((20 : Int) < (n : Int)) = true := by simp; omega
    have hz : Hid (smallV l = false) := Lib.hid (by unfold smallV; rw [Bool.and_eq_false_iff]; left; simp; omega)
    go_enter Tryd.func8, Tryd.ntmps8
    go_wp2
    go_ret
    exact ⟨by rw [← HR.out, hz.out]; rfl, Below.refl _ _⟩
  · have d : decide ((20 : Int) < (n : Int)) = false := by simp; omega
    go_enter Tryd.func8, Tryd.ntmps8
    go_wp2
    clear d
    go_loopw [10] (fun v wr => ∃ k : Nat, v = .int .i64 k ∧ k ≤ n ∧ Hid ((l.take k).all (fun p => decide (p.1.size ≤ 60) && decide (p.2.size ≤ 60)) = true) ∧ Below w.heap.size w wr) (fun v _ => n - (intOf v).toNat)
    case atStart => exact ⟨0, rfl, by omega, rfl, Below.refl _ _⟩
    case round =>
      obtain ⟨k, rfl, hk, hx, hB⟩ := hrel
      have zB := hB.size
      by_cases hlt : k < n
      · obtain ⟨g, o, ⟨a, v⟩, rfl, hb, hp, q1, q2⟩ := Vrs.get (hr.below hB) hlt
        simp only at q1 q2
        have NO := Lib.hid (small_no hp)
        have ST := Lib.hid (all_take l (fun p => decide (p.1.size ≤ 60) && decide (p.2.size ≤ 60)) k _ hp)
        have fm := HF.out _ (List.mem_of_getElem? hp)
        simp only at fm
        clear hp
        by_cases ha : 60 < a.size
        · have d1 : decide ((60 : Int) < (a.size : Int)) = true := by simp; omega
          go_wp2
          go_ret
          exact ⟨by rw [← HR.out, NO.out (Or.inl ha)]; rfl, by go_grown⟩
        · have d1 : decide ((60 : Int) < (a.size : Int)) = false := by simp; omega
          by_cases hv : 60 < v.size
          · have d2 : decide ((60 : Int) < (v.size : Int)) = true := by simp; omega
            go_wp2
            go_ret
            exact ⟨by rw [← HR.out, NO.out (Or.inr hv)]; rfl, by go_grown⟩
          · have d2 : decide ((60 : Int) < (v.size : Int)) = false := by simp; omega
            go_wp2
            go_roundw
            case rel => exact ⟨k + 1, by go_num, by omega, by show _ = true; rw [ST.out, hx.out]; simp; omega, by go_grown⟩
            case measure => simp [intOf]; omega
      · obtain rfl : k = n := by omega
        have hx2 := hx.out
        rw [List.take_of_length_le (by omega)] at hx2
        have HX := Lib.hid hx2
        clear hx2
        go_wp2
        go_ret
        exact ⟨by rw [← HR.out]; unfold smallV; rw [HX.out]; refine ret_bool ?_; simp; omega, hB⟩
end MemW
end Go.Proofs.YtledgkplddeghaaDoor
