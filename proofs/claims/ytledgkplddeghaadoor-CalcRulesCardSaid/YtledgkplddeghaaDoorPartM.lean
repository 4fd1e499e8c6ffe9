/- The walks of quote.May and of its reference. Conditions: texts that fit. -/
import Derived.Test.YtledgkplddeghaaDoorNam
namespace Go.Proofs.YtledgkplddeghaaDoor
set_option linter.unusedVariables false
set_option linter.unusedSimpArgs false
open Go.RowKit
namespace QuoW
open QuoP
/-- A part's cells; the parts' cells, one behind the other. -/
def ba (l : Bs) : ByteArray := ⟨l.toArray⟩
theorem ba_list (l : Bs) : (ba l).data.toList = l := by simp [ba]
theorem ba_size (l : Bs) : (ba l).size = l.length := by rw [Lib.size_eq, ba_list]
theorem ba_of (x : ByteArray) : ba x.data.toList = x := bytes_ext (ba_list _)
def pcells (p : Pt) : List Value := [.string (ba p.1), .string (ba p.2)]
def cells (l : List Pt) : List Value := l.flatMap pcells
theorem cells_len : ∀ l : List Pt, (cells l).length = l.length * 2 := by
  intro l; induction l with
  | nil => rfl
  | cons p l ih => rw [cells, List.flatMap_cons, List.length_append]; rw [cells] at ih; rw [ih]; simp [pcells]; omega
theorem cells_at : ∀ (l : List Pt) (k : Nat) (p : Pt), l[k]? = some p → (cells l)[k * 2]? = some (.string (ba p.1)) ∧ (cells l)[k * 2 + 1]? = some (.string (ba p.2)) := by
  intro l
  induction l with
  | nil => intro k p h; cases h
  | cons q l ih =>
    intro k p h
    cases k with
    | zero => simp at h; subst h; exact ⟨rfl, rfl⟩
    | succ k =>
      rw [List.getElem?_cons_succ] at h
      obtain ⟨h1, h2⟩ := ih k p h
      have e : cells (q :: l) = .string (ba q.1) :: .string (ba q.2) :: cells l := rfl
      rw [e, show (k + 1) * 2 = k * 2 + 1 + 1 by omega]
      exact ⟨by simpa using h1, by simpa using h2⟩
/-- A slice of parts. -/
abbrev Pts (w : World) (B : Nat) (A : Option Addr) (n : Nat) (l : List Pt) : Prop := Rd w B 2 A n (cells l)
theorem Pts.len {w : World} {B n : Nat} {A : Option Addr} {l : List Pt} (h : Pts w B A n l) : l.length = n := by
  have := h.1; rw [cells_len] at this; omega
theorem Pts.get {w : World} {B n k : Nat} {A : Option Addr} {l : List Pt} (h : Pts w B A n l) (hk : k < n) : ∃ g o p, A = some ⟨g, o, none⟩ ∧ g < B ∧ l[k]? = some p ∧ w.cell? ⟨g, o + k * 2, none⟩ = some (.string (ba p.1)) ∧ w.cell? ⟨g, o + k * 2 + 1, none⟩ = some (.string (ba p.2)) := by
  obtain ⟨g, o, e, hb, hc⟩ := Rd.flat h (by omega) (by omega)
  have hl := Pts.len h
  have hp : l[k]? = some (l[k]'(by omega)) := List.getElem?_eq_getElem (by omega)
  obtain ⟨h1, h2⟩ := cells_at l k _ hp
  exact ⟨g, o, _, e, hb, hp, hc _ _ h1, hc _ _ h2⟩
/-- Texts that fit. -/
def FitP (l : List Pt) : Prop := ∀ p ∈ l, p.1.length ≤ 4611686018427387904 ∧ p.2.length ≤ 4611686018427387904
theorem ba_empty (l : Bs) : (ba l).toList.isEmpty = l.isEmpty := by rw [Lib.toList_data, ba_list]
theorem mst_none (l : List Pt) : l.foldl mstep none = none := by induction l with | nil => rfl | cons _ _ ih => exact ih
theorem mst_take (l : List Pt) (k : Nat) (p : Pt) (h : l[k]? = some p) : (l.take (k + 1)).foldl mstep (some false) = mstep ((l.take k).foldl mstep (some false)) p := by
  rw [List.take_add_one, h, List.foldl_append]; rfl
theorem mst_bad (l : List Pt) (k : Nat) (h : (l.take k).foldl mstep (some false) = none) : mayB l = false := by
  rw [mayB, mst, ← List.take_append_drop k l, List.foldl_append, h, mst_none]; rfl
theorem mst_all (l : List Pt) (x : Bool) (k : Nat) (hk : l.length ≤ k) (h : (l.take k).foldl mstep (some false) = some x) : mayB l = true := by
  rw [List.take_of_length_le hk] at h; rw [mayB, mst, h]; rfl
theorem ms_none {n t : Bs} {x : Bool} (h : n.isEmpty = true) (h2 : (t.isEmpty || x) = true) : mstep (some x) (n, t) = none := by
  rw [List.isEmpty_iff] at h; subst h
  simp only [Bool.or_eq_true, List.isEmpty_iff] at h2
  simp only [mstep]; simp [h2]
theorem ms_text {n t : Bs} (h : n.isEmpty = true) (h2 : t.isEmpty = false) : mstep (some false) (n, t) = some true := by
  rw [List.isEmpty_iff] at h; subst h
  have : t ≠ [] := by intro e; subst e; cases h2
  simp [mstep, this]
theorem ms_bad {n t : Bs} {x : Bool} (h : n.isEmpty = false) (h2 : (!t.isEmpty || !nameB n) = true) : mstep (some x) (n, t) = none := by
  have h' : n ≠ [] := by intro e; subst e; cases h
  simp only [mstep, if_neg h']
  rw [if_pos]
  simpa using h2
theorem ms_var {n t : Bs} {x : Bool} (h : n.isEmpty = false) (h2 : t.isEmpty = true) (h3 : nameB n = true) : mstep (some x) (n, t) = some false := by
  have h' : n ≠ [] := by intro e; subst e; cases h
  rw [List.isEmpty_iff] at h2; subst h2
  simp [mstep, h', h3]
set_option maxHeartbeats 1600000 in
theorem may_c (A : Option Addr) (n c : Nat) (l : List Pt) (w : World) (hr : Pts w w.heap.size A n l) (hf : FitP l) (hn : n ≤ 4611686018427387904) :
    Calls Tryd.prog 24 #[.slice A n c] w fun e w' => e = .returned (.bool (mayB l)) ∧ Below w.heap.size w w' := by
  have hl := Pts.len hr
  obtain ⟨r, hR⟩ : ∃ r, mayB l = r := ⟨_, rfl⟩
  have HR := Lib.hid hR
  rw [hR]
  clear hR
  have HF := Lib.hid hf
  clear hf
  go_enter Tryd.func24, Tryd.ntmps24
  go_wp2
  go_loopw [8, 3] (fun v b wr => ∃ (k : Nat) (x : Bool), v = .int .i64 k ∧ k ≤ n ∧ b = .bool x ∧ Hid ((l.take k).foldl mstep (some false) = some x) ∧ Below w.heap.size w wr) (fun v _ _ => n - (intOf v).toNat)
  case atStart => exact ⟨0, false, rfl, by omega, rfl, rfl, Below.refl _ _⟩
  case round =>
    obtain ⟨k, x, rfl, hk, rfl, hx, hB⟩ := hrel
    have zB := hB.size
    by_cases hlt : k < n
    · obtain ⟨g, o, ⟨nm, tx⟩, rfl, hb, hp, q1, q2⟩ := Pts.get (hr.below hB) hlt
      have MS := Lib.hid (mst_take l k _ hp)
      have fm := (HF.out _ (List.mem_of_getElem? hp)).1
      simp only at q1 q2 fm
      have en := ba_empty nm
      have et := ba_empty tx
      have cn := fun W => name_c (ba nm) W (by rw [ba_size]; exact fm)
      rw [ba_list] at cn
      generalize ba nm = bn at *
      generalize ba tx = bt at *
      cases h1 : nm.isEmpty <;> rw [h1] at en
      · by_cases h2 : (!tx.isEmpty || !nameB nm) = true
        · have HB := Lib.hid (mst_bad l (k + 1) (by rw [MS.out, hx.out, ms_bad h1 h2]))
          cases ht : tx.isEmpty <;> rw [ht] at et h2
          · go_wp2
            go_ret
            refine ⟨by rw [← HR.out, HB.out]; rfl, by go_grown⟩
          · have h3 : nameB nm = false := by simpa using h2
            rw [h3] at cn
            go_wp2_with (first | (with_reducible refine (cn _).mono ?_; rintro e w' ⟨rfl, rfl⟩))
            go_ret
            refine ⟨by rw [← HR.out, HB.out]; rfl, by go_grown⟩
        · have h3 : tx.isEmpty = true ∧ nameB nm = true := by simpa using h2
          obtain ⟨ht, h3⟩ := h3
          have HG := Lib.hid (ms_var (x := x) h1 ht h3)
          rw [ht] at et
          rw [h3] at cn
          go_wp2_with (first | (with_reducible refine (cn _).mono ?_; rintro e w' ⟨rfl, rfl⟩))
          go_roundw
          case rel => exact ⟨k + 1, false, by go_num, by omega, rfl, by show _ = _; rw [MS.out, hx.out, HG.out], by go_grown⟩
          case measure => simp [intOf]; omega
      · by_cases h2 : (tx.isEmpty || x) = true
        · have HB := Lib.hid (mst_bad l (k + 1) (by rw [MS.out, hx.out, ms_none h1 h2]))
          cases ht : tx.isEmpty <;> rw [ht] at et h2
          · obtain rfl : x = true := by simpa using h2
            go_wp2
            go_ret
            refine ⟨by rw [← HR.out, HB.out]; rfl, by go_grown⟩
          · go_wp2
            go_ret
            refine ⟨by rw [← HR.out, HB.out]; rfl, by go_grown⟩
        · have h3 : tx.isEmpty = false ∧ x = false := by simpa using h2
          obtain ⟨ht, rfl⟩ := h3
          have HG := Lib.hid (ms_text h1 ht)
          rw [ht] at et
          go_wp2
          go_roundw
          case rel => exact ⟨k + 1, true, by go_num, by omega, rfl, by show _ = _; rw [MS.out, hx.out, HG.out], by go_grown⟩
          case measure => simp [intOf]; omega
    · obtain rfl : k = n := by omega
      have HA := Lib.hid (mst_all l x _ (by omega) hx.out)
      go_wp2
      go_ret
      exact ⟨by rw [← HR.out, HA.out]; rfl, hB⟩
end QuoW
end Go.Proofs.YtledgkplddeghaaDoor
