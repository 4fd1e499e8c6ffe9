/- The walk of slices.BinarySearchFunc at variables. Conditions: lists that fit, rising. -/
import Derived.Test.YtfhnocelmpnjgaaMemC
import Derived.Test.YtfhnocelmpnjgaaShelf
namespace Go.Proofs.Ytfhnocelmpnjgaa
open Go.RowKit
namespace MemW
open QuoW MemP Own
theorem cmp_c (a v nm : ByteArray) (w : World) :
    Calls Try.prog 20 #[.agg #[.string a, .string v], .string nm] w fun e w' => e = .returned (.int .i64 (Lib.compareBytes a.data.toList nm.data.toList)) ∧ Below w.heap.size w w' := by
  have c1 := fun W => Try.strings_Compare a nm W
  go_enter Try.func20, Try.ntmps20
  go_wp2_with (first | (with_reducible refine (c1 _).mono ?_; rintro e w' ⟨rfl, rfl⟩))
  go_ret
  exact ⟨rfl, by go_grown⟩
def there (l : List Vr) (nm : ByteArray) : Bool := match l[posV l nm]? with
  | some p => eq p.1 nm
  | none => false
def BsPost (l : List Vr) (nm : ByteArray) (w : World) (e : Ending) (w' : World) : Prop :=
  e = .returned (.tuple #[.int .i64 (posV l nm : Nat), .bool (there l nm)]) ∧ Below w.heap.size w w'
set_option maxHeartbeats 800000 in
theorem bs_c (A : Option Addr) (n c : Nat) (l : List Vr) (nm : ByteArray) (w : World) (hr : Vrs w w.heap.size A n l) (hn : n ≤ 1048576) (ha : Asc l) :
    Calls Try.prog 19 #[.slice A n c, .string nm, .func (.func 20) #[] #[]] w (BsPost l nm w) := by
  have hl := Vrs.len hr
  have HP := Lib.hid (fun i p hp => lt_pos (n := nm) ha (i := i) (p := p) hp)
  have hple := posV_le l nm
  rw [hl] at hple
  have HT := Lib.hid (rfl : there l nm = there l nm)
  clear ha
  go_enter Try.func19, Try.ntmps19
  go_wp2
  go_loopw [9, 10] (fun iv jv wr => ∃ i j : Nat, iv = .int .i64 i ∧ jv = .int .i64 j ∧ i ≤ posV l nm ∧ posV l nm ≤ j ∧ j ≤ n ∧ Below w.heap.size w wr) (fun iv jv _ => (intOf jv).toNat - (intOf iv).toNat)
  case atStart => exact ⟨0, n, rfl, rfl, by omega, by omega, by omega, Below.refl _ _⟩
  case round =>
    obtain ⟨i, j, rfl, rfl, hi, hj, hjn, hB⟩ := hrel
    have zB := hB.size
    by_cases hlt : i < j
    · obtain ⟨g, o, ⟨a, v⟩, rfl, hg, hp, q1, q2⟩ := Vrs.get (k := (i + j) / 2) (hr.below hB) (by omega)
      simp only at q1 q2
      have c1 := cmp_c a v nm wr
      have hh := HP.out _ _ hp
      have hc := cmp_lt a.data.toList nm.data.toList
      rw [← Lib.toList_data, ← Lib.toList_data] at hc
      rw [← Lib.toList_data, ← Lib.toList_data] at c1
      rw [show bl a.toList nm.toList = decide ((i + j) / 2 < posV l nm) from hh] at hc
      generalize Lib.compareBytes a.toList nm.toList = cv at *
      clear hh hp
      by_cases hm : (i + j) / 2 < posV l nm
      · rw [decide_eq_true hm] at hc
        go_wp2_with fail
        (with_reducible refine c1.mono ?_)
        rintro e w1 ⟨rfl, hb1⟩
        have hB1 := hB.trans (hb1.mono zB)
        clear c1
        go_wp2
        go_roundw
        case rel => exact ⟨(i + j) / 2 + 1, j, by go_num, rfl, by omega, by omega, by omega, hB1⟩
        case measure => simp [intOf]; omega
      · rw [decide_eq_false hm] at hc
        go_wp2_with fail
        (with_reducible refine c1.mono ?_)
        rintro e w1 ⟨rfl, hb1⟩
        have hB1 := hB.trans (hb1.mono zB)
        clear c1
        go_wp2
        go_roundw
        case rel => exact ⟨i, (i + j) / 2, rfl, by go_num, by omega, by omega, by omega, hB1⟩
        case measure => simp [intOf]; omega
    · have hij : i = posV l nm := by omega
      by_cases hin : i < n
      · obtain ⟨g, o, ⟨a, v⟩, rfl, hg, hp, q1, q2⟩ := Vrs.get (k := i) (hr.below hB) (by omega)
        simp only at q1 q2
        have c1 := cmp_c a v nm wr
        have hc := cmp_eq a.data.toList nm.data.toList
        have ht : there l nm = (a.data.toList == nm.data.toList) := by unfold there; rw [← hij, hp]; show eq a nm = _; unfold eq; rw [Lib.toList_data, Lib.toList_data]
        rw [← ht] at hc
        generalize Lib.compareBytes a.data.toList nm.data.toList = cv at *
        have HT := Lib.hid hij
        generalize hth : there l nm = b at *
        clear hp ht hij
        have H3 := Lib.hid hth
        clear hth
        go_wp2_with fail
        (with_reducible refine c1.mono ?_)
        rintro e w1 ⟨rfl, hb1⟩
        have hB1 := hB.trans (hb1.mono zB)
        clear c1
        go_wp2
        go_ret2
        exact ⟨by rw [H3.out, ← HT.out]; rfl, hB1⟩
      · have ht : there l nm = false := by unfold there; rw [← hij, List.getElem?_eq_none (by omega)]
        have HT := Lib.hid hij
        have H3 := Lib.hid ht
        have hlt2 : ¬ i < n := hin
        clear hij ht
        go_wp2
        go_ret2
        exact ⟨by rw [H3.out, ← HT.out]; rfl, hB⟩
end MemW
end Go.Proofs.Ytfhnocelmpnjgaa
