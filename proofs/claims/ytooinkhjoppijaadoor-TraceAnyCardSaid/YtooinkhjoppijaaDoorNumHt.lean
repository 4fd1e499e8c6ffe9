/- The walks of num.Parse. Conditions: a text that fits; the tables of strconv. -/
import Derived.Test.YtooinkhjoppijaaDoorNumFt
import Derived.Test.YtooinkhjoppijaaDoorShelf
import Derived.WalkSmall
import Derived.Lib.AppendIntMem
namespace Go.Proofs.YtooinkhjoppijaaDoor
set_option linter.unusedVariables false
set_option linter.unusedSimpArgs false
open Go.RowKit
namespace NumW
open NumP
/-- What the walks ask of the world: the tables' cells. -/
structure Rdy (w : World) : Prop where
  tab : Lib.TabIs Tryd.prog w "internal/strconv.uint64pow10" .u64 Lib.pow10Tab
  err : ∃ tp p, w.var? Tryd.prog "strconv.ErrRange" = some #[.iface tp p]
  room : 1 < w.heap.size ∧ 3 < w.heap.size
theorem Rdy.below {w w' : World} (h : Rdy w) (hb : Below w.heap.size w w') : Rdy w' := by
  have r := h.room
  obtain ⟨tp, p, he⟩ := h.err
  exact ⟨var?_below hb (show Tryd.prog.globalNamed "internal/strconv.uint64pow10" = some 1 by kernel_rfl) r.1 h.tab, ⟨tp, p, var?_below hb (show Tryd.prog.globalNamed "strconv.ErrRange" = some 3 by kernel_rfl) r.2 he⟩, Nat.lt_of_lt_of_le r.1 hb.size, Nat.lt_of_lt_of_le r.2 hb.size⟩
def pr (l : List UInt8) : Value := if formB l = true then res (pv l) else .tuple #[.int .i64 0, .int .i64 1]
set_option maxHeartbeats 400000 in
theorem parse_c (s : ByteArray) (w : World) (hs : s.size ≤ 281474976710656) (hw : Rdy w) : Calls Tryd.prog 40 #[.string s] w fun e w' => e = .returned (pr s.data.toList) ∧ Below w.heap.size w w' := by
  have cf := fun W => form_c s W (by omega)
  by_cases hf : formB s.data.toList = true
  · have hp := parseIntB_form hf
    rw [pr, if_pos hf]
    rw [hf] at cf
    by_cases hv : -9223372036854775808 ≤ pv s.data.toList ∧ pv s.data.toList ≤ 9223372036854775807
    · rw [if_pos hv] at hp
      rw [res_in hv]
      have cp := fun W => Tryd.strconv_ParseInt_10_at64_ok s (by omega) _ hp W
      generalize pv s.data.toList = v at *
      clear hp hf
      go_enter Tryd.func40, Tryd.ntmps40
      go_wp2_with fail
      (with_reducible refine (cf _).mono ?_)
      rintro e w' ⟨rfl, rfl⟩
      go_wp2_with fail
      (with_reducible refine (cp _).mono ?_)
      rintro e w' ⟨rfl, hw'⟩
      have hb : Below w.heap.size w w' := by
        rcases hw' with rfl | ⟨t, rfl⟩
        · exact Below.refl _ _
        · exact Lib.bytesWorld_below _ _ _
      go_wp2_with fail
      go_ret2
      exact ⟨rfl, hb⟩
    · rw [if_neg hv] at hp
      rw [res_out hv]
      obtain ⟨tp, p, he⟩ := hw.err
      have cp := Tryd.strconv_ParseInt_10_at64_range_var s hs hp tp p w he
      generalize Lib.intSat 64 s.data.toList = v at *
      clear hp hf hv
      go_enter Tryd.func40, Tryd.ntmps40
      go_wp2_with fail
      (with_reducible refine (cf _).mono ?_)
      rintro e w' ⟨rfl, rfl⟩
      go_wp2_with fail
      (with_reducible refine cp.mono ?_)
      rintro e w' ⟨N, rfl, _, _, hb⟩
      go_wp2_with fail
      go_ret2
      exact ⟨rfl, hb⟩
  · rw [pr, if_neg hf]
    rw [Bool.not_eq_true] at hf
    rw [hf] at cf
    go_enter Tryd.func40, Tryd.ntmps40
    go_wp2_with fail
    (with_reducible refine (cf _).mono ?_)
    rintro e w' ⟨rfl, rfl⟩
    go_wp2_with fail
    go_ret2
    exact ⟨rfl, Below.refl _ _⟩
end NumW
end Go.Proofs.YtooinkhjoppijaaDoor
