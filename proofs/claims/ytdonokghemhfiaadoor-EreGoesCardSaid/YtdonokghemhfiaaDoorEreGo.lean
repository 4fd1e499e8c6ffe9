/- The walk of the law EreGoes. Conditions: none. -/
import Derived.Test.YtdonokghemhfiaaDoorEreAw
import Derived.Test.YtdonokghemhfiaaDoorEreGp
namespace Go.Proofs.YtdonokghemhfiaaDoor
open Go.RowKit
namespace EreX
open EreP EreW
theorem parse_ok (s : ByteArray) (r : Re) (h : parseP s.data.toList = .ok r) (W : World) : Calls Tryd.prog 8 #[.string s] W fun x w' => Below W.heap.size W w' ∧ ∃ k0 k1 A k2 c k3 k4 k5, x = .returned (.tuple #[.agg (reC k0 k1 A k2 c k3 k4 k5).toArray, .int .i64 0, .int .i64 0]) := by
  refine (parse_c s W).mono ?_
  rintro x w' ⟨hb, ⟨r', cs, hp, rfl, hR⟩ | ⟨off, e, _, hp, rfl⟩⟩
  · obtain ⟨A, c, rfl, _, _⟩ := hR.shape
    exact ⟨hb, _, _, _, _, _, _, _, _, rfl⟩
  · rw [h] at hp; cases hp
theorem parse_er (s : ByteArray) (n e : Nat) (h : parseP s.data.toList = .error (n, e)) (W : World) : Calls Tryd.prog 8 #[.string s] W fun x w' => Below W.heap.size W w' ∧ e ≠ 0 ∧ x = .returned (.tuple #[.agg ([.int .i64 0, .int .u64 0, .int .u64 0, .int .u64 0, .int .u64 0, .slice none 0 0, .int .i64 0, .int .i64 0, .int .i64 0] : List Value).toArray, .int .i64 n, .int .i64 e]) := by
  refine (parse_c s W).mono ?_
  rintro x w' ⟨hb, ⟨r', cs, hp, rfl, hR⟩ | ⟨off, e', h0, hp, rfl⟩⟩
  · rw [h] at hp; cases hp
  · rw [h] at hp
    injection hp with hp
    injection hp with h1 h2
    subst h1 h2
    exact ⟨hb, h0, rfl⟩
set_option maxHeartbeats 3200000 in
set_option maxRecDepth 100000 in
theorem goes_c (s more : ByteArray) (w : World) :
    Calls Tryd.prog 4 #[.string s, .string more] w fun x w' => x = .returned (.bool true) ∧ Below w.heap.size w w' := by
  have cw := awake_c w
  by_cases hs : 100 < s.size
  · have d1 : decide ((100 : Int) < (s.size : Int)) = true := by simp; omega
    go_enter Tryd.func4, Tryd.ntmps4
    go_wp2_with fail
    (with_reducible refine cw.mono ?_)
    rintro e w1 ⟨rfl, b1⟩
    go_wp2
    go_ret
    exact ⟨rfl, b1⟩
  have d1 : decide ((100 : Int) < (s.size : Int)) = false := by simp; omega
  by_cases hm : 40 < more.size
  · have d2 : decide ((40 : Int) < (more.size : Int)) = true := by simp; omega
    go_enter Tryd.func4, Tryd.ntmps4
    go_wp2_with fail
    (with_reducible refine cw.mono ?_)
    rintro e w1 ⟨rfl, b1⟩
    go_wp2
    go_ret
    exact ⟨rfl, b1⟩
  have d2 : decide ((40 : Int) < (more.size : Int)) = false := by simp; omega
  rcases parse_goes s.data.toList more.data.toList (by rw [← Lib.size_eq]; omega) (by rw [← Lib.size_eq]; omega) with ⟨r, h⟩ | h | ⟨n, e, hn, h1, h2, h3⟩
  · have cp := fun W => parse_ok s r h W
    clear h hs hm
    go_enter Tryd.func4, Tryd.ntmps4
    go_wp2_with fail
    (with_reducible refine cw.mono ?_)
    rintro e w1 ⟨rfl, b1⟩
    go_wp2_with fail
    (with_reducible refine (cp _).mono ?_)
    rintro e w2 ⟨b2, k0, k1, A, k2, c, k3, k4, k5, rfl⟩
    have B2 := via b2 b1
    clear cp cw b1 b2
    go_wp2
    go_ret
    exact ⟨rfl, by first | exact B2.alloc B2.size _ | exact B4.alloc B4.size _⟩
  · rw [← Lib.size_eq] at h
    have cp := fun W => parse_er s _ _ h W
    have d3 : decide ((s.size : Int) ≤ (s.size : Int)) = true := by simp
    have d4 : ((s.size : Int) == (s.size : Int)) = true := by simp
    clear h hs hm
    go_enter Tryd.func4, Tryd.ntmps4
    go_wp2_with fail
    (with_reducible refine cw.mono ?_)
    rintro e w1 ⟨rfl, b1⟩
    go_wp2_with fail
    (with_reducible refine (cp _).mono ?_)
    rintro e w2 ⟨b2, _, rfl⟩
    have B2 := via b2 b1
    rw [show ((1 : Nat) : Int) = 1 from rfl]
    clear cp cw b1 b2
    go_wp2
    go_ret
    exact ⟨rfl, by first | exact B2.alloc B2.size _ | exact B4.alloc B4.size _⟩
  · rw [← Lib.size_eq] at hn
    have cp1 := fun W => parse_er s n e h1 W
    have cp2 := fun W => parse_er (s ++ more) n e (by rw [ByteArray.data_append, Array.toList_append]; exact h2) W
    have cp3 := fun W => parse_er (s.extract 0 (n + 1)) n e (by rw [ByteArray.data_extract, Array.toList_extract]; simpa [List.extract] using h3) W
    have d3 : decide ((s.size : Int) ≤ (n : Int)) = false := by simp; omega
    have d4 : ((n : Int) == (n : Int)) = true := by simp
    have d5 : ((e : Int) == (e : Int)) = true := by simp
    clear h1 h2 h3
    go_enter Tryd.func4, Tryd.ntmps4
    go_wp2_with fail
    (with_reducible refine cw.mono ?_)
    rintro x w1 ⟨rfl, b1⟩
    go_wp2_with fail
    (with_reducible refine (cp1 _).mono ?_)
    rintro x w2 ⟨b2, he, rfl⟩
    have d6 : ((e : Int) == 0) = false := by simp; omega
    have B2 := (via b2 b1).alloc (via b2 b1).size (.cells #[.int .i64 0, .int .u64 0, .int .u64 0, .int .u64 0, .int .u64 0, .slice none 0 0, .int .i64 0, .int .i64 0, .int .i64 0] 28)
    clear cp1 cw b1 b2
    go_wp2_with fail
    (with_reducible refine (cp2 _).mono ?_)
    rintro x w3 ⟨b3, _, rfl⟩
    have B3 := (via b3 B2).alloc (via b3 B2).size (.cells #[.int .i64 0, .int .u64 0, .int .u64 0, .int .u64 0, .int .u64 0, .slice none 0 0, .int .i64 0, .int .i64 0, .int .i64 0] 28)
    clear cp2 b3 B2
    go_wp2_with fail
    (with_reducible refine (cp3 _).mono ?_)
    rintro x w4 ⟨b4, _, rfl⟩
    have B4 := (via b4 B3)
    clear cp3 b4 B3
    go_wp2
    go_ret
    exact ⟨rfl, by first | exact B2.alloc B2.size _ | exact B4.alloc B4.size _⟩
end EreX
end Go.Proofs.YtdonokghemhfiaaDoor
