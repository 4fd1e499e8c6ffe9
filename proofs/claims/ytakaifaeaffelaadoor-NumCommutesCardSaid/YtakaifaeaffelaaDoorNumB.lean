/- The walks of the laws on products and on order. Conditions: numbers of 64 bits; the tables of strconv. -/
import Derived.Test.YtakaifaeaffelaaDoorNumA
namespace Go.Proofs.YtakaifaeaffelaaDoor
open Go.RowKit
namespace NumW
open NumP
theorem rdiv0_c (a : Int) (w : World) : Calls Tryd.prog 23 #[.int .i64 a, .int .i64 0] w fun e w' => e = .returned (.tuple #[.int .i64 0, .int .i64 0, .int .i64 4]) ∧ w = w' := by
  go_enter Tryd.func23, Tryd.ntmps23
  go_wp2_with fail
  go_returns
  exact ⟨rfl, rfl⟩
section
variable (a b : Int) (w : World) (a0 : -9223372036854775808 ≤ a) (a1 : a ≤ 9223372036854775807) (b0 : -9223372036854775808 ≤ b) (b1 : b ≤ 9223372036854775807) (hw : Rdy w)
include a0 a1 b0 b1 hw
set_option maxHeartbeats 1600000 in
theorem commutes_c : Calls Tryd.prog 7 #[.int .i64 a, .int .i64 b] w fun e w' => e = .returned (.bool true) ∧ Below w.heap.size w w' := by
  have cw := awake_c w hw
  have c1 := fun W => add_c a b W a0 a1 b0 b1
  have c2 := fun W => add_c b a W b0 b1 a0 a1
  have c3 := fun W => mul_c a b W a0 a1 b0 b1
  have c4 := fun W => mul_c b a W b0 b1 a0 a1
  have c5 := fun W => mul_c a 0 W a0 a1 (by omega) (by omega)
  have c6 := fun W => mul_c 1 a W (by omega) (by omega) a0 a1
  have c7 := fun W => mul_c a (-1) W a0 a1 (by omega) (by omega)
  have c8 := fun W => neg_c a W a0 a1
  rw [Int.add_comm b a] at c2
  rw [Int.mul_comm b a] at c4
  rw [Int.mul_zero, res_in (n := 0) (by omega)] at c5
  rw [Int.one_mul, res_in (n := a) ⟨a0, a1⟩] at c6
  rw [show a * (-1) = -a by omega] at c7
  generalize h1 : res (a + b) = r1 at *
  generalize h2 : res (a * b) = r2 at *
  generalize h3 : res (-a) = r3 at *
  have g1 := res_code h1
  have g2 := res_code h2
  have g3 := res_code h3
  clear h1 h2 h3
  obtain ⟨p1, q1, rfl, z1, y1⟩ := g1
  obtain ⟨p2, q2, rfl, z2, y2⟩ := g2
  obtain ⟨p3, q3, rfl, z3, y3⟩ := g3
  go_enter Tryd.func7, Tryd.ntmps7
  go_wp2_with fail
  (with_reducible refine cw.mono ?_)
  rintro e w1 ⟨rfl, hb⟩
  go_wp2_with (first
    | (with_reducible refine (c1 _).mono ?_; rintro e w' ⟨rfl, rfl⟩)
    | (with_reducible refine (c2 _).mono ?_; rintro e w' ⟨rfl, rfl⟩)
    | (with_reducible refine (c3 _).mono ?_; rintro e w' ⟨rfl, rfl⟩)
    | (with_reducible refine (c4 _).mono ?_; rintro e w' ⟨rfl, rfl⟩)
    | (with_reducible refine (c5 _).mono ?_; rintro e w' ⟨rfl, rfl⟩)
    | (with_reducible refine (c6 _).mono ?_; rintro e w' ⟨rfl, rfl⟩)
    | (with_reducible refine (c7 _).mono ?_; rintro e w' ⟨rfl, rfl⟩)
    | (with_reducible refine (c8 _).mono ?_; rintro e w' ⟨rfl, rfl⟩))
  go_ret
  exact ⟨rfl, hb⟩
set_option maxHeartbeats 1600000 in
theorem times_n (h0 : b ≠ 0) : Calls Tryd.prog 6 #[.int .i64 a, .int .i64 b] w fun e w' => e = .returned (.bool true) ∧ Below w.heap.size w w' := by
  have cw := awake_c w hw
  have c1 := fun W => mul_c a b W a0 a1 b0 b1
  have c2 := fun W => div_c a b W a0 a1 b0 b1 h0
  have c3 := fun W => mod_c a b W a0 a1 b0 b1 h0
  have c4 := fun W => rmul_c a b W a0 a1 b0 b1
  have g2 := res_code (n := a.fdiv b) rfl
  obtain ⟨p2, q2, h2, z2, y2⟩ := g2
  have c5 : ∀ W, Calls Tryd.prog 23 #[.int .i64 a, .int .i64 b] W fun e w' => e = .returned (.tuple #[.int .i64 p2, .int .i64 (a.fmod b), .int .i64 q2]) ∧ W = w' := fun W => by
    refine (rdiv_c a b W a0 a1 b0 b1 h0).mono ?_
    rintro e w' ⟨⟨n, k, rfl, hn⟩, rfl⟩
    rw [h2] at hn
    simp only [Value.tuple.injEq, Array.mk.injEq, List.cons.injEq, Value.int.injEq, true_and, and_true] at hn
    obtain ⟨rfl, rfl⟩ := hn
    exact ⟨rfl, rfl⟩
  rw [h2] at c2
  generalize h1 : res (a * b) = r1 at *
  have g1 := res_code h1
  clear h1 h2
  obtain ⟨p1, q1, rfl, z1, y1⟩ := g1
  generalize a.fmod b = m at *
  have d : (b == 0) = false := by rw [beq_eq_false_iff_ne]; exact h0
  have d2 : (b != 0) = true := by rw [bne_iff_ne]; exact h0
  go_enter Tryd.func6, Tryd.ntmps6
  go_wp2_with fail
  (with_reducible refine cw.mono ?_)
  rintro e w1 ⟨rfl, hb⟩
  go_wp2_with (first
    | (with_reducible refine (c1 _).mono ?_; rintro e w' ⟨rfl, rfl⟩)
    | (with_reducible refine (c2 _).mono ?_; rintro e w' ⟨rfl, rfl⟩)
    | (with_reducible refine (c3 _).mono ?_; rintro e w' ⟨rfl, rfl⟩)
    | (with_reducible refine (c4 _).mono ?_; rintro e w' ⟨rfl, rfl⟩)
    | (with_reducible refine (c5 _).mono ?_; rintro e w' ⟨rfl, rfl⟩))
  go_ret
  exact ⟨rfl, hb⟩
omit b0 b1 in
set_option maxHeartbeats 1600000 in
theorem times_z (hz : b = 0) : Calls Tryd.prog 6 #[.int .i64 a, .int .i64 b] w fun e w' => e = .returned (.bool true) ∧ Below w.heap.size w w' := by
  subst hz
  have cw := awake_c w hw
  have c1 := fun W => mul_c a 0 W a0 a1 (by omega) (by omega)
  have c2 := fun W => div0_c a W
  have c3 := fun W => mod0_c a W
  have c4 := fun W => rmul_c a 0 W a0 a1 (by omega) (by omega)
  have c5 := fun W => rdiv0_c a W
  rw [Int.mul_zero, res_in (n := 0) (by omega)] at c1 c4
  go_enter Tryd.func6, Tryd.ntmps6
  go_wp2_with fail
  (with_reducible refine cw.mono ?_)
  rintro e w1 ⟨rfl, hb⟩
  go_wp2_with (first
    | (with_reducible refine (c1 _).mono ?_; rintro e w' ⟨rfl, rfl⟩)
    | (with_reducible refine (c2 _).mono ?_; rintro e w' ⟨rfl, rfl⟩)
    | (with_reducible refine (c3 _).mono ?_; rintro e w' ⟨rfl, rfl⟩)
    | (with_reducible refine (c4 _).mono ?_; rintro e w' ⟨rfl, rfl⟩)
    | (with_reducible refine (c5 _).mono ?_; rintro e w' ⟨rfl, rfl⟩))
  go_ret
  exact ⟨rfl, hb⟩
theorem times_c : Calls Tryd.prog 6 #[.int .i64 a, .int .i64 b] w fun e w' => e = .returned (.bool true) ∧ Below w.heap.size w w' := by
  by_cases h : b = 0
  · exact times_z a b w a0 a1 hw h
  · exact times_n a b w a0 a1 b0 b1 hw h
end
end NumW
end Go.Proofs.YtakaifaeaffelaaDoor
