/- The walk of awake, and the laws on sums. Conditions: numbers of 64 bits; the tables of strconv. -/
import Derived.Test.YtakaifaeaffelaaDoorNumI
namespace Go.Proofs.YtakaifaeaffelaaDoor
open Go.RowKit
namespace NumW
open NumP
theorem res_code {n : Int} {r : Value} (h : res n = r) : ∃ p q : Int, r = .tuple #[.int .i64 p, .int .i64 q] ∧ 0 ≤ q ∧ q ≤ 3 := by
  subst h; unfold res; split
  · exact ⟨_, _, rfl, by omega, by omega⟩
  · exact ⟨_, _, rfl, by omega, by omega⟩
theorem pr_m12 : pr (⟨#[45, 49, 50]⟩ : ByteArray).data.toList = .tuple #[.int .i64 (-12), .int .i64 0] := by
  rw [pr, if_pos (by decide), show pv (⟨#[45, 49, 50]⟩ : ByteArray).data.toList = -12 by decide, res_in (by omega)]
theorem itoa_m12 : (⟨(Lib.itoa (-12)).toArray⟩ : ByteArray) = ⟨#[45, 49, 50]⟩ := by
  have : Lib.itoa (-12) = [45, 49, 50] := by
    rw [Lib.itoa, if_pos (by omega), show Int.natAbs (-12) = 12 from rfl, dec_split, if_neg (by omega), dec_split, if_pos (by omega)]; rfl
  rw [this]
set_option maxHeartbeats 800000 in
theorem awake_c (w : World) (hw : Rdy w) : Calls Tryd.prog 8 #[] w fun e w' => e = .returned (.bool true) ∧ Below w.heap.size w w' := by
  have cd := fun W => div_c (-7) 2 W (by omega) (by omega) (by omega) (by omega) (by omega)
  have cm := fun W => mod_c (-7) 2 W (by omega) (by omega) (by omega) (by omega) (by omega)
  have hd : res (Int.fdiv (-7) 2) = .tuple #[.int .i64 (-4), .int .i64 0] := by rw [show Int.fdiv (-7) 2 = -4 by decide, res_in (by omega)]
  have hm : Int.fmod (-7) 2 = 1 := by decide
  simp only [hd, hm] at cd cm
  have cp := parse_c ⟨#[45, 49, 50]⟩ w (by decide) hw
  rw [pr_m12] at cp
  have ct := fun W hW => print_c (-12) W (by omega) (by omega) hW
  simp only [itoa_m12] at ct
  clear hd hm
  go_enter Tryd.func8, Tryd.ntmps8
  go_wp2_with fail
  (with_reducible refine (cd _).mono ?_)
  rintro e w' ⟨rfl, rfl⟩
  go_wp2_with fail
  (with_reducible refine (cm _).mono ?_)
  rintro e w' ⟨rfl, rfl⟩
  go_wp2_with fail
  (with_reducible refine cp.mono ?_)
  rintro e w1 ⟨rfl, hb⟩
  go_wp2_with fail
  (with_reducible refine (ct _ (hw.below hb)).mono ?_)
  rintro e w2 ⟨rfl, hb2⟩
  go_wp2_with fail
  go_ret
  exact ⟨rfl, via (a := w) hb2 hb⟩
section
variable (a b : Int) (w : World) (a0 : -9223372036854775808 ≤ a) (a1 : a ≤ 9223372036854775807) (b0 : -9223372036854775808 ≤ b) (b1 : b ≤ 9223372036854775807) (hw : Rdy w)
include a0 a1 b0 b1 hw
set_option maxHeartbeats 800000 in
theorem sums_c : Calls Tryd.prog 4 #[.int .i64 a, .int .i64 b] w fun e w' => e = .returned (.bool true) ∧ Below w.heap.size w w' := by
  have cw := awake_c w hw
  have c1 := fun W => add_c a b W a0 a1 b0 b1
  have c2 := fun W => sub_c a b W a0 a1 b0 b1
  have c3 := fun W => neg_c a W a0 a1
  have c4 := fun W => radd_c a b W a0 a1 b0 b1
  have c5 := fun W => rsub_c a b W a0 a1 b0 b1
  have c6 := fun W => rneg_c a W a0 a1
  generalize h1 : res (a + b) = r1 at *
  generalize h2 : res (a - b) = r2 at *
  generalize h3 : res (-a) = r3 at *
  have g1 := res_code h1
  have g2 := res_code h2
  have g3 := res_code h3
  clear h1 h2 h3
  obtain ⟨p1, q1, rfl, z1, y1⟩ := g1
  obtain ⟨p2, q2, rfl, z2, y2⟩ := g2
  obtain ⟨p3, q3, rfl, z3, y3⟩ := g3
  go_enter Tryd.func4, Tryd.ntmps4
  go_wp2_with fail
  (with_reducible refine cw.mono ?_)
  rintro e w1 ⟨rfl, hb⟩
  go_wp2_with (first
    | (with_reducible refine (c1 _).mono ?_; rintro e w' ⟨rfl, rfl⟩)
    | (with_reducible refine (c2 _).mono ?_; rintro e w' ⟨rfl, rfl⟩)
    | (with_reducible refine (c3 _).mono ?_; rintro e w' ⟨rfl, rfl⟩)
    | (with_reducible refine (c4 _).mono ?_; rintro e w' ⟨rfl, rfl⟩)
    | (with_reducible refine (c5 _).mono ?_; rintro e w' ⟨rfl, rfl⟩)
    | (with_reducible refine (c6 _).mono ?_; rintro e w' ⟨rfl, rfl⟩))
  go_ret
  exact ⟨rfl, hb⟩
end
end NumW
end Go.Proofs.YtakaifaeaffelaaDoor
