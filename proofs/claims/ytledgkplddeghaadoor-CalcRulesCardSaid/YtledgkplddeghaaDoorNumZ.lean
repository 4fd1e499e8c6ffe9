/- The walks of the reference's quotient and product. Conditions: numbers of 64 bits. -/
import Derived.Test.YtledgkplddeghaaDoorNumY
namespace Go.Proofs.YtledgkplddeghaaDoor
set_option linter.unusedVariables false
set_option linter.unusedSimpArgs false
open Go.RowKit
namespace NumW
open NumP
theorem res3 {n : Int} {r : Value} (h : res n = r) : ∃ p q : Int, r = .tuple #[.int .i64 p, .int .i64 q] ∧ (-9223372036854775808 ≤ n → n ≤ 9223372036854775807 → p = n ∧ q = 0) := by
  subst h; unfold res
  split
  · exact ⟨n, 0, rfl, fun _ _ => ⟨rfl, rfl⟩⟩
  · rename_i h
    exact ⟨0, 3, rfl, fun h1 h2 => absurd ⟨h1, h2⟩ h⟩
section
variable (a b : Int) (w : World) (a0 : -9223372036854775808 ≤ a) (a1 : a ≤ 9223372036854775807) (b0 : -9223372036854775808 ≤ b) (b1 : b ≤ 9223372036854775807)
/-- The quotient, what is left, and the error. -/
def RDiv (a b : Int) (e : Ending) : Prop := ∃ n k : Int, e = .returned (.tuple #[.int .i64 n, .int .i64 (a.fmod b), .int .i64 k]) ∧ res (a.fdiv b) = .tuple #[.int .i64 n, .int .i64 k]
def RDivPost (a b : Int) (w : World) (e : Ending) (w' : World) : Prop := RDiv a b e ∧ w = w'
theorem rdiv_mk {a b n k f m : Int} (w : World) (hf : a.fdiv b = f) (hm : a.fmod b = m) (h : res f = .tuple #[.int .i64 n, .int .i64 k]) : RDivPost a b w (.returned (.tuple #[.int .i64 n, .int .i64 m, .int .i64 k])) w :=
  ⟨⟨n, k, by rw [hm], by rw [hf]; exact h⟩, rfl⟩
include a0 a1 b0 b1
set_option maxHeartbeats 1600000 in
theorem rdiv_c (h0 : b ≠ 0) : Calls Tryd.prog 57 #[.int .i64 a, .int .i64 b] w (RDivPost a b w) := by
  have cx := fun W => mag_c a W a0 a1
  have cy := fun W => mag_c b W b0 b1
  have e0 : (b == 0) = false := by simpa using h0
  obtain ⟨q, hq⟩ : ∃ q, ((a.natAbs / b.natAbs : Nat) : Int) = q := ⟨_, rfl⟩
  obtain ⟨r, hr⟩ : ∃ r, ((a.natAbs % b.natAbs : Nat) : Int) = r := ⟨_, rfl⟩
  obtain ⟨f1, f2, f3⟩ := floor_sizes a b h0 q r hq hr
  have r0 : 0 ≤ r ∧ r < b.natAbs := by
    have := Nat.mod_lt a.natAbs (show 0 < b.natAbs by omega)
    rw [← hr]
    exact ⟨Int.natCast_nonneg _, Int.ofNat_lt.2 this⟩
  have q0 : 0 ≤ q ∧ q ≤ a.natAbs := by
    have := Nat.div_le_self a.natAbs b.natAbs
    rw [← hq]
    exact ⟨Int.natCast_nonneg _, Int.ofNat_le.2 this⟩
  have hq1 : (a.natAbs : Int) / (b.natAbs : Int) = q := by rw [← hq]; simp
  have hr1 : (a.natAbs : Int) % (b.natAbs : Int) = r := by rw [← hr]; simp
  have hq2 : (a.natAbs : Int).tdiv (b.natAbs : Int) = q := hq
  have hr2 : (a.natAbs : Int).tmod (b.natAbs : Int) = r := hr
  have hxa : (a < 0 ∧ (a.natAbs : Int) = -a) ∨ (0 ≤ a ∧ (a.natAbs : Int) = a) := by omega
  have hyb : (b < 0 ∧ (b.natAbs : Int) = -b) ∨ (0 < b ∧ (b.natAbs : Int) = b) := by omega
  clear hq hr
  obtain ⟨r1, r2⟩ := r0
  obtain ⟨q1, q2⟩ := q0
  generalize (a.natAbs : Int) = x at *
  generalize (b.natAbs : Int) = y at *
  have y0 : ¬ y = 0 := by omega
  have q3 : q ≤ 9223372036854775808 := by omega
  have y3 : y ≤ 9223372036854775808 := by omega
  have ey : (y == 0) = false := by simpa using y0
  by_cases ha : a < 0 <;> by_cases hb : b < 0
  · have da : decide (a < 0) = true := by simp; omega
    have db : decide (b < 0) = true := by simp; omega
    have HH := f1 (by simp [ha, hb])
    rw [if_pos hb] at HH
    have HF := Lib.hid HH
    clear HH f1 f2 f3
    have cl := fun W => of_c true (r) W (by omega) (by omega)
    simp only [if_true] at cl
    rw [res_in (by omega)] at cl
    have cn := fun W => of_c false (q) W (by omega) (by omega)
    simp only [Bool.false_eq_true, if_false] at cn
    generalize hR : res (q) = R at *
    obtain ⟨n, k, rfl, _⟩ := res3 hR
    have HR := Lib.hid hR
    clear hR ha hb hxa hyb
    go_enter Tryd.func57, Tryd.ntmps57
    go_wp2_with fail
    (with_reducible refine (cx _).mono ?_)
    rintro e w' ⟨rfl, rfl⟩
    go_wp2_with fail
    (with_reducible refine (cy _).mono ?_)
    rintro e w' ⟨rfl, rfl⟩
    go_wp2_with fail
    (with_reducible refine (cx _).mono ?_)
    rintro e w' ⟨rfl, rfl⟩
    go_wp2_with fail
    (with_reducible refine (cy _).mono ?_)
    rintro e w' ⟨rfl, rfl⟩
    go_wp2_with fail
    (with_reducible refine (cl _).mono ?_)
    rintro e w' ⟨rfl, rfl⟩
    go_wp2_with fail
    (with_reducible refine (cn _).mono ?_)
    rintro e w' ⟨rfl, rfl⟩
    go_wp2_with fail
    go_ret3
    exact rdiv_mk _ HF.out.1 HF.out.2 HR.out
  · have da : decide (a < 0) = true := by simp; omega
    have db : decide (b < 0) = false := by simp; omega
    by_cases hz : r = 0
    · have HH := f2 (by simp [ha, hb]) hz
      subst hz
      have HF := Lib.hid HH
      clear HH f1 f2 f3
      have cl := fun W => of_c false (0) W (by omega) (by omega)
      simp only [Bool.false_eq_true, if_false] at cl
      rw [res_in (by omega)] at cl
      have cn := fun W => of_c true (q) W (by omega) (by omega)
      simp only [if_true] at cn
      generalize hR : res (-(q)) = R at *
      obtain ⟨n, k, rfl, _⟩ := res3 hR
      have HR := Lib.hid hR
      clear hR ha hb hxa hyb
      go_enter Tryd.func57, Tryd.ntmps57
      go_wp2_with fail
      (with_reducible refine (cx _).mono ?_)
      rintro e w' ⟨rfl, rfl⟩
      go_wp2_with fail
      (with_reducible refine (cy _).mono ?_)
      rintro e w' ⟨rfl, rfl⟩
      go_wp2_with fail
      (with_reducible refine (cx _).mono ?_)
      rintro e w' ⟨rfl, rfl⟩
      go_wp2_with fail
      (with_reducible refine (cy _).mono ?_)
      rintro e w' ⟨rfl, rfl⟩
      go_wp2_with fail
      (with_reducible refine (cl _).mono ?_)
      rintro e w' ⟨rfl, rfl⟩
      go_wp2_with fail
      (with_reducible refine (cn _).mono ?_)
      rintro e w' ⟨rfl, rfl⟩
      go_wp2_with fail
      go_ret3
      exact rdiv_mk _ HF.out.1 HF.out.2 HR.out
    · have HH := f3 (by simp [ha, hb]) hz
      rw [if_neg hb, show b - r = y - r from by omega] at HH
      have dz : decide (0 < r) = true := by simp; omega
      have HF := Lib.hid HH
      clear HH f1 f2 f3
      have cl := fun W => of_c false (y - r) W (by omega) (by omega)
      simp only [Bool.false_eq_true, if_false] at cl
      rw [res_in (by omega)] at cl
      have cn := fun W => of_c true (q + 1) W (by omega) (by omega)
      simp only [if_true] at cn
      generalize hR : res (-(q + 1)) = R at *
      obtain ⟨n, k, rfl, _⟩ := res3 hR
      have HR := Lib.hid hR
      clear hR ha hb hxa hyb
      go_enter Tryd.func57, Tryd.ntmps57
      go_wp2_with fail
      (with_reducible refine (cx _).mono ?_)
      rintro e w' ⟨rfl, rfl⟩
      go_wp2_with fail
      (with_reducible refine (cy _).mono ?_)
      rintro e w' ⟨rfl, rfl⟩
      go_wp2_with fail
      (with_reducible refine (cx _).mono ?_)
      rintro e w' ⟨rfl, rfl⟩
      go_wp2_with fail
      (with_reducible refine (cy _).mono ?_)
      rintro e w' ⟨rfl, rfl⟩
      go_wp2_with fail
      (with_reducible refine (cy _).mono ?_)
      rintro e w' ⟨rfl, rfl⟩
      go_wp2_with fail
      (with_reducible refine (cl _).mono ?_)
      rintro e w' ⟨rfl, rfl⟩
      go_wp2_with fail
      (with_reducible refine (cn _).mono ?_)
      rintro e w' ⟨rfl, rfl⟩
      go_wp2_with fail
      go_ret3
      exact rdiv_mk _ HF.out.1 HF.out.2 HR.out
  · have da : decide (a < 0) = false := by simp; omega
    have db : decide (b < 0) = true := by simp; omega
    by_cases hz : r = 0
    · have HH := f2 (by simp [ha, hb]) hz
      subst hz
      have HF := Lib.hid HH
      clear HH f1 f2 f3
      have cl := fun W => of_c true (0) W (by omega) (by omega)
      simp only [if_true] at cl
      rw [res_in (by omega)] at cl
      have cn := fun W => of_c true (q) W (by omega) (by omega)
      simp only [if_true] at cn
      generalize hR : res (-(q)) = R at *
      obtain ⟨n, k, rfl, _⟩ := res3 hR
      have HR := Lib.hid hR
      clear hR ha hb hxa hyb
      go_enter Tryd.func57, Tryd.ntmps57
      go_wp2_with fail
      (with_reducible refine (cx _).mono ?_)
      rintro e w' ⟨rfl, rfl⟩
      go_wp2_with fail
      (with_reducible refine (cy _).mono ?_)
      rintro e w' ⟨rfl, rfl⟩
      go_wp2_with fail
      (with_reducible refine (cx _).mono ?_)
      rintro e w' ⟨rfl, rfl⟩
      go_wp2_with fail
      (with_reducible refine (cy _).mono ?_)
      rintro e w' ⟨rfl, rfl⟩
      go_wp2_with fail
      (with_reducible refine (cl _).mono ?_)
      rintro e w' ⟨rfl, rfl⟩
      go_wp2_with fail
      (with_reducible refine (cn _).mono ?_)
      rintro e w' ⟨rfl, rfl⟩
      go_wp2_with fail
      go_ret3
      exact rdiv_mk _ HF.out.1 HF.out.2 HR.out
    · have HH := f3 (by simp [ha, hb]) hz
      rw [if_pos hb, show -b - r = y - r from by omega] at HH
      have dz : decide (0 < r) = true := by simp; omega
      have HF := Lib.hid HH
      clear HH f1 f2 f3
      have cl := fun W => of_c true (y - r) W (by omega) (by omega)
      simp only [if_true] at cl
      rw [res_in (by omega)] at cl
      have cn := fun W => of_c true (q + 1) W (by omega) (by omega)
      simp only [if_true] at cn
      generalize hR : res (-(q + 1)) = R at *
      obtain ⟨n, k, rfl, _⟩ := res3 hR
      have HR := Lib.hid hR
      clear hR ha hb hxa hyb
      go_enter Tryd.func57, Tryd.ntmps57
      go_wp2_with fail
      (with_reducible refine (cx _).mono ?_)
      rintro e w' ⟨rfl, rfl⟩
      go_wp2_with fail
      (with_reducible refine (cy _).mono ?_)
      rintro e w' ⟨rfl, rfl⟩
      go_wp2_with fail
      (with_reducible refine (cx _).mono ?_)
      rintro e w' ⟨rfl, rfl⟩
      go_wp2_with fail
      (with_reducible refine (cy _).mono ?_)
      rintro e w' ⟨rfl, rfl⟩
      go_wp2_with fail
      (with_reducible refine (cy _).mono ?_)
      rintro e w' ⟨rfl, rfl⟩
      go_wp2_with fail
      (with_reducible refine (cl _).mono ?_)
      rintro e w' ⟨rfl, rfl⟩
      go_wp2_with fail
      (with_reducible refine (cn _).mono ?_)
      rintro e w' ⟨rfl, rfl⟩
      go_wp2_with fail
      go_ret3
      exact rdiv_mk _ HF.out.1 HF.out.2 HR.out
  · have da : decide (a < 0) = false := by simp; omega
    have db : decide (b < 0) = false := by simp; omega
    have HH := f1 (by simp [ha, hb])
    rw [if_neg hb] at HH
    have HF := Lib.hid HH
    clear HH f1 f2 f3
    have cl := fun W => of_c false (r) W (by omega) (by omega)
    simp only [Bool.false_eq_true, if_false] at cl
    rw [res_in (by omega)] at cl
    have cn := fun W => of_c false (q) W (by omega) (by omega)
    simp only [Bool.false_eq_true, if_false] at cn
    generalize hR : res (q) = R at *
    obtain ⟨n, k, rfl, _⟩ := res3 hR
    have HR := Lib.hid hR
    clear hR ha hb hxa hyb
    go_enter Tryd.func57, Tryd.ntmps57
    go_wp2_with fail
    (with_reducible refine (cx _).mono ?_)
    rintro e w' ⟨rfl, rfl⟩
    go_wp2_with fail
    (with_reducible refine (cy _).mono ?_)
    rintro e w' ⟨rfl, rfl⟩
    go_wp2_with fail
    (with_reducible refine (cx _).mono ?_)
    rintro e w' ⟨rfl, rfl⟩
    go_wp2_with fail
    (with_reducible refine (cy _).mono ?_)
    rintro e w' ⟨rfl, rfl⟩
    go_wp2_with fail
    (with_reducible refine (cl _).mono ?_)
    rintro e w' ⟨rfl, rfl⟩
    go_wp2_with fail
    (with_reducible refine (cn _).mono ?_)
    rintro e w' ⟨rfl, rfl⟩
    go_wp2_with fail
    go_ret3
    exact rdiv_mk _ HF.out.1 HF.out.2 HR.out
end
end NumW
end Go.Proofs.YtledgkplddeghaaDoor
