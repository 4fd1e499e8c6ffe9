/- The walks of buffer.Take, End and of the reference's Most, Take. Conditions: texts that fit, numbers of 64 bits. -/
import Derived.Test.YtnpgmfldikgkjaaBufW
namespace Go.Proofs.Ytnpgmfldikgkjaa
open Go.RowKit
namespace BufW
section
variable (s : Sd) (w : World)
/-- What is taken. -/
def take (s : Sd) (n : Int) : Sd := { s with bu := s.bu ++ s.re.extract 0 n.toNat, re := s.re.extract n.toNat s.re.size }
def zero : Sd := ⟨false, false, false, 0, 0, ⟨#[]⟩, none, 0, 0, ⟨#[]⟩, none, 0, 0, ⟨#[]⟩, ⟨#[]⟩⟩
set_option maxHeartbeats 400000 in
theorem take_no (n m : Int) (hs : s.Fits) (m0 : -9223372036854775808 ≤ m) (m1 : m ≤ 9223372036854775807) (h : n < 1 ∨ mostI s.re s.bu m < n) :
    Calls Try.prog 17 #[s.v, .int .i64 n, .int .i64 m] w fun e w' => e = .returned (.tuple #[zero.v, .int .i64 5]) ∧ Below w.heap.size w w' := by
  have hc := fun W => most_c s W m hs m0 m1
  generalize mostI s.re s.bu m = t at *
  by_cases h1 : n < 1
  · go_enter Try.func17, Try.ntmps17
    go_wp2
    go_returns
    exact ⟨rfl, by go_grown⟩
  · have h2 : t < n := by omega
    go_enter Try.func17, Try.ntmps17
    go_wp2_with fail
    refine (hc _).mono ?_
    rintro e w1 ⟨rfl, hb⟩
    have hB := via (a := w) hb (by go_grown)
    obtain ⟨k1, f1, z1⟩ := ((Blk.new _ _ _).alloc _).kept hb
    obtain ⟨k2, f2, z2⟩ := (Blk.new _ _ _).kept hb
    simp only [World.size_alloc] at k2 f2 z2
    clear hb
    go_wp2
    refine bodyPost_ret (by simp [results, Try.results17, go_sem, k2]; try rfl) rfl ⟨?_, by go_grown⟩
    rfl
theorem most_bd (re bu : ByteArray) (m n : Int) (h1 : 1 ≤ n) (h : n ≤ mostI re bu m) : n ≤ re.size ∧ bu.size + n ≤ m := by
  unfold mostI at h; split at h <;> omega
set_option maxHeartbeats 400000 in
theorem take_yes (n m : Int) (hs : s.Fits) (m0 : -9223372036854775808 ≤ m) (m1 : m ≤ 9223372036854775807) (h1 : 1 ≤ n) (h : n ≤ mostI s.re s.bu m) :
    Calls Try.prog 17 #[s.v, .int .i64 n, .int .i64 m] w fun e w' => e = .returned (.tuple #[(take s n).v, .int .i64 0]) ∧ Below w.heap.size w w' := by
  have hc := fun W => most_c s W m hs m0 m1
  obtain ⟨hn, hq⟩ := most_bd _ _ _ _ h1 h
  obtain ⟨j, rfl⟩ := Int.eq_ofNat_of_zero_le (show 0 ≤ n by omega)
  generalize mostI s.re s.bu m = t at *
  obtain ⟨b0, b1, b2⟩ := hs
  go_enter Try.func17, Try.ntmps17
  go_wp2_with fail
  refine (hc _).mono ?_
  rintro e w1 ⟨rfl, hb⟩
  have hB := via (a := w) hb (by go_grown)
  obtain ⟨k1, f1, z1⟩ := ((Blk.new _ _ _).alloc _).kept hb
  obtain ⟨k2, f2, z2⟩ := (Blk.new _ _ _).kept hb
  simp only [World.size_alloc] at k2 f2 z2
  clear hb
  go_wp2
  go_region
  go_wp2
  refine bodyPost_ret (by simp [results, Try.results17, go_sem, k2]; try rfl) rfl ⟨?_, by go_grown⟩
  rfl
set_option maxHeartbeats 400000 in
theorem end_c :
    Calls Try.prog 20 #[s.v] w fun e w' => e = .returned (if overB s.a s.b s.c s.fl s.re = true then .tuple #[{ s with c := true }.v, .int .i64 0] else .tuple #[zero.v, .int .i64 11]) ∧ Below w.heap.size w w' := by
  have hc := fun W => over_c s W
  generalize overB s.a s.b s.c s.fl s.re = t at *
  cases t
  all_goals
    go_enter Try.func20, Try.ntmps20
    go_wp2_with fail
    refine (hc _).mono ?_
    rintro e w1 ⟨rfl, hb⟩
    have hB := via (a := w) hb (by go_grown)
    obtain ⟨k1, f1, z1⟩ := ((Blk.new _ _ _).alloc _).kept hb
    obtain ⟨k2, f2, z2⟩ := (Blk.new _ _ _).kept hb
    simp only [World.size_alloc] at k2 f2 z2
    clear hb
    go_wp2
    refine bodyPost_ret (by simp [results, Try.results20, go_sem, k2]; try rfl) rfl ⟨?_, by go_grown⟩
    rfl
set_option maxHeartbeats 400000 in
theorem rmost_c (m : Int) (hs : s.Fits) (m0 : -9223372036854775808 ≤ m) (m1 : m ≤ 9223372036854775807) :
    Calls Try.prog 18 #[s.v, .int .i64 m] w fun e w' => e = .returned (.int .i64 (mostI s.re s.bu m)) ∧ Below w.heap.size w w' := by
  obtain ⟨h0, h1, h2⟩ := hs
  have hq : ∀ t, t = mostI s.re s.bu m → (m ≤ s.bu.size ∧ t = 0) ∨ (s.bu.size < m ∧ t ≤ s.re.size ∧ t ≤ m - s.bu.size ∧ (t = s.re.size ∨ t = m - s.bu.size)) := by
    intro t ht; unfold mostI at ht; split at ht <;> omega
  generalize mostI s.re s.bu m = t at *
  have hq := hq t rfl
  go_enter Try.func18, Try.ntmps18
  go_wp2
  go_loop [5] (fun v => ∃ k : Nat, (k : Int) ≤ t ∧ v = .int .i64 k) (fun v => (t - intOf v).toNat)
  case atStart => exact ⟨0, by omega, rfl⟩
  case round =>
    obtain ⟨k, hk, rfl⟩ := hrel
    by_cases hlt : (k : Int) < t
    · go_wp2
      go_round
      case rel => exact ⟨k + 1, by omega, by go_num⟩
      case measure => simp [intOf]; omega
    · have : (k : Int) = t := by omega
      go_wp2
      all_goals
        go_ret
        refine ⟨ret_i64 (by omega), by go_grown⟩
end
end BufW
end Go.Proofs.Ytnpgmfldikgkjaa
