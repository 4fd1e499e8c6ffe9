/- The walks of the reference's Take, of Small and of Same at two sides that are the same. Conditions: slices that read as texts and numbers. -/
import Derived.Test.YtnpgmfldikgkjaaBufT
namespace Go.Proofs.Ytnpgmfldikgkjaa
open Go.RowKit
namespace BufW
section
variable (s : Sd) (w : World)
set_option maxHeartbeats 400000 in
theorem rtake_no (n m : Int) (hs : s.Fits) (m0 : -9223372036854775808 ≤ m) (m1 : m ≤ 9223372036854775807) (h : n < 1 ∨ mostI s.re s.bu m < n) :
    Calls Try.prog 19 #[s.v, .int .i64 n, .int .i64 m] w fun e w' => e = .returned (.tuple #[zero.v, .int .i64 5]) ∧ Below w.heap.size w w' := by
  have hc := fun W => rmost_c s W m hs m0 m1
  generalize mostI s.re s.bu m = t at *
  by_cases h1 : n < 1
  · go_enter Try.func19, Try.ntmps19
    go_wp2
    go_returns
    exact ⟨rfl, by go_grown⟩
  · have h2 : t < n := by omega
    go_enter Try.func19, Try.ntmps19
    go_wp2_with fail
    refine (hc _).mono ?_
    rintro e w1 ⟨rfl, hb⟩
    have hB := via (a := w) hb (by go_grown)
    obtain ⟨k1, f1, z1⟩ := ((Blk.new _ _ _).alloc _).kept hb
    obtain ⟨k2, f2, z2⟩ := (Blk.new _ _ _).kept hb
    simp only [World.size_alloc] at k2 f2 z2
    clear hb
    go_wp2
    refine bodyPost_ret (by simp [results, Try.results19, go_sem, k2]; try rfl) rfl ⟨?_, by go_grown⟩
    rfl
set_option maxHeartbeats 400000 in
theorem rtake_yes (n m : Int) (hs : s.Fits) (m0 : -9223372036854775808 ≤ m) (m1 : m ≤ 9223372036854775807) (h1 : 1 ≤ n) (h : n ≤ mostI s.re s.bu m) :
    Calls Try.prog 19 #[s.v, .int .i64 n, .int .i64 m] w fun e w' => e = .returned (.tuple #[(take s n).v, .int .i64 0]) ∧ Below w.heap.size w w' := by
  have hc := fun W => rmost_c s W m hs m0 m1
  obtain ⟨hn, hq⟩ := most_bd _ _ _ _ h1 h
  obtain ⟨j, rfl⟩ := Int.eq_ofNat_of_zero_le (show 0 ≤ n by omega)
  generalize mostI s.re s.bu m = t at *
  obtain ⟨b0, b1, b2⟩ := hs
  go_enter Try.func19, Try.ntmps19
  go_wp2_with fail
  refine (hc _).mono ?_
  rintro e w1 ⟨rfl, hb⟩
  have hB := via (a := w) hb (by go_grown)
  obtain ⟨k1, f1, z1⟩ := ((Blk.new _ _ _).alloc _).kept hb
  obtain ⟨k2, f2, z2⟩ := (Blk.new _ _ _).kept hb
  simp only [World.size_alloc] at k2 f2 z2
  clear hb
  go_wp2
  go_region
  go_wp2
  refine bodyPost_ret (by simp [results, Try.results19, go_sem, k2]; try rfl) rfl ⟨?_, by go_grown⟩
  rfl
/-- The lists of a side, as they read. -/
structure Lists (s : Sd) (w : World) (ls : List ByteArray) (gs : List Int) : Prop where
  (l : Rd w w.heap.size 1 s.la s.ln (ls.map Value.string)) (g : Rd w w.heap.size 1 s.ga s.gn (gs.map (Value.int .i64))) (ll : s.ln ≤ maxLen) (gl : s.gn ≤ maxLen)
theorem Lists.keep {s : Sd} {w w' : World} {ls : List ByteArray} {gs : List Int} (h : Lists s w ls gs) (hb : Below w.heap.size w w') : Lists s w' ls gs :=
  ⟨(h.l.below hb).more hb.size, (h.g.below hb).more hb.size, h.ll, h.gl⟩
end
end BufW
end Go.Proofs.Ytnpgmfldikgkjaa
