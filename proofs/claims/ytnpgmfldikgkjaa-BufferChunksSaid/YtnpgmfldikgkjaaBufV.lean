/- The walk of Small. Conditions: slices that read as texts and numbers. -/
import Derived.Test.YtnpgmfldikgkjaaBufS
namespace Go.Proofs.Ytnpgmfldikgkjaa
open Go.RowKit
namespace BufW
section
variable (s : Sd) (w : World)
def SmallPost (s : Sd) (w : World) (e : Ending) (w' : World) : Prop := ∃ b, e = .returned (.bool b) ∧ (b = true → s.fl.size ≤ 40 ∧ s.re.size ≤ 100 ∧ s.bu.size ≤ 100) ∧ Below w.heap.size w w'
def smallB (s : Sd) : Bool := decide (s.ty.size ≤ 100) && decide (s.fl.size ≤ 40) && decide (s.re.size ≤ 100) && decide (s.bu.size ≤ 100) && decide (s.ln ≤ 6) && decide (s.gn ≤ 40) && decide (s.k ≤ 1152921504606846976)
set_option maxHeartbeats 800000 in
theorem small_no (h : ¬ (s.ty.size ≤ 100 ∧ s.fl.size ≤ 40 ∧ s.re.size ≤ 100 ∧ s.bu.size ≤ 100 ∧ s.ln ≤ 6 ∧ s.gn ≤ 40 ∧ s.k ≤ 1152921504606846976)) :
    Calls Try.prog 16 #[s.v] w (SmallPost s w) := by
  obtain ⟨a, b, c, p, q, ty, la, ln, lc, fl, ga, gn, gc, re, bu⟩ := s
  dsimp only at h
  go_enter Try.func16, Try.ntmps16
  go_wp2
  all_goals
    go_ret
    exact ⟨false, rfl, fun h => (by cases h), by go_grown⟩
set_option maxHeartbeats 800000 in
theorem small_yes (ls : List ByteArray) (gs : List Int) (hl : Lists s w ls gs)
    (h : s.ty.size ≤ 100 ∧ s.fl.size ≤ 40 ∧ s.re.size ≤ 100 ∧ s.bu.size ≤ 100 ∧ s.ln ≤ 6 ∧ s.gn ≤ 40 ∧ s.k ≤ 1152921504606846976) :
    Calls Try.prog 16 #[s.v] w (SmallPost s w) := by
  obtain ⟨a, b, c, p, q, ty, la, ln, lc, fl, ga, gn, gc, re, bu⟩ := s
  obtain ⟨h1, h2, h3, h4⟩ := hl
  dsimp only at h
  obtain ⟨e1, e2, e3, e4, e5, e6, e7⟩ := h
  simp only [maxLen] at h1 h2 h3 h4
  have H1 := Lib.hid h1
  have H2 := Lib.hid h2
  clear h1 h2
  go_enter Try.func16, Try.ntmps16
  go_wp2
  go_loop [49] (fun v => ∃ k : Nat, k ≤ ln ∧ v = .int .i64 k) (fun v => ln - (intOf v).toNat)
  case atStart => exact ⟨0, by omega, rfl⟩
  case round =>
    obtain ⟨k, hk, rfl⟩ := hrel
    by_cases hlt : k < ln
    · obtain ⟨ad, x, rfl, hb, hx, hc⟩ := H1.out.str hlt
      have hc2 := fun o => (World.cell?_alloc_lt w o (ad.add k) (by rw [add_block]; exact hb)).trans hc
      clear hx hc
      go_wp2
      · go_ret
        exact ⟨false, rfl, fun h => (by cases h), by go_grown⟩
      · go_round
        case rel => exact ⟨k + 1, by omega, by go_num⟩
        case measure => simp [intOf]; omega
    · go_wp2
      go_loop [60] (fun v => ∃ k : Nat, k ≤ gn ∧ v = .int .i64 k) (fun v => gn - (intOf v).toNat)
      case atStart => exact ⟨0, by omega, rfl⟩
      case round =>
        obtain ⟨j, hj, rfl⟩ := hrel
        by_cases hlt2 : j < gn
        · obtain ⟨ad, x, rfl, hb, hx, hc⟩ := H2.out.num hlt2
          have hc2 := fun o => (World.cell?_alloc_lt w o (ad.add j) (by rw [add_block]; exact hb)).trans hc
          clear hx hc
          go_wp2
          · go_ret
            exact ⟨false, rfl, fun h => (by cases h), by go_grown⟩
          · go_round
            case rel => exact ⟨j + 1, by omega, by go_num⟩
            case measure => simp [intOf]; omega
        · go_wp2
          go_ret
          exact ⟨true, rfl, fun _ => ⟨e2, e3, e4⟩, by go_grown⟩
theorem small_c (ls : List ByteArray) (gs : List Int) (hl : Lists s w ls gs) : Calls Try.prog 16 #[s.v] w (SmallPost s w) := by
  by_cases h : s.ty.size ≤ 100 ∧ s.fl.size ≤ 40 ∧ s.re.size ≤ 100 ∧ s.bu.size ≤ 100 ∧ s.ln ≤ 6 ∧ s.gn ≤ 40 ∧ s.k ≤ 1152921504606846976
  · exact small_yes s w ls gs hl h
  · exact small_no s w h
end
end BufW
end Go.Proofs.Ytnpgmfldikgkjaa
