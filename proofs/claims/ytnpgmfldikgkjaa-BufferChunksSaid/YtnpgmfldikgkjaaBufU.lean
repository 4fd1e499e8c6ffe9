/- The walk of Same at two sides that are the same. Conditions: slices that read as texts and numbers. -/
import Derived.Test.YtnpgmfldikgkjaaBufS
namespace Go.Proofs.Ytnpgmfldikgkjaa
open Go.RowKit
namespace BufW
section
variable (s : Sd) (w : World)
set_option maxHeartbeats 800000 in
theorem same_c (ls : List ByteArray) (gs : List Int) (hl : Lists s w ls gs) :
    Calls Try.prog 22 #[s.v, s.v] w fun e w' => e = .returned (.bool true) ∧ Below w.heap.size w w' := by
  obtain ⟨a, b, c, p, q, ty, la, ln, lc, fl, ga, gn, gc, re, bu⟩ := s
  obtain ⟨h1, h2, h3, h4⟩ := hl
  simp only [maxLen] at h1 h2 h3 h4
  have H1 := Lib.hid h1
  have H2 := Lib.hid h2
  clear h1 h2
  go_enter Try.func22, Try.ntmps22
  go_wp2
  go_loopw [5] (fun v wr => ∃ k : Nat, k ≤ ln ∧ v = .int .i64 k ∧ Below w.heap.size w wr ∧
    Blk wr w.heap.size 32 #[.bool a, .bool b, .bool c, .int .i64 p, .int .i64 q, .string ty, .slice la ln lc, .string fl, .slice ga gn gc, .string re, .string bu] ∧
    Blk wr (w.heap.size + 1) 32 #[.bool a, .bool b, .bool c, .int .i64 p, .int .i64 q, .string ty, .slice la ln lc, .string fl, .slice ga gn gc, .string re, .string bu]) (fun v _ => ln - (intOf v).toNat)
  case atStart => exact ⟨0, by omega, rfl, by go_grown, (Blk.new _ _ _).alloc _, Blk.new1 _ _ _ _⟩
  case round =>
    obtain ⟨k, hk, rfl, hB, B1, B2⟩ := hrel
    have k1 := B1.cell
    have k2 := B2.cell
    by_cases hlt : k < ln
    · obtain ⟨ad, x, rfl, hb, hx, hc⟩ := (H1.out.below hB).str hlt
      clear hx
      go_wp2
      go_quiet (fail)
      go_wp2
      go_roundw
      case rel => exact ⟨k + 1, by omega, by go_num, below_dn hB _, B1, B2⟩
      case measure => simp [intOf]; omega
    · go_wp2
      clear k1 k2
      go_loopw [6] (fun v wr => ∃ k : Nat, k ≤ gn ∧ v = .int .i64 k ∧ Below w.heap.size w wr ∧
        Blk wr w.heap.size 32 #[.bool a, .bool b, .bool c, .int .i64 p, .int .i64 q, .string ty, .slice la ln lc, .string fl, .slice ga gn gc, .string re, .string bu] ∧
        Blk wr (w.heap.size + 1) 32 #[.bool a, .bool b, .bool c, .int .i64 p, .int .i64 q, .string ty, .slice la ln lc, .string fl, .slice ga gn gc, .string re, .string bu]) (fun v _ => gn - (intOf v).toNat)
      case atStart => exact ⟨0, by omega, rfl, hB, B1, B2⟩
      case round =>
        clear hB B1 B2
        obtain ⟨j, hj, rfl, hB, B1, B2⟩ := hrel
        have k1 := B1.cell
        have k2 := B2.cell
        by_cases hlt2 : j < gn
        · obtain ⟨ad, x, rfl, hb, hx, hc⟩ := (H2.out.below hB).num hlt2
          clear hx
          go_wp2
          go_quiet (fail)
          go_wp2
          go_roundw
          case rel => exact ⟨j + 1, by omega, by go_num, below_dn hB _, B1, B2⟩
          case measure => simp [intOf]; omega
        · go_wp2
          go_ret
          exact ⟨rfl, hB⟩
end
end BufW
end Go.Proofs.Ytnpgmfldikgkjaa
