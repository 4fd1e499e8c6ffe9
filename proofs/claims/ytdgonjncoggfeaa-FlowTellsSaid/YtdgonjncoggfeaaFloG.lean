/- A number put among rising ones, whether one is there, whether two lists are the same: the reference's walks. Condition: lists that fit. -/
import Derived.Test.YtdgonjncoggfeaaFloF
import Derived.BigQuiet
namespace Go.Proofs.Ytdgonjncoggfeaa
set_option linter.unusedVariables false
set_option linter.unusedSimpArgs false
open Go.RowKit
namespace FloW
open FloP
/-- A list of numbers that is read. -/
def RdL (w : World) (v : Value) (L : List Int) : Prop := ∃ A c, v = .slice A L.length c ∧ L.length ≤ c ∧ c ≤ maxLen ∧ Ils w w.heap.size A L.length L ∧ (A = none → c = 0)
theorem RdL.of {w : World} {B : Nat} {v : Value} {L : List Int} (h : OwnI w B v L) : RdL w v L := by
  obtain ⟨A, c, h1, h2, h3, h4, _⟩ := owi_rd h
  refine ⟨A, c, h1, h2, h3, h4, fun e => ?_⟩
  rcases h.2 with ⟨e1, _⟩ | ⟨g, cap, cur, e1, _⟩
  · rw [h1] at e1; injection e1 with _ _ e3
  · rw [h1] at e1; injection e1 with e1 _ _; rw [e] at e1; cases e1
theorem RdL.next {w w' : World} {v : Value} {L : List Int} (h : RdL w v L) (b : Below w.heap.size w w') : RdL w' v L := by
  obtain ⟨A, c, h1, h2, h3, h4, h5⟩ := h
  exact ⟨A, c, h1, h2, h3, (h4.below b).more b.size, h5⟩
theorem RdL.nil (w : World) : RdL w (.slice none 0 0) [] := ⟨none, 0, rfl, by simp, by simp, Rd.nil, fun _ => rfl⟩
set_option maxHeartbeats 6400000 in
set_option maxRecDepth 100000 in
theorem has_c (v : Value) (L : List Int) (x : Int) (w : World) (h : RdL w v L) (hl : L.length ≤ 1000000) :
    Calls Try.prog 18 #[v, .int .i64 x] w fun e w' => e = .returned (.bool (decide (x ∈ L))) ∧ w' = w := by
  obtain ⟨A, c, rfl, hlc, hc, hr, _⟩ := h
  obtain ⟨N, hN⟩ : ∃ N, L.length = N := ⟨_, rfl⟩
  have HN := Lib.hid hN
  rw [hN] at hlc hl hr ⊢
  clear hN
  obtain ⟨R, hR⟩ : ∃ R, decide (x ∈ L) = R := ⟨_, rfl⟩
  rw [hR]
  have HR := Lib.hid hR
  clear hR
  go_enter Try.func18, Try.ntmps18
  go_wp2_with fail
  go_loopw [5] (fun iv wr => ∃ i : Nat, iv = .int .i64 i ∧ i ≤ N ∧ wr = w ∧ Hid (x ∉ L.take i)) (fun iv _ => N - (intOf iv).toNat)
  case atStart => exact ⟨0, rfl, by omega, rfl, Lib.hid (by simp)⟩
  case round =>
    obtain ⟨i, rfl, hi, rfl, HX⟩ := hrel
    by_cases hi2 : i < N
    · have di : decide ((i : Int) < (N : Int)) = true := decide_eq_true (by omega)
      obtain ⟨g, o, y, rfl, hg, hy, hcell⟩ := ils_get hr hi2
      by_cases e : y = x
      · subst e
        have d : (y == y) = true := by simp
        have hR : R = true := by rw [← HR.out]; exact decide_eq_true (List.mem_of_getElem? hy)
        subst hR
        clear hy
        go_wp2
        go_ret
        first | exact ⟨rfl, rfl⟩ | exact ⟨rfl, trivial⟩
      · have d : (y == x) = false := by simpa using e
        have HX2 : Hid (x ∉ L.take (i + 1)) := Lib.hid (by
          rw [take_snoc hy, List.mem_append, List.mem_singleton]
          rintro (h | h)
          · exact HX.out h
          · exact e h.symm)
        clear hy
        go_wp2
        go_roundw
        case rel => exact ⟨i + 1, by go_num, by omega, (by first | rfl | trivial), HX2⟩
        case measure => simp [intOf]; omega
    · obtain rfl : i = N := by omega
      have di : decide ((i : Int) < (i : Int)) = false := decide_eq_false (by omega)
      have hR : R = false := by
        rw [← HR.out]; apply decide_eq_false
        have := HX.out
        rwa [← HN.out, List.take_length] at this
      subst hR
      go_wp2
      go_ret
      first | exact ⟨rfl, rfl⟩ | exact ⟨rfl, trivial⟩
set_option maxHeartbeats 6400000 in
set_option maxRecDepth 100000 in
theorem sameints_c (v v' : Value) (L L' : List Int) (w : World) (h : RdL w v L) (h' : RdL w v' L') (hl : L.length ≤ 1000000) (hl' : L'.length ≤ 1000000) :
    Calls Try.prog 5 #[v, v'] w fun e w' => e = .returned (.bool (decide (L = L'))) ∧ Below w.heap.size w w' := by
  obtain ⟨A, c, rfl, hlc, hc, hr, _⟩ := h
  obtain ⟨A', c', rfl, hlc', hc', hr', _⟩ := h'
  obtain ⟨N, hN⟩ : ∃ N, L.length = N := ⟨_, rfl⟩
  have HN := Lib.hid hN
  rw [hN] at hlc hl hr ⊢
  clear hN
  obtain ⟨N', hN'⟩ : ∃ N, L'.length = N := ⟨_, rfl⟩
  have HN' := Lib.hid hN'
  rw [hN'] at hlc' hl' hr' ⊢
  clear hN'
  obtain ⟨R, hR⟩ : ∃ R, decide (L = L') = R := ⟨_, rfl⟩
  rw [hR]
  have HR := Lib.hid hR
  clear hR
  go_enter Try.func5, Try.ntmps5
  by_cases hne : N = N'
  · subst hne
    have d : ((N : Int) != (N : Int)) = false := by simp
    go_wp2_with fail
    go_loopw [5] (fun iv wr => ∃ i : Nat, iv = .int .i64 i ∧ i ≤ N ∧ Below w.heap.size w wr ∧ Hid (L.take i = L'.take i)) (fun iv _ => N - (intOf iv).toNat)
    case atStart => exact ⟨0, rfl, by omega, Below.refl _ _, Lib.hid (by simp)⟩
    case round =>
      obtain ⟨i, rfl, hi, B1, HX⟩ := hrel
      obtain ⟨w1, rfl⟩ : ∃ x : World, x = wr := ⟨_, rfl⟩
      by_cases hi2 : i < N
      · have di : decide ((i : Int) < (N : Int)) = true := decide_eq_true (by omega)
        obtain ⟨g, o, y, rfl, hg, hy, hcell⟩ := ils_get (hr.below B1) hi2
        obtain ⟨g', o', y', rfl, hg', hy', hcell'⟩ := ils_get (hr'.below B1) hi2
        by_cases e : y = y'
        · subst e
          have d : (y != y) = false := by simp
          have HX2 : Hid (L.take (i + 1) = L'.take (i + 1)) := Lib.hid (by rw [take_snoc hy, take_snoc hy', HX.out])
          clear hy hy'
          go_upto_region 6 with fail
          go_quiet (fail)
          go_wp2_with fail
          go_roundw
          case rel => exact ⟨i + 1, by go_num, by omega, below_dn B1 _, HX2⟩
          case measure => simp [intOf]; omega
        · have d : (y != y') = true := by simpa using e
          have hR : R = false := by
            rw [← HR.out]; apply decide_eq_false
            intro h; subst h
            rw [hy] at hy'; cases hy'; exact e rfl
          subst hR
          clear hy hy'
          go_upto_region 6 with fail
          go_quiet (fail)
          go_wp2_with fail
          go_ret
          exact ⟨rfl, below_dn B1 _⟩
      · obtain rfl : i = N := by omega
        have di : decide ((i : Int) < (i : Int)) = false := decide_eq_false (by omega)
        have hR : R = true := by
          rw [← HR.out]; apply decide_eq_true
          have := HX.out
          rwa [← HN.out, List.take_length, HN.out, ← HN'.out, List.take_length] at this
        subst hR
        go_wp2
        go_ret
        exact ⟨rfl, B1⟩
  · have d : ((N : Int) != (N' : Int)) = true := by simp; omega
    have hR : R = false := by
      rw [← HR.out]; apply decide_eq_false
      intro h; subst h; exact hne (HN.out.symm.trans HN'.out)
    subst hR
    go_wp2
    go_ret
    exact ⟨rfl, Below.refl _ _⟩
end FloW
end Go.Proofs.Ytdgonjncoggfeaa
