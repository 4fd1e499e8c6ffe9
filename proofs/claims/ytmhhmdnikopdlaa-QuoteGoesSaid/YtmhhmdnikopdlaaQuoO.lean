/- The walk of QuoteGoes. No condition. -/
import Derived.Test.YtmhhmdnikopdlaaQuoN
namespace Go.Proofs.Ytmhhmdnikopdlaa
open Go.RowKit
namespace QuoN
open QuoP QuoW QuoR QuoE QuoJ QuoK
abbrev endsA : Array Value := #[.string ⟨#[34]⟩, .string ⟨#[110, 34]⟩, .string ⟨#[48, 48, 34]⟩, .string ⟨#[48, 34]⟩, .string ⟨#[123, 97, 125, 34]⟩, .string ⟨#[97, 125, 34]⟩, .string ⟨#[125, 34]⟩, .string ⟨#[34, 34]⟩]
theorem ends_at : ∀ j : Fin 8, endsA[j.val]? = some (.string (ba (ends[j.val]'j.isLt))) := by
  intro j; match j with
  | ⟨0, _⟩ => rfl
  | ⟨1, _⟩ => rfl
  | ⟨2, _⟩ => rfl
  | ⟨3, _⟩ => rfl
  | ⟨4, _⟩ => rfl
  | ⟨5, _⟩ => rfl
  | ⟨6, _⟩ => rfl
  | ⟨7, _⟩ => rfl
theorem ends_len : ∀ e ∈ ends, e.length ≤ 4 := by decide
/-- None of the first ends does. -/
def NoEnd (p : Bs) (j : Nat) : Prop := ∀ e ∈ ends.take j, ∀ o r, parse (p ++ e) ≠ .ok o r
theorem no_more {p : Bs} {j : Nat} (hj : j < 8) (h : NoEnd p j) {r : Bs} (hb : parse (p ++ ends[j]'hj) = .bad r) : NoEnd p (j + 1) := by
  intro e he o r'
  rw [List.take_add_one, List.getElem?_eq_getElem (show j < ends.length from hj)] at he
  rcases List.mem_append.1 he with he | he
  · exact h e he o r'
  · simp at he; subst he; have hb' : parse (p ++ ends[j]'(show j < ends.length from hj)) = .bad r := hb; rw [hb']; exact fun x => by cases x
theorem ok_last {l r : Bs} {o : List Pt} (h : parse l = .ok o r) : ∃ p, l = p ++ 34 :: r := run_ok _ _ _ _ _ _ h
set_option maxHeartbeats 6400000 in
set_option maxRecDepth 100000 in
theorem goes_c (s m : ByteArray) (w : World) (hs : s.size ≤ 9223372036854775807) (hm : m.size ≤ 9223372036854775807) : Calls Try.prog 4 #[.string s, .string m] w fun e w' => e = .returned (.bool true) ∧ Below w.heap.size w w' := by
  have cw := awake_c w
  by_cases hl : 80 < s.size
  · have d : decide (80 < (s.size : Int)) = true := by simp; omega
    go_enter Try.func4, Try.ntmps4
    go_wp2_with fail
    (with_reducible refine cw.mono ?_)
    rintro e w1 ⟨rfl, hb⟩
    go_wp2
    go_ret
    exact ⟨rfl, hb⟩
  have d : decide (80 < (s.size : Int)) = false := by simp; omega
  by_cases hl2 : 30 < m.size
  · have d2 : decide (30 < (m.size : Int)) = true := by simp; omega
    go_enter Try.func4, Try.ntmps4
    go_wp2_with fail
    (with_reducible refine cw.mono ?_)
    rintro e w1 ⟨rfl, hb⟩
    go_wp2
    go_ret
    exact ⟨rfl, hb⟩
  have d2 : decide (30 < (m.size : Int)) = false := by simp; omega
  have hsz := Lib.size_eq s
  cases hP : parse s.data.toList with
  | ok o r =>
    obtain ⟨p, hp⟩ := ok_last hP
    have hpl : s.size = p.length + 1 + r.length := by rw [hsz, hp]; simp; omega
    have hx : s[p.length]'(by omega) = 34 := by
      have : s.data.toList[p.length]? = some 34 := by rw [hp]; simp
      rw [List.getElem?_eq_getElem (by rw [← hsz]; omega)] at this
      exact Option.some.inj this
    have c1 := fun W => (parse_c s W (by omega)).mono (fun e w' h => pa_ok h hP)
    rw [show s.size - r.length = p.length + 1 by omega] at c1
    obtain ⟨j, hj⟩ : ∃ j, p.length = j := ⟨_, rfl⟩
    rw [hj] at c1 hpl
    have hjs : j < s.size := by omega
    have hx2 : s[j]'hjs = 34 := by subst hj; exact hx
    have c2 : ∀ W, Calls Try.prog 9 #[.string s] W fun e w' => ∃ A c, e = .returned (.tuple #[.slice A o.length c, .int .i64 ((j : Int) + 1), .int .i64 0]) ∧ Below W.heap.size W w' := fun W => (c1 W).mono (fun e w' ⟨A, c, h1, h2, h3⟩ => ⟨A, c, h1, h3⟩)
    clear hx c1 hpl hj hP hp hsz
    go_enter Try.func4, Try.ntmps4
    go_wp2_with fail
    (with_reducible refine cw.mono ?_)
    rintro e w1 ⟨rfl, hb⟩
    go_wp2_with fail
    refine (c2 _).mono ?_
    rintro e w2 ⟨A, c, rfl, hb2⟩
    go_wp2
    all_goals go_ret
    all_goals exact ⟨rfl, via (a := w) hb2 hb⟩
  | bad r =>
    obtain ⟨k, hk⟩ : ∃ k, s.size - r.length = k := ⟨_, rfl⟩
    have c1 := fun W => (parse_c s W (by omega)).mono (fun e w' h => pa_bad h hP)
    rw [hk] at c1
    have hks : k ≤ s.size := by omega
    have hdr := run_bad _ _ _ _ _ hP
    obtain ⟨p0, _, _, _, hp0, _, _⟩ := hdr
    have hrl : r.length ≤ s.size := by rw [hsz, hp0]; simp
    have hpk : p0 = s.data.toList.take k := by
      have : k = p0.length := by have : s.size = p0.length + r.length := by rw [hsz, hp0]; simp
                                 omega
      rw [this, hp0]; simp
    have HGO : Hid (∃ p e o, p = s.data.toList.take k ∧ e ∈ ends ∧ parse (p ++ e) = .ok o []) := Lib.hid (by
      obtain ⟨p, e, o, h1, h2, h3⟩ := goes hP
      refine ⟨p, e, o, ?_, h2, h3⟩
      have hpp : p = p0 := by rw [hp0] at h1; exact (List.append_cancel_right h1).symm
      rw [hpp, hpk])
    replace HGO : Hid (∃ p e o, s.data.toList.take k = p ∧ e ∈ ends ∧ parse (p ++ e) = .ok o []) := Lib.hid (by obtain ⟨p, e, o, h1, h2, h3⟩ := HGO.out; exact ⟨p, e, o, h1.symm, h2, h3⟩)
    by_cases hkl : k < s.size
    · have hr0 : r ≠ [] := by intro e; rw [e] at hk; simp at hk; omega
      obtain ⟨c, r', hcr⟩ := List.exists_cons_of_ne_nil hr0
      have hP2 : parse (s ++ m).data.toList = .bad (r ++ m.data.toList) := by
        rw [hcr] at hP ⊢
        have := more_same (m := m.data.toList) hP
        simpa using this
      have hml := Lib.size_eq m
      have c2 := fun W => (parse_c (s ++ m) W (by rw [ByteArray.size_append]; omega)).mono (fun e w' h => pa_bad h hP2)
      rw [show (s ++ m).size - (r ++ m.data.toList).length = k by rw [ByteArray.size_append, List.length_append, ← hml]; omega] at c2
      have dk : decide (k < s.size) = true := by simpa using hkl
      clear hP2 hcr hr0 hml hpk hp0 hrl hk hP hsz
      go_enter Try.func4, Try.ntmps4
      go_wp2_with fail
      (with_reducible refine cw.mono ?_)
      rintro e w1 ⟨rfl, hb⟩
      go_wp2_with fail
      refine (c1 _).mono ?_
      rintro e w2 ⟨rfl, hb2⟩
      have hB2 := via (a := w) hb2 hb
      go_wp2_with fail
      refine (c2 _).mono ?_
      rintro e w3 ⟨rfl, hb3⟩
      have hB3 := via (a := w) hb3 hB2
      clear c1 c2
      have hBz := hB3.size
      have hG : Blk (w3.alloc (.cells endsA 9)) w3.heap.size 9 endsA := Blk.new _ _ _
      have hBG : Below w.heap.size w (w3.alloc (.cells endsA 9)) := hB3.alloc hBz _
      go_wp2_with fail
      go_loopw [82] (fun v wr => ∃ j : Nat, v = .int .i64 j ∧ j ≤ 8 ∧ Hid (NoEnd (s.data.toList.take k) j) ∧ Blk wr w3.heap.size 9 endsA ∧ Below w.heap.size w wr) (fun v _ => 8 - (intOf v).toNat)
      case atStart => exact ⟨0, rfl, by omega, Lib.hid (fun e he => by simp at he), hG, hBG⟩
      case round =>
        clear hG hBG
        obtain ⟨j, rfl, hj, HN, hG, hBr⟩ := hrel
        by_cases hj8 : j < 8
        · have kc := (hG.cell j).trans (ends_at ⟨j, hj8⟩)
          have HC := Lib.hid (ends_len _ (List.getElem_mem (l := ends) (n := j) hj8))
          obtain ⟨ej, hej⟩ : ∃ x, ends[j]'hj8 = x := ⟨_, rfl⟩
          simp only at kc
          rw [hej] at kc
          have hl4 : (ba ej).size ≤ 4 := by rw [ba_size, ← hej]; exact HC.out
          obtain ⟨x, hx⟩ : ∃ x, s.extract 0 k ++ ba ej = x := ⟨_, rfl⟩
          have hxl : x.data.toList = s.data.toList.take k ++ ej := by rw [← hx]; simp [ba]
          have hxs : x.size ≤ 84 := by rw [← hx, ByteArray.size_append, ByteArray.size_extract]; omega
          have cx := fun W => parse_c x W (by omega)
          rw [← hx] at cx
          have hje := ba_list ej
          obtain ⟨be, hbe⟩ : ∃ y, ba ej = y := ⟨_, rfl⟩
          rw [hbe] at kc cx hl4 hx
          cases hq : parse x.data.toList with
          | ok o r =>
            have cx2 := fun W => (cx W).mono (fun e w' h => pa_ok (by rw [hx] at h; exact h) hq)
            obtain ⟨kk, hkk⟩ : ∃ kk, x.size - r.length = kk := ⟨_, rfl⟩
            rw [hkk] at cx2
            clear cx hq hkk hxl hje hbe hx hej
            go_wp2_with fail
            refine (cx2 _).mono ?_
            rintro e w7 ⟨A, c, rfl, -, hb7⟩
            go_wp2
            go_ret
            exact ⟨rfl, via (a := w) hb7 hBr⟩
          | bad r =>
            have NE := Lib.hid (no_more hj8 HN.out (r := r) (by rw [hej, ← hxl]; exact hq))
            have cx2 := fun W => (cx W).mono (fun e w' h => pa_bad (by rw [hx] at h; exact h) hq)
            obtain ⟨kk, hkk⟩ : ∃ kk, x.size - r.length = kk := ⟨_, rfl⟩
            rw [hkk] at cx2
            clear cx hq hkk hxl hje hbe hx hej
            go_wp2_with fail
            refine (cx2 _).mono ?_
            rintro e w7 ⟨rfl, hb7⟩
            go_wp2
            go_roundw
            case rel =>
              have hrl : ∃ j' : Nat, Value.int .i64 ((j : Int) + 1) = .int .i64 j' ∧ j' ≤ 8 ∧ Hid (NoEnd (s.data.toList.take k) j') ∧ Blk w7 w3.heap.size 9 endsA ∧ Below w.heap.size w w7 := ⟨j + 1, by go_num, by omega, NE, hG.next hb7, via (a := w) hb7 hBr⟩
              first
                | exact hrl
                | exact ⟨_, _, _, _, _, _, _, _, _, _, _, _, _, _, _, _, _, _, _, _, _, _, hrl, rfl⟩
            case measure => simp [intOf]; omega
        · exfalso
          obtain rfl : j = 8 := by omega
          obtain ⟨p, e, o, h1, h2, h3⟩ := HGO.out
          rw [← h1] at h3
          exact HN.out e (by rw [List.take_of_length_le (by decide)]; exact h2) _ _ h3
    · have dk : decide (k < s.size) = false := by simpa using hkl
      have dk2 : decide (s.size < k) = false := by rw [decide_eq_false_iff_not]; omega
      have dk3 : ¬ s.size < k := by omega
      clear hpk hp0 hrl hk hP hsz
      go_enter Try.func4, Try.ntmps4
      go_wp2_with fail
      (with_reducible refine cw.mono ?_)
      rintro e w1 ⟨rfl, hb⟩
      go_wp2_with fail
      refine (c1 _).mono ?_
      rintro e w2 ⟨rfl, hb2⟩
      have hB2 := via (a := w) hb2 hb
      clear c1
      have hBz := hB2.size
      have hG : Blk (w2.alloc (.cells endsA 9)) w2.heap.size 9 endsA := Blk.new _ _ _
      have hBG : Below w.heap.size w (w2.alloc (.cells endsA 9)) := hB2.alloc hBz _
      go_wp2_with fail
      go_loopw [82] (fun v wr => ∃ j : Nat, v = .int .i64 j ∧ j ≤ 8 ∧ Hid (NoEnd (s.data.toList.take k) j) ∧ Blk wr w2.heap.size 9 endsA ∧ Below w.heap.size w wr) (fun v _ => 8 - (intOf v).toNat)
      case atStart => exact ⟨0, rfl, by omega, Lib.hid (fun e he => by simp at he), hG, hBG⟩
      case round =>
        clear hG hBG
        obtain ⟨j, rfl, hj, HN, hG, hBr⟩ := hrel
        by_cases hj8 : j < 8
        · have kc := (hG.cell j).trans (ends_at ⟨j, hj8⟩)
          have HC := Lib.hid (ends_len _ (List.getElem_mem (l := ends) (n := j) hj8))
          obtain ⟨ej, hej⟩ : ∃ x, ends[j]'hj8 = x := ⟨_, rfl⟩
          simp only at kc
          rw [hej] at kc
          have hl4 : (ba ej).size ≤ 4 := by rw [ba_size, ← hej]; exact HC.out
          obtain ⟨x, hx⟩ : ∃ x, s.extract 0 k ++ ba ej = x := ⟨_, rfl⟩
          have hxl : x.data.toList = s.data.toList.take k ++ ej := by rw [← hx]; simp [ba]
          have hxs : x.size ≤ 84 := by rw [← hx, ByteArray.size_append, ByteArray.size_extract]; omega
          have cx := fun W => parse_c x W (by omega)
          rw [← hx] at cx
          have hje := ba_list ej
          obtain ⟨be, hbe⟩ : ∃ y, ba ej = y := ⟨_, rfl⟩
          rw [hbe] at kc cx hl4 hx
          cases hq : parse x.data.toList with
          | ok o r =>
            have cx2 := fun W => (cx W).mono (fun e w' h => pa_ok (by rw [hx] at h; exact h) hq)
            obtain ⟨kk, hkk⟩ : ∃ kk, x.size - r.length = kk := ⟨_, rfl⟩
            rw [hkk] at cx2
            clear cx hq hkk hxl hje hbe hx hej
            go_wp2_with fail
            refine (cx2 _).mono ?_
            rintro e w7 ⟨A, c, rfl, -, hb7⟩
            go_wp2
            go_ret
            exact ⟨rfl, via (a := w) hb7 hBr⟩
          | bad r =>
            have NE := Lib.hid (no_more hj8 HN.out (r := r) (by rw [hej, ← hxl]; exact hq))
            have cx2 := fun W => (cx W).mono (fun e w' h => pa_bad (by rw [hx] at h; exact h) hq)
            obtain ⟨kk, hkk⟩ : ∃ kk, x.size - r.length = kk := ⟨_, rfl⟩
            rw [hkk] at cx2
            clear cx hq hkk hxl hje hbe hx hej
            go_wp2_with fail
            refine (cx2 _).mono ?_
            rintro e w7 ⟨rfl, hb7⟩
            go_wp2
            go_roundw
            case rel =>
              have hrl : ∃ j' : Nat, Value.int .i64 ((j : Int) + 1) = .int .i64 j' ∧ j' ≤ 8 ∧ Hid (NoEnd (s.data.toList.take k) j') ∧ Blk w7 w2.heap.size 9 endsA ∧ Below w.heap.size w w7 := ⟨j + 1, by go_num, by omega, NE, hG.next hb7, via (a := w) hb7 hBr⟩
              first
                | exact hrl
                | exact ⟨_, _, _, _, _, _, _, _, _, _, _, _, _, _, _, _, _, _, _, _, _, _, hrl, rfl⟩
            case measure => simp [intOf]; omega
        · exfalso
          obtain rfl : j = 8 := by omega
          obtain ⟨p, e, o, h1, h2, h3⟩ := HGO.out
          rw [← h1] at h3
          exact HN.out e (by rw [List.take_of_length_le (by decide)]; exact h2) _ _ h3
end QuoN
end Go.Proofs.Ytmhhmdnikopdlaa
