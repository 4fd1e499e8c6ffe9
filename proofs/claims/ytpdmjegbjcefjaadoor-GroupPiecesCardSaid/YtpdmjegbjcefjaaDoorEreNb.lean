/- The walk of the reference's braces. Conditions: texts that fit. -/
import Derived.Test.YtpdmjegbjcefjaaDoorEreN
import Derived.Test.YtpdmjegbjcefjaaDoorEreSp
import Derived.Test.YtpdmjegbjcefjaaDoorEreGp
import Derived.Deep.AppendLies
import Derived.Test.YtpdmjegbjcefjaaDoorEreBp
namespace Go.Proofs.YtpdmjegbjcefjaaDoor
set_option linter.unusedVariables false
set_option linter.unusedSimpArgs false
open Go.RowKit
namespace EreN
open EreP EreW
theorem rest_some {s : ByteArray} {k : Nat} {c : UInt8} (h : (rest s k).head? = some c) : k < s.size ∧ rest s k = c :: rest s (k + 1) := by
  by_cases hk : k < s.size
  · refine ⟨hk, ?_⟩
    rw [rest_cons s k hk] at h ⊢
    simp at h
    rw [h]
  · rw [rest_nil s k (by omega)] at h; cases h
theorem need_no {α : Type} {s : ByteArray} {k : Nat} {c : UInt8} (v : α) (h : ¬ (rest s k).head? = some c) : needP c v (rest s k) = .error (rest s k, 1) := by
  by_cases hk : k < s.size
  · rw [rest_cons s k hk] at h ⊢
    rw [needP, if_neg (by intro e; exact h (by rw [eq_of_beq e]; rfl))]
  · rw [rest_nil s k (by omega)]; rfl
theorem need_yes {α : Type} {s : ByteArray} {k : Nat} {c : UInt8} (v : α) (h : (rest s k).head? = some c) : needP c v (rest s k) = .ok (v, rest s (k + 1)) := by
  rw [(rest_some h).2, needP, if_pos (by simp)]
theorem isB_yes {c : UInt8} {l : Bs} (h : l.head? = some c) : isB c l 0 = true := by unfold isB; rw [h]; simp
theorem isB_no {c : UInt8} {l : Bs} (h : ¬ l.head? = some c) : isB c l 0 = false := by unfold isB; simp [h]
theorem isB_bad (c : UInt8) (l : Bs) : isB c l 1 = false := rfl
set_option maxHeartbeats 3200000 in
set_option maxRecDepth 100000 in
theorem braces_c (R : Nat) (s : ByteArray) (i g : Nat) (w : World) (h : Rdr w R s i g 0) (hi : i ≤ s.size) (hs : s.size ≤ 1000000) :
    Calls Tryd.prog 74 #[pt R] w (BPost R s g w (timesP (rest s i))) := by
  obtain ⟨SP, hSP⟩ : ∃ SP, timesP (rest s i) = SP := ⟨_, rfl⟩
  rw [hSP]
  have HSP := Lib.hid hSP
  clear hSP
  have cd := digit_c R s i g 0 w h hi (by omega) hs
  rw [show ((0 : Nat) : Int) = 0 from rfl] at cd
  unfold DPost at cd
  clear h
  go_enter Tryd.func74, Tryd.ntmps74
  go_wp2_with fail
  (with_reducible refine cd.mono ?_)
  rintro x w1 (⟨a, k, rfl, hr, hk, ht, he, ha8⟩ | ⟨k, rfl, hr, hk, ht, he⟩)
  rotate_left
  · have HE := Lib.hid (show SP = .error (rest s k, 1) by rw [← HSP.out]; unfold timesP; rw [he])
    have H := Lib.hid hr
    have T := Lib.hid ht
    clear hr ht he cd HSP
    have ci := is_c R s k g 1 44 w1 H.out hs
    rw [show isB 44 (rest s k) 1 = false from rfl, show (((44 : UInt8).toNat : Nat) : Int) = 44 from rfl] at ci
    go_wp2_with fail
    (with_reducible refine ci.mono ?_)
    rintro x _ ⟨rfl, m, rfl⟩
    have H' := Lib.hid (H.out.dn m)
    have T' := Lib.hid (T.out.drewN m)
    clear ci H T
    generalize w1.drewN m = w2 at *
    have ci := is_c R s k g 1 125 w2 H'.out hs
    rw [show isB 125 (rest s k) 1 = false from rfl, show (((125 : UInt8).toNat : Nat) : Int) = 125 from rfl] at ci
    go_wp2_with fail
    (with_reducible refine ci.mono ?_)
    rintro x _ ⟨rfl, m, rfl⟩
    have H'' := Lib.hid (H'.out.dn m)
    have T'' := Lib.hid (T'.out.drewN m)
    clear ci H' T'
    generalize w2.drewN m = wz at *
    have cf := fail_c R s k g 1 1 wz H''.out
    rw [show ((1 : Nat) : Int) = 1 from rfl, show failS 1 1 = 1 from rfl] at cf
    go_wp2_with fail
    (with_reducible refine cf.mono ?_)
    rintro x wy ⟨rfl, hr, ht⟩
    have HF := Lib.hid hr
    have TF := Lib.hid (T''.out.trans ht)
    clear hr ht cf
    go_wp2
    first | (refine bodyPost_ret (R := BPost R s g w SP) (results_tmp2 rfl _ _ _) rfl ?_) | fail
    exact Or.inr ⟨k, rfl, HF.out, by omega, TF.out, HE.out⟩
  have H := Lib.hid hr
  have T := Lib.hid ht
  by_cases h44 : (rest s k).head? = some 44
  rotate_left
  · by_cases h125 : (rest s k).head? = some 125
    · have HE := Lib.hid (show SP = .ok (((a : Int), (a : Int)), rest s (k + 1)) by rw [← HSP.out]; unfold timesP; rw [he]; show (if (rest s k).head? == some 44 then _ else _) = _; rw [if_neg (by simpa using h44)]; exact need_yes _ h125)
      have hk1 := (rest_some h125).1
      clear hr ht he cd HSP
      have ci := is_c R s k g 0 44 w1 H.out hs
      rw [show isB 44 (rest s k) 0 = false from isB_no h44, show (((44 : UInt8).toNat : Nat) : Int) = 44 from rfl] at ci
      go_wp2_with fail
      (with_reducible refine ci.mono ?_)
      rintro x _ ⟨rfl, m, rfl⟩
      have H' := Lib.hid (H.out.dn m)
      have T' := Lib.hid (T.out.drewN m)
      clear ci H T
      generalize w1.drewN m = w2 at *
      have ci := is_c R s k g 0 125 w2 H'.out hs
      rw [show isB 125 (rest s k) 0 = true from isB_yes h125, show (((125 : UInt8).toNat : Nat) : Int) = 125 from rfl] at ci
      go_wp2_with fail
      (with_reducible refine ci.mono ?_)
      rintro x _ ⟨rfl, m, rfl⟩
      have H'' := Lib.hid (H'.out.dn m)
      have T'' := Lib.hid (T'.out.drewN m)
      clear ci H' T'
      generalize w2.drewN m = wz at *
      obtain ⟨j0, j1, j2, j3⟩ := H''.out.cells
      have f1 := H''.out.free 1
      have HF := Lib.hid (H''.out.setAt (k + 1))
      have TF := Lib.hid (T''.out.setCell (p := ⟨R, 1, none⟩) rfl (.int .i64 (((k + 1 : Nat)) : Int)))
      rw [show (((k + 1 : Nat)) : Int) = (k : Int) + 1 from rfl] at HF TF
      go_wp2
      first | (refine bodyPost_ret (R := BPost R s g w SP) (results_tmp2 rfl _ _ _) rfl ?_) | fail
      exact Or.inl ⟨a, a, k + 1, rfl, HF.out, hk1, TF.out, HE.out⟩
    · have HE := Lib.hid (show SP = .error (rest s k, 1) by rw [← HSP.out]; unfold timesP; rw [he]; show (if (rest s k).head? == some 44 then _ else _) = _; rw [if_neg (by simpa using h44)]; exact need_no _ h125)
      clear hr ht he cd HSP
      have ci := is_c R s k g 0 44 w1 H.out hs
      rw [show isB 44 (rest s k) 0 = false from isB_no h44, show (((44 : UInt8).toNat : Nat) : Int) = 44 from rfl] at ci
      go_wp2_with fail
      (with_reducible refine ci.mono ?_)
      rintro x _ ⟨rfl, m, rfl⟩
      have H' := Lib.hid (H.out.dn m)
      have T' := Lib.hid (T.out.drewN m)
      clear ci H T
      generalize w1.drewN m = w2 at *
      have ci := is_c R s k g 0 125 w2 H'.out hs
      rw [show isB 125 (rest s k) 0 = false from isB_no h125, show (((125 : UInt8).toNat : Nat) : Int) = 125 from rfl] at ci
      go_wp2_with fail
      (with_reducible refine ci.mono ?_)
      rintro x _ ⟨rfl, m, rfl⟩
      have H'' := Lib.hid (H'.out.dn m)
      have T'' := Lib.hid (T'.out.drewN m)
      clear ci H' T'
      generalize w2.drewN m = wz at *
      have cf := fail_c R s k g 0 1 wz H''.out
      rw [show ((1 : Nat) : Int) = 1 from rfl, show failS 1 0 = 1 from rfl] at cf
      go_wp2_with fail
      (with_reducible refine cf.mono ?_)
      rintro x wy ⟨rfl, hr, ht⟩
      have HF := Lib.hid hr
      have TF := Lib.hid (T''.out.trans ht)
      clear hr ht cf
      go_wp2
      first | (refine bodyPost_ret (R := BPost R s g w SP) (results_tmp2 rfl _ _ _) rfl ?_) | fail
      exact Or.inr ⟨k, rfl, HF.out, by omega, TF.out, HE.out⟩
  obtain ⟨hk1, hcons⟩ := rest_some h44
  have ht2 : (rest s k).tail = rest s (k + 1) := by rw [hcons]; rfl
  clear hr ht cd
  have ci := is_c R s k g 0 44 w1 H.out hs
  rw [show isB 44 (rest s k) 0 = true from isB_yes h44, show (((44 : UInt8).toNat : Nat) : Int) = 44 from rfl] at ci
  go_wp2_with fail
  (with_reducible refine ci.mono ?_)
  rintro x _ ⟨rfl, m, rfl⟩
  have H' := Lib.hid (H.out.dn m)
  have T' := Lib.hid (T.out.drewN m)
  clear ci H T
  generalize w1.drewN m = w2 at *
  obtain ⟨j0, j1, j2, j3⟩ := H'.out.cells
  have f1 := H'.out.free 1
  have hset := Lib.hid (H'.out.setAt (k + 1))
  have tset := Lib.hid (T'.out.setCell (p := ⟨R, 1, none⟩) rfl (.int .i64 (((k + 1 : Nat)) : Int)))
  rw [show (((k + 1 : Nat)) : Int) = (k : Int) + 1 from rfl] at hset tset
  have HS3 : ∃ w3, w3 = w2.setCell ⟨R, 1, none⟩ (.int .i64 ((k : Int) + 1)) := ⟨_, rfl⟩
  obtain ⟨w3, hw3⟩ := HS3
  rw [← hw3] at hset tset
  clear H' T'
  by_cases h125 : (rest s (k + 1)).head? = some 125
  · have HE := Lib.hid (show SP = .ok (((a : Int), -1), rest s (k + 1 + 1)) by rw [← HSP.out]; unfold timesP; rw [he]; show (if (rest s k).head? == some 44 then _ else _) = _; rw [if_pos (by simpa using h44), ht2, if_pos (by simpa using h125), (rest_some h125).2]; rfl)
    have hk2 := (rest_some h125).1
    have ci := is_c R s (k + 1) g 0 125 w3 hset.out hs
    rw [show isB 125 (rest s (k + 1)) 0 = true from isB_yes h125, show (((125 : UInt8).toNat : Nat) : Int) = 125 from rfl] at ci
    clear he HSP
    go_wp2_with fail
    rw [← hw3]
    clear hw3 j0 j1 j2 j3 f1
    (with_reducible refine ci.mono ?_)
    rintro x _ ⟨rfl, m, rfl⟩
    have H4 := Lib.hid (hset.out.dn m)
    have T4 := Lib.hid (tset.out.drewN m)
    clear ci hset tset
    generalize w3.drewN m = w4 at *
    have ci := is_c R s (k + 1) g 0 125 w4 H4.out hs
    rw [show isB 125 (rest s (k + 1)) 0 = true from isB_yes h125, show (((125 : UInt8).toNat : Nat) : Int) = 125 from rfl] at ci
    go_wp2_with fail
    (with_reducible refine ci.mono ?_)
    rintro x _ ⟨rfl, m, rfl⟩
    have H4' := Lib.hid (H4.out.dn m)
    have T4' := Lib.hid (T4.out.drewN m)
    clear ci H4 T4
    generalize w4.drewN m = wz at *
    obtain ⟨j0, j1, j2, j3⟩ := H4'.out.cells
    have f1 := H4'.out.free 1
    have HF := Lib.hid (H4'.out.setAt ((k + 1) + 1))
    have TF := Lib.hid (T4'.out.setCell (p := ⟨R, 1, none⟩) rfl (.int .i64 ((((k + 1) + 1 : Nat)) : Int)))
    rw [show ((((k + 1) + 1 : Nat)) : Int) = ((k + 1) : Int) + 1 from rfl] at HF TF
    go_wp2
    first | (refine bodyPost_ret (R := BPost R s g w SP) (results_tmp2 rfl _ _ _) rfl ?_) | fail
    exact Or.inl ⟨a, (-1), (k + 1) + 1, rfl, HF.out, hk2, TF.out, HE.out⟩
  · have hne : isB 125 (rest s (k + 1)) 0 = false := isB_no h125
    have ci := is_c R s (k + 1) g 0 125 w3 hset.out hs
    rw [hne, show (((125 : UInt8).toNat : Nat) : Int) = 125 from rfl] at ci
    have HE0 := Lib.hid (show SP = match digitP a (rest s (k + 1)) with
      | .error e => .error e
      | .ok (b, r2) => needP 125 ((a : Int), (b : Int)) r2 by rw [← HSP.out]; unfold timesP; rw [he]; show (if (rest s k).head? == some 44 then _ else _) = _; rw [if_pos (by simpa using h44), ht2, if_neg (by simpa using h125)]; rfl)
    clear he HSP
    go_wp2_with fail
    rw [← hw3]
    clear hw3 j0 j1 j2 j3 f1
    (with_reducible refine ci.mono ?_)
    rintro x _ ⟨rfl, m, rfl⟩
    have H4 := Lib.hid (hset.out.dn m)
    have T4 := Lib.hid (tset.out.drewN m)
    clear ci hset tset
    generalize w3.drewN m = w4 at *
    obtain ⟨j0, j1, j2, j3⟩ := H4.out.cells
    have cd := digit_c R s (k + 1) g a w4 H4.out (by omega) ha8 hs
    unfold DPost at cd
    go_wp2_with fail
    (with_reducible refine cd.mono ?_)
    rintro x w5 (⟨b, k2, rfl, hr, hk2, ht, he, hb8⟩ | ⟨k2, rfl, hr, hk2, ht, he⟩)
    rotate_left
    · have HE := Lib.hid (show SP = .error (rest s k2, 1) by rw [HE0.out, he])
      have H5 := Lib.hid hr
      have T5 := Lib.hid (T4.out.trans ht)
      clear hr ht he cd H4 T4 HE0
      have ci := is_c R s k2 g 1 125 w5 H5.out hs
      rw [show isB 125 (rest s k2) 1 = false from rfl, show (((125 : UInt8).toNat : Nat) : Int) = 125 from rfl] at ci
      go_wp2_with fail
      (with_reducible refine ci.mono ?_)
      rintro x _ ⟨rfl, m, rfl⟩
      have H5' := Lib.hid (H5.out.dn m)
      have T5' := Lib.hid (T5.out.drewN m)
      clear ci H5 T5
      generalize w5.drewN m = wz at *
      have cf := fail_c R s k2 g 1 1 wz H5'.out
      rw [show ((1 : Nat) : Int) = 1 from rfl, show failS 1 1 = 1 from rfl] at cf
      go_wp2_with fail
      (with_reducible refine cf.mono ?_)
      rintro x wy ⟨rfl, hr, ht⟩
      have HF := Lib.hid hr
      have TF := Lib.hid (T5'.out.trans ht)
      clear hr ht cf
      go_wp2
      first | (refine bodyPost_ret (R := BPost R s g w SP) (results_tmp2 rfl _ _ _) rfl ?_) | fail
      exact Or.inr ⟨k2, rfl, HF.out, by omega, TF.out, HE.out⟩
    · have H5 := Lib.hid hr
      have T5 := Lib.hid (T4.out.trans ht)
      by_cases h6 : (rest s k2).head? = some 125
      · have HE := Lib.hid (show SP = .ok (((a : Int), (b : Int)), rest s (k2 + 1)) by rw [HE0.out, he]; exact need_yes _ h6)
        have hk3 := (rest_some h6).1
        clear hr ht he cd H4 T4 HE0
        have ci := is_c R s k2 g 0 125 w5 H5.out hs
        rw [show isB 125 (rest s k2) 0 = true from isB_yes h6, show (((125 : UInt8).toNat : Nat) : Int) = 125 from rfl] at ci
        go_wp2_with fail
        (with_reducible refine ci.mono ?_)
        rintro x _ ⟨rfl, m, rfl⟩
        have H5' := Lib.hid (H5.out.dn m)
        have T5' := Lib.hid (T5.out.drewN m)
        clear ci H5 T5
        generalize w5.drewN m = wz at *
        obtain ⟨j0, j1, j2, j3⟩ := H5'.out.cells
        have f1 := H5'.out.free 1
        have HF := Lib.hid (H5'.out.setAt (k2 + 1))
        have TF := Lib.hid (T5'.out.setCell (p := ⟨R, 1, none⟩) rfl (.int .i64 (((k2 + 1 : Nat)) : Int)))
        rw [show (((k2 + 1 : Nat)) : Int) = (k2 : Int) + 1 from rfl] at HF TF
        go_wp2
        first | (refine bodyPost_ret (R := BPost R s g w SP) (results_tmp2 rfl _ _ _) rfl ?_) | fail
        exact Or.inl ⟨a, b, k2 + 1, rfl, HF.out, hk3, TF.out, HE.out⟩
      · have HE := Lib.hid (show SP = .error (rest s k2, 1) by rw [HE0.out, he]; exact need_no _ h6)
        clear hr ht he cd H4 T4 HE0
        have ci := is_c R s k2 g 0 125 w5 H5.out hs
        rw [show isB 125 (rest s k2) 0 = false from isB_no h6, show (((125 : UInt8).toNat : Nat) : Int) = 125 from rfl] at ci
        go_wp2_with fail
        (with_reducible refine ci.mono ?_)
        rintro x _ ⟨rfl, m, rfl⟩
        have H5' := Lib.hid (H5.out.dn m)
        have T5' := Lib.hid (T5.out.drewN m)
        clear ci H5 T5
        generalize w5.drewN m = wz at *
        have cf := fail_c R s k2 g 0 1 wz H5'.out
        rw [show ((1 : Nat) : Int) = 1 from rfl, show failS 1 0 = 1 from rfl] at cf
        go_wp2_with fail
        (with_reducible refine cf.mono ?_)
        rintro x wy ⟨rfl, hr, ht⟩
        have HF := Lib.hid hr
        have TF := Lib.hid (T5'.out.trans ht)
        clear hr ht cf
        go_wp2
        first | (refine bodyPost_ret (R := BPost R s g w SP) (results_tmp2 rfl _ _ _) rfl ?_) | fail
        exact Or.inr ⟨k2, rfl, HF.out, by omega, TF.out, HE.out⟩
end EreN
end Go.Proofs.YtpdmjegbjcefjaaDoor
namespace Go.Proofs.YtpdmjegbjcefjaaDoor
set_option linter.unusedVariables false
set_option linter.unusedSimpArgs false
open Go.RowKit
namespace EreN
open EreP EreW EreX
/-- What item leaves. -/
def ItPost (s : ByteArray) (i : Nat) (w : World) (spec : Except (Bs × Nat) (UInt8 × Bs)) (x : Ending) (w' : World) : Prop :=
  w = w' ∧ ((∃ (c : UInt8) (n : Nat), x = .returned (.tuple #[.int .u8 c.toNat, .int .i64 n, .int .i64 0]) ∧ spec = .ok (c, rest s (i + n)) ∧ i + n ≤ s.size ∧ 1 ≤ n ∧ n ≤ 2) ∨
    (∃ k : Nat, x = .returned (.tuple #[.int .u8 0, .int .i64 (-1), .int .i64 k]) ∧ spec = .error (rest s k, 1) ∧ k ≤ s.size))
set_option maxHeartbeats 1600000 in
set_option maxRecDepth 100000 in
theorem item_c (s : ByteArray) (i : Nat) (w : World) (hi : i ≤ s.size) (hs : s.size ≤ 1000000) :
    Calls Tryd.prog 98 #[.string s, .int .i64 i] w (ItPost s i w (itemP (rest s i))) := by
  obtain ⟨SP, hSP⟩ : ∃ SP, itemP (rest s i) = SP := ⟨_, rfl⟩
  rw [hSP]
  by_cases hlt : i < s.size
  rotate_left
  · have d : decide ((s.size : Int) ≤ (i : Int)) = true := by simp; omega
    have d2 : s.size ≤ i := by omega
    have HE := Lib.hid (show SP = .error (rest s i, 1) by rw [← hSP, rest_nil s i (by omega)]; rfl)
    clear hSP hlt
    go_enter Tryd.func98, Tryd.ntmps98
    go_wp2
    first | (refine bodyPost_ret (R := ItPost s i w SP) (v := .tuple #[.int .u8 0, .int .i64 (-1), .int .i64 i]) (by simp [results, Tryd.results98]) rfl ?_) | fail
    exact ⟨rfl, Or.inr ⟨i, rfl, HE.out, hi⟩⟩
  have d : decide ((s.size : Int) ≤ (i : Int)) = false := by simp; omega
  have d2 : ¬ s.size ≤ i := by omega
  have hc := rest_cons s i hlt
  obtain ⟨c, hce⟩ : ∃ c, s[i]'hlt = c := ⟨_, rfl⟩
  rw [hce] at hc
  have hcl := c.toNat_lt
  have tst : ∀ k : UInt8, ((c.toNat : Int) == (k.toNat : Int)) = (c == k) := by
    intro k
    rw [Bool.eq_iff_iff]; simp
    constructor
    · intro h; exact UInt8.toNat_inj.1 (by omega)
    · rintro rfl; rfl
  have t93 := tst 93
  have t45 := tst 45
  have t92 := tst 92
  rw [show (((93 : UInt8).toNat : Nat) : Int) = 93 from rfl] at t93
  rw [show (((45 : UInt8).toNat : Nat) : Int) = 45 from rfl] at t45
  rw [show (((92 : UInt8).toNat : Nat) : Int) = 92 from rfl] at t92
  clear tst
  by_cases c1 : (c == 93) = true
  · have HE := Lib.hid (show SP = .error (rest s i, 1) by rw [← hSP, hc, itemP.eq_def]; simp only [c1]; rfl)
    rw [c1] at t93
    clear hSP hc
    go_enter Tryd.func98, Tryd.ntmps98
    go_wp2
    first | (refine bodyPost_ret (R := ItPost s i w SP) (v := .tuple #[.int .u8 0, .int .i64 (-1), .int .i64 i]) (by simp [results, Tryd.results98]) rfl ?_) | fail
    exact ⟨rfl, Or.inr ⟨i, rfl, HE.out, hi⟩⟩
  have c1 : (c == 93) = false := by simpa using c1
  by_cases c2 : (c == 45) = true
  · have HE := Lib.hid (show SP = .error (rest s i, 1) by rw [← hSP, hc, itemP.eq_def]; simp only [c1, c2]; rfl)
    rw [c1] at t93
    rw [c2] at t45
    clear hSP hc
    go_enter Tryd.func98, Tryd.ntmps98
    go_wp2
    first | (refine bodyPost_ret (R := ItPost s i w SP) (v := .tuple #[.int .u8 0, .int .i64 (-1), .int .i64 i]) (by simp [results, Tryd.results98]) rfl ?_) | fail
    exact ⟨rfl, Or.inr ⟨i, rfl, HE.out, hi⟩⟩
  have c2 : (c == 45) = false := by simpa using c2
  rw [c1] at t93
  rw [c2] at t45
  by_cases c3 : (c == 92) = true
  rotate_left
  · have c3 : (c == 92) = false := by simpa using c3
    have HE := Lib.hid (show SP = .ok (c, rest s (i + 1)) by rw [← hSP, hc, itemP.eq_def]; simp only [c1, c2, c3]; rfl)
    rw [c3] at t92
    have n92 : ((c.toNat : Int) != 92) = true := by simp at t92 ⊢; omega
    clear hSP hc t92
    go_enter Tryd.func98, Tryd.ntmps98
    go_wp2
    first | (refine bodyPost_ret (R := ItPost s i w SP) (v := .tuple #[.int .u8 c.toNat, .int .i64 1, .int .i64 0]) (by simp [results, Tryd.results98]) rfl ?_) | fail
    exact ⟨rfl, Or.inl ⟨c, 1, rfl, HE.out, by omega, by omega, by omega⟩⟩
  rw [c3] at t92
  have n92 : ((c.toNat : Int) != 92) = false := by simp at t92 ⊢; omega
  by_cases hlt2 : i + 1 < s.size
  rotate_left
  · have d3 : decide ((s.size : Int) ≤ (i : Int) + 1) = true := by simp; omega
    have HE := Lib.hid (show SP = .error (rest s (i + 1), 1) by rw [← hSP, hc, itemP.eq_def]; simp only [c1, c2, c3]; rw [rest_nil s (i + 1) (by omega)]; rfl)
    clear hSP hc t92
    go_enter Tryd.func98, Tryd.ntmps98
    go_wp2
    first | (refine bodyPost_ret (R := ItPost s i w SP) (v := .tuple #[.int .u8 0, .int .i64 (-1), .int .i64 ((i : Int) + 1)]) (by simp [results, Tryd.results98]) rfl ?_) | fail
    exact ⟨rfl, Or.inr ⟨i + 1, rfl, HE.out, by omega⟩⟩
  have d3 : decide ((s.size : Int) ≤ (i : Int) + 1) = false := by simp; omega
  have HE := Lib.hid (show SP = .ok (s[i + 1]'hlt2, rest s (i + 2)) by rw [← hSP, hc, itemP.eq_def]; simp only [c1, c2, c3]; rw [rest_cons s (i + 1) hlt2]; rfl)
  obtain ⟨c', hce'⟩ : ∃ c, s[i + 1]'hlt2 = c := ⟨_, rfl⟩
  rw [hce'] at HE
  clear hSP hc t92
  go_enter Tryd.func98, Tryd.ntmps98
  go_wp2
  first | (refine bodyPost_ret (R := ItPost s i w SP) (v := .tuple #[.int .u8 c'.toNat, .int .i64 2, .int .i64 0]) (by simp [results, Tryd.results98]) rfl ?_) | fail
  exact ⟨rfl, Or.inl ⟨c', 2, rfl, HE.out, by omega, by omega, by omega⟩⟩
/-- The spans behind [. -/
def listP : Nat → List (Nat × Nat) → Bs → Except (Bs × Nat) (List (Nat × Nat) × Bs)
  | 0, _, l => .error (l, 1)
  | f + 1, acc, l => if (!acc.isEmpty && l.head? == some 93) = true then .ok (acc, l.tail) else match spanP l with
    | .error e => .error e
    | .ok ((a, b), r) => listP f (acc ++ [(a.toNat, b.toNat)]) r
theorem items_list : ∀ (f : Nat) (acc : List (Nat × Nat)) (l : Bs), itemsP f acc.isEmpty (acc.foldl (fun s p => s ||| rangeS p.1 p.2) 0) l = match listP f acc l with
    | .error e => .error e
    | .ok (out, r) => .ok (out.foldl (fun s p => s ||| rangeS p.1 p.2) 0, r) := by
  intro f
  induction f with
  | zero => intro acc l; rfl
  | succ f ih =>
    intro acc l
    rw [itemsP, listP]
    by_cases h : (!acc.isEmpty && l.head? == some 93) = true
    · rw [if_pos h, if_pos h]
    · rw [if_neg h, if_neg h]
      cases hs : spanP l with
      | error e => rfl
      | ok b =>
        obtain ⟨⟨a, b⟩, r⟩ := b
        have := ih (acc ++ [(a.toNat, b.toNat)]) r
        rw [List.foldl_append] at this
        have he : (acc ++ [(a.toNat, b.toNat)]).isEmpty = false := by cases acc <;> rfl
        rw [he] at this
        exact this
end EreN
end Go.Proofs.YtpdmjegbjcefjaaDoor
namespace Go.Proofs.YtpdmjegbjcefjaaDoor
set_option linter.unusedVariables false
set_option linter.unusedSimpArgs false
open Go.RowKit
namespace EreN
open EreP EreW EreX
theorem item_rest {s : ByteArray} {j n : Nat} {c : UInt8} (h : itemP (rest s j) = .ok (c, rest s (j + n))) (h1 : 1 ≤ n) (h2 : j + n ≤ s.size) : rest s (j + n - 1) = c :: rest s (j + n) := by
  obtain ⟨pre, e, _⟩ := EreP.item_last h
  have hl : pre.length = n - 1 := by
    have := congrArg List.length e
    rw [List.length_append, List.length_cons, rest_len, rest_len] at this
    omega
  have : rest s (j + n - 1) = (rest s j).drop (n - 1) := by
    unfold rest
    rw [List.drop_drop]
    congr 1; omega
  rw [this, e, ← hl, List.drop_left]
/-- What Spans leaves. -/
def SPost (s : ByteArray) (w : World) (spec : Except (Bs × Nat) (List (Nat × Nat) × Bs)) (x : Ending) (w' : World) : Prop :=
  Below w.heap.size w w' ∧ ((∃ (out : List (Nat × Nat)) (lv : Value) (k : Nat), x = .returned (.tuple #[lv, .int .i64 k, .int .i64 0]) ∧ w'.ownsRow w.heap.size 120 2 lv out.length (spCells out) ∧ spec = .ok (out, rest s k) ∧ k ≤ s.size ∧ out.length ≤ s.size) ∨
    (∃ k : Nat, x = .returned (.tuple #[.slice none 0 0, .int .i64 (-1), .int .i64 k]) ∧ spec = .error (rest s k, 1) ∧ k ≤ s.size))
set_option maxHeartbeats 6400000 in
set_option maxRecDepth 100000 in
theorem spansq_c (s : ByteArray) (i0' : Nat) (w : World) (hi : i0' ≤ s.size) (hs : s.size ≤ 1000000) :
    Calls Tryd.prog 95 #[.string s, .int .i64 i0'] w (SPost s w (listP ((rest s i0').length + 1) [] (rest s i0'))) := by
  obtain ⟨i0, hi0, hz0, hz1, hz2⟩ := info_parts info_sp
  obtain ⟨GR, hGR⟩ : ∃ GR, listP ((rest s i0').length + 1) [] (rest s i0') = GR := ⟨_, rfl⟩
  rw [hGR]
  have HG := Lib.hid hGR
  have hlen0 := rest_len s i0'
  clear hGR
  go_enter Tryd.func95, Tryd.ntmps95
  go_wp2
  go_loopw [1, 7] (fun iv lv wr => ∃ (i f : Nat) (acc : List (Nat × Nat)), iv = .int .i64 i ∧ i ≤ s.size ∧ s.size - i < f ∧ acc.length ≤ i ∧ Hid (listP f acc (rest s i) = GR) ∧ wr.ownsRow w.heap.size 120 2 lv acc.length (spCells acc) ∧ Below w.heap.size w wr) (fun iv _ _ => s.size - (intOf iv).toNat)
  case atStart => exact ⟨i0', (rest s i0').length + 1, [], rfl, hi, by omega, by simp, HG, World.ownsRow_nil _ _ _ _, Below.refl _ _⟩
  case round =>
    obtain ⟨z0, rfl⟩ : ∃ z : World, z = wr := ⟨_, rfl⟩
    obtain ⟨lv, rfl⟩ : ∃ z : Value, z = u7 := ⟨_, rfl⟩
    obtain ⟨i, f, acc, rfl, hi, hf, hac, hg, hown, hB⟩ := hrel
    have zB := hB.size
    obtain ⟨f', rfl⟩ : ∃ f', f = f' + 1 := ⟨f - 1, by omega⟩
    have ci := item_c s i z0 hi hs
    unfold ItPost at ci
    have hst := hg.out
    rw [listP] at hst
    clear HG hlen0 hg
    by_cases hne : acc = []
    · subst hne
      obtain ⟨A, cp, rfl⟩ : ∃ A cp, lv = .slice A 0 cp := by
        rcases hown.2 with ⟨h, _⟩ | ⟨g, cap, cur, h, _⟩
        · exact ⟨_, _, h⟩
        · exact ⟨_, _, h⟩
      have HST := Lib.hid (show GR = match spanP (rest s i) with | .error e => .error e | .ok ((a, b), r) => listP f' ([] ++ [(a.toNat, b.toNat)]) r from hst.symm)
      clear hst hac
      go_wp2_with fail
      (with_reducible refine (ci.mono ?_))
      rintro x _ ⟨rfl, (⟨c1, n1, rfl, h1, hn1, hn1a, hn1b⟩ | ⟨k, rfl, h1, hk⟩)⟩
      rotate_left
      · have HE := Lib.hid (show GR = .error (rest s k, 1) by rw [HST.out]; unfold spanP; rw [h1])
        clear h1 ci HST
        go_wp2
        first | (refine bodyPost_ret (R := SPost s w GR) (v := .tuple #[.slice none 0 0, .int .i64 (-1), .int .i64 k]) (by simp [results, Tryd.results95]) rfl ?_) | fail
        exact ⟨hB, Or.inr ⟨k, rfl, HE.out, by omega⟩⟩
      have hc1 := c1.toNat_lt
      by_cases hd : (rest s (i + n1)).head? = some 45
      rotate_left
      · have HE2 := Lib.hid (show listP f' (([] : List (Nat × Nat)) ++ [(c1.toNat, c1.toNat)]) (rest s (i + n1)) = GR by
          rw [HST.out]; unfold spanP; rw [h1]
          cases hr : rest s (i + n1) with
          | nil => rfl
          | cons c r =>
            have : (c == 45) = false := by rw [hr] at hd; simpa using hd
            simp only [this]; rfl)
        clear h1 ci HST
        have hw : (decide (((i : Int) + (n1 : Int)) < (s.size : Int)) = false ∧ ¬ i + n1 < s.size) ∨ (∃ hq : i + n1 < s.size, decide (((i : Int) + (n1 : Int)) < (s.size : Int)) = true ∧ (((s[i + n1]'hq).toNat : Int) == 45) = false) := by
          by_cases hq : i + n1 < s.size
          · right
            refine ⟨hq, by simp; omega, ?_⟩
            rw [rest_cons s _ hq] at hd
            rw [beq_eq_false_iff_ne]
            intro e
            apply hd
            have : s[i + n1]'hq = 45 := UInt8.toNat_inj.1 (by have : ((45 : UInt8).toNat : Int) = 45 := rfl; omega)
            rw [this]; rfl
          · left; exact ⟨by simp; omega, hq⟩
        clear hd
        have hs2 : (i : Int) + (n1 : Int) = ((i + n1 : Nat) : Int) := by omega
        rcases hw with ⟨hw, hw2⟩ | ⟨hq, hw, hw3⟩
        all_goals
          rw [hs2] at hw
          obtain ⟨j, hj⟩ : ∃ j, i + n1 = j := ⟨_, rfl⟩
          simp only [hj] at *
          go_wp2_with (at_builtin; refine wpList_append_lies _ rfl _ _ 118 rfl w.heap.size 120 i0 (.agg #[.int .u8 0, .int .u8 0]) 2 2 Tryd.underlying118 hi0 hz0 hz1 hz2 rfl (by decide) _ ([] : List (Nat × Nat)).length (spCells ([] : List (Nat × Nat))) rfl (hown.alloc _) ⟨World.heap z0 |>.size, 0, none⟩ 1 1 [.int .u8 c1.toNat, .int .u8 c1.toNat] rfl rfl (World.news_of_block (heap_alloc_new z0 _)) (by intro u hu; simp at hu; rcases hu with rfl | rfl <;> rfl) (by first | omega | (simp; done) | (simp; omega)) (by unfold maxLen; first | omega | (simp; done) | (simp; omega)) (by first | omega | (simp; done) | (simp; omega)) (by rw [World.size_alloc]; omega) ((z0).heap.size + 1) (by rw [World.size_alloc]) ?_)
          intro g5 cap5 w5 hown5 hgrow hat hlt5
          have hB5 : Below w.heap.size w w5 := (hB.alloc (by omega) _).grown hgrow (by rw [World.size_alloc]; omega) (fun b hb => (hown.lt b hb).1)
          have HOWN := Lib.hid hown5
          clear hgrow hat hlt5 hown5
          go_wp2
          go_roundw
          case rel =>
            refine ⟨j, f', ([] : List (Nat × Nat)) ++ [(c1.toNat, c1.toNat)], by go_num, by omega, by omega, by first | (simp; done) | (simp; omega), HE2, ?_, hB5⟩
            rw [spCells_app, List.length_append]
            exact HOWN.out
          case measure => simp [intOf]; omega
      obtain ⟨hq, hcons⟩ := rest_some hd
      have hx : s[i + n1]'hq = 45 := by
        rw [rest_cons s _ hq] at hcons
        injection hcons
      have hw : decide (((i : Int) + (n1 : Int)) < (s.size : Int)) = true := by simp; omega
      have hw3 : (((s[i + n1]'hq).toNat : Int) == 45) = true := by rw [hx]; rfl
      have hs2 : (i : Int) + (n1 : Int) = ((i + n1 : Nat) : Int) := by omega
      have HST1 := Lib.hid (show GR = match (match itemP (rest s (i + n1 + 1)) with
          | .error e => (.error e : Except (Bs × Nat) ((UInt8 × UInt8) × Bs))
          | .ok (high, r2) => if high < c1 then .error (high :: r2, 1) else .ok ((c1, high), r2)) with
          | .error e => .error e
          | .ok ((a, b), r) => listP f' (([] : List (Nat × Nat)) ++ [(a.toNat, b.toNat)]) r by
        rw [HST.out]; unfold spanP; rw [h1]
        show (match (match (rest s (i + n1) : Bs) with | [] => (.ok ((c1, c1), []) : Except (Bs × Nat) ((UInt8 × UInt8) × Bs)) | c :: r1 => _) with | .error e => _ | .ok ((a, b), r) => _) = _
        rw [hcons]; rfl)
      clear hd hcons h1 ci HST hx
      rw [hs2] at hw
      obtain ⟨j, hj⟩ : ∃ j, i + n1 = j := ⟨_, rfl⟩
      simp only [hj] at *
      have ci := item_c s (j + 1) z0 (by omega) hs
      unfold ItPost at ci
      rw [show ((j + 1 : Nat) : Int) = (j : Int) + 1 from rfl] at ci
      go_wp2_with fail
      (with_reducible refine (ci.mono ?_))
      rintro x _ ⟨rfl, (⟨c2, n2, rfl, h2, hn2, hn2a, hn2b⟩ | ⟨k, rfl, h2, hk⟩)⟩
      rotate_left
      · have HE := Lib.hid (show GR = .error (rest s k, 1) by rw [HST1.out, h2])
        clear h2 ci HST1
        go_wp2
        first | (refine bodyPost_ret (R := SPost s w GR) (v := .tuple #[.slice none 0 0, .int .i64 (-1), .int .i64 k]) (by simp [results, Tryd.results95]) rfl ?_) | fail
        exact ⟨hB, Or.inr ⟨k, rfl, HE.out, by omega⟩⟩
      have hc2 := c2.toNat_lt
      by_cases hlt2 : c2 < c1
      · have dlt : decide ((c2.toNat : Int) < (c1.toNat : Int)) = true := by simp; exact UInt8.lt_iff_toNat_lt.1 hlt2
        have dlt2 : c2.toNat < c1.toNat := UInt8.lt_iff_toNat_lt.1 hlt2
        have hlast := item_rest h2 hn2a hn2
        rw [show j + 1 + n2 - 1 = j + n2 by omega] at hlast
        have HE := Lib.hid (show GR = .error (rest s (j + n2), 1) by rw [HST1.out, h2]; simp only [if_pos hlt2]; rw [hlast])
        clear h2 ci HST1 hlast
        go_wp2
        first | (refine bodyPost_ret (R := SPost s w GR) (v := .tuple #[.slice none 0 0, .int .i64 (-1), .int .i64 ((j : Int) + (n2 : Int))]) (by simp [results, Tryd.results95]) rfl ?_) | fail
        exact ⟨hB, Or.inr ⟨(j + n2), rfl, HE.out, by omega⟩⟩
      have dlt : decide ((c2.toNat : Int) < (c1.toNat : Int)) = false := by simp; exact Nat.le_of_not_lt (fun h => hlt2 (UInt8.lt_iff_toNat_lt.2 h))
      have dlt2 : ¬ c2.toNat < c1.toNat := fun h => hlt2 (UInt8.lt_iff_toNat_lt.2 h)
      have HE2 := Lib.hid (show listP f' (([] : List (Nat × Nat)) ++ [(c1.toNat, c2.toNat)]) (rest s (j + 1 + n2)) = GR by rw [HST1.out, h2]; simp only [if_neg hlt2])
      clear h2 ci HST1 hlt2
      go_wp2_with (at_builtin; refine wpList_append_lies _ rfl _ _ 118 rfl w.heap.size 120 i0 (.agg #[.int .u8 0, .int .u8 0]) 2 2 Tryd.underlying118 hi0 hz0 hz1 hz2 rfl (by decide) _ ([] : List (Nat × Nat)).length (spCells ([] : List (Nat × Nat))) rfl (hown.alloc _) ⟨World.heap z0 |>.size, 0, none⟩ 1 1 [.int .u8 c1.toNat, .int .u8 c2.toNat] rfl rfl (World.news_of_block (heap_alloc_new z0 _)) (by intro u hu; simp at hu; rcases hu with rfl | rfl <;> rfl) (by first | omega | (simp; done) | (simp; omega)) (by unfold maxLen; first | omega | (simp; done) | (simp; omega)) (by first | omega | (simp; done) | (simp; omega)) (by rw [World.size_alloc]; omega) ((z0).heap.size + 1) (by rw [World.size_alloc]) ?_)
      intro g5 cap5 w5 hown5 hgrow hat hlt5
      have hB5 : Below w.heap.size w w5 := (hB.alloc (by omega) _).grown hgrow (by rw [World.size_alloc]; omega) (fun b hb => (hown.lt b hb).1)
      have HOWN := Lib.hid hown5
      clear hgrow hat hlt5 hown5
      go_wp2
      go_roundw
      case rel =>
        refine ⟨(j + 1 + n2), f', ([] : List (Nat × Nat)) ++ [(c1.toNat, c2.toNat)], by go_num, by omega, by omega, by first | (simp; done) | (simp; omega), HE2, ?_, hB5⟩
        rw [spCells_app, List.length_append]
        exact HOWN.out
      case measure => simp [intOf]; omega
    · have hn : 0 < acc.length := List.length_pos_iff.2 hne
      have dn : decide ((0 : Int) < ((acc.length : Nat) : Int)) = true := by simp; omega
      obtain ⟨g, cap, rfl⟩ : ∃ g cap, lv = .slice (some ⟨g, 0, none⟩) acc.length cap := by
        rcases hown.2 with ⟨_, h⟩ | ⟨g, cap, cur, h, _⟩
        · omega
        · exact ⟨g, cap, h⟩
      have hemp : acc.isEmpty = false := by cases acc with
        | nil => exact absurd rfl hne
        | cons => rfl
      by_cases h93 : (rest s i).head? = some 93
      · obtain ⟨hq, hcons⟩ := rest_some h93
        have hx : s[i]'hq = 93 := by
          rw [rest_cons s _ hq] at hcons
          injection hcons
        have d1 : decide ((i : Int) < (s.size : Int)) = true := by simp; omega
        have d2 : (((s[i]'hq).toNat : Int) == 93) = true := by rw [hx]; rfl
        have HE := Lib.hid (show GR = .ok (acc, rest s (i + 1)) by rw [← hst, if_pos (by rw [hemp, h93]; rfl), hcons]; rfl)
        clear hst ci hx hcons h93 hne hemp
        go_wp2
        first | (refine bodyPost_ret (R := SPost s w GR) (v := .tuple #[.slice (some ⟨g, 0, none⟩) acc.length cap, .int .i64 ((i : Int) + 1), .int .i64 0]) (by simp [results, Tryd.results95]) rfl ?_) | fail
        exact ⟨hB, Or.inl ⟨acc, _, i + 1, rfl, hown, HE.out, by omega, by omega⟩⟩
      have HST := Lib.hid (show GR = match spanP (rest s i) with | .error e => .error e | .ok ((a, b), r) => listP f' (acc ++ [(a.toNat, b.toNat)]) r by
        rw [← hst, if_neg (by rw [hemp]; simpa using h93)]; try rfl)
      have hw0 : (decide ((i : Int) < (s.size : Int)) = false ∧ ¬ i < s.size) ∨ (∃ hq : i < s.size, decide ((i : Int) < (s.size : Int)) = true ∧ (((s[i]'hq).toNat : Int) == 93) = false) := by
        by_cases hq : i < s.size
        · right
          refine ⟨hq, by simp; omega, ?_⟩
          rw [rest_cons s _ hq] at h93
          rw [beq_eq_false_iff_ne]
          intro e
          apply h93
          have : s[i]'hq = 93 := UInt8.toNat_inj.1 (by have : ((93 : UInt8).toNat : Int) = 93 := rfl; omega)
          rw [this]; rfl
        · left; exact ⟨by simp; omega, hq⟩
      clear hst h93 hne hemp
      rcases hw0 with ⟨hw0, hw1⟩ | ⟨hq0, hw0, hw1⟩
      · go_wp2_with fail
        (with_reducible refine (ci.mono ?_))
        rintro x _ ⟨rfl, (⟨c1, n1, rfl, h1, hn1, hn1a, hn1b⟩ | ⟨k, rfl, h1, hk⟩)⟩
        · exfalso; omega
        have HE := Lib.hid (show GR = .error (rest s k, 1) by rw [HST.out]; unfold spanP; rw [h1])
        clear h1 ci HST
        go_wp2
        first | (refine bodyPost_ret (R := SPost s w GR) (v := .tuple #[.slice none 0 0, .int .i64 (-1), .int .i64 k]) (by simp [results, Tryd.results95]) rfl ?_) | fail
        exact ⟨hB, Or.inr ⟨k, rfl, HE.out, by omega⟩⟩
      · go_wp2_with fail
        (with_reducible refine (ci.mono ?_))
        rintro x _ ⟨rfl, (⟨c1, n1, rfl, h1, hn1, hn1a, hn1b⟩ | ⟨k, rfl, h1, hk⟩)⟩
        rotate_left
        · have HE := Lib.hid (show GR = .error (rest s k, 1) by rw [HST.out]; unfold spanP; rw [h1])
          clear h1 ci HST
          go_wp2
          first | (refine bodyPost_ret (R := SPost s w GR) (v := .tuple #[.slice none 0 0, .int .i64 (-1), .int .i64 k]) (by simp [results, Tryd.results95]) rfl ?_) | fail
          exact ⟨hB, Or.inr ⟨k, rfl, HE.out, by omega⟩⟩
        have hc1 := c1.toNat_lt
        by_cases hd : (rest s (i + n1)).head? = some 45
        rotate_left
        · have HE2 := Lib.hid (show listP f' (acc ++ [(c1.toNat, c1.toNat)]) (rest s (i + n1)) = GR by
            rw [HST.out]; unfold spanP; rw [h1]
            cases hr : rest s (i + n1) with
            | nil => rfl
            | cons c r =>
              have : (c == 45) = false := by rw [hr] at hd; simpa using hd
              simp only [this]; rfl)
          clear h1 ci HST
          have hw : (decide (((i : Int) + (n1 : Int)) < (s.size : Int)) = false ∧ ¬ i + n1 < s.size) ∨ (∃ hq : i + n1 < s.size, decide (((i : Int) + (n1 : Int)) < (s.size : Int)) = true ∧ (((s[i + n1]'hq).toNat : Int) == 45) = false) := by
            by_cases hq : i + n1 < s.size
            · right
              refine ⟨hq, by simp; omega, ?_⟩
              rw [rest_cons s _ hq] at hd
              rw [beq_eq_false_iff_ne]
              intro e
              apply hd
              have : s[i + n1]'hq = 45 := UInt8.toNat_inj.1 (by have : ((45 : UInt8).toNat : Int) = 45 := rfl; omega)
              rw [this]; rfl
            · left; exact ⟨by simp; omega, hq⟩
          clear hd
          have hs2 : (i : Int) + (n1 : Int) = ((i + n1 : Nat) : Int) := by omega
          rcases hw with ⟨hw, hw2⟩ | ⟨hq, hw, hw3⟩
          all_goals
            rw [hs2] at hw
            obtain ⟨j, hj⟩ : ∃ j, i + n1 = j := ⟨_, rfl⟩
            simp only [hj] at *
            go_wp2_with (at_builtin; refine wpList_append_lies _ rfl _ _ 118 rfl w.heap.size 120 i0 (.agg #[.int .u8 0, .int .u8 0]) 2 2 Tryd.underlying118 hi0 hz0 hz1 hz2 rfl (by decide) _ acc.length (spCells acc) rfl (hown.alloc _) ⟨World.heap z0 |>.size, 0, none⟩ 1 1 [.int .u8 c1.toNat, .int .u8 c1.toNat] rfl rfl (World.news_of_block (heap_alloc_new z0 _)) (by intro u hu; simp at hu; rcases hu with rfl | rfl <;> rfl) (by first | omega | (simp; done) | (simp; omega)) (by unfold maxLen; first | omega | (simp; done) | (simp; omega)) (by first | omega | (simp; done) | (simp; omega)) (by rw [World.size_alloc]; omega) ((z0).heap.size + 1) (by rw [World.size_alloc]) ?_)
            intro g5 cap5 w5 hown5 hgrow hat hlt5
            have hB5 : Below w.heap.size w w5 := (hB.alloc (by omega) _).grown hgrow (by rw [World.size_alloc]; omega) (fun b hb => (hown.lt b hb).1)
            have HOWN := Lib.hid hown5
            clear hgrow hat hlt5 hown5
            go_wp2
            go_roundw
            case rel =>
              refine ⟨j, f', acc ++ [(c1.toNat, c1.toNat)], by go_num, by omega, by omega, by first | (simp; done) | (simp; omega), HE2, ?_, hB5⟩
              rw [spCells_app, List.length_append]
              exact HOWN.out
            case measure => simp [intOf]; omega
        obtain ⟨hq, hcons⟩ := rest_some hd
        have hx : s[i + n1]'hq = 45 := by
          rw [rest_cons s _ hq] at hcons
          injection hcons
        have hw : decide (((i : Int) + (n1 : Int)) < (s.size : Int)) = true := by simp; omega
        have hw3 : (((s[i + n1]'hq).toNat : Int) == 45) = true := by rw [hx]; rfl
        have hs2 : (i : Int) + (n1 : Int) = ((i + n1 : Nat) : Int) := by omega
        have HST1 := Lib.hid (show GR = match (match itemP (rest s (i + n1 + 1)) with
            | .error e => (.error e : Except (Bs × Nat) ((UInt8 × UInt8) × Bs))
            | .ok (high, r2) => if high < c1 then .error (high :: r2, 1) else .ok ((c1, high), r2)) with
            | .error e => .error e
            | .ok ((a, b), r) => listP f' (acc ++ [(a.toNat, b.toNat)]) r by
          rw [HST.out]; unfold spanP; rw [h1]
          show (match (match (rest s (i + n1) : Bs) with | [] => (.ok ((c1, c1), []) : Except (Bs × Nat) ((UInt8 × UInt8) × Bs)) | c :: r1 => _) with | .error e => _ | .ok ((a, b), r) => _) = _
          rw [hcons]; rfl)
        clear hd hcons h1 ci HST hx
        rw [hs2] at hw
        obtain ⟨j, hj⟩ : ∃ j, i + n1 = j := ⟨_, rfl⟩
        simp only [hj] at *
        have ci := item_c s (j + 1) z0 (by omega) hs
        unfold ItPost at ci
        rw [show ((j + 1 : Nat) : Int) = (j : Int) + 1 from rfl] at ci
        go_wp2_with fail
        (with_reducible refine (ci.mono ?_))
        rintro x _ ⟨rfl, (⟨c2, n2, rfl, h2, hn2, hn2a, hn2b⟩ | ⟨k, rfl, h2, hk⟩)⟩
        rotate_left
        · have HE := Lib.hid (show GR = .error (rest s k, 1) by rw [HST1.out, h2])
          clear h2 ci HST1
          go_wp2
          first | (refine bodyPost_ret (R := SPost s w GR) (v := .tuple #[.slice none 0 0, .int .i64 (-1), .int .i64 k]) (by simp [results, Tryd.results95]) rfl ?_) | fail
          exact ⟨hB, Or.inr ⟨k, rfl, HE.out, by omega⟩⟩
        have hc2 := c2.toNat_lt
        by_cases hlt2 : c2 < c1
        · have dlt : decide ((c2.toNat : Int) < (c1.toNat : Int)) = true := by simp; exact UInt8.lt_iff_toNat_lt.1 hlt2
          have dlt2 : c2.toNat < c1.toNat := UInt8.lt_iff_toNat_lt.1 hlt2
          have hlast := item_rest h2 hn2a hn2
          rw [show j + 1 + n2 - 1 = j + n2 by omega] at hlast
          have HE := Lib.hid (show GR = .error (rest s (j + n2), 1) by rw [HST1.out, h2]; simp only [if_pos hlt2]; rw [hlast])
          clear h2 ci HST1 hlast
          go_wp2
          first | (refine bodyPost_ret (R := SPost s w GR) (v := .tuple #[.slice none 0 0, .int .i64 (-1), .int .i64 ((j : Int) + (n2 : Int))]) (by simp [results, Tryd.results95]) rfl ?_) | fail
          exact ⟨hB, Or.inr ⟨(j + n2), rfl, HE.out, by omega⟩⟩
        have dlt : decide ((c2.toNat : Int) < (c1.toNat : Int)) = false := by simp; exact Nat.le_of_not_lt (fun h => hlt2 (UInt8.lt_iff_toNat_lt.2 h))
        have dlt2 : ¬ c2.toNat < c1.toNat := fun h => hlt2 (UInt8.lt_iff_toNat_lt.2 h)
        have HE2 := Lib.hid (show listP f' (acc ++ [(c1.toNat, c2.toNat)]) (rest s (j + 1 + n2)) = GR by rw [HST1.out, h2]; simp only [if_neg hlt2])
        clear h2 ci HST1 hlt2
        go_wp2_with (at_builtin; refine wpList_append_lies _ rfl _ _ 118 rfl w.heap.size 120 i0 (.agg #[.int .u8 0, .int .u8 0]) 2 2 Tryd.underlying118 hi0 hz0 hz1 hz2 rfl (by decide) _ acc.length (spCells acc) rfl (hown.alloc _) ⟨World.heap z0 |>.size, 0, none⟩ 1 1 [.int .u8 c1.toNat, .int .u8 c2.toNat] rfl rfl (World.news_of_block (heap_alloc_new z0 _)) (by intro u hu; simp at hu; rcases hu with rfl | rfl <;> rfl) (by first | omega | (simp; done) | (simp; omega)) (by unfold maxLen; first | omega | (simp; done) | (simp; omega)) (by first | omega | (simp; done) | (simp; omega)) (by rw [World.size_alloc]; omega) ((z0).heap.size + 1) (by rw [World.size_alloc]) ?_)
        intro g5 cap5 w5 hown5 hgrow hat hlt5
        have hB5 : Below w.heap.size w w5 := (hB.alloc (by omega) _).grown hgrow (by rw [World.size_alloc]; omega) (fun b hb => (hown.lt b hb).1)
        have HOWN := Lib.hid hown5
        clear hgrow hat hlt5 hown5
        go_wp2
        go_roundw
        case rel =>
          refine ⟨(j + 1 + n2), f', acc ++ [(c1.toNat, c2.toNat)], by go_num, by omega, by omega, by first | (simp; done) | (simp; omega), HE2, ?_, hB5⟩
          rw [spCells_app, List.length_append]
          exact HOWN.out
        case measure => simp [intOf]; omega
end EreN
end Go.Proofs.YtpdmjegbjcefjaaDoor
namespace Go.Proofs.YtpdmjegbjcefjaaDoor
set_option linter.unusedVariables false
set_option linter.unusedSimpArgs false
open Go.RowKit
namespace EreN
open EreP EreW EreX
abbrev foldS (l : List (Nat × Nat)) : Nat := l.foldl (fun s p => s ||| rangeS p.1 p.2) 0
def ofS (l : List (Nat × Nat)) (nt : Bool) : Nat := if nt = true then notS (foldS l) else foldS l
def inP (c : Nat) (p : Nat × Nat) : Bool := decide (p.1 ≤ c) && decide (c ≤ p.2)
theorem fold_any (l : List (Nat × Nat)) (c : Nat) : (foldS l).testBit c = l.any (inP c) := by
  rw [fold_bit, Nat.zero_testBit, Bool.false_or, Bool.eq_iff_iff, decide_eq_true_iff, List.any_eq_true]
  constructor
  · rintro ⟨p, hp, h1, h2⟩; exact ⟨p, hp, by simp [inP, h1, h2]⟩
  · rintro ⟨p, hp, h⟩
    simp [inP] at h
    exact ⟨p, hp, h.1, h.2⟩
theorem fold_lt (l : List (Nat × Nat)) (h : ∀ p ∈ l, p.2 < 256) : foldS l < 2 ^ 256 := bits_lt (fun i hi => by
  rw [fold_any, List.any_eq_false]
  intro p hp
  have := h p hp
  simp [inP]; omega)
theorem of_bit (l : List (Nat × Nat)) (nt : Bool) (c : Nat) (hc : c < 256) : (ofS l nt).testBit c = (l.any (inP c) != nt) := by
  unfold ofS
  cases nt
  · rw [if_neg (by decide), fold_any]; cases l.any (inP c) <;> rfl
  · rw [if_pos rfl, not_bit, fold_any, decide_eq_true hc]; cases l.any (inP c) <;> rfl
theorem of_lt (l : List (Nat × Nat)) (nt : Bool) (h : ∀ p ∈ l, p.2 < 256) : ofS l nt < 2 ^ 256 := by
  unfold ofS
  split
  · exact not_lt (fold_lt l h)
  · exact fold_lt l h
/-- The bits of the first bytes. -/
def upS (T : Nat) : Nat → Nat
  | 0 => 0
  | c + 1 => if T.testBit c = true then upS T c ||| oneS c else upS T c
theorem up_bit (T : Nat) : ∀ c k, (upS T c).testBit k = (decide (k < c) && T.testBit k) := by
  intro c
  induction c with
  | zero => intro k; simp [upS]
  | succ c ih =>
    intro k
    unfold upS
    by_cases h : T.testBit c = true
    · rw [if_pos h, Nat.testBit_or, ih, one_bit]
      by_cases hk : c = k
      · subst hk; simp [h]
      · simp [hk]
        by_cases hk2 : k < c
        · simp [hk2, show k < c + 1 by omega]
        · simp [hk2, show ¬ k < c + 1 by omega]
    · rw [if_neg h, ih]
      by_cases hk : k = c
      · subst hk; simp at h; simp [h]
      · by_cases hk2 : k < c
        · simp [hk2, show k < c + 1 by omega]
        · simp [hk2, show ¬ k < c + 1 by omega]
theorem up_all (T : Nat) (h : T < 2 ^ 256) : upS T 256 = T := by
  apply Nat.eq_of_testBit_eq
  intro k
  rw [up_bit]
  by_cases hk : k < 256
  · simp [hk]
  · rw [bit_out h (by omega)]; simp
set_option maxHeartbeats 3200000 in
set_option maxRecDepth 100000 in
theorem of_c (l : List (Nat × Nat)) (nt : Bool) (lv : Value) (B : Nat) (w : World) (hown : w.ownsRow B 120 2 lv l.length (spCells l)) (hl : ∀ p ∈ l, p.1 < 256 ∧ p.2 < 256) (hlen : l.length ≤ 1000000) :
    Calls Tryd.prog 86 #[lv, .bool nt] w fun x w' => x = .returned (setV (ofS l nt)) ∧ Below w.heap.size w w' := by
  have hbit := fun c hc => of_bit l nt c hc
  have hlt := of_lt l nt (fun p hp => (hl p hp).2)
  obtain ⟨T, hT⟩ : ∃ T, ofS l nt = T := ⟨_, rfl⟩
  rw [hT] at hbit hlt ⊢
  clear hT
  have HBIT := Lib.hid hbit
  have HLT := Lib.hid hlt
  have HL := Lib.hid hl
  clear hbit hlt hl
  obtain ⟨A, cap, rfl⟩ : ∃ A cap, lv = .slice A l.length cap := by
    rcases hown.2 with ⟨h, h0⟩ | ⟨g, cap, cur, h, _⟩
    · rw [h0]; exact ⟨_, _, h⟩
    · exact ⟨_, _, h⟩
  have hcell : ∀ W : World, Below w.heap.size w W → ∀ (i : Nat) (h : i < l.length), ∃ g, A = some ⟨g, 0, none⟩ ∧ W.cell? ⟨g, i * 2, none⟩ = some (.int .u8 (l[i]'h).1) ∧ W.cell? ⟨g, i * 2 + 1, none⟩ = some (.int .u8 (l[i]'h).2) := by
    intro W hW i h
    have ho := own_below hown hW
    obtain ⟨g, rfl⟩ : ∃ g, A = some ⟨g, 0, none⟩ := by
      rcases hown.2 with ⟨_, h0⟩ | ⟨g, cap', cur, h, _⟩
      · omega
      · injection h with h _ _; exact ⟨g, h⟩
    have h1 := World.ownsRow.cellAt ho (i * 2) (by omega)
    have h2 := World.ownsRow.cellAt ho (i * 2 + 1) (by omega)
    obtain ⟨h3, h4⟩ := sp_at l i h
    exact ⟨g, rfl, h1.trans h3, h2.trans h4⟩
  have HC := Lib.hid hcell
  clear hcell hown
  obtain ⟨w0, hw0⟩ : ∃ z : World, z = (w.alloc (.cells #[.int .u64 0, .int .u64 0, .int .u64 0, .int .u64 0] 24)).alloc (.cells #[.int .u64 0, .int .u64 0, .int .u64 0, .int .u64 0] 24) := ⟨_, rfl⟩
  have b0 : Blk w0 w.heap.size 24 #[.int .u64 0, .int .u64 0, .int .u64 0, .int .u64 0] := by rw [hw0]; exact (Blk.new _ _ _).alloc _
  have b1 : Blk w0 (w.heap.size + 1) 24 (wcells (upS T 0)) := by rw [hw0, show wcells (upS T 0) = #[.int .u64 0, .int .u64 0, .int .u64 0, .int .u64 0] by simp [wcells, upS, word]]; exact Blk.new1 _ _ _ _
  have hbel : Below w.heap.size w w0 := by rw [hw0]; exact ((Below.refl _ _).alloc (Nat.le_refl _) _).alloc (by rw [World.size_alloc]; omega) _
  obtain ⟨ll, hll⟩ : ∃ ll, l.length = ll := ⟨_, rfl⟩
  rw [hll] at hlen ⊢
  have HLL := Lib.hid hll
  clear hll
  go_enter Tryd.func86, Tryd.ntmps86
  go_wp2
  rw [← hw0]
  clear hw0
  go_loopw [6] (fun cv wr => ∃ c : Nat, cv = .int .i64 c ∧ c ≤ 256 ∧ Blk wr w.heap.size 24 #[.int .u64 0, .int .u64 0, .int .u64 0, .int .u64 0] ∧ Blk wr (w.heap.size + 1) 24 (wcells (upS T c)) ∧ Below w.heap.size w wr) (fun cv _ => 256 - (intOf cv).toNat)
  case atStart => exact ⟨0, rfl, by omega, b0, b1, hbel⟩
  case round =>
    clear hbel b0 b1
    obtain ⟨z0, rfl⟩ : ∃ z : World, z = wr := ⟨_, rfl⟩
    obtain ⟨c, rfl, hc, hB, hB1, hbel⟩ := hrel
    by_cases hlt : c < 256
    rotate_left
    · have hc2 : c = 256 := by omega
      subst hc2
      rw [up_all T HLT.out] at hB1
      have x0 := hB1.cell 0
      have x1 := hB1.cell 1
      have x2 := hB1.cell 2
      have x3 := hB1.cell 3
      rw [wcells_at _ _ (by omega)] at x0 x1 x2 x3
      have y0 := hB.cell 0
      have y1 := hB.cell 1
      have y2 := hB.cell 2
      have y3 := hB.cell 3
      simp only [List.getElem?_toArray, List.getElem?_cons_zero, List.getElem?_cons_succ] at y0 y1 y2 y3
      have f0 := hB.loose 0
      have f1 := hB.loose 1
      have f2 := hB.loose 2
      have f3 := hB.loose 3
      have hl0 := hB.lt
      clear hB hB1 HBIT
      rw [show ((256 : Nat) : Int) = 256 from rfl]
      go_wp2
      first | (refine bodyPost_ret (v := setV T) (by simp [results, Tryd.results86, go_sem, y0, y1, y2, y3, hl0]) rfl ⟨rfl, ?_⟩) | fail
      exact (((hbel.setCell (p := ⟨w.heap.size, 0, none⟩) (Nat.le_refl _) _).setCell (p := ⟨w.heap.size, 1, none⟩) (Nat.le_refl _) _).setCell (p := ⟨w.heap.size, 2, none⟩) (Nat.le_refl _) _).setCell (p := ⟨w.heap.size, 3, none⟩) (Nat.le_refl _) _
    have d0 : decide ((c : Int) < 256) = true := by simp; omega
    go_wp2_with fail
    go_loopw [7, 8] (fun mv iv wi => ∃ i : Nat, iv = .int .i64 i ∧ i ≤ ll ∧ mv = .bool ((l.take i).any (inP c)) ∧ wi = z0) (fun _ iv _ => ll - (intOf iv).toNat)
    case atStart => exact ⟨0, rfl, by omega, rfl, rfl⟩
    case round =>
      obtain ⟨i, rfl, hi, rfl, hwz⟩ := hrel
      obtain ⟨z1, rfl⟩ : ∃ z : World, z = wr := ⟨_, rfl⟩
      subst hwz
      by_cases hlt2 : i < ll
      · have hlt3 : i < l.length := by rw [HLL.out]; exact hlt2
        obtain ⟨g, rfl, e0, e1⟩ := HC.out z1 hbel i hlt3
        have htk : (l.take (i + 1)).any (inP c) = ((l.take i).any (inP c) || inP c (l[i]'hlt3)) := by
          rw [List.take_succ_eq_append_getElem hlt3, List.any_append]; simp
        have HTK := Lib.hid htk
        clear htk
        obtain ⟨P, hP⟩ : ∃ P, l[i]'hlt3 = P := ⟨_, rfl⟩
        rw [hP] at e0 e1 HTK
        have hp := HL.out _ (hP ▸ List.getElem_mem hlt3)
        clear hP
        obtain ⟨a, b⟩ := P
        simp only at e0 e1 hp
        have HIN := Lib.hid (show inP c (a, b) = (decide (a ≤ c) && decide (c ≤ b)) from rfl)
        cases hm : (l.take i).any (inP c)
        · rw [hm] at HTK
          by_cases ca : a ≤ c
          · have d1 : decide ((a : Int) ≤ (c : Int)) = true := by simp; omega
            by_cases cb : c ≤ b
            · have d2 : decide ((c : Int) ≤ (b : Int)) = true := by simp; omega
              have hz : (l.take (i + 1)).any (inP c) = true := by rw [HTK.out, HIN.out]; simp [ca, cb]
              have HZ := Lib.hid hz
              clear hz hm
              go_wp2
              go_roundw
              case rel => exact ⟨i + 1, by go_num, by omega, by rw [HZ.out], by first | rfl | trivial⟩
              case measure => simp [intOf]; omega
            · have d2 : decide ((c : Int) ≤ (b : Int)) = false := by simp; omega
              have hz : (l.take (i + 1)).any (inP c) = false := by rw [HTK.out, HIN.out]; simp [cb]
              have HZ := Lib.hid hz
              clear hz hm
              go_wp2
              go_roundw
              case rel => exact ⟨i + 1, by go_num, by omega, by rw [HZ.out], by first | rfl | trivial⟩
              case measure => simp [intOf]; omega
          · have d1 : decide ((a : Int) ≤ (c : Int)) = false := by simp; omega
            have hz : (l.take (i + 1)).any (inP c) = false := by rw [HTK.out, HIN.out]; simp [ca]
            have HZ := Lib.hid hz
            clear hz hm
            go_wp2
            go_roundw
            case rel => exact ⟨i + 1, by go_num, by omega, by rw [HZ.out], by first | rfl | trivial⟩
            case measure => simp [intOf]; omega
        · rw [hm] at HTK
          have hz : (l.take (i + 1)).any (inP c) = true := by rw [HTK.out]; simp
          have HZ := Lib.hid hz
          clear hz hm
          go_wp2
          go_roundw
          case rel => exact ⟨i + 1, by go_num, by omega, by rw [HZ.out], by first | rfl | trivial⟩
          case measure => simp [intOf]; omega
      · have htake : l.take i = l := List.take_of_length_le (by rw [HLL.out]; omega)
        rw [htake]
        clear htake
        have hb := HBIT.out c hlt
        have hup : upS T (c + 1) = if T.testBit c = true then upS T c ||| oneS c else upS T c := rfl
        rw [hb] at hup
        obtain ⟨M, hM⟩ : ∃ M, l.any (inP c) = M := ⟨_, rfl⟩
        rw [hM] at hup ⊢
        clear hM hb
        by_cases hmn : M = nt
        · subst hmn
          rw [show (M != M) = false by simp] at hup
          have HU := Lib.hid (show upS T (c + 1) = upS T c from hup)
          clear hup
          go_wp2
          go_roundw
          case rel => exact ⟨c + 1, by go_num, by omega, hB, by rw [HU.out]; exact hB1, hbel⟩
          case measure => simp [intOf]; omega
        · obtain rfl : M = !nt := by cases M <;> cases nt <;> simp_all
          have hx : ((!nt) != nt) = true := by cases nt <;> rfl
          rw [hx] at hup
          clear hmn
          have HU := Lib.hid (show upS T (c + 1) = upS T c ||| oneS c from hup)
          clear hup
          have y0 := hB1.cell (c / 64)
          rw [wcells_at _ _ (by omega)] at y0
          have f0 := hB1.loose (c / 64)
          have e5 := or_pow (word (upS T c) (c / 64)) (c % 64) (EreP.word_lt _ _) (Nat.mod_lt _ (by decide))
          have e6 := wcells_or (upS T c) c (by omega)
          have B2 := hB1.set_ (c / 64) (.int .u64 ((word (upS T c) (c / 64) ||| 1 <<< (c % 64) : Nat) : Int))
          rw [← e6, ← HU.out, ← e5] at B2
          have B3 := hB.far (p := ⟨w.heap.size + 1, c / 64, none⟩) (by show w.heap.size ≠ w.heap.size + 1; omega) (.int .u64 (bits .or .u64 ((word (upS T c) (c / 64) : Nat) : Int) (IntKind.u64.wrap (2 ^ (c % 64)))))
          have b4 := hbel.setCell (p := ⟨w.heap.size + 1, c / 64, none⟩) (by show w.heap.size ≤ w.heap.size + 1; omega) (.int .u64 (bits .or .u64 ((word (upS T c) (c / 64) : Nat) : Int) (IntKind.u64.wrap (2 ^ (c % 64)))))
          obtain ⟨q, hq⟩ : ∃ q, q = c / 64 := ⟨_, rfl⟩
          obtain ⟨r, hr⟩ : ∃ r, r = c % 64 := ⟨_, rfl⟩
          have e1 : (c : Int).tdiv 64 = (q : Int) := by rw [Int.tdiv_eq_ediv_of_nonneg (by omega)]; omega
          have e2 : (c : Int).tmod 64 = (r : Int) := by rw [Int.tmod_eq_emod_of_nonneg (by omega)]; omega
          have q4 : q < 4 := by omega
          have r64 : r < 64 := by omega
          rw [← hr] at B2 B3 b4
          rw [← hq] at y0 f0 B2 B3 b4
          have H2 := Lib.hid B2
          have H3 := Lib.hid B3
          have H4 := Lib.hid b4
          clear hq hr e5 e6 B2 B3 b4
          generalize word (upS T c) q = old at *
          clear hB hB1
          go_wp2_with fail
          go_region
          go_wp2
          go_roundw
          case rel => exact ⟨c + 1, by go_num, by omega, H3.out, H2.out, below_dn H4.out 1⟩
          case measure => simp [intOf]; omega
end EreN
end Go.Proofs.YtpdmjegbjcefjaaDoor
namespace Go.Proofs.YtpdmjegbjcefjaaDoor
set_option linter.unusedVariables false
set_option linter.unusedSimpArgs false
open Go.RowKit
namespace EreN
open EreP EreW EreX
theorem oneS_lt (c : Nat) (h : c < 256) : oneS c < 2 ^ 256 := one_lt h
set_option maxHeartbeats 1600000 in
set_option maxRecDepth 100000 in
theorem one_q (c : Nat) (hc : c < 256) (w : World) : Calls Tryd.prog 87 #[.int .u8 c] w fun x w' => x = .returned (setV (oneS c)) ∧ Below w.heap.size w w' := by
  have hq : c / 64 = 0 ∨ c / 64 = 1 ∨ c / 64 = 2 ∨ c / 64 = 3 := by omega
  have e1 : (c : Int).tdiv 64 = ((c / 64 : Nat) : Int) := by rw [Int.tdiv_eq_ediv_of_nonneg (by omega)]; omega
  have e2 : (c : Int).tmod 64 = ((c % 64 : Nat) : Int) := by rw [Int.tmod_eq_emod_of_nonneg (by omega)]; omega
  have hw : ∀ r : Nat, r < 64 → IntKind.u64.wrap (2 ^ r) = ((1 <<< r : Nat) : Int) := by
    intro r hr
    have := or_pow 0 r (by decide) hr
    rw [Nat.zero_or] at this
    have h2 : IntKind.u64.wrap (2 ^ r) = ((1 <<< r : Nat) : Int) := by
      have : (2 : Nat) ^ r < 2 ^ 64 := Nat.pow_lt_pow_right (by decide) hr
      rw [Nat.one_shiftLeft]
      simp only [IntKind.wrap, IntKind.bits, IntKind.signed]
      have h1 : (2 : Int) ^ r = ((2 ^ r : Nat) : Int) := by push_cast; rfl
      rw [h1]
      generalize (2 : Nat) ^ r = p at *
      simp; omega
    exact h2
  have hwr := hw (c % 64) (Nat.mod_lt _ (by decide))
  have hone := fun k => word_one c k
  obtain ⟨r, hr⟩ : ∃ r, c % 64 = r := ⟨_, rfl⟩
  rw [hr] at e2 hwr hone
  have hr64 : min r 64 = r := by have := Nat.mod_lt c (show 0 < 64 by decide); omega
  have HO := Lib.hid hone
  clear hone hw hr
  rcases hq with hq | hq | hq | hq
  all_goals
    rw [hq] at e1 HO
    have o0 := HO.out 0
    have o1 := HO.out 1
    have o2 := HO.out 2
    have o3 := HO.out 3
    simp at o0 o1 o2 o3
    clear HO hq
    go_enter Tryd.func87, Tryd.ntmps87
    go_wp2
    first | (refine bodyPost_ret (v := setV (oneS c)) (by simp [results, Tryd.results87, go_sem, o0, o1, o2, o3, hr64]; try simpa using hwr) rfl ⟨rfl, by go_grown⟩) | (go_goals; fail)
/-- What class leaves. -/
def CPost (R : Nat) (s : ByteArray) (g : Nat) (w : World) (spec : Except (Bs × Nat) (Nat × Bs)) (x : Ending) (w' : World) : Prop :=
  (∃ (S k : Nat), x = .returned (.agg (reC 1 S none 0 0 0 0 0).toArray) ∧ S < 2 ^ 256 ∧ Rdr w' R s k g 0 ∧ k ≤ s.size ∧ Tch (On R) w w' ∧ spec = .ok (S, rest s k)) ∨
  (∃ k : Nat, x = .returned (.agg zC) ∧ Rdr w' R s k g 1 ∧ k ≤ s.size ∧ Tch (On R) w w' ∧ spec = .error (rest s k, 1))
theorem list_bytes : ∀ (f : Nat) (acc : List (Nat × Nat)) (l : Bs) (out : List (Nat × Nat)) (r : Bs), (∀ p ∈ acc, p.1 < 256 ∧ p.2 < 256) → listP f acc l = .ok (out, r) → ∀ p ∈ out, p.1 < 256 ∧ p.2 < 256 := by
  intro f
  induction f with
  | zero => intro acc l out r _ h; cases h
  | succ f ih =>
    intro acc l out r ha h
    rw [listP] at h
    split at h
    · injection h with h; injection h with h _; subst h; exact ha
    · split at h
      · cases h
      · next a b r1 e =>
        refine ih _ _ _ _ (fun p hp => ?_) h
        rcases List.mem_append.1 hp with hp | hp
        · exact ha p hp
        · rw [List.mem_singleton] at hp; subst hp
          exact ⟨a.toNat_lt, b.toNat_lt⟩
end EreN
end Go.Proofs.YtpdmjegbjcefjaaDoor
