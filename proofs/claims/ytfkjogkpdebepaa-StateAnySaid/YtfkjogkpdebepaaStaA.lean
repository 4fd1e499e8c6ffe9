/- The walks of state's reader.ages. Conditions: texts that fit. -/
import Derived.Test.YtfkjogkpdebepaaStaLBool
import Derived.Test.YtfkjogkpdebepaaStaV
namespace Go.Proofs.Ytfkjogkpdebepaa
open Go.RowKit
namespace StaA
open StaP StaR StaN StaL StaV
/-- The closure's variables: the reader's, and the list so far. -/
def AJ (B0 R X Y : Nat) (w : World) (o : List Int) : Prop := Blk w X 49 #[.pointer (some ⟨R, 0, none⟩)] ∧ ∃ vo, Blk w Y 25 #[vo] ∧ w.ownsRow B0 3 1 vo o.length (o.map (Value.int .i64))
abbrev AS (B0 R : Nat) : Nat → Prop := fun k => k = R ∨ B0 ≤ k
theorem AJ.keep {B0 R X Y : Nat} {w w' : World} {o : List Int} (h : AJ B0 R X Y w o) (hk : ∀ (g : Nat) (c : Array Value) (t : TypeId) (f : Nat × Nat), t ≠ 4 → t ≠ RT → w.heap[g]? = some (.cells c t f) → w'.heap[g]? = some (.cells c t f)) : AJ B0 R X Y w' o := by
  obtain ⟨h1, vo, h2, h3⟩ := h
  exact ⟨hk _ _ _ _ (by decide) (by decide) h1, vo, hk _ _ _ _ (by decide) (by decide) h2, own_keep h3 fun g c hg => hk _ _ _ _ (by decide) (by decide) hg⟩
theorem AJ.rd {B0 R X Y : Nat} {w w' : World} {o : List Int} {s : ByteArray} {i : Nat} {e : Int} (h : AJ B0 R X Y w o) (hr : Rdr w R s i e) (k : Tch (On R) w w') : AJ B0 R X Y w' o :=
  h.keep fun g c t f _ ht hg => rdr_keeps hr k g c t f ht hg
theorem AJ.put {B0 R X Y : Nat} {w w5 : World} {o : List Int} {vo v' : Value} {ob : Obj} {a : Int} (h : AJ B0 R X Y w o) (hBY : B0 ≤ Y) (hY : Blk w Y 25 #[vo]) (hown : w.ownsRow B0 3 1 vo o.length (o.map (Value.int .i64)))
    (hgrow : (w.alloc ob).grownBy w5 vo.ownBlock) (hown5 : w5.ownsRow B0 3 1 v' (o.length + 1) (o.map (Value.int .i64) ++ [.int .i64 a])) {s : ByteArray} {j e : Nat} {W : World} (hr : Rdr w R s j e) (T : Tch (AS B0 R) W w) (K : StaL.Rows 4 W w) :
    AJ B0 R X Y (w5.setCell ⟨Y, 0, none⟩ v') (o ++ [a]) ∧ Rdr (w5.setCell ⟨Y, 0, none⟩ v') R s j e ∧ Tch (AS B0 R) W (w5.setCell ⟨Y, 0, none⟩ v') ∧ StaL.Rows 4 W (w5.setCell ⟨Y, 0, none⟩ v') := by
  have keep : ∀ (g : Nat) (c : Array Value) (t : TypeId) (f : Nat × Nat), t ≠ 3 → w.heap[g]? = some (.cells c t f) → w5.heap[g]? = some (.cells c t f) := fun g c t f h1 hg => grow_keep (hown.alloc _) hgrow g c t f h1 (alloc_keep _ g c t f hg)
  have hY5 : Blk w5 Y 25 #[vo] := keep _ _ _ _ (by decide) hY
  have keep2 : ∀ (g : Nat) (c : Array Value) (t : TypeId) (f : Nat × Nat), t ≠ 25 → w5.heap[g]? = some (Obj.cells c t f) → (w5.setCell ⟨Y, 0, none⟩ v').heap[g]? = some (Obj.cells c t f) := fun g c t f h1 hgg =>
    (Below.heap_setCell w5 ⟨Y, 0, none⟩ v' g (blk_ne hgg hY5 h1)).trans hgg
  refine ⟨⟨keep2 _ _ _ _ (by decide) (keep _ _ _ _ (by decide) h.1), v', hY5.set_ 0 v', ?_⟩, keep2 _ _ _ _ (by decide) (keep _ _ _ _ (by decide) hr), ?_, fun g c hg => keep2 _ _ _ _ (by decide) (keep _ _ _ _ (by decide) (K g c hg))⟩
  · rw [List.length_append, List.map_append]
    exact own_keep hown5 fun g c hg => keep2 _ _ _ _ (by decide) hg
  · refine Tch.setCell (S := AS B0 R) ?_ (p := ⟨Y, 0, none⟩) (Or.inr hBY) v'
    exact (T.alloc ob).trans (Tch.of_grown hgrow fun k hk => Or.inr (hown.lt k hk).1)
def J (B0 R X Y : Nat) (w : World) (o : List Int) (_ : List Value) : Prop := AJ B0 R X Y w o ∧ o.length ≤ 65536
theorem j_stable (B0 R X Y : Nat) : StaL.Stable 4 (J B0 R X Y) := fun _ _ _ _ hk h => ⟨h.1.keep hk, h.2⟩
theorem own_last {w : World} {B : Nat} {v : Value} {o : List Int} (h : w.ownsRow B 3 1 v o.length (o.map (Value.int .i64))) (ho : o ≠ []) : ∃ (g c : Nat) (l : Int), v = .slice (some ⟨g, 0, none⟩) o.length c ∧ o.getLast? = some l ∧ w.cell? ⟨g, o.length - 1, none⟩ = some (.int .i64 l) := by
  have hl : 0 < o.length := List.length_pos_iff.2 ho
  obtain ⟨g, c, rfl, _, _⟩ := h.form hl
  refine ⟨g, c, o.getLast ho, rfl, List.getLast?_eq_some_getLast ho, ?_⟩
  rw [World.ownsRow.cellAt h (o.length - 1) (by omega), List.getElem?_map, ← List.getLast?_eq_getElem?, List.getLast?_eq_some_getLast ho]; rfl
/-- What the closure's two readings come to, ahead of the test. -/
def Two (s : ByteArray) (o : List Int) (j i1 j2 e2 n : Nat) (a : Int) : Prop :=
  (e2 ≠ 0 ∧ ageS o (s.data.toList.drop j) = .error (s.data.toList.drop j2, e2)) ∨ (e2 = 0 ∧ 1 ≤ n ∧ ageS o (s.data.toList.drop j) = if o.getLast? = some a then .error (s.data.toList.drop i1, 1) else .ok (o ++ List.replicate n a, s.data.toList.drop j2))
theorem two {s : ByteArray} {o : List Int} {j i1 e1 j2 e2 n : Nat} {a : Int} (h1 : Run (manyP 1 (65536 - (o.length : Int))) (ab s j 0) (ab s i1 e1) (fun m => m = n)) (h2 : Run numP (ab s i1 e1) (ab s j2 e2) (fun m => m = a)) : Two s o j i1 j2 e2 n a := by
  have key : ∀ er, Run (manyP 1 (65536 - (o.length : Int))) (ab s j 0) (.error er) (fun m => m = n) → ageS o (s.data.toList.drop j) = .error er := by
    intro er h
    rw [ab_ok] at h
    simp only [Run] at h
    rw [ageS]
    cases hp : manyP 1 (65536 - (o.length : Int)) (s.data.toList.drop j) with
    | error e => rw [hp] at h; injection h with h; rw [h]
    | ok v => rw [hp] at h; cases h.1
  by_cases he1 : e1 = 0
  · subst he1
    obtain ⟨-, m, hp, rfl⟩ := h1.inv
    have hm1 : 1 ≤ m := by
      by_cases hm : 1 ≤ m
      · exact hm
      · rw [manyP] at hp
        cases hn : numP (s.data.toList.drop j) with
        | error e => rw [hn] at hp; cases hp
        | ok v => obtain ⟨x, r⟩ := v; rw [hn] at hp; simp only at hp; split at hp; cases hp; split at hp; cases hp; injection hp with hp; injection hp with hp _; omega
    by_cases he2 : e2 = 0
    · subst he2
      obtain ⟨-, b, hq, rfl⟩ := h2.inv
      refine Or.inr ⟨rfl, hm1, ?_⟩
      rw [ageS, hp]; simp only; rw [hq]
    · refine Or.inl ⟨he2, ?_⟩
      rw [ab_ok, ab_bad s j2 he2] at h2
      simp only [Run] at h2
      rw [ageS, hp]; simp only
      cases hq : numP (s.data.toList.drop i1) with
      | error e => rw [hq] at h2; injection h2 with h2; rw [h2]
      | ok v => rw [hq] at h2; cases h2.1
  · rw [ab_bad s i1 he1] at h1 h2
    have h2 : ab s j2 e2 = .error (s.data.toList.drop i1, e1) := h2
    by_cases he2 : e2 = 0
    · subst he2; cases h2
    · rw [ab_bad s j2 he2] at h2
      injection h2 with h2
      exact Or.inl ⟨he2, by rw [h2]; exact key _ h1⟩
theorem int_i : (Try.prog.info? 3).map (fun i => (i.zero, i.size, i.bytes)) = some (some (.int .i64 0), 1, 8) := by kernel_rfl
set_option maxHeartbeats 12800000 in
set_option maxRecDepth 100000 in
theorem clo_c (B0 R X Y : Nat) (s : ByteArray) (j : Nat) (o : List Int) (cs : List Value) (W : World) (h : Rdr W R s j 0) (hj : j ≤ s.size) (hs : s.size ≤ 4611686018427387904) (hW : B0 ≤ W.heap.size) (hB0Y : B0 ≤ Y) (hJ : J B0 R X Y W o cs) :
    Calls Try.prog 52 #[.pointer (some ⟨X, 0, none⟩), .pointer (some ⟨Y, 0, none⟩)] W (OPost 4 (AS B0 R) s R ageS (J B0 R X Y) shapeBool o cs j W) := by
  obtain ⟨i0, hi0, hz0, hz1, hz2⟩ := info_parts int_i
  obtain ⟨J0, ho⟩ := hJ
  have cm := many_c R s j 0 1 (65536 - (o.length : Int)) (by omega) W h hj hs
  have x0 := J0.1.cell 0
  obtain ⟨vo0, hY0, hown0⟩ := J0.2
  obtain ⟨ad0, cp0, rfl⟩ := own_shape hown0
  have y0 := hY0.cell 0
  simp only [List.getElem?_toArray, List.getElem?_cons_zero] at x0 y0
  go_enter Try.func52, Try.ntmps52
  go_wp2_with fail
  (with_reducible refine cm.mono ?_)
  rintro x w1 ⟨n, i1, e1, rfl, hn, h1, hi1, t1, hnz, r1⟩
  have hnl : o.length + n ≤ 65536 := by omega
  have J1 := J0.rd h t1
  have x1 := J1.1.cell 0
  have k1 := h1.cell 1
  simp only [List.getElem?_toArray, List.getElem?_cons_zero, List.getElem?_cons_succ] at x1 k1
  have cn := num_c R s i1 e1 w1 h1 hi1 hs
  clear x0 y0 hown0 hY0
  go_wp2_with fail
  (with_reducible refine cn.mono ?_)
  rintro x w2 ⟨a, j2, e2, rfl, ha, h2, hj2, t2, r2⟩
  have HT := Lib.hid (two r1 r2)
  have J2 := J1.rd h1 t2
  have T2 : Tch (AS B0 R) W w2 := (t1.trans t2).more fun k e => Or.inl e
  have K2 : StaL.Rows 4 W w2 := rdr_rows h (t1.trans t2) (by decide)
  clear x1 k1 r1 r2 cm cn hn hnz
  have x0 := J2.1.cell 0
  obtain ⟨vo2, hY2, hown2⟩ := J2.2
  by_cases hne : o = []
  · obtain ⟨ad2, cp2, rfl⟩ := own_shape hown2
    have y0 := hY2.cell 0
    simp only [List.getElem?_toArray, List.getElem?_cons_zero] at x0 y0
    have dl : decide ((0 : Int) < (o.length : Int)) = false := by rw [hne]; rfl
    have hlp : ¬ 0 < o.length := by rw [hne]; simp
    have FIN : (e2 ≠ 0 ∧ ageS o (s.data.toList.drop j) = .error (s.data.toList.drop j2, e2)) ∨ (e2 = 0 ∧ ageS o (s.data.toList.drop j) = .ok (o ++ List.replicate n a, s.data.toList.drop j2)) := by
      rcases HT.out with ht | ⟨he, _, ht⟩
      · exact Or.inl ht
      · exact Or.inr ⟨he, by rw [ht, if_neg (by rw [hne]; simp)]⟩
    have FIN := FIN
    obtain ⟨j3, hj3e⟩ : ∃ x, j2 = x := ⟨_, rfl⟩
    obtain ⟨e3, he3e⟩ : ∃ x, e2 = x := ⟨_, rfl⟩
    subst hj3e he3e
    have J3 := J2
    have h3 := h2
    have T3 := T2
    have K3 := K2
    have hj3 := hj2
    clear J2 h2 T2 K2 hown2 hY2 hne
    go_wp2_with fail
    go_loopw [34] (fun v wr => ∃ k : Nat, v = .int .i64 k ∧ k ≤ n ∧ AJ B0 R X Y wr (o ++ List.replicate k a) ∧ Rdr wr R s j2 e2 ∧ Tch (AS B0 R) W wr ∧ StaL.Rows 4 W wr) (fun v _ => n - (intOf v).toNat)
    case atStart => exact ⟨0, rfl, by omega, by simpa using J3, h3, T3, K3⟩
    case round =>
      clear J3 h3 T3 K3 x0 y0
      obtain ⟨k, rfl, hk, J4, h4, T4, K4⟩ := hrel
      have hx := J4.1.cell 0
      obtain ⟨q, hq⟩ : ∃ q, o ++ List.replicate k a = q := ⟨_, rfl⟩
      have HQ := Lib.hid hq
      have hql : q.length = o.length + k := by rw [← hq, List.length_append, List.length_replicate]
      rw [hq] at J4
      clear hq
      have HL := Lib.hid hql
      have hLL : q.length ≤ 65536 := by omega
      clear hql
      obtain ⟨vo, hY, hown⟩ := J4.2
      have hy := hY.cell 0
      have hyl := hY.loose 0
      simp only [List.getElem?_toArray, List.getElem?_cons_zero] at hx hy
      by_cases hkn : k < n
      · have dk : decide ((k : Int) < (n : Int)) = true := by simp; omega
        have hLM : q.length + 1 ≤ 65536 := by have := HL.out; omega
        have hBz := T4.size
        have hY4 := hY.lt
        go_wp2_with (at_builtin; refine wpList_append_lies _ rfl (.tmp 36) (.tmp 38) 25 rfl B0 3 i0 (.int .i64 0) 1 8 Try.underlying25 hi0 hz0 hz1 hz2 rfl (by decide) _ q.length (q.map (Value.int .i64)) rfl (hown.alloc _) ⟨wr.heap.size, 0, none⟩ 1 1 [.int .i64 a] rfl rfl (World.news_of_block (heap_alloc_new wr _)) (by intro u hu; simp at hu; subst hu; rfl) (by omega) (by unfold maxLen; omega) (by omega) (by simp; omega) _ rfl ?_)
        intro g cap w5 hown5 hgrow hat hlt5
        obtain ⟨J5, h5, T5, K5⟩ := AJ.put J4 hB0Y hY hown hgrow hown5 h4 T4 K4
        have keepY : Blk w5 Y 25 #[vo] := grow_keep (hown.alloc _) hgrow _ _ _ _ (by decide) (alloc_keep _ _ _ _ _ hY)
        have hy := keepY.cell 0
        have hyl := keepY.loose 0
        simp only [List.getElem?_toArray, List.getElem?_cons_zero] at hy
        clear hx hown hY J4 h4 T4 K4
        go_wp2
        go_roundw
        case rel => exact ⟨k + 1, by go_num, by omega, by rw [List.replicate_succ', ← List.append_assoc, HQ.out]; exact J5, h5, T5, K5⟩
        case measure => simp [intOf] <;> omega
      · have dk : decide ((k : Int) < (n : Int)) = false := by simp; omega
        obtain rfl : k = n := by omega
        go_wp2
        go_ret
        exact ⟨_, _, j2, e2, q, rfl, ⟨rfl, rfl⟩, h4, hj3, T4, K4, ⟨J4, hLL⟩, by rw [← HQ.out]; exact FIN⟩
  · obtain ⟨g2, cp2, la, rfl, hla, hc2⟩ := own_last hown2 hne
    have y0 := hY2.cell 0
    simp only [List.getElem?_toArray, List.getElem?_cons_zero] at x0 y0
    have hlp : 0 < o.length := List.length_pos_iff.2 hne
    have dl : decide ((0 : Int) < (o.length : Int)) = true := by simp; omega
    by_cases hal : a = la
    · subst hal
      have de : (a == a) = true := by simp
      by_cases he2 : e2 = 0
      · subst he2
        have cf := fail_yes R s j2 i1 1 w2 h2
        go_wp2_with fail
        (with_reducible refine cf.mono ?_)
        rintro x w3 ⟨rfl, h3, t3⟩
        have J3 := J2.rd h2 t3
        have T3 := T2.trans (t3.more fun k e => Or.inl e)
        have K3 : StaL.Rows 4 W w3 := fun g c hg => rdr_rows h2 t3 (by decide) g c (K2 g c hg)
        have FIN : ((1 : Nat) ≠ 0 ∧ ageS o (s.data.toList.drop j) = .error (s.data.toList.drop i1, 1)) ∨ ((1 : Nat) = 0 ∧ ageS o (s.data.toList.drop j) = .ok (o ++ List.replicate n a, s.data.toList.drop i1)) := by
          rcases HT.out with ht | ⟨he, _, ht⟩
          · exact absurd rfl ht.1
          · exact Or.inl ⟨by omega, by rw [ht, if_pos hla]⟩
        have hj3 := hi1
        rw [show (1 : Int) = ((1 : Nat) : Int) from rfl] at h3
        clear x0 y0 J2 h2 T2 K2 hown2 hY2 hc2 hla
        have x0 := J3.1
        have y0 := J3.1
        go_wp2_with fail
        go_loopw [34] (fun v wr => ∃ k : Nat, v = .int .i64 k ∧ k ≤ n ∧ AJ B0 R X Y wr (o ++ List.replicate k a) ∧ Rdr wr R s i1 1 ∧ Tch (AS B0 R) W wr ∧ StaL.Rows 4 W wr) (fun v _ => n - (intOf v).toNat)
        case atStart => exact ⟨0, rfl, by omega, by simpa using J3, h3, T3, K3⟩
        case round =>
          clear J3 h3 T3 K3 x0 y0
          obtain ⟨k, rfl, hk, J4, h4, T4, K4⟩ := hrel
          have hx := J4.1.cell 0
          obtain ⟨q, hq⟩ : ∃ q, o ++ List.replicate k a = q := ⟨_, rfl⟩
          have HQ := Lib.hid hq
          have hql : q.length = o.length + k := by rw [← hq, List.length_append, List.length_replicate]
          rw [hq] at J4
          clear hq
          have HL := Lib.hid hql
          have hLL : q.length ≤ 65536 := by omega
          clear hql
          obtain ⟨vo, hY, hown⟩ := J4.2
          have hy := hY.cell 0
          have hyl := hY.loose 0
          simp only [List.getElem?_toArray, List.getElem?_cons_zero] at hx hy
          by_cases hkn : k < n
          · have dk : decide ((k : Int) < (n : Int)) = true := by simp; omega
            have hLM : q.length + 1 ≤ 65536 := by have := HL.out; omega
            have hBz := T4.size
            have hY4 := hY.lt
            go_wp2_with (at_builtin; refine wpList_append_lies _ rfl (.tmp 36) (.tmp 38) 25 rfl B0 3 i0 (.int .i64 0) 1 8 Try.underlying25 hi0 hz0 hz1 hz2 rfl (by decide) _ q.length (q.map (Value.int .i64)) rfl (hown.alloc _) ⟨wr.heap.size, 0, none⟩ 1 1 [.int .i64 a] rfl rfl (World.news_of_block (heap_alloc_new wr _)) (by intro u hu; simp at hu; subst hu; rfl) (by omega) (by unfold maxLen; omega) (by omega) (by simp; omega) _ rfl ?_)
            intro g cap w5 hown5 hgrow hat hlt5
            obtain ⟨J5, h5, T5, K5⟩ := AJ.put J4 hB0Y hY hown hgrow hown5 h4 T4 K4
            have keepY : Blk w5 Y 25 #[vo] := grow_keep (hown.alloc _) hgrow _ _ _ _ (by decide) (alloc_keep _ _ _ _ _ hY)
            have hy := keepY.cell 0
            have hyl := keepY.loose 0
            simp only [List.getElem?_toArray, List.getElem?_cons_zero] at hy
            clear hx hown hY J4 h4 T4 K4
            go_wp2
            go_roundw
            case rel => exact ⟨k + 1, by go_num, by omega, by rw [List.replicate_succ', ← List.append_assoc, HQ.out]; exact J5, h5, T5, K5⟩
            case measure => simp [intOf] <;> omega
          · have dk : decide ((k : Int) < (n : Int)) = false := by simp; omega
            obtain rfl : k = n := by omega
            go_wp2
            go_ret
            exact ⟨_, _, i1, 1, q, rfl, ⟨rfl, rfl⟩, h4, hj3, T4, K4, ⟨J4, hLL⟩, by rw [← HQ.out]; exact FIN⟩
      · have cf := fail_no R s j2 i1 e2 1 w2 h2 (by omega)
        go_wp2_with fail
        (with_reducible refine cf.mono ?_)
        rintro x w3 ⟨rfl, rfl⟩
        have J3 := J2
        have h3 := h2
        have T3 := T2
        have K3 := K2
        have FIN : (e2 ≠ 0 ∧ ageS o (s.data.toList.drop j) = .error (s.data.toList.drop j2, e2)) ∨ (e2 = 0 ∧ ageS o (s.data.toList.drop j) = .ok (o ++ List.replicate n a, s.data.toList.drop j2)) := by
          rcases HT.out with ht | ⟨he, _, ht⟩
          · exact Or.inl ht
          · exact absurd he he2
        have hj3 := hj2
        clear J2 h2 T2 K2 hown2 hY2 hc2 hla
        go_wp2_with fail
        go_loopw [34] (fun v wr => ∃ k : Nat, v = .int .i64 k ∧ k ≤ n ∧ AJ B0 R X Y wr (o ++ List.replicate k a) ∧ Rdr wr R s j2 e2 ∧ Tch (AS B0 R) W wr ∧ StaL.Rows 4 W wr) (fun v _ => n - (intOf v).toNat)
        case atStart => exact ⟨0, rfl, by omega, by simpa using J3, h3, T3, K3⟩
        case round =>
          clear J3 h3 T3 K3 x0 y0
          obtain ⟨k, rfl, hk, J4, h4, T4, K4⟩ := hrel
          have hx := J4.1.cell 0
          obtain ⟨q, hq⟩ : ∃ q, o ++ List.replicate k a = q := ⟨_, rfl⟩
          have HQ := Lib.hid hq
          have hql : q.length = o.length + k := by rw [← hq, List.length_append, List.length_replicate]
          rw [hq] at J4
          clear hq
          have HL := Lib.hid hql
          have hLL : q.length ≤ 65536 := by omega
          clear hql
          obtain ⟨vo, hY, hown⟩ := J4.2
          have hy := hY.cell 0
          have hyl := hY.loose 0
          simp only [List.getElem?_toArray, List.getElem?_cons_zero] at hx hy
          by_cases hkn : k < n
          · have dk : decide ((k : Int) < (n : Int)) = true := by simp; omega
            have hLM : q.length + 1 ≤ 65536 := by have := HL.out; omega
            have hBz := T4.size
            have hY4 := hY.lt
            go_wp2_with (at_builtin; refine wpList_append_lies _ rfl (.tmp 36) (.tmp 38) 25 rfl B0 3 i0 (.int .i64 0) 1 8 Try.underlying25 hi0 hz0 hz1 hz2 rfl (by decide) _ q.length (q.map (Value.int .i64)) rfl (hown.alloc _) ⟨wr.heap.size, 0, none⟩ 1 1 [.int .i64 a] rfl rfl (World.news_of_block (heap_alloc_new wr _)) (by intro u hu; simp at hu; subst hu; rfl) (by omega) (by unfold maxLen; omega) (by omega) (by simp; omega) _ rfl ?_)
            intro g cap w5 hown5 hgrow hat hlt5
            obtain ⟨J5, h5, T5, K5⟩ := AJ.put J4 hB0Y hY hown hgrow hown5 h4 T4 K4
            have keepY : Blk w5 Y 25 #[vo] := grow_keep (hown.alloc _) hgrow _ _ _ _ (by decide) (alloc_keep _ _ _ _ _ hY)
            have hy := keepY.cell 0
            have hyl := keepY.loose 0
            simp only [List.getElem?_toArray, List.getElem?_cons_zero] at hy
            clear hx hown hY J4 h4 T4 K4
            go_wp2
            go_roundw
            case rel => exact ⟨k + 1, by go_num, by omega, by rw [List.replicate_succ', ← List.append_assoc, HQ.out]; exact J5, h5, T5, K5⟩
            case measure => simp [intOf] <;> omega
          · have dk : decide ((k : Int) < (n : Int)) = false := by simp; omega
            obtain rfl : k = n := by omega
            go_wp2
            go_ret
            exact ⟨_, _, j2, e2, q, rfl, ⟨rfl, rfl⟩, h4, hj3, T4, K4, ⟨J4, hLL⟩, by rw [← HQ.out]; exact FIN⟩
    · have de : (a == la) = false := by rw [beq_eq_false_iff_ne]; exact hal
      have J3 := J2
      have h3 := h2
      have T3 := T2
      have K3 := K2
      have FIN : (e2 ≠ 0 ∧ ageS o (s.data.toList.drop j) = .error (s.data.toList.drop j2, e2)) ∨ (e2 = 0 ∧ ageS o (s.data.toList.drop j) = .ok (o ++ List.replicate n a, s.data.toList.drop j2)) := by
        rcases HT.out with ht | ⟨he, _, ht⟩
        · exact Or.inl ht
        · exact Or.inr ⟨he, by rw [ht, if_neg (by rw [hla]; intro hh; injection hh with hh; exact hal hh.symm)]⟩
      have hj3 := hj2
      clear J2 h2 T2 K2 hown2 hY2
      go_wp2_with fail
      go_loopw [34] (fun v wr => ∃ k : Nat, v = .int .i64 k ∧ k ≤ n ∧ AJ B0 R X Y wr (o ++ List.replicate k a) ∧ Rdr wr R s j2 e2 ∧ Tch (AS B0 R) W wr ∧ StaL.Rows 4 W wr) (fun v _ => n - (intOf v).toNat)
      case atStart => exact ⟨0, rfl, by omega, by simpa using J3, h3, T3, K3⟩
      case round =>
        clear hc2 J3 h3 T3 K3 x0 y0
        obtain ⟨k, rfl, hk, J4, h4, T4, K4⟩ := hrel
        have hx := J4.1.cell 0
        obtain ⟨q, hq⟩ : ∃ q, o ++ List.replicate k a = q := ⟨_, rfl⟩
        have HQ := Lib.hid hq
        have hql : q.length = o.length + k := by rw [← hq, List.length_append, List.length_replicate]
        rw [hq] at J4
        clear hq
        have HL := Lib.hid hql
        have hLL : q.length ≤ 65536 := by omega
        clear hql
        obtain ⟨vo, hY, hown⟩ := J4.2
        have hy := hY.cell 0
        have hyl := hY.loose 0
        simp only [List.getElem?_toArray, List.getElem?_cons_zero] at hx hy
        by_cases hkn : k < n
        · have dk : decide ((k : Int) < (n : Int)) = true := by simp; omega
          have hLM : q.length + 1 ≤ 65536 := by have := HL.out; omega
          have hBz := T4.size
          have hY4 := hY.lt
          go_wp2_with (at_builtin; refine wpList_append_lies _ rfl (.tmp 36) (.tmp 38) 25 rfl B0 3 i0 (.int .i64 0) 1 8 Try.underlying25 hi0 hz0 hz1 hz2 rfl (by decide) _ q.length (q.map (Value.int .i64)) rfl (hown.alloc _) ⟨wr.heap.size, 0, none⟩ 1 1 [.int .i64 a] rfl rfl (World.news_of_block (heap_alloc_new wr _)) (by intro u hu; simp at hu; subst hu; rfl) (by omega) (by unfold maxLen; omega) (by omega) (by simp; omega) _ rfl ?_)
          intro g cap w5 hown5 hgrow hat hlt5
          obtain ⟨J5, h5, T5, K5⟩ := AJ.put J4 hB0Y hY hown hgrow hown5 h4 T4 K4
          have keepY : Blk w5 Y 25 #[vo] := grow_keep (hown.alloc _) hgrow _ _ _ _ (by decide) (alloc_keep _ _ _ _ _ hY)
          have hy := keepY.cell 0
          have hyl := keepY.loose 0
          simp only [List.getElem?_toArray, List.getElem?_cons_zero] at hy
          clear hx hown hY J4 h4 T4 K4
          go_wp2
          go_roundw
          case rel => exact ⟨k + 1, by go_num, by omega, by rw [List.replicate_succ', ← List.append_assoc, HQ.out]; exact J5, h5, T5, K5⟩
          case measure => simp [intOf] <;> omega
        · have dk : decide ((k : Int) < (n : Int)) = false := by simp; omega
          obtain rfl : k = n := by omega
          go_wp2
          go_ret
          exact ⟨_, _, j2, e2, q, rfl, ⟨rfl, rfl⟩, h4, hj3, T4, K4, ⟨J4, hLL⟩, by rw [← HQ.out]; exact FIN⟩
end StaA
end Go.Proofs.Ytfkjogkpdebepaa
