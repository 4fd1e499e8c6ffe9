/- The walk of the reference's list of numbers. Conditions: texts that fit. -/
import Derived.Test.YtfkjogkpdebepaaStaTq
import Derived.Test.YtfkjogkpdebepaaStaI
namespace Go.Proofs.Ytfkjogkpdebepaa
open Go.RowKit
namespace StaRq
open StaP StaR StaN StaL StaG
theorem rdq_keeps {w w' : World} {R : Nat} {s : ByteArray} {i : Nat} {e : Int} (h : Rdq w R s i e) (k : Tch (On R) w w') (g : Nat) (c : Array Value) (t : TypeId) (f : Nat × Nat) (ht : t ≠ QT) (hg : w.heap[g]? = some (.cells c t f)) : w'.heap[g]? = some (.cells c t f) :=
  (k.block g (Array.getElem?_eq_some_iff.1 hg).1 (blk_ne hg h ht)).trans hg
theorem rdq_rows {w w' : World} {R : Nat} {s : ByteArray} {i : Nat} {e : Int} {t : TypeId} (h : Rdq w R s i e) (k : Tch (On R) w w') (ht : t ≠ QT) : StaL.Rows t w w' := fun g c hg => rdq_keeps h k g c t (0, 0) ht hg
/-- How a list's parser stands. -/
def Stp {σ : Type} (st : σ → Pr σ) (a b : σ) (s : ByteArray) (i er j e' k : Nat) : Prop := (e' ≠ 0 ∧ Run (listS st a) (ab s i er) (ab s j e') (fun _ => False)) ∨ (e' = 0 ∧ er = 0 ∧ Hid (listS st a (s.data.toList.drop i) = repS st k b (s.data.toList.drop j)))
theorem Stp.start {σ : Type} {st : σ → Pr σ} {a : σ} {s : ByteArray} {i er i1 e1 n : Nat} (hrun : Run (manyP 0 65536) (ab s i er) (ab s i1 e1) (fun m => m = n)) : Stp st a a s i er i1 e1 n := by
  by_cases he : e1 = 0
  · subst he
    obtain ⟨rfl, n', hp, rfl⟩ := hrun.inv
    exact Or.inr ⟨rfl, rfl, Lib.hid (by rw [listS, hp])⟩
  · rw [ab_bad s i1 he] at hrun
    exact Or.inl ⟨he, by rw [ab_bad s i1 he]; exact list_bad hrun⟩
theorem Stp.step {σ : Type} {st : σ → Pr σ} {a b b2 : σ} {s : ByteArray} {i er j j2 e2 k : Nat} (h : Stp st a b s i er j 0 (k + 1))
    (hst : (e2 ≠ 0 ∧ st b (s.data.toList.drop j) = .error (s.data.toList.drop j2, e2)) ∨ (e2 = 0 ∧ st b (s.data.toList.drop j) = .ok (b2, s.data.toList.drop j2))) : Stp st a b2 s i er j2 e2 k := by
  rcases h with ⟨h, _⟩ | ⟨-, rfl, HD⟩
  · exact absurd rfl h
  · rcases hst with ⟨he2, hs2⟩ | ⟨he2, hs2⟩
    · refine Or.inl ⟨he2, ?_⟩
      rw [ab_ok, ab_bad s j2 he2]
      exact Run.err (by rw [HD.out, repS_succ, hs2])
    · exact Or.inr ⟨he2, rfl, Lib.hid (by rw [HD.out, repS_succ, hs2])⟩
theorem Stp.stop {σ : Type} {st : σ → Pr σ} {a b : σ} {s : ByteArray} {i er j e' : Nat} (h : Stp st a b s i er j e' 0) : Run (listS st a) (ab s i er) (ab s j e') (fun m => m = b) := by
  rcases h with ⟨_, h⟩ | ⟨rfl, rfl, HD⟩
  · exact h.mono (fun _ h => h.elim)
  · rw [ab_ok, ab_ok]; exact Run.go HD.out rfl
theorem Stp.fail {σ : Type} {st : σ → Pr σ} {a b : σ} {s : ByteArray} {i er j e' k : Nat} {g : σ → Prop} (h : Stp st a b s i er j e' k) (he : e' ≠ 0) : Run (listS st a) (ab s i er) (ab s j e') g := by
  rcases h with ⟨_, h⟩ | ⟨h, _⟩
  · exact h.mono (fun _ h => h.elim)
  · exact absurd h he
/-- A list of numbers. -/
def QIPost (s : ByteArray) (R i e : Nat) (w : World) (x : Ending) (w' : World) : Prop :=
  ∃ (v : Value) (o : List Int) (i' e' : Nat), x = .returned v ∧ w'.ownsRow w.heap.size 3 1 v o.length (ints o) ∧ o.length ≤ 65536 ∧ (∀ b ∈ o, I64 b) ∧ Rdq w' R s i' e' ∧ i' ≤ s.size ∧ Tch (On R) w w' ∧ Run (listP numP) (ab s i e) (ab s i' e') (fun m => m = o)
def QIL (s : ByteArray) (R i er : Nat) (w : World) (v nv : Value) (wr : World) : Prop :=
  ∃ (k m : Nat) (o : List Int) (j e' : Nat), nv = .int .i64 k ∧ wr.ownsRow w.heap.size 3 1 v m (ints o) ∧ Rdq wr R s j e' ∧ j ≤ s.size ∧ Tch (On R) w wr ∧ m + k ≤ 65536 ∧ (∀ b ∈ o, I64 b) ∧ Stp (onto numP) [] o s i er j e' k
theorem qi_end {s : ByteArray} {R i er : Nat} {w wr : World} {v : Value} {m : Nat} {o : List Int} {j e' : Nat} (hown : wr.ownsRow w.heap.size 3 1 v m (ints o)) (hr : Rdq wr R s j e') (hj : j ≤ s.size) (ht : Tch (On R) w wr) (hm : m ≤ 65536) (hb : ∀ b ∈ o, I64 b)
    (h : Run (listS (onto numP) []) (ab s i er) (ab s j e') (fun m => m = o)) : QIPost s R i er w (.returned v) wr := by
  have hl := own_len hown
  rw [List.length_map] at hl
  subst hl
  exact ⟨v, o, j, e', rfl, hown, hm, hb, hr, hj, ht, run_eq (list_onto numP) h⟩
set_option maxHeartbeats 6400000 in
set_option maxRecDepth 100000 in
theorem ints_c (R : Nat) (s : ByteArray) (i e : Nat) (w : World) (h : Rdq w R s i e) (his : i ≤ s.size) (hs : s.size ≤ 4611686018427387904) :
    Calls Try.prog 25 #[.pointer (some ⟨R, 0, none⟩)] w (QIPost s R i e w) := by
  obtain ⟨i0, hi0, hz0, hz1, hz2⟩ := info_parts info_Int
  have cm := many_c R s i e w h his hs
  go_enter Try.func25, Try.ntmps25
  go_wp2_with fail
  (with_reducible refine cm.mono ?_)
  rintro x w1 ⟨n, i1, e1, rfl, hn, h1, hi1, t1, hnz, hrun⟩
  have hL : QIL s R i e w (.slice none 0 0) (.int .i64 n) w1 :=
    ⟨n, 0, [], i1, e1, rfl, World.ownsRow_nil _ _ _ _, h1, hi1, t1, by omega, (fun b hb => by cases hb), Stp.start hrun⟩
  clear hrun cm h1 t1 hnz hn h
  go_wp2_with fail
  go_loopw [3, 4] (fun v nv wr => QIL s R i e w v nv wr) (fun _ nv _ => (intOf nv).toNat)
  case atStart => exact hL
  case round =>
    clear hL
    obtain ⟨k, m, o, j, e', rfl, hown, hr, hj, ht, hmk, hb, hst⟩ := hrel
    have k2 := hr.cell 2
    simp only [List.getElem?_toArray, List.getElem?_cons_zero, List.getElem?_cons_succ] at k2
    have hBz := ht.size
    obtain ⟨oa, oc, rfl⟩ := StaL.own_shape hown
    have HST := Lib.hid hst
    clear hst
    by_cases hk : k = 0
    · have dk : decide ((0 : Int) < (k : Int)) = false := by simp; omega
      have dk2 : ¬ 0 < k := by omega
      go_wp2
      go_ret
      exact qi_end hown hr hj ht (by omega) hb (by subst hk; exact HST.out.stop)
    have dk : decide ((0 : Int) < (k : Int)) = true := by simp; omega
    by_cases he : e' = 0
    rotate_left
    · have d : ((e' : Int) == 0) = false := by rw [beq_eq_false_iff_ne]; omega
      go_wp2
      go_ret
      exact qi_end hown hr hj ht (by omega) hb (HST.out.fail he)
    subst he
    obtain ⟨k', rfl⟩ : ∃ k', k = k' + 1 := ⟨k - 1, by omega⟩
    have c1 := num_c R s j 0 wr hr hj hs
    have d0 : (((0 : Nat) : Int) == 0) = true := by simp
    go_wp2_with fail
    (with_reducible refine c1.mono ?_)
    rintro x w2 ⟨n1, j2, e2, rfl, bn, h2, hj2, t2, -, hst⟩
    have hown2 := own_keep hown (rdq_rows hr t2 (by decide))
    have hT2 := ht.trans t2
    have hz2' := hT2.size
    have HS2 : Hid (Stp (onto numP) [] (o ++ [n1]) s i e j2 e2 k') := Lib.hid (HST.out.step (onto_case hst))
    clear c1 hown k2 hst HST
    go_wp2_with (at_builtin; refine wpList_append_lies _ rfl (.tmp 18) (.tmp 21) 25 rfl w.heap.size 3 i0 (.int .i64 0) 1 8 Try.underlying25 hi0 hz0 hz1 hz2 rfl (by decide) _ m (ints o) rfl (hown2.alloc _) ⟨w2.heap.size, 0, none⟩ 1 1 [.int .i64 n1] rfl rfl (World.news_of_block (heap_alloc_new w2 _)) (by intro u hu; simp at hu; subst hu; rfl) (by omega) (by unfold maxLen; omega) (by omega) (by simp; omega) _ rfl ?_)
    intro g cap w5 hown5 hgrow hat hlt5
    have hT5 : Tch (On R) w w5 := tch_grown (hT2.alloc _) hgrow (fun k hk => (hown2.lt k hk).1)
    have keep : ∀ (g : Nat) (c : Array Value) (t : TypeId) (f : Nat × Nat), t ≠ 3 → w2.heap[g]? = some (.cells c t f) → w5.heap[g]? = some (.cells c t f) := fun g c t f h1 hg => grow_keep (hown2.alloc _) hgrow g c t f h1 (alloc_keep _ g c t f hg)
    have h5 : Rdq w5 R s j2 e2 := keep _ _ _ _ (by decide) h2
    have hown6 : w5.ownsRow w.heap.size 3 1 (.slice (some ⟨g, 0, none⟩) (m + 1) cap) (m + 1) (ints (o ++ [n1])) := by rw [ints, List.map_append]; exact hown5
    have hb6 : ∀ b ∈ o ++ [n1], I64 b := by
      intro b hb'
      rcases List.mem_append.1 hb' with hb' | hb'
      · exact hb b hb'
      · rw [List.mem_singleton] at hb'; rw [hb']; exact bn
    clear keep hown5 hown2
    go_wp2
    go_roundw
    case rel => exact ⟨k', m + 1, o ++ [n1], j2, e2, by go_num, hown6, h5, hj2, hT5, by omega, hb6, HS2.out⟩
    case measure => simp [intOf] <;> omega
end StaRq
end Go.Proofs.Ytfkjogkpdebepaa
