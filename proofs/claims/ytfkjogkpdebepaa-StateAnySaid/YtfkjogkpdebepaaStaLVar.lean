/- The walk of state.list at Var: its elements by a premise. Conditions: texts that fit. -/
import Derived.Test.YtfkjogkpdebepaaStaL
namespace Go.Proofs.Ytfkjogkpdebepaa
open Go.RowKit
namespace StaL
open StaP StaR StaN
abbrev shapeVar (v : Value) (c : List Value) : Prop := ∃ n m : ByteArray, v = .agg #[.string n, .string m] ∧ c = [.string n, .string m]
theorem info_Var : (Try.prog.info? 45).map (fun i => (i.zero, i.size, i.bytes)) = some (some (.agg #[.string ⟨#[]⟩, .string ⟨#[]⟩]), 2, 32) := by kernel_rfl
set_option maxHeartbeats 6400000 in
set_option maxRecDepth 100000 in
theorem list_Var {σ : Type} (R : Nat) (s : ByteArray) (i e : Nat) (st : σ → Pr σ) (J : World → σ → List Value → Prop) (S : Nat → Prop) (a : σ) (hJ : Stable 45 J) (hS : S R) (w : World) (h : Rdr w R s i e) (his : i ≤ s.size) (hs : s.size ≤ 4611686018427387904) (h0 : J w a [])
    (one : ∀ (W : World) (j : Nat) (b : σ) (cs : List Value), Rdr W R s j 0 → j ≤ s.size → Tch S w W → J W b cs → Calls Try.prog 16 #[.pointer (some ⟨R, 0, none⟩)] W (OPost 45 S s R st J shapeVar b cs j W)) :
    Calls Try.prog 15 #[.pointer (some ⟨R, 0, none⟩), .func (.func 16) #[.pointer (some ⟨R, 0, none⟩)] #[]] w (LPost 45 2 S s R st J a i e w) := by
  obtain ⟨i0, hi0, hz0, hz1, hz2⟩ := info_parts info_Var
  have cm := many_c R s i e 0 65536 (by omega) w h his hs
  go_enter Try.func15, Try.ntmps15
  go_wp2_with fail
  (with_reducible refine cm.mono ?_)
  rintro x w1 ⟨n, i1, e1, rfl, hn, h1, hi1, t1, hnz, hrun⟩
  have hL : LL 45 2 S s R st J a i e w (.slice none 0 0) (.int .i64 n) w1 := by
    refine ⟨n, 0, [], i1, e1, a, rfl, World.ownsRow_nil _ _ _ _, h1, hi1, tch_on t1 hS, by omega, hJ w w1 a [] (fun g c t f _ ht hg => rdr_keeps h t1 g c t f ht hg) h0, ?_⟩
    by_cases he : e1 = 0
    · subst he
      obtain ⟨rfl, n', hp, rfl⟩ := hrun.inv
      exact Or.inr ⟨rfl, rfl, Lib.hid (by rw [listS, hp])⟩
    · rw [ab_bad s i1 he] at hrun ⊢
      exact Or.inl ⟨he, list_bad hrun⟩
  clear hrun cm h1 t1 hnz hn h0
  go_wp2_with fail
  go_loopw [5, 6] (fun v nv wr => LL 45 2 S s R st J a i e w v nv wr) (fun _ nv _ => (intOf nv).toNat)
  case atStart => exact hL
  case round =>
    clear hL
    obtain ⟨k, m, cs, j, e', b, rfl, hown, hr, hj, ht, hmk, hJb, hcase⟩ := hrel
    have k2 := hr.cell 2
    simp only [List.getElem?_toArray, List.getElem?_cons_zero, List.getElem?_cons_succ] at k2
    have hBz := ht.size
    rcases hcase with ⟨he, hrun⟩ | ⟨rfl, rfl, HD⟩
    · have d : ((e' : Int) == 0) = false := by rw [beq_eq_false_iff_ne]; omega
      by_cases hk : k = 0
      · have dk : decide ((0 : Int) < (k : Int)) = false := by simp; omega
        go_wp2
        go_ret
        exact ⟨_, m, cs, j, e', b, rfl, hown, by omega, hr, hj, ht, hJb, hrun.mono (fun _ h => h.elim)⟩
      · have dk : decide ((0 : Int) < (k : Int)) = true := by simp; omega
        go_wp2
        go_ret
        exact ⟨_, m, cs, j, e', b, rfl, hown, by omega, hr, hj, ht, hJb, hrun.mono (fun _ h => h.elim)⟩
    · by_cases hk : k = 0
      · have dk : decide ((0 : Int) < (k : Int)) = false := by simp; omega
        subst hk
        go_wp2
        go_ret
        exact ⟨_, m, cs, j, 0, b, rfl, hown, by omega, hr, hj, ht, hJb, Run.go HD.out rfl⟩
      · have dk : decide ((0 : Int) < (k : Int)) = true := by simp; omega
        obtain ⟨k', rfl⟩ : ∃ k', k = k' + 1 := ⟨k - 1, by omega⟩
        have c1 := one wr j b cs hr hj ht hJb
        have d0 : (((0 : Nat) : Int) == 0) = true := by simp
        go_wp2_with fail
        (with_reducible refine c1.mono ?_)
        rintro x w2 ⟨v, cv, j2, e2, b2, rfl, ⟨n1, m1, rfl, rfl⟩, h2, hj2, t2, hk2, hJ2, hst⟩
        have hown2 := own_keep hown hk2
        have hT2 := ht.trans t2
        have hz2' := hT2.size
        clear c1 hown k2
        go_wp2_with (at_builtin; refine wpList_append_lies _ rfl (.tmp 20) (.tmp 23) 23 rfl w.heap.size 45 i0 (.agg #[.string ⟨#[]⟩, .string ⟨#[]⟩]) 2 32 Try.underlying23 hi0 hz0 hz1 hz2 rfl (by decide) _ m cs rfl (hown2.alloc _) ⟨w2.heap.size, 0, none⟩ 1 1 [.string n1, .string m1] rfl rfl (World.news_of_block (heap_alloc_new w2 _)) (by intro u hu; simp at hu; first | (rcases hu with rfl | rfl | rfl | rfl | rfl | rfl | rfl | rfl | rfl | rfl | rfl <;> rfl) | (rcases hu with rfl | rfl <;> rfl) | (subst hu; rfl)) (by omega) (by unfold maxLen; omega) (by omega) (by simp; omega) _ rfl ?_)
        intro g cap w5 hown5 hgrow hat hlt5
        have hT5 : Tch S w w5 := tch_grown (hT2.alloc _) hgrow (fun k hk => (hown2.lt k hk).1)
        have keep : ∀ (g : Nat) (c : Array Value) (t : TypeId) (f : Nat × Nat), t ≠ 45 → w2.heap[g]? = some (.cells c t f) → w5.heap[g]? = some (.cells c t f) := fun g c t f h1 hg => grow_keep (hown2.alloc _) hgrow g c t f h1 (alloc_keep _ g c t f hg)
        have h5 : Rdr w5 R s j2 e2 := keep _ _ _ _ (by decide) h2
        have hcase : (e2 ≠ 0 ∧ Run (listS st a) (ab s i 0) (ab s j2 e2) (fun _ => False)) ∨ (e2 = 0 ∧ 0 = 0 ∧ Hid (listS st a (s.data.toList.drop i) = repS st k' b2 (s.data.toList.drop j2))) := by
          rcases hst with ⟨he2, hs2⟩ | ⟨he2, hs2⟩
          · refine Or.inl ⟨he2, ?_⟩
            rw [ab_ok, ab_bad s j2 he2]
            exact Run.err (by rw [HD.out, repS_succ, hs2])
          · exact Or.inr ⟨he2, rfl, Lib.hid (by rw [HD.out, repS_succ, hs2])⟩
        have hJ5 := hJ _ _ _ _ (fun g c t f ht _ hg => keep g c t f ht hg) hJ2
        clear hst HD keep
        go_wp2
        go_roundw
        case rel => exact ⟨k', m + 1, _, j2, e2, b2, by go_num, hown5, h5, hj2, hT5, by omega, hJ5, hcase⟩
        case measure => simp [intOf] <;> omega
end StaL
end Go.Proofs.Ytfkjogkpdebepaa
