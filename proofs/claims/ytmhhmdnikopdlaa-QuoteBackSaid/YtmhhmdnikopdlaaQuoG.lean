/- The walk of the reference's Parse. Condition: a text of at most 2^32 bytes. -/
import Derived.Test.YtmhhmdnikopdlaaQuoF
import Derived.Test.YtmhhmdnikopdlaaQuoX
import Derived.Test.YtmhhmdnikopdlaaQuoI
namespace Go.Proofs.Ytmhhmdnikopdlaa
open Go.RowKit
namespace QuoE
open QuoP QuoW QuoR QuoI
theorem ba_one (t : Bs) (c : UInt8) : ba t ++ ⟨#[c]⟩ = ba (t ++ [c]) := by
  apply bytes_ext
  rw [ba_list]; simp [ba]
theorem ba_nil : ba [] = ⟨#[]⟩ := rfl
/-- The loop. -/
def Lr (s : ByteArray) (w : World) (v tv iv : Value) (wr : World) : Prop := ∃ (o : List Pt) (t : Bs) (i : Nat), tv = .string (ba t) ∧ iv = .int .i64 i ∧ wr.ownsRow w.heap.size ET 2 v o.length (cells o) ∧ Below w.heap.size w wr ∧
  i ≤ s.size ∧ o.length ≤ 2 * i + 2 ∧ t.length ≤ i + 1 ∧ Hid (parse s.data.toList = run .text o t (s.data.toList.drop i))
theorem own_shape {w : World} {B : Nat} {n : Nat} {v : Value} {e : TypeId} {xs : List Value} {size : Nat} (h : w.ownsRow B e size v n xs) : ∃ a n c, v = .slice a n c := by
  rcases h.2 with ⟨rfl, _⟩ | ⟨g, cap, cur, rfl, _⟩ <;> exact ⟨_, _, _, rfl⟩
set_option maxHeartbeats 6400000 in
set_option maxRecDepth 100000 in
theorem rparse_c (s : ByteArray) (w : World) (hs : s.size ≤ 4294967296) :
    Calls Try.prog 10 #[.string s] w (PaPost s w) := by
  have ca0 := fun W => at_c s 0 W (by omega)
  rw [show ((0 : Nat) : Int) = 0 from rfl] at ca0
  by_cases e0 : atB s 0 = 34
  rotate_left
  · obtain ⟨z, hz⟩ : ∃ z : Int, ((atB s 0).toNat : Int) = z := ⟨_, rfl⟩
    rw [hz] at ca0
    have z0 : (z == 34) = false := by subst hz; rw [beq_eq_false_iff_ne]; intro h; exact e0 (UInt8.toNat_inj.1 (by show (atB s 0).toNat = 34; omega))
    have z1 : (z != 34) = true := by simp [bne, z0]
    go_enter Try.func10, Try.ntmps10
    go_wp2_with fail
    (with_reducible refine (ca0 _).mono ?_)
    rintro e w' ⟨rfl, rfl⟩
    go_wp2
    go_returns
    refine ⟨Below.refl _ _, Or.inr ⟨0, ?_, by omega, rfl⟩⟩
    rw [List.drop_zero, parse]
    refine run_stop _ _ _ _ fun c r e => ?_
    have := atB_no (x := 34) (by decide) e0 c r (by rw [List.drop_zero]; exact e)
    simp [QuoP.step, this]
  obtain ⟨hlt, hd⟩ := atB_yes (by decide) e0
  rw [e0, show (((34 : UInt8).toNat : Nat) : Int) = 34 from rfl] at ca0
  have HS : Hid (parse s.data.toList = run .text [] [] (s.data.toList.drop 1)) := Lib.hid (by
    rw [List.drop_zero] at hd
    rw [parse, hd, run_go _ (show QuoP.step .start [] [] 34 = .go .text [] [] from rfl)]; rfl)
  clear hd e0
  obtain ⟨i0, hi0, hz0, hz1, hz2⟩ := info_parts part_i
  go_enter Try.func10, Try.ntmps10
  go_wp2_with fail
  (with_reducible refine (ca0 _).mono ?_)
  rintro e w' ⟨rfl, rfl⟩
  go_wp2_with fail
  go_loopw [5, 6, 7] (fun v tv iv wr => Lr s w v tv iv wr) (fun _ _ iv _ => s.size - (intOf iv).toNat)
  case atStart => exact ⟨[], [], 1, rfl, rfl, World.ownsRow_nil _ _ _ _, Below.refl _ _, by omega, by simp, by simp, HS⟩
  case round =>
    clear HS ca0
    obtain ⟨o, t, i, rfl, rfl, hown, hB, hi, ho, ht, HR⟩ := hrel
    have hBz := hB.size
    by_cases hlt : i < s.size
    rotate_left
    · have en : Hid (s.data.toList.drop i = []) := Lib.hid (List.drop_eq_nil_of_le (by rw [← Lib.size_eq]; omega))
      go_wp2
      go_returns
      exact ⟨hB, Or.inr ⟨i, by rw [HR.out, en.out]; rfl, hi, rfl⟩⟩
    have hd := drop_cons s i hlt
    obtain ⟨c, hc⟩ : ∃ c, s[i]'hlt = c := ⟨_, rfl⟩
    rw [hc] at hd
    have hr := HR.out
    rw [hd] at hr
    have HR2 := Lib.hid hr
    have HD := Lib.hid hd
    clear hr hd HR
    have hcl := c.toNat_lt
    obtain ⟨bt, hbt⟩ : ∃ x, ba t = x := ⟨_, rfl⟩
    have hte := ba_empty t
    have hts : bt.size ≤ 4294967297 := by rw [← hbt, ba_size]; omega
    rw [hbt] at hte ⊢
    by_cases e34 : c = 34
    · subst e34
      cases h0 : t.isEmpty <;> rw [h0] at hte
      · have hn : t ≠ [] := by intro e; rw [e] at h0; cases h0
        have hfl : flush o t = o ++ [([], t)] := by rw [flush, if_neg hn]
        have hfn : (flush o t).length ≤ o.length + 1 := by rw [hfl]; simp
        go_wp2_with (at_builtin; refine wpList_append_lies _ rfl (.tmp 34) (.tmp 37) PT rfl w.heap.size ET i0 (.agg #[.string ⟨#[]⟩, .string ⟨#[]⟩]) 2 32 Try.underlying23 hi0 hz0 hz1 hz2 rfl (by decide) _ o.length (cells o) rfl (hown.alloc _) ⟨wr.heap.size, 0, none⟩ 1 1 [.string ⟨#[]⟩, .string bt] rfl rfl (World.news_of_block (heap_alloc_new wr _)) (by intro u hu; simp at hu; rcases hu with rfl | rfl <;> rfl) (by omega) (by unfold maxLen; omega) (by omega) (by simp; omega) _ rfl ?_)
        intro g cap w5 hown5 hgrow hat hlt5
        have hB5 : Below w.heap.size w w5 := (hB.alloc hBz _).grown hgrow (by simp; omega) (fun k hk => (hown.lt k hk).1)
        have hBz5 := hB5.size
        have hownF : w5.ownsRow w.heap.size ET 2 (.slice (some ⟨g, 0, none⟩) (o.length + 1) cap) (flush o t).length (cells (flush o t)) := by rw [hfl, cells_app, List.length_append, ← hbt] at *; exact hown5
        clear hfl hn
        go_wp2
        go_returns
        exact ⟨hB5, Or.inl ⟨flush o t, i + 1, _, by rw [HR2.out, run_fin _ (show QuoP.step .text o t 34 = .fin (flush o t) from rfl)], by omega, rfl, hownF⟩⟩
      · have hn : t = [] := List.isEmpty_iff.1 h0
        have hfl : flush o t = o := by rw [hn, flush_nil]
        have hfn : (flush o t).length ≤ o.length + 1 := by rw [hfl]; omega
        have hownF : wr.ownsRow w.heap.size ET 2 u5 (flush o t).length (cells (flush o t)) := by rw [hfl]; exact hown
        clear hfl hn
        have hB5 := hB
        have hBz5 := hBz
        go_wp2
        go_returns
        exact ⟨hB5, Or.inl ⟨flush o t, i + 1, _, by rw [HR2.out, run_fin _ (show QuoP.step .text o t 34 = .fin (flush o t) from rfl)], by omega, rfl, hownF⟩⟩
    by_cases e36 : c = 36
    · subst e36
      cases h0 : t.isEmpty <;> rw [h0] at hte
      · have hn : t ≠ [] := by intro e; rw [e] at h0; cases h0
        have hfl : flush o t = o ++ [([], t)] := by rw [flush, if_neg hn]
        have hfn : (flush o t).length ≤ o.length + 1 := by rw [hfl]; simp
        go_wp2_with (at_builtin; refine wpList_append_lies _ rfl (.tmp 34) (.tmp 37) PT rfl w.heap.size ET i0 (.agg #[.string ⟨#[]⟩, .string ⟨#[]⟩]) 2 32 Try.underlying23 hi0 hz0 hz1 hz2 rfl (by decide) _ o.length (cells o) rfl (hown.alloc _) ⟨wr.heap.size, 0, none⟩ 1 1 [.string ⟨#[]⟩, .string bt] rfl rfl (World.news_of_block (heap_alloc_new wr _)) (by intro u hu; simp at hu; rcases hu with rfl | rfl <;> rfl) (by omega) (by unfold maxLen; omega) (by omega) (by simp; omega) _ rfl ?_)
        intro g cap w5 hown5 hgrow hat hlt5
        have hB5 : Below w.heap.size w w5 := (hB.alloc hBz _).grown hgrow (by simp; omega) (fun k hk => (hown.lt k hk).1)
        have hBz5 := hB5.size
        have hownF : w5.ownsRow w.heap.size ET 2 (.slice (some ⟨g, 0, none⟩) (o.length + 1) cap) (flush o t).length (cells (flush o t)) := by rw [hfl, cells_app, List.length_append, ← hbt] at *; exact hown5
        clear hfl hn
        have cv := fun W => rvariable_c s (i + 1) W (by omega) (by omega)
        rw [show ((i + 1 : Nat) : Int) = (i : Int) + 1 from by omega] at cv
        have e2 : QuoP.step .text o t 36 = .go .dollar (flush o t) [] := rfl
        go_wp2_with fail
        (with_reducible refine (cv _).mono ?_)
        rintro e w6 ⟨hb6, nm, n, k, rfl, hV⟩
        have hB6 := via (a := w) hb6 hB5
        have hBz6 := hB6.size
        have hown6 : w6.ownsRow w.heap.size ET 2 _ (flush o t).length (cells (flush o t)) := own_keep hownF fun g c hg => (hb6.block g (Array.getElem?_eq_some_iff.1 hg).1).trans hg
        rcases hV with ⟨rfl, j, rfl, hj1, hj2, hq⟩ | ⟨m, rfl, hm1, hm2, hq⟩
        · go_wp2
          go_returns
          exact ⟨hB6, Or.inr ⟨j, by rw [HR2.out, run_go _ e2, hq], hj2, rfl⟩⟩
        · have HQ := Lib.hid hq
          clear hq
          have hmn : decide ((m : Int) < 0) = false := by rw [decide_eq_false_iff_not]; omega
          go_wp2_with (at_builtin; refine wpList_append_lies _ rfl (.tmp 57) (.tmp 60) PT rfl w.heap.size ET i0 (.agg #[.string ⟨#[]⟩, .string ⟨#[]⟩]) 2 32 Try.underlying23 hi0 hz0 hz1 hz2 rfl (by decide) _ (flush o t).length (cells (flush o t)) rfl (hown6.alloc _) ⟨w6.heap.size, 0, none⟩ 1 1 [.string nm, .string ⟨#[]⟩] rfl rfl (World.news_of_block (heap_alloc_new w6 _)) (by intro u hu; simp at hu; rcases hu with rfl | rfl <;> rfl) (by omega) (by unfold maxLen; omega) (by omega) (by simp; omega) _ rfl ?_)
          intro g7 cap7 w7 hown7 hgrow7 hat7 hlt7
          have hB7 : Below w.heap.size w w7 := (hB6.alloc hBz6 _).grown hgrow7 (by simp; omega) (fun k hk => (hown6.lt k hk).1)
          have hpc : cells [(nm.data.toList, [])] = [.string nm, .string ⟨#[]⟩] := (by rw [cells, List.flatMap_cons, pcells, ba_of]; rfl)
          go_wp2
          go_roundw
          case rel =>
            refine ⟨flush o t ++ [(nm.data.toList, [])], [], i + 1 + m, rfl, by go_num, by rw [cells_app, List.length_append, hpc]; exact hown7, hB7, hm2, by simp; omega, by simp, Lib.hid ?_⟩
            rw [HR2.out, run_go _ e2, HQ.out]
          case measure => simp [intOf]; omega
      · have hn : t = [] := List.isEmpty_iff.1 h0
        have hfl : flush o t = o := by rw [hn, flush_nil]
        have hfn : (flush o t).length ≤ o.length + 1 := by rw [hfl]; omega
        have hownF : wr.ownsRow w.heap.size ET 2 u5 (flush o t).length (cells (flush o t)) := by rw [hfl]; exact hown
        clear hfl hn
        have hB5 := hB
        have hBz5 := hBz
        have cv := fun W => rvariable_c s (i + 1) W (by omega) (by omega)
        rw [show ((i + 1 : Nat) : Int) = (i : Int) + 1 from by omega] at cv
        have e2 : QuoP.step .text o t 36 = .go .dollar (flush o t) [] := rfl
        go_wp2_with fail
        (with_reducible refine (cv _).mono ?_)
        rintro e w6 ⟨hb6, nm, n, k, rfl, hV⟩
        have hB6 := via (a := w) hb6 hB5
        have hBz6 := hB6.size
        have hown6 : w6.ownsRow w.heap.size ET 2 _ (flush o t).length (cells (flush o t)) := own_keep hownF fun g c hg => (hb6.block g (Array.getElem?_eq_some_iff.1 hg).1).trans hg
        rcases hV with ⟨rfl, j, rfl, hj1, hj2, hq⟩ | ⟨m, rfl, hm1, hm2, hq⟩
        · go_wp2
          go_returns
          exact ⟨hB6, Or.inr ⟨j, by rw [HR2.out, run_go _ e2, hq], hj2, rfl⟩⟩
        · have HQ := Lib.hid hq
          clear hq
          have hmn : decide ((m : Int) < 0) = false := by rw [decide_eq_false_iff_not]; omega
          go_wp2_with (at_builtin; refine wpList_append_lies _ rfl (.tmp 57) (.tmp 60) PT rfl w.heap.size ET i0 (.agg #[.string ⟨#[]⟩, .string ⟨#[]⟩]) 2 32 Try.underlying23 hi0 hz0 hz1 hz2 rfl (by decide) _ (flush o t).length (cells (flush o t)) rfl (hown6.alloc _) ⟨w6.heap.size, 0, none⟩ 1 1 [.string nm, .string ⟨#[]⟩] rfl rfl (World.news_of_block (heap_alloc_new w6 _)) (by intro u hu; simp at hu; rcases hu with rfl | rfl <;> rfl) (by omega) (by unfold maxLen; omega) (by omega) (by simp; omega) _ rfl ?_)
          intro g7 cap7 w7 hown7 hgrow7 hat7 hlt7
          have hB7 : Below w.heap.size w w7 := (hB6.alloc hBz6 _).grown hgrow7 (by simp; omega) (fun k hk => (hown6.lt k hk).1)
          have hpc : cells [(nm.data.toList, [])] = [.string nm, .string ⟨#[]⟩] := (by rw [cells, List.flatMap_cons, pcells, ba_of]; rfl)
          go_wp2
          go_roundw
          case rel =>
            refine ⟨flush o t ++ [(nm.data.toList, [])], [], i + 1 + m, rfl, by go_num, by rw [cells_app, List.length_append, hpc]; exact hown7, hB7, hm2, by simp; omega, by simp, Lib.hid ?_⟩
            rw [HR2.out, run_go _ e2, HQ.out]
          case measure => simp [intOf]; omega
    have z34 : ((c.toNat : Int) == 34) = false := ne_z e34
    have z36 : ((c.toNat : Int) == 36) = false := ne_z e36
    have kc := conv_one
    by_cases e92 : c = 92
    · subst e92
      have cv := fun W => rescape_c s (i + 1) W (by omega) (by omega)
      rw [show ((i + 1 : Nat) : Int) = (i : Int) + 1 from by omega] at cv
      have e2 : QuoP.step .text o t 92 = .go .esc o t := rfl
      go_wp2_with fail
      (with_reducible refine (cv _).mono ?_)
      rintro e w6 ⟨hb6, d, n, k, rfl, hV⟩
      have hB6 := via (a := w) hb6 hB
      have hBz6 := hB6.size
      rcases hV with ⟨rfl, j, rfl, hj1, hj2, hq⟩ | ⟨m, rfl, hm1, hm2, hq⟩
      · go_wp2
        go_returns
        exact ⟨hB6, Or.inr ⟨j, by rw [HR2.out, run_go _ e2, hq], hj2, rfl⟩⟩
      · have HQ := Lib.hid hq
        clear hq
        have hmn : decide ((m : Int) < 0) = false := by rw [decide_eq_false_iff_not]; omega
        go_wp2
        go_roundw
        case rel =>
          refine ⟨o, t ++ [d], i + 1 + m, ?_, by go_num, own_keep hown fun g c hg => ((hb6.alloc hb6.size _).block g (Array.getElem?_eq_some_iff.1 hg).1).trans hg, hB6.alloc hBz6 _, hm2, by omega, by simp; omega, Lib.hid ?_⟩
          · rw [← hbt]; exact congrArg Value.string (ba_one t d)
          · rw [HR2.out, run_go _ e2, HQ.out]
        case measure => simp [intOf]; omega
    have z92 : ((c.toNat : Int) == 92) = false := ne_z e92
    cases hx : textB c
    · have e2 : QuoP.step .text o t c = .no := by simp [QuoP.step, hx]
      have hx2 : c.toNat < 32 ∨ 126 < c.toNat := by simp [textB] at hx; omega
      by_cases l1 : c.toNat < 32
      · have d1 : decide ((c.toNat : Int) < 32) = true := by simp; omega
        go_wp2
        go_returns
        exact ⟨hB, Or.inr ⟨i, by rw [HR2.out, HD.out, run_no _ e2], hi, rfl⟩⟩
      · have d1 : decide ((c.toNat : Int) < 32) = false := by simp; omega
        have d2 : decide (126 < (c.toNat : Int)) = true := by simp; omega
        go_wp2
        go_returns
        exact ⟨hB, Or.inr ⟨i, by rw [HR2.out, HD.out, run_no _ e2], hi, rfl⟩⟩
    · have e2 : QuoP.step .text o t c = .go .text o (t ++ [c]) := by simp [QuoP.step, hx, e34, e36, e92]
      have hx2 : 32 ≤ c.toNat ∧ c.toNat ≤ 126 := by simpa [textB] using hx
      have d1 : decide ((c.toNat : Int) < 32) = false := by simp; omega
      have d2 : decide (126 < (c.toNat : Int)) = false := by simp; omega
      go_wp2
      go_roundw
      case rel =>
        refine ⟨o, t ++ [c], i + 1, ?_, by go_num, hown.alloc _, hB.alloc hBz _, by omega, by omega, by simp; omega, Lib.hid ?_⟩
        · rw [← hbt]; exact congrArg Value.string (ba_one t c)
        · rw [HR2.out, run_go _ e2]
      case measure => simp [intOf]; omega
end QuoE
end Go.Proofs.Ytmhhmdnikopdlaa
