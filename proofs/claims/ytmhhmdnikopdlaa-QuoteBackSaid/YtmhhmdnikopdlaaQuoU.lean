/- What quote.Parse keeps in memory, and the walk of the closure that hands a text on. Conditions: fewer than 2^40 parts, texts of less than 2^47 bytes. -/
import Derived.Test.YtmhhmdnikopdlaaQuoT
import Derived.Test.YtmhhmdnikopdlaaQuoM
import Derived.Deep.AppendLies
import Derived.Deep.RegionLaw
namespace Go.Proofs.Ytmhhmdnikopdlaa
open Go.RowKit
namespace QuoR
open QuoP QuoW QuoB
abbrev PT : TypeId := 23
abbrev ET : TypeId := 39
theorem blk_ne {w : World} {g h : Nat} {c c' : Array Value} {e e' : TypeId} {f f' : Nat × Nat} (hg : w.heap[g]? = some (Obj.cells c e f)) (hh : w.heap[h]? = some (Obj.cells c' e' f')) (hne : e ≠ e') : g ≠ h := by
  intro x; subst x; rw [hg] at hh; injection hh with h1; injection h1 with h2 h3 h4; exact hne h3
theorem own_keep {w w' : World} {B : Nat} {e : TypeId} {size : Nat} {v : Value} {n : Nat} {xs : List Value} (h : w.ownsRow B e size v n xs)
    (hk : ∀ (g : Nat) (c : Array Value), w.heap[g]? = some (Obj.cells c e (0, 0)) → w'.heap[g]? = some (Obj.cells c e (0, 0))) : w'.ownsRow B e size v n xs := by
  refine ⟨h.1, ?_⟩
  rcases h.2 with hn | ⟨g, cap, cur, rfl, hb, hgg, rest⟩
  · exact .inl hn
  · exact .inr ⟨g, cap, cur, rfl, hb, hk g cur hgg, rest⟩
theorem grown_of {R : Nat} {w w' : World} (h : Tch (On R) w w') : w.grownBy w' (some R) := ⟨h.os, h.tape, h.output, h.size, fun k hk hne => h.block k hk (fun e => hne (by rw [e]))⟩
theorem isb_blk {B b : Nat} {t : Bs} {w : World} (h : IsB B b t w) : ∃ c, w.heap[b]? = some (Obj.cells c BT (0, 0)) := by
  rcases h with ⟨_, v, h, _⟩ | ⟨_, v, h, _⟩ <;> exact ⟨_, h⟩
theorem isb_keep {B b : Nat} {t : Bs} {w w' : World} (h : IsB B b t w) (hg : ∀ (g : Nat) (c : Array Value) (e : TypeId) (f : Nat × Nat), (e = BT ∨ e = 5) → w.heap[g]? = some (Obj.cells c e f) → w'.heap[g]? = some (Obj.cells c e f)) : IsB B b t w' := by
  have key : ∀ p, Lib.BuilderAtF BT 5 B b p (Lib.byteCells t) w → Lib.BuilderAtF BT 5 B b p (Lib.byteCells t) w' := by
    rintro p ⟨hB, v, hb, hown, hne⟩
    refine ⟨hB, v, hg _ _ _ _ (Or.inl rfl) hb, ⟨hown.1, ?_⟩, hne⟩
    rcases hown.2 with hn | ⟨g, cap, cur, fz, rfl, h1, hgg, rest⟩
    · exact .inl hn
    · exact .inr ⟨g, cap, cur, fz, rfl, h1, hg _ _ _ _ (Or.inr rfl) hgg, rest⟩
  rcases h with h | h
  · exact Or.inl (key _ h)
  · exact Or.inr (key _ h)
/-- Parse's memory: the reader in block R, the bytes of a text in the builder b, the parts in the variable V. -/
structure PS (B R b V : Nat) (s : ByteArray) (i : Nat) (bad : Bool) (o : List Pt) (t : Bs) (w : World) : Prop where
  hB : B ≤ w.heap.size
  hR : B ≤ R
  hV : B ≤ V
  rd : Rdr w R s i bad
  isb : IsB B b t w
  ov : ∃ v, Blk w V PT #[v] ∧ w.ownsRow B ET 2 v o.length (cells o)
theorem grow_keep {w w1 : World} {B n size : Nat} {v : Value} {xs : List Value} {et : TypeId} (hown : w.ownsRow B et size v n xs) (hg : w.grownBy w1 v.ownBlock) :
    ∀ (g : Nat) (c : Array Value) (e : TypeId) (f : Nat × Nat), e ≠ et → w.heap[g]? = some (Obj.cells c e f) → w1.heap[g]? = some (Obj.cells c e f) := fun g c e f h1 hgg => by
  refine (hg.block g (Array.getElem?_eq_some_iff.1 hgg).1 fun hx => ?_).trans hgg
  rcases hown.2 with ⟨rfl, _⟩ | ⟨g', cap, cur, rfl, _, hg', _⟩
  · cases hx
  · simp only [Value.ownBlock, Option.some.injEq] at hx; exact blk_ne hgg hg' h1 hx
namespace PS
variable {B R b V : Nat} {s : ByteArray} {i : Nat} {bad : Bool} {o : List Pt} {t : Bs} {w w' : World}
theorem wr_keep (h : PS B R b V s i bad o t w) (k : Wr B b w w') : ∀ (g : Nat) (c : Array Value) (e : TypeId) (f : Nat × Nat), e ≠ BT → e ≠ 5 → w.heap[g]? = some (Obj.cells c e f) → w'.heap[g]? = some (Obj.cells c e f) := fun g c e f h1 h2 hg => by
  obtain ⟨c, hbb⟩ := isb_blk h.isb
  exact k.kept g _ hg (by intro e; injection e with e; exact blk_ne hg hbb h1 e) (by rintro c' f' hx; injection hx with _ h3 _; exact h2 h3)
theorem wr {t' : Bs} (h : PS B R b V s i bad o t w) (k : Wr B b w w') (hb : IsB B b t' w') : PS B R b V s i bad o t' w' := by
  obtain ⟨c, hbb⟩ := isb_blk h.isb
  have keep : ∀ (g : Nat) (c : Array Value) (e : TypeId) (f : Nat × Nat), e ≠ BT → e ≠ 5 → w.heap[g]? = some (Obj.cells c e f) → w'.heap[g]? = some (Obj.cells c e f) := fun g c e f h1 h2 hg =>
    k.kept g _ hg (by intro e; injection e with e; exact blk_ne hg hbb h1 e) (by rintro c' f' hx; injection hx with _ h3 _; exact h2 h3)
  obtain ⟨v, hv, hown⟩ := h.ov
  exact ⟨Nat.le_trans h.hB k.below.size, h.hR, h.hV, keep _ _ _ _ (by decide) (by decide) h.rd, hb, v, keep _ _ _ _ (by decide) (by decide) hv, own_keep hown fun g c hg => keep _ _ _ _ (by decide) (by decide) hg⟩
theorem mv {i' : Nat} {bad' : Bool} (h : PS B R b V s i bad o t w) (k : Tch (On R) w w') (hr : Rdr w' R s i' bad') : PS B R b V s i' bad' o t w' := by
  have keep : ∀ (g : Nat) (c : Array Value) (e : TypeId) (f : Nat × Nat), e ≠ RT → w.heap[g]? = some (Obj.cells c e f) → w'.heap[g]? = some (Obj.cells c e f) := fun g c e f h1 hg =>
    (k.block g (Array.getElem?_eq_some_iff.1 hg).1 (blk_ne hg h.rd h1)).trans hg
  obtain ⟨v, hv, hown⟩ := h.ov
  exact ⟨Nat.le_trans h.hB k.size, h.hR, h.hV, hr, isb_keep h.isb fun g c e f he hg => keep _ _ _ _ (by rcases he with rfl | rfl <;> decide) hg, v, keep _ _ _ _ (by decide) hv, own_keep hown fun g c hg => keep _ _ _ _ (by decide) hg⟩
/-- The variable is written, and the row behind it. -/
theorem put {o' : List Pt} {v v' : Value} {w1 : World} (h : PS B R b V s i bad o t w) (hv : Blk w V PT #[v]) (hg : w.grownBy w1 v.ownBlock) (hown : w.ownsRow B ET 2 v o.length (cells o))
    (hown' : w1.ownsRow B ET 2 v' o'.length (cells o')) : PS B R b V s i bad o' t (w1.setCell ⟨V, 0, none⟩ v') := by
  have keep : ∀ (g : Nat) (c : Array Value) (e : TypeId) (f : Nat × Nat), e ≠ ET → w.heap[g]? = some (Obj.cells c e f) → w1.heap[g]? = some (Obj.cells c e f) := fun g c e f h1 hgg => by
    refine (hg.block g (Array.getElem?_eq_some_iff.1 hgg).1 fun hx => ?_).trans hgg
    rcases hown.2 with ⟨rfl, _⟩ | ⟨g', cap, cur, rfl, _, hg', _⟩
    · cases hx
    · simp only [Value.ownBlock, Option.some.injEq] at hx; exact blk_ne hgg hg' h1 hx
  have hv1 : Blk w1 V PT #[v] := keep _ _ _ _ (by decide) hv
  have keep2 : ∀ (g : Nat) (c : Array Value) (e : TypeId) (f : Nat × Nat), e ≠ PT → w1.heap[g]? = some (Obj.cells c e f) → (w1.setCell ⟨V, 0, none⟩ v').heap[g]? = some (Obj.cells c e f) := fun g c e f h1 hgg =>
    (Below.heap_setCell w1 ⟨V, 0, none⟩ v' g (blk_ne hgg hv1 h1)).trans hgg
  refine ⟨?_, h.hR, h.hV, keep2 _ _ _ _ (by decide) (keep _ _ _ _ (by decide) h.rd), ?_, v', hv1.set_ 0 v', own_keep hown' fun g c hgg => keep2 _ _ _ _ (by decide) hgg⟩
  · have := hg.size; have := h.hB; simp [World.setCell]; omega
  · exact isb_keep h.isb fun g c e f he hgg => keep2 _ _ _ _ (by rcases he with rfl | rfl <;> decide) (keep _ _ _ _ (by rcases he with rfl | rfl <;> decide) hgg)
theorem alloc (h : PS B R b V s i bad o t w) (x : Obj) : PS B R b V s i bad o t (w.alloc x) := h.mv ((Tch.refl _ w).alloc x) (h.rd.alloc x)
theorem drewN (h : PS B R b V s i bad o t w) (n : Nat) : PS B R b V s i bad o t (w.drewN n) := h.mv ((Tch.refl _ w).drewN n) (h.rd.drewN n)
end PS
theorem cells_app (a b : List Pt) : cells (a ++ b) = cells a ++ cells b := by rw [cells, List.flatMap_append]; rfl
theorem part_i : (Try.prog.info? ET).map (fun i => (i.zero, i.size, i.bytes)) = some (some (.agg #[.string ⟨#[]⟩, .string ⟨#[]⟩]), 2, 32) := by kernel_rfl
set_option maxHeartbeats 3200000 in
set_option maxRecDepth 100000 in
theorem flush_c {B R b V : Nat} {s : ByteArray} {i : Nat} {bad : Bool} {o : List Pt} {t : Bs} {w : World} (h : PS B R b V s i bad o t w) (ho : o.length + 1 ≤ 1099511627776) (ht : t.length ≤ 1099511627776) :
    Calls Try.prog 33 #[.pointer (some ⟨b, 0, none⟩), .pointer (some ⟨V, 0, none⟩)] w fun e w' => e = .returned (.tuple #[]) ∧ PS B R b V s i bad (flush o t) [] w' ∧ Below B w w' := by
  have cl := Try.Builder_Len_f B b _ w h.isb
  rw [Lib.byteCells_length] at cl
  by_cases h0 : t = []
  · subst h0
    go_enter Try.func33, Try.ntmps33
    go_wp2_with fail
    (with_reducible refine cl.mono ?_)
    rintro e w' ⟨rfl, rfl⟩
    go_wp2
    go_end0
    exact ⟨rfl, by rw [flush_nil]; exact h, Below.refl _ _⟩
  · have hl : decide (0 < t.length) = true := by simpa using List.length_pos_iff.2 h0
    have hl2 : 0 < t.length := by simpa using hl
    obtain ⟨v, hv, hown⟩ := h.ov
    have kv := hv.cell 0
    have lv := hv.loose 0
    simp only [List.getElem?_toArray, List.getElem?_cons_zero, List.getElem?_cons_succ] at kv
    go_enter Try.func33, Try.ntmps33
    go_wp2_with fail
    (with_reducible refine cl.mono ?_)
    rintro e w' ⟨rfl, rfl⟩
    clear cl
    obtain ⟨i0, hi, hz0, hz1, hz2⟩ := info_parts part_i
    have hd : PS B R b V s i bad o t w'.drew := h.drewN 1
    have cs := Try.Builder_String_k B b t w'.drew hd.isb h0
    go_wp2_with fail
    go_region_law (first
      | (go_simp
         go_at_call 35
         refine cs.mono ?_
         rintro e w1 ⟨rfl, hb1, hb2, hb3⟩
         have hp1 : PS B R b V s i bad o t w1 := hd.wr ⟨hb2, hb3⟩ hb1
         have hv1 : Blk w1 V PT #[v] := hd.wr_keep ⟨hb2, hb3⟩ _ _ _ _ (by decide) (by decide) hv
         have ho1 : w1.ownsRow B ET 2 v o.length (cells o) := own_keep hown fun g c hg => hd.wr_keep ⟨hb2, hb3⟩ _ _ _ _ (by decide) (by decide) hg
         have kv1 := hv1.cell 0
         simp only [List.getElem?_toArray, List.getElem?_cons_zero] at kv1
         have kv1a : (w1.alloc (Obj.cells #[.string ⟨#[]⟩, .string ⟨t.toArray⟩] ET)).cell? ⟨V, 0, none⟩ = some v := (hv1.alloc _).cell 0)
      | (refine step_append_lies _ rfl (.tmp 4) (.tmp 7) PT rfl B ET i0 (.agg #[.string ⟨#[]⟩, .string ⟨#[]⟩]) 2 32 Try.underlying23 hi hz0 hz1 hz2 rfl (by decide) v o.length (cells o) (by simp [Act.eval, Act.put]) (ho1.alloc _) ⟨w1.heap.size, 0, none⟩ 1 1 [.string ⟨#[]⟩, .string ⟨t.toArray⟩] (by simp [Act.eval, Act.put]) rfl
           (World.news_of_block (heap_alloc_new w1 _)) (by intro u hu; simp at hu; rcases hu with rfl | rfl <;> rfl) (by omega) (by unfold maxLen; omega) (by omega) (by have := hp1.hB; simp; omega) _ rfl ?_
         intro g cap w2 hown2 hgrow hat hlt
         have hv2 : Blk w2 V PT #[v] := grow_keep (ho1.alloc _) hgrow _ _ _ _ (by decide) (hv1.alloc _)
         have kv2 := hv2.cell 0
         have lv2 := hv2.loose 0
         simp only [List.getElem?_toArray, List.getElem?_cons_zero] at kv2))
    all_goals
      have hfl : flush o t = o ++ [([], t)] := by rw [flush, if_neg h0]
      have hp3 := PS.put (o' := flush o t) (v' := .slice (some ⟨g, 0, none⟩) (o.length + 1) cap) (hp1.alloc _) (hv1.alloc _) hgrow (ho1.alloc _) (by rw [hfl, cells_app, List.length_append]; exact hown2)
      have hB3 : Below B w' (w2.setCell ⟨V, 0, none⟩ (.slice (some ⟨g, 0, none⟩) (o.length + 1) cap)) :=
        (((Below.refl B w').drew.trans hb2).alloc hp1.hB _ |>.grown hgrow (by have := hp1.hB; simp; omega) (fun k hk => (ho1.lt k hk).1)).setCell (p := ⟨V, 0, none⟩) h.hV _
      generalize w2.setCell ⟨V, 0, none⟩ (.slice (some ⟨g, 0, none⟩) (o.length + 1) cap) = w3 at *
      have cr := reset_c B b t w3 hp3.isb
      go_wp2_with fail
      (with_reducible refine cr.mono ?_)
      rintro e w4 ⟨rfl, hb4, hw4⟩
      go_wp2
      go_end0
      exact ⟨rfl, hp3.wr hw4 hb4, hB3.trans hw4.below⟩
end QuoR
end Go.Proofs.Ytmhhmdnikopdlaa
