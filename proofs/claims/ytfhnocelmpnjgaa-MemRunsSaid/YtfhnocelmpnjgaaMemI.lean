/- The walk of slices.Insert of one variable. Conditions: a list in memory of the caller's own, a variable in a block of its own. -/
import Derived.Test.YtfhnocelmpnjgaaMemD
import Derived.Shelf.Spec.SlicesInsertGrow
namespace Go.Proofs.Ytfhnocelmpnjgaa
open Go.RowKit
namespace MemW
open QuoW MemP Own
/-- What Insert leaves. -/
def InsPost (base : Nat) (v : Value) (l : List Vr) (i : Nat) (x : Vr) (w : World) (e : Ending) (w' : World) : Prop :=
  ∃ v', e = .returned v' ∧ OwnV w' base v' (l.take i ++ x :: l.drop i) ∧ Tch (fun k => v.ownBlock = some k) w w'
theorem cell_lit (g : Nat) (j : Nat) : (⟨g, 0, none⟩ : Addr).add j = ⟨g, j, none⟩ := by unfold Addr.add; split <;> simp_all
theorem ins_len (l : List Vr) (i : Nat) (x : Vr) (hi : i ≤ l.length) : (l.take i ++ x :: l.drop i).length = l.length + 1 := by
  rw [List.length_append, List.length_cons, List.length_take, List.length_drop]; omega
theorem ins_cells (l : List Vr) (i : Nat) (x : Vr) : vcs (l.take i ++ x :: l.drop i) = vcs (l.take i) ++ [.string x.1, .string x.2] ++ vcs (l.drop i) := by
  rw [vcs_app, vcs_cons, List.append_assoc]
theorem splice_two {P A D V : List Value} (ha : P.take A.length = A) (hl : A.length + V.length + D.length ≤ P.length) :
    (splice (splice P (A.length + V.length) D) A.length V).take (A.length + V.length + D.length) = A ++ V ++ D := by
  have hq : (P.take (A.length + V.length)).length = A.length + V.length := by rw [List.length_take]; omega
  have e1 : (splice P (A.length + V.length) D).take A.length = A := by
    unfold splice
    rw [List.append_assoc, List.take_append_of_le_length (by omega), List.take_take, Nat.min_eq_left (by omega), ha]
  have e2 : (splice P (A.length + V.length) D).drop (A.length + V.length) = D ++ P.drop (A.length + V.length + D.length) := by
    unfold splice
    rw [List.append_assoc, List.drop_append_of_le_length (by omega), List.drop_eq_nil_of_le (by omega), List.nil_append]
  unfold splice at e1 e2 ⊢
  rw [e1, e2, ← List.append_assoc, List.take_append_of_le_length (by rw [List.length_append, List.length_append]; omega), List.take_of_length_le (by rw [List.length_append, List.length_append]; omega)]
theorem splice_onto {P A D V : List Value} (ha : P.take A.length = A) :
    (splice (splice P A.length V) (A.length + V.length) D).take (A.length + V.length + D.length) = A ++ V ++ D := by
  have e1 : (splice P A.length V).take (A.length + V.length) = A ++ V := by
    unfold splice
    rw [ha, List.take_append_of_le_length (by rw [List.length_append]; omega), List.take_of_length_le (by rw [List.length_append]; omega)]
  unfold splice at e1 ⊢
  rw [e1, List.take_append_of_le_length (by rw [List.length_append, List.length_append]; omega), List.take_of_length_le (by rw [List.length_append, List.length_append]; omega)]
set_option maxHeartbeats 800000 in
set_option maxRecDepth 100000 in
theorem insert_end (base : Nat) (v : Value) (l : List Vr) (x : Vr) (VB : Nat) (w : World) (h : OwnV w base v l) (hb : base ≤ w.heap.size) (hn : l.length ≤ 1048576) (hv : Blk w VB 25 #[.string x.1, .string x.2]) :
    Calls Try.prog 23 #[v, .int .i64 (l.length : Nat), .slice (some ⟨VB, 0, none⟩) 1 1] w (InsPost base v l l.length x w) := by
  obtain ⟨i0, hi0, hz0, hz1, hz2⟩ := info_parts info_V
  have H := Lib.hid h
  have hlt := Lib.hid h.lt
  obtain ⟨A, c, rfl, -, hc, hcm⟩ := Own.rd h
  have hnews := World.news_of_block hv
  clear h hcm
  have hA : A = none ∨ ∃ g, A = some ⟨g, 0, none⟩ := by
    rcases H.out.2 with ⟨e, _⟩ | ⟨g, cap, cur, e, _⟩
    · injection e with e; exact Or.inl e
    · injection e with e; exact Or.inr ⟨g, e⟩
  generalize hll : l.length = n at *
  rcases hA with rfl | ⟨g, rfl⟩
  all_goals
    go_enter Try.func23, Try.ntmps23
    go_wp2_with (at_builtin; refine wpList_append_own _ rfl _ _ 22 rfl base 25 i0 (.agg #[.string ⟨#[]⟩, .string ⟨#[]⟩]) 2 32 Try.underlying22 hi0 hz0 hz1 hz2 rfl (by decide) _ l.length (vcs l) rfl H.out ⟨VB, 0, none⟩ 1 1 [.string x.1, .string x.2] rfl rfl hnews (by intro u hu; simp at hu; rcases hu with rfl | rfl <;> rfl) (by unfold maxLen; omega) (by omega) hb ?_)
    all_goals
      intro v' w1 hown hgrow _
      go_wp2
      go_ret
      refine ⟨v', rfl, ?_, Tch.of_grown hgrow (fun k hk => hk)⟩
      unfold OwnV
      rw [ins_len l n x (by omega), ins_cells, List.take_of_length_le (by omega), List.drop_eq_nil_of_le (by omega)]
      rw [show vcs [] = ([] : List Value) from rfl, List.append_nil, hll]; exact hown
set_option maxHeartbeats 4000000 in
set_option maxRecDepth 100000 in
/-- There is room: in place. -/
theorem insert_room (base g n c i : Nat) (l : List Vr) (x : Vr) (VB : Nat) (w : World) (h : OwnV w base (.slice (some ⟨g, 0, none⟩) n c) l) (hl : l.length = n) (hi : i < n) (hroom : n + 1 ≤ c) (hn : n ≤ 1048576) (hv : Blk w VB 25 #[.string x.1, .string x.2]) (hne : VB ≠ g) :
    Calls Try.prog 23 #[.slice (some ⟨g, 0, none⟩) n c, .int .i64 (i : Nat), .slice (some ⟨VB, 0, none⟩) 1 1] w (InsPost base (.slice (some ⟨g, 0, none⟩) n c) l i x w) := by
  obtain ⟨-, -, -, hbg, _, hcm, cs, hblk, hsz, htk⟩ := Own.blk_of h
  rw [hl] at htk
  obtain ⟨i0, hi0, hz0, hz1, hz2⟩ := info_parts info_V
  have hszq : (Try.prog.info? 25).map (·.size) = some 2 := by rw [hi0]; simp [hz1]
  have hov : ∀ lb cb, (callFunc 29 #[.slice (some ⟨VB, 0, none⟩) 1 1, .slice (some ⟨g, (i + 1) * 2, none⟩) lb cb]).run Try.prog w = .ok (.value (.bool false)) w := fun lb cb => by
    rw [run_callFunc_extern Try.func29 (by kernel_rfl) (by kernel_rfl) (by kernel_rfl) (e := Extern.SlicesOverlaps.overlaps #[22, 22] #[4]) (by kernel_rfl),
      Lib.run_overlaps_apart w 22 4 25 Try.underlying22 2 (fun w => Try.sizeOf25 w) ⟨VB, 0, none⟩ ⟨g, (i + 1) * 2, none⟩ 1 1 lb cb hne 25 25 2 (c * 2)
        (by unfold Blk at hv; simp [World.shape?, hv]) (by unfold Blk at hblk; simp [World.shape?, hblk, hsz]) (by omega) (hv.loose 0) (hv.loose 2)]
    rfl
  have hcl : (vcs (l.drop i)).length = (n - i) * 2 := by rw [vcs_len, List.length_drop, hl]
  have hcell : ∀ j u, (vcs l)[j]? = some u → w.cell? ⟨g, j, none⟩ = some u := by
    intro j u hu
    rw [← htk, List.getElem?_take] at hu
    split at hu
    · rw [hblk.cell]; simpa using hu
    · cases hu
  have hcp1 : ∀ ty dc sc, (Builtin.copy_ #[22, 22] ty #[.slice (some ⟨g, (i + 1) * 2, none⟩) (n - i) dc, .slice (some ⟨g, i * 2, none⟩) (n + 1 - i) sc]).run Try.prog w.drew = .ok (goInt (Nat.min (n + 1 - i) (n - i) : Nat)) (w.drew.setCells g ((i + 1) * 2) (vcs (l.drop i))) := fun ty dc sc =>
    Own.run_copy w.drew _ _ ty 25 g ((i + 1) * 2) (n - i) dc ⟨g, i * 2, none⟩ (n + 1 - i) sc (vcs (l.drop i)) 2 Try.underlying22 hszq (by rw [hcl]; simp only [Nat.min_def]; split <;> omega)
      (fun j u hj => by
        rw [Addr.add_lit]
        have hj2 : (vcs l)[i * 2 + j]? = some u := by rw [← vcs_drop, List.getElem?_drop] at hj; exact hj
        exact hcell _ _ hj2)
      (fun j hj => by rw [hcl] at hj; show (w.cell? _).isSome = true; rw [hblk.cell, Array.getElem?_eq_getElem (by omega)]; rfl) (fun j hj => hblk.loose _) vcs_one
  obtain ⟨cs1, p1, p2⟩ := Own.put (t := 25) (vcs (l.drop i)) ((i + 1) * 2) w cs hblk (by rw [hcl]; omega)
  have e9 : cs.toList.length = cs.size := Array.length_toList
  have hs1 : cs1.size = c * 2 := by rw [← Array.length_toList, p2, splice_len (by omega), e9, hsz]
  have t1 := Own.tch_cells (S := fun k => k = g) rfl (vcs (l.drop i)) ((i + 1) * 2) w (Tch.refl _ w)
  obtain ⟨W1, hW1⟩ : ∃ W1, W1 = w.setCells g ((i + 1) * 2) (vcs (l.drop i)) := ⟨_, rfl⟩
  have hdr : w.drew.setCells g ((i + 1) * 2) (vcs (l.drop i)) = W1.drew := by rw [hW1]; exact Own.drew_cells g _ _ _ 1
  rw [hdr] at hcp1
  rw [← hW1] at p1 t1
  have hvB : Blk W1 VB 25 #[.string x.1, .string x.2] := hv.tch t1 hne
  have hcp2 : ∀ (W : World), W = W1.drew → ∀ ty dc, (Builtin.copy_ #[22, 22] ty #[.slice (some ⟨g, i * 2, none⟩) (n + 1 - i) dc, .slice (some ⟨VB, 0, none⟩) 1 1]).run Try.prog W = .ok (goInt (Nat.min 1 (n + 1 - i) : Nat)) (W.setCells g (i * 2) [.string x.1, .string x.2]) := fun W hW ty dc => by
    subst hW
    exact Own.run_copy W1.drew _ _ ty 25 g (i * 2) (n + 1 - i) dc ⟨VB, 0, none⟩ 1 1 [.string x.1, .string x.2] 2 Try.underlying22 hszq (by have : Nat.min 1 (n + 1 - i) = 1 := Nat.min_eq_left (by omega); rw [this]; rfl)
      (fun j u hj => World.news_of_block hvB j u hj)
      (fun j hj => by show (W1.cell? _).isSome = true; rw [p1.cell, Array.getElem?_eq_getElem (by simp at hj; omega)]; rfl) (fun j hj => p1.loose _) (by intro u hu; simp at hu; rcases hu with rfl | rfl <;> rfl)
  obtain ⟨cs2, r1, r2⟩ := Own.put (t := 25) [.string x.1, .string x.2] (i * 2) W1 cs1 p1 (by simp; omega)
  have hs2 : cs2.size = c * 2 := by
    have e8 : cs1.toList.length = cs1.size := Array.length_toList
    rw [← Array.length_toList, r2, splice_len (by simp; omega), e8, hs1]
  have t2 := Own.tch_cells (S := fun k => k = g) rfl [.string x.1, .string x.2] (i * 2) W1 t1
  have hdr2 : W1.drew.setCells g (i * 2) [.string x.1, .string x.2] = (W1.setCells g (i * 2) [.string x.1, .string x.2]).drew := Own.drew_cells g _ _ _ 1
  have hfin : InsPost base (.slice (some ⟨g, 0, none⟩) n c) l i x w (.returned (.slice (some ⟨g, 0, none⟩) (n + 1) c)) (W1.drew.setCells g (i * 2) [.string x.1, .string x.2]) := by
    rw [hdr2]
    refine ⟨_, rfl, ?_, ?_⟩
    · unfold OwnV
      rw [ins_len l i x (by omega), hl, ins_cells]
      refine Own.of_blk (w := (W1.setCells g (i * 2) [.string x.1, .string x.2]).drew) r1 hbg (by rw [List.length_append, List.length_append, vcs_len, vcs_len, List.length_take, List.length_drop]; simp; omega) (by omega) hcm hs2 ?_
      rw [r2, p2]
      have hA : (vcs (l.take i)).length = i * 2 := by rw [vcs_len, List.length_take, Nat.min_eq_left (by omega)]
      have hk : cs.toList.take (vcs (l.take i)).length = vcs (l.take i) := by
        rw [hA, ← vcs_take, ← htk, List.take_take, Nat.min_eq_left (by omega)]
      have := splice_two (P := cs.toList) (A := vcs (l.take i)) (D := vcs (l.drop i)) (V := [.string x.1, .string x.2]) hk (by rw [hA, hcl]; simp; omega)
      rw [hA, hcl] at this
      simp only [List.length_cons, List.length_nil] at this
      rw [show i * 2 + (0 + 1 + 1) = (i + 1) * 2 by omega, show (i + 1) * 2 + (n - i) * 2 = (n + 1) * 2 by omega] at this
      exact this
    · have t3 : Tch (fun k => k = g) w (W1.setCells g (i * 2) [.string x.1, .string x.2]).drew := t2.drewN 1
      exact t3.more (fun k hk => by subst hk; rfl)
  have HF := Lib.hid hfin
  have hw1 : IntKind.i64.wrap ((i : Int) + 1) = (i : Int) + 1 := by rw [IntKind.wrap_i64]; omega
  have hb1 : (0 : Int) ≤ (i : Int) + 1 := by omega
  have htn : ((i : Int) + 1).toNat = i + 1 := by omega
  have hz9 : ¬ ((i : Int) = (n : Int)) := by omega
  have hb2 : ¬ (c = i + 1) := by omega
  have hb3 : (i : Int) ≤ (n : Int) + 1 := by omega
  have hb4 : ¬ (c = i) := by omega
  have hin : i ≤ n := by omega
  have HL := Lib.hid hl
  clear hfin hdr hdr2 hs1 hs2 p1 p2 r1 r2 t1 t2 hW1 hvB hcell hcl htk e9 hsz hblk hcm hl h hz0 hz1 hz2 hi0 hszq
  go_enter Try.func23, Try.ntmps23
  go_wp2_with (simp only [hov])
  go_region_law (refine step_copy_runI rfl _ _ 22 22 rfl (.slice (some ⟨g, (i + 1) * 2, none⟩) (n - i) (c - (i + 1))) (.slice (some ⟨g, i * 2, none⟩) (n + 1 - i) (c - i)) (by simp [Act.eval, Act.put]) (by simp [Act.eval, Act.put]) (hcp1 _ _ _) ?_)
  go_wp2_with (at_builtin; refine wpList_copy_runI _ rfl _ _ 22 22 rfl _ _ rfl rfl (hcp2 _ rfl _ _) ?_)
  go_ret
  exact HF.out
set_option maxHeartbeats 4000000 in
set_option maxRecDepth 100000 in
/-- There is no room: a new row. -/
theorem insert_grow (base g n c i : Nat) (l : List Vr) (x : Vr) (VB : Nat) (w : World) (h : OwnV w base (.slice (some ⟨g, 0, none⟩) n c) l) (hb : base ≤ w.heap.size) (hl : l.length = n) (hi : i < n) (hroom : c < n + 1) (hn : n ≤ 1048576) (hv : Blk w VB 25 #[.string x.1, .string x.2]) :
    Calls Try.prog 23 #[.slice (some ⟨g, 0, none⟩) n c, .int .i64 (i : Nat), .slice (some ⟨VB, 0, none⟩) 1 1] w (InsPost base (.slice (some ⟨g, 0, none⟩) n c) l i x w) := by
  obtain ⟨-, -, -, hbg, hnc, hcm, cs, hblk, hsz, htk⟩ := Own.blk_of h
  rw [hl] at htk hnc
  obtain ⟨i0, hi0, hz0, hz1, hz2⟩ := info_parts info_V
  have hszq : (Try.prog.info? 25).map (·.size) = some 2 := by rw [hi0]; simp [hz1]
  have hcl : (vcs (l.drop i)).length = (n - i) * 2 := by rw [vcs_len, List.length_drop, hl]
  have hA : (vcs (l.take i)).length = i * 2 := by rw [vcs_len, List.length_take, Nat.min_eq_left (by omega)]
  have hcell : ∀ j u, (vcs l)[j]? = some u → w.cell? ⟨g, j, none⟩ = some u := by
    intro j u hu
    rw [← htk, List.getElem?_take] at hu
    split at hu
    · rw [hblk.cell]; simpa using hu
    · cases hu
  have hold : (Builtin.firstCells i0.size i (.slice (some ⟨g, 0, none⟩) i c)).run Try.prog w.drew = .ok (vcs (l.take i)).toArray w.drew := by
    rw [hz1]
    exact run_firstCells_some w.drew 2 i ⟨g, 0, none⟩ i c (vcs (l.take i)) hA (fun j u hj => by
      rw [cell_lit]
      rw [← vcs_take, List.getElem?_take] at hj
      split at hj
      · exact hcell j u hj
      · cases hj)
  have hik : i + (n + 1 - i) = n + 1 := by omega
  have hkk : (n : Int) + 1 - (i : Int) = ((n + 1 - i : Nat) : Int) := by omega
  have hrz : ∀ ty, (Builtin.append_ #[22, 3] ty #[.slice (some ⟨g, 0, none⟩) i c, .int .i64 ((n : Int) + 1 - (i : Int))]).run Try.prog w =
      .ok (.slice (some ⟨w.heap.size, 0, none⟩) (n + 1) (grownCap w (n + 1) c 25)) (w.drew.alloc (.cells ((vcs (l.take i)).toArray ++ Builtin.zeroCells (Value.agg #[.string ⟨#[]⟩, .string ⟨#[]⟩]).cells (n + 1 - i) ++ Builtin.zeroCells (Value.agg #[.string ⟨#[]⟩, .string ⟨#[]⟩]).cells (grownCap w (n + 1) c 25 - (n + 1))) 25)) := fun ty => by
    have h := Lib.run_append_grow_zeros w 22 3 ty 25 i0 _ .i64 .i64 Try.underlying22 Try.underlying3 hi0 hz0 (some ⟨g, 0, none⟩) i c (vcs (l.take i)) hold (n + 1 - i) (by omega) (by omega) (by omega) (by omega) (by rw [hz2]; omega) (by rw [hz2, hik]; exact growslice_fits hroom (by omega))
    rw [hik] at h
    rw [hkk]
    exact h
  have hGn : n + 1 ≤ grownCap w (n + 1) c 25 := grownCap_ge w _ _ _
  have hGm := grownCap_le_maxLen w (n + 1) c 25 (by unfold maxLen; omega)
  generalize grownCap w (n + 1) c 25 = G at *
  have hzl1 := zero_len (n + 1 - i)
  have hzl2 := zero_len (G - (n + 1))
  obtain ⟨ROW, hROW⟩ : ∃ ROW : Array Value, ROW = (vcs (l.take i)).toArray ++ Builtin.zeroCells (Value.agg #[.string ⟨#[]⟩, .string ⟨#[]⟩]).cells (n + 1 - i) ++ Builtin.zeroCells (Value.agg #[.string ⟨#[]⟩, .string ⟨#[]⟩]).cells (G - (n + 1)) := ⟨_, rfl⟩
  rw [← hROW] at hrz
  have hRt : ROW.toList = vcs (l.take i) ++ (Builtin.zeroCells (Value.agg #[.string ⟨#[]⟩, .string ⟨#[]⟩]).cells (n + 1 - i)).toList ++ (Builtin.zeroCells (Value.agg #[.string ⟨#[]⟩, .string ⟨#[]⟩]).cells (G - (n + 1))).toList := by
    rw [hROW, Array.toList_append, Array.toList_append]
  have hRs : ROW.size = G * 2 := by
    rw [← Array.length_toList, hRt, List.length_append, List.length_append, hA, hzl1, hzl2]; omega
  have hRk : ROW.toList.take (vcs (l.take i)).length = vcs (l.take i) := by rw [hRt, List.append_assoc, List.take_append_of_le_length (Nat.le_refl _), List.take_length]
  obtain ⟨W1, hW1⟩ : ∃ W1, W1 = w.drew.alloc (.cells ROW 25) := ⟨_, rfl⟩
  rw [← hW1] at hrz
  have b1 : Blk W1 w.heap.size 25 ROW := by rw [hW1]; exact Blk.new w.drew _ _
  have t1 : Tch (fun k => k = w.heap.size) w W1 := by rw [hW1]; exact ((Tch.refl _ w).drewN 1).alloc _
  obtain ⟨N, hN⟩ : ∃ N, N = w.heap.size := ⟨_, rfl⟩
  have hgN : g ≠ N := by have := hblk.lt; omega
  have hvN : VB ≠ N := by have := hv.lt; omega
  rw [← hN] at hrz b1 t1
  have hv1 := hv.tch t1 hvN
  have hg1 := hblk.tch t1 hgN
  have e9 : ROW.toList.length = ROW.size := Array.length_toList
  have hcp2 : ∀ ty dc, (Builtin.copy_ #[22, 22] ty #[.slice (some ⟨N, i * 2, none⟩) (n + 1 - i) dc, .slice (some ⟨VB, 0, none⟩) 1 1]).run Try.prog W1 = .ok (goInt (Nat.min 1 (n + 1 - i) : Nat)) (W1.setCells N (i * 2) [.string x.1, .string x.2]) := fun ty dc =>
    Own.run_copy W1 _ _ ty 25 N (i * 2) (n + 1 - i) dc ⟨VB, 0, none⟩ 1 1 [.string x.1, .string x.2] 2 Try.underlying22 hszq (by have : Nat.min 1 (n + 1 - i) = 1 := Nat.min_eq_left (by omega); rw [this]; rfl)
      (fun j u hj => World.news_of_block hv1 j u hj)
      (fun j hj => by rw [b1.cell, Array.getElem?_eq_getElem (by simp at hj; omega)]; rfl) (fun j hj => b1.loose _) (by intro u hu; simp at hu; rcases hu with rfl | rfl <;> rfl)
  obtain ⟨cs1, p1, p2⟩ := Own.put (t := 25) [.string x.1, .string x.2] (i * 2) W1 ROW b1 (by simp; omega)
  have hs1 : cs1.size = G * 2 := by rw [← Array.length_toList, p2, splice_len (by simp; omega), e9, hRs]
  have t2 := Own.tch_cells (S := fun k => k = N) rfl [.string x.1, .string x.2] (i * 2) W1 t1
  obtain ⟨W2, hW2⟩ : ∃ W2, W2 = W1.setCells N (i * 2) [.string x.1, .string x.2] := ⟨_, rfl⟩
  rw [← hW2] at hcp2 p1 t2
  have hg2 := hblk.tch t2 hgN
  have hcell2 : ∀ j u, (vcs l)[j]? = some u → W2.cell? ⟨g, j, none⟩ = some u := by
    intro j u hu
    rw [← htk, List.getElem?_take] at hu
    split at hu
    · rw [hg2.cell]; simpa using hu
    · cases hu
  have e8 : cs1.toList.length = cs1.size := Array.length_toList
  have hcp1 : ∀ ty dc sc, (Builtin.copy_ #[22, 22] ty #[.slice (some ⟨N, (i + 1) * 2, none⟩) (n - i) dc, .slice (some ⟨g, i * 2, none⟩) (n - i) sc]).run Try.prog W2.drew = .ok (goInt (Nat.min (n - i) (n - i) : Nat)) (W2.drew.setCells N ((i + 1) * 2) (vcs (l.drop i))) := fun ty dc sc =>
    Own.run_copy W2.drew _ _ ty 25 N ((i + 1) * 2) (n - i) dc ⟨g, i * 2, none⟩ (n - i) sc (vcs (l.drop i)) 2 Try.underlying22 hszq (by rw [hcl]; simp only [Nat.min_def]; split <;> omega)
      (fun j u hj => by
        rw [Addr.add_lit]
        have hj2 : (vcs l)[i * 2 + j]? = some u := by rw [← vcs_drop, List.getElem?_drop] at hj; exact hj
        exact hcell2 _ _ hj2)
      (fun j hj => by rw [hcl] at hj; show (W2.cell? _).isSome = true; rw [p1.cell, Array.getElem?_eq_getElem (by omega)]; rfl) (fun j hj => p1.loose _) vcs_one
  obtain ⟨cs2, r1, r2⟩ := Own.put (t := 25) (vcs (l.drop i)) ((i + 1) * 2) W2 cs1 p1 (by rw [hcl]; omega)
  have hs2 : cs2.size = G * 2 := by rw [← Array.length_toList, r2, splice_len (by rw [hcl]; omega), e8, hs1]
  have t3 := Own.tch_cells (S := fun k => k = N) rfl (vcs (l.drop i)) ((i + 1) * 2) W2 t2
  have hdr2 : W2.drew.setCells N ((i + 1) * 2) (vcs (l.drop i)) = (W2.setCells N ((i + 1) * 2) (vcs (l.drop i))).drew := Own.drew_cells N _ _ _ 1
  have hfin : InsPost base (.slice (some ⟨g, 0, none⟩) n c) l i x w (.returned (.slice (some ⟨N, 0, none⟩) (n + 1) G)) (W2.drew.setCells N ((i + 1) * 2) (vcs (l.drop i))) := by
    rw [hdr2]
    refine ⟨_, rfl, ?_, ?_⟩
    · unfold OwnV
      rw [ins_len l i x (by omega), hl, ins_cells]
      refine Own.of_blk (w := (W2.setCells N ((i + 1) * 2) (vcs (l.drop i))).drew) r1 (by omega) (by rw [List.length_append, List.length_append, vcs_len, vcs_len, List.length_take, List.length_drop]; simp; omega) (by omega) hGm hs2 ?_
      rw [r2, p2]
      have := splice_onto (P := ROW.toList) (A := vcs (l.take i)) (D := vcs (l.drop i)) (V := [.string x.1, .string x.2]) hRk
      rw [hA, hcl] at this
      simp only [List.length_cons, List.length_nil] at this
      rw [show i * 2 + (0 + 1 + 1) = (i + 1) * 2 by omega, show (i + 1) * 2 + (n - i) * 2 = (n + 1) * 2 by omega] at this
      exact this
    · have t4 : Tch (fun k => k = N) w (W2.setCells N ((i + 1) * 2) (vcs (l.drop i))).drew := t3.drewN 1
      exact ⟨t4.os, t4.tape, t4.output, t4.size, fun k hk _ => t4.block k hk (by omega)⟩
  have HF := Lib.hid hfin
  have hw1 : IntKind.i64.wrap ((i : Int) + 1) = (i : Int) + 1 := by rw [IntKind.wrap_i64]; omega
  have hb1 : (0 : Int) ≤ (i : Int) + 1 := by omega
  have htn : ((i : Int) + 1).toNat = i + 1 := by omega
  have hz9 : ¬ ((i : Int) = (n : Int)) := by omega
  have hz3 : (c : Int) < (n : Int) + 1 := by omega
  have hGi : ¬ (G = i) := by omega
  have hGim : ¬ (G = i + 1) := by omega
  have hb4 : ¬ (c = i) := by omega
  have hin : i ≤ n := by omega
  have hG63 : G ≤ 9223372036854775807 := by unfold maxLen at hGm; omega
  clear hfin hdr2 hs1 hs2 p1 p2 r1 r2 t1 t2 t3 hW1 hW2 hv1 hg1 hg2 hcell hcell2 hcl htk e9 e8 hsz hblk hcm hl h hz0 hz1 hz2 hi0 hszq hA hold hik hkk hGm hzl1 hzl2 hROW hRt hRs hRk b1 hN
  go_enter Try.func23, Try.ntmps23
  go_wp2_with (first
    | (at_builtin; refine Lib.wpList_append_run _ rfl _ _ _ _ rfl _ _ rfl rfl _ _ (hrz _) ?_)
    | (at_builtin; refine wpList_copy_runI _ rfl _ _ 22 22 rfl _ _ rfl rfl (hcp2 _ _) ?_))
  go_region_law (refine step_copy_runI rfl _ _ 22 22 rfl (.slice (some ⟨N, (i + 1) * 2, none⟩) (n - i) (G - (i + 1))) (.slice (some ⟨g, i * 2, none⟩) (n - i) (c - i)) (by simp [Act.eval, Act.put]) (by simp [Act.eval, Act.put]) (hcp1 _ _ _) ?_)
  go_wp2
  go_ret
  exact HF.out
end MemW
end Go.Proofs.Ytfhnocelmpnjgaa
