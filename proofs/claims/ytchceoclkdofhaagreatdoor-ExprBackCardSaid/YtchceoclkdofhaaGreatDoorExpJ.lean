/- The tokens of an expression: the reference's Tokens. Condition: trees that may be. Printed by gen_expj.py. -/
import Derived.Test.YtchceoclkdofhaaGreatDoorExpG
import Derived.Test.YtchceoclkdofhaaGreatDoorExpHM
namespace Go.Proofs.YtchceoclkdofhaaGreatDoor
set_option linter.unusedVariables false
set_option linter.unusedSimpArgs false
open Go.RowKit
namespace ExpW
open CalP CalW ExpP Tok
theorem cell_atj (w : World) (g o j : Nat) : w.cell? ((⟨g, o, none⟩ : Addr).add j) = w.cell? ⟨g, o + j, none⟩ := by
  unfold Addr.add; split
  · next h => subst h; rfl
  · rfl
set_option maxRecDepth 100000 in
/-- Many tokens more: at a step of a region that draws. -/
theorem app_stepm {B B2 : Nat} {w : World} {v v2 : Value} {l m : List Tk} {ops : Array Oper} {o : Oper} {a : Act} {K : Act → World → Prop} {Q : Exit → Act → World → Prop} {E : Prop} (hgd : o.guard = none) (s x : Operand)
    (ho : o.op = .call { callee := .builtin .append, args := #[s, x], argTypes := #[31, 31] }) (hown : OwnT w B v l) (hB : B ≤ w.heap.size)
    (hs : a.eval s = v) (ho2 : OwnT w B2 v2 m) (hm : 0 < m.length) (hx : a.eval x = v2) (hl : l.length + m.length ≤ 1000000)
    (hK : ∀ v' w', OwnT w' B v' (l ++ m) → Gr w w' v v' → K (a.put o.dst v') w') :
    if Region.wanted o (yielded ops a.tmps) = true then Oper.wp Tryz.prog o a w K Q else E := by
  obtain ⟨i0, hi0, hz0, hz1, hz2⟩ := tk_info
  rcases ho2.2 with ⟨_, h0⟩ | ⟨g, cap, cur, hv, hrest⟩
  · omega
  refine step_append_lies _ hgd s x 31 ho B 47 i0 (.agg ExpT.zT) 5 64 Tryz.underlying31 hi0 hz0 hz1 hz2 rfl (by decide) v l.length (l.flatMap tk0) hs hown ⟨g, 0, none⟩ m.length cap (m.flatMap tk0) (hx.trans hv) (tk0_len m) (fun j u hu => ?_) (fun u hu => ?_) hm (by unfold maxLen; omega) (by omega) hB w.heap.size rfl ?_
  · rw [cell_atj, Nat.zero_add]
    subst hv
    exact (World.ownsRow.cellAt ho2 j (by rw [← tk0_len]; exact (List.getElem?_eq_some_iff.1 hu).1)).trans hu
  · obtain ⟨t, _, ht⟩ := List.mem_flatMap.1 hu
    exact tk0_one t u ht
  · intro g' cap' w' h1 h2 h3 h4
    refine hK _ w' ?_ (gr_app rfl h2 h3)
    unfold OwnT
    rw [List.length_append, List.flatMap_append]
    exact h1
set_option maxRecDepth 100000 in
/-- The same at a plain region's list. -/
theorem app_listm {B B2 : Nat} {w : World} {v v2 : Value} {l m : List Tk} {ops : Array Oper} {rest : List Oper} {o : Oper} {a : Act} {Q : Exit → Act → World → Prop} (hgd : o.guard = none) (s x : Operand)
    (ho : o.op = .call { callee := .builtin .append, args := #[s, x], argTypes := #[31, 31] }) (hown : OwnT w B v l) (hB : B ≤ w.heap.size)
    (hs : a.eval s = v) (ho2 : OwnT w B2 v2 m) (hm : 0 < m.length) (hx : a.eval x = v2) (hl : l.length + m.length ≤ 1000000)
    (hK : ∀ v' w', OwnT w' B v' (l ++ m) → Gr w w' v v' → wpList Tryz.prog ops Q rest (a.put o.dst v') w') :
    wpList Tryz.prog ops Q (o :: rest) a w := by
  obtain ⟨i0, hi0, hz0, hz1, hz2⟩ := tk_info
  rcases ho2.2 with ⟨_, h0⟩ | ⟨g, cap, cur, hv, hrest⟩
  · omega
  refine wpList_append_lies _ hgd s x 31 ho B 47 i0 (.agg ExpT.zT) 5 64 Tryz.underlying31 hi0 hz0 hz1 hz2 rfl (by decide) v l.length (l.flatMap tk0) hs hown ⟨g, 0, none⟩ m.length cap (m.flatMap tk0) (hx.trans hv) (tk0_len m) (fun j u hu => ?_) (fun u hu => ?_) hm (by unfold maxLen; omega) (by omega) hB w.heap.size rfl ?_
  · rw [cell_atj, Nat.zero_add]
    subst hv
    exact (World.ownsRow.cellAt ho2 j (by rw [← tk0_len]; exact (List.getElem?_eq_some_iff.1 hu).1)).trans hu
  · obtain ⟨t, _, ht⟩ := List.mem_flatMap.1 hu
    exact tk0_one t u ht
  · intro g' cap' w' h1 h2 h3 h4
    refine hK _ w' ?_ (gr_app rfl h2 h3)
    unfold OwnT
    rw [List.length_append, List.flatMap_append]
    exact h1
set_option maxHeartbeats 1600000 in
theorem rbinds_c (k n : Int) (nm op : ByteArray) (A : Option Addr) (m c : Nat) (hk : 0 ≤ k ∧ k ≤ 4) (w : World) :
    Calls Tryz.prog 36 #[.agg (exC k n nm op A m c).toArray] w fun x w' => x = .returned (.int .i64 (bindsK k op : Nat)) ∧ Below w.heap.size w w' := by
  unfold bindsK
  have cst := fun W => rstrength_c op W
  by_cases h4 : k = 4
  · rw [if_pos h4]
    have e4 : (k == 4) = true := by simpa using h4
    clear h4
    go_enter Tryz.func36, Tryz.ntmps36
    go_wp2_with fail
    (with_reducible refine (cst _).mono ?_)
    rintro x w9 ⟨rfl, hw9⟩
    have b9 : Below w.heap.size w w9 := by rw [← hw9]; go_grown
    clear hw9 cst
    go_wp2_with fail
    go_ret
    exact ⟨rfl, b9⟩
  · rw [if_neg h4]
    have e4 : (k == 4) = false := by simpa using h4
    clear cst
    by_cases h2 : 2 ≤ k
    · rw [if_pos (by omega)]
      have d2 : decide ((2 : Int) ≤ k) = true := decide_eq_true h2
      clear h4 h2
      go_enter Tryz.func36, Tryz.ntmps36
      go_wp2_with fail
      go_ret
      exact ⟨rfl, by go_grown⟩
    · rw [if_neg (by omega)]
      have d2 : decide ((2 : Int) ≤ k) = false := decide_eq_false h2
      clear h4 h2
      go_enter Tryz.func36, Tryz.ntmps36
      go_wp2_with fail
      go_ret
      exact ⟨rfl, by go_grown⟩
theorem tell_posq (r : Ex) (d : Nat) {q : Nat} (h : rightE r q = true) : 0 < (tellE r d).length := by
  obtain ⟨k, n, nm, op, l⟩ := r
  simp only [tellE]
  repeat' split
  all_goals simp
  all_goals (try omega)
def RTokPost (w : World) (m : List Tk) (x : Ending) (w' : World) : Prop := ∃ v, x = .returned v ∧ OwnT w' w.heap.size v m ∧ Below w.heap.size w w'
/-- The walk of the reference's Tokens at a tree. -/
def RTellR (r : Ex) (d : Nat) : Prop := ∀ (K : Nat → Prop) (w : World) (cs : List Value), Et w K r cs → (tellE r d).length ≤ 900000 →
  Calls Tryz.prog 19 #[.agg cs.toArray, .int .i64 d] w (RTokPost w (tellE r d))
theorem RTokPost.to {w w' : World} {m : List Tk} {b : Nat} {T : TypeId} {cs : Array Value} {v v0 : Value} {l' : List Tk} (h : St w.heap.size b T w w' cs v0 v l') (e : l' = m) : RTokPost w m (.returned v) w' := ⟨v, rfl, e ▸ h.own, h.bel⟩
set_option maxRecDepth 100000
set_option maxHeartbeats 3200000 in
theorem rto0 (n : Int) (nm op : ByteArray) (A : Option Addr) (m c d : Nat) (w : World) (hd : d ≤ bindsK 0 op) :
    Calls Tryz.prog 19 #[.agg (exC 0 n nm op A m c).toArray, .int .i64 d] w (RTokPost w ([⟨2, noB, n⟩])) := by
  obtain ⟨wa, hwa⟩ : ∃ z : World, w.alloc (.cells (exC 0 n nm op A m c).toArray 24) = z := ⟨_, rfl⟩
  have st := St.start (World.ownsRow_nil w w.heap.size 47 5) (Nat.le_refl _) hwa (l := []) (v := .slice none 0 0)
  have cb := rbinds_c 0 n nm op A m c (by omega) wa
  obtain ⟨s, hs⟩ : ∃ s, bindsK 0 op = s := ⟨_, rfl⟩
  rw [hs] at cb hd
  have dd : decide ((s : Int) < (d : Int)) = false := decide_eq_false (by omega)
  have p0 := st.bx.cell 0
  have p1 := st.bx.cell 1
  have p2 := st.bx.cell 2
  have p3 := st.bx.cell 3
  have p4 := st.bx.cell 4
  simp only [List.getElem?_toArray, List.getElem?_cons_zero, List.getElem?_cons_succ] at p0 p1 p2 p3 p4
  clear hs
  go_enter Tryz.func19, Tryz.ntmps19
  go_wp2_with fail
  (with_reducible refine cb.mono ?_)
  clear cb p0 p1 p2 p3 p4 hwa
  rintro x w2 ⟨rfl, b2⟩
  replace st := st.next b2
  clear b2
  have p0 := st.bx.cell 0
  have p1 := st.bx.cell 1
  have p2 := st.bx.cell 2
  have p3 := st.bx.cell 3
  have p4 := st.bx.cell 4
  simp only [List.getElem?_toArray, List.getElem?_cons_zero, List.getElem?_cons_succ] at p0 p1 p2 p3 p4
  go_wp2_with (at_builtin; refine app_list rfl _ _ (by rfl) (st.fresh ⟨2, noB, n⟩ rfl).1.own (st.fresh ⟨2, noB, n⟩ rfl).1.hB (by first | rfl | simp [Act.eval, Act.put]) w2.heap.size 1 ⟨2, noB, n⟩ (by rfl) (st.fresh ⟨2, noB, n⟩ rfl).2.blk (by simp only [List.length_append, List.length_cons, List.length_nil]; omega) ?_)
  intro vN w4 oo gg
  replace st := (st.fresh ⟨2, noB, n⟩ rfl).1.to gg oo
  clear p0 p1 p2 p3 p4 oo gg
  have p0 := st.bx.cell 0
  have p1 := st.bx.cell 1
  have p2 := st.bx.cell 2
  have p3 := st.bx.cell 3
  have p4 := st.bx.cell 4
  simp only [List.getElem?_toArray, List.getElem?_cons_zero, List.getElem?_cons_succ] at p0 p1 p2 p3 p4
  go_wp2_with fail
  go_ret
  exact RTokPost.to st (by simp)
set_option maxHeartbeats 3200000 in
theorem rto1 (n : Int) (nm op : ByteArray) (A : Option Addr) (m c d : Nat) (w : World) (hd : d ≤ bindsK 1 op) :
    Calls Tryz.prog 19 #[.agg (exC 1 n nm op A m c).toArray, .int .i64 d] w (RTokPost w ([⟨6, nm, 0⟩])) := by
  obtain ⟨wa, hwa⟩ : ∃ z : World, w.alloc (.cells (exC 1 n nm op A m c).toArray 24) = z := ⟨_, rfl⟩
  have st := St.start (World.ownsRow_nil w w.heap.size 47 5) (Nat.le_refl _) hwa (l := []) (v := .slice none 0 0)
  have cb := rbinds_c 1 n nm op A m c (by omega) wa
  obtain ⟨s, hs⟩ : ∃ s, bindsK 1 op = s := ⟨_, rfl⟩
  rw [hs] at cb hd
  have dd : decide ((s : Int) < (d : Int)) = false := decide_eq_false (by omega)
  have p0 := st.bx.cell 0
  have p1 := st.bx.cell 1
  have p2 := st.bx.cell 2
  have p3 := st.bx.cell 3
  have p4 := st.bx.cell 4
  simp only [List.getElem?_toArray, List.getElem?_cons_zero, List.getElem?_cons_succ] at p0 p1 p2 p3 p4
  clear hs
  go_enter Tryz.func19, Tryz.ntmps19
  go_wp2_with fail
  (with_reducible refine cb.mono ?_)
  clear cb p0 p1 p2 p3 p4 hwa
  rintro x w2 ⟨rfl, b2⟩
  replace st := st.next b2
  clear b2
  have p0 := st.bx.cell 0
  have p1 := st.bx.cell 1
  have p2 := st.bx.cell 2
  have p3 := st.bx.cell 3
  have p4 := st.bx.cell 4
  simp only [List.getElem?_toArray, List.getElem?_cons_zero, List.getElem?_cons_succ] at p0 p1 p2 p3 p4
  go_wp2_with (at_builtin; refine app_list rfl _ _ (by rfl) (st.fresh ⟨6, nm, 0⟩ rfl).1.own (st.fresh ⟨6, nm, 0⟩ rfl).1.hB (by first | rfl | simp [Act.eval, Act.put]) w2.heap.size 1 ⟨6, nm, 0⟩ (by rfl) (st.fresh ⟨6, nm, 0⟩ rfl).2.blk (by simp only [List.length_append, List.length_cons, List.length_nil]; omega) ?_)
  intro vN w4 oo gg
  replace st := (st.fresh ⟨6, nm, 0⟩ rfl).1.to gg oo
  clear p0 p1 p2 p3 p4 oo gg
  have p0 := st.bx.cell 0
  have p1 := st.bx.cell 1
  have p2 := st.bx.cell 2
  have p3 := st.bx.cell 3
  have p4 := st.bx.cell 4
  simp only [List.getElem?_toArray, List.getElem?_cons_zero, List.getElem?_cons_succ] at p0 p1 p2 p3 p4
  go_wp2_with fail
  go_ret
  exact RTokPost.to st (by simp)
set_option maxHeartbeats 3200000 in
theorem rts0 (n : Int) (nm op : ByteArray) (A : Option Addr) (m c d : Nat) (w : World) (hd : bindsK 0 op < d) :
    Calls Tryz.prog 19 #[.agg (exC 0 n nm op A m c).toArray, .int .i64 d] w (RTokPost w (⟨4, ⟨#[40]⟩, 0⟩ :: ([⟨2, noB, n⟩]) ++ [⟨4, ⟨#[41]⟩, 0⟩])) := by
  obtain ⟨wa, hwa⟩ : ∃ z : World, w.alloc (.cells (exC 0 n nm op A m c).toArray 24) = z := ⟨_, rfl⟩
  have st := St.start (World.ownsRow_nil w w.heap.size 47 5) (Nat.le_refl _) hwa (l := []) (v := .slice none 0 0)
  have cb := rbinds_c 0 n nm op A m c (by omega) wa
  obtain ⟨s, hs⟩ : ∃ s, bindsK 0 op = s := ⟨_, rfl⟩
  rw [hs] at cb hd
  have dd : decide ((s : Int) < (d : Int)) = true := decide_eq_true (by omega)
  have p0 := st.bx.cell 0
  have p1 := st.bx.cell 1
  have p2 := st.bx.cell 2
  have p3 := st.bx.cell 3
  have p4 := st.bx.cell 4
  simp only [List.getElem?_toArray, List.getElem?_cons_zero, List.getElem?_cons_succ] at p0 p1 p2 p3 p4
  clear hs
  go_enter Tryz.func19, Tryz.ntmps19
  go_wp2_with fail
  (with_reducible refine cb.mono ?_)
  clear cb p0 p1 p2 p3 p4 hwa
  rintro x w2 ⟨rfl, b2⟩
  replace st := st.next b2
  clear b2
  have p0 := st.bx.cell 0
  have p1 := st.bx.cell 1
  have p2 := st.bx.cell 2
  have p3 := st.bx.cell 3
  have p4 := st.bx.cell 4
  simp only [List.getElem?_toArray, List.getElem?_cons_zero, List.getElem?_cons_succ] at p0 p1 p2 p3 p4
  go_wp2_with (at_builtin; refine app_list rfl _ _ (by rfl) (st.fresh ⟨4, ⟨#[40]⟩, 0⟩ rfl).1.own (st.fresh ⟨4, ⟨#[40]⟩, 0⟩ rfl).1.hB (by first | rfl | simp [Act.eval, Act.put]) w2.heap.size 1 ⟨4, ⟨#[40]⟩, 0⟩ (by rfl) (st.fresh ⟨4, ⟨#[40]⟩, 0⟩ rfl).2.blk (by simp only [List.length_append, List.length_cons, List.length_nil]; omega) ?_)
  intro vN w3 oo gg
  replace st := (st.fresh ⟨4, ⟨#[40]⟩, 0⟩ rfl).1.to gg oo
  clear p0 p1 p2 p3 p4 oo gg
  have p0 := st.bx.cell 0
  have p1 := st.bx.cell 1
  have p2 := st.bx.cell 2
  have p3 := st.bx.cell 3
  have p4 := st.bx.cell 4
  simp only [List.getElem?_toArray, List.getElem?_cons_zero, List.getElem?_cons_succ] at p0 p1 p2 p3 p4
  go_wp2_with (at_builtin; refine app_list rfl _ _ (by rfl) (st.fresh ⟨2, noB, n⟩ rfl).1.own (st.fresh ⟨2, noB, n⟩ rfl).1.hB (by first | rfl | simp [Act.eval, Act.put]) w3.heap.size 1 ⟨2, noB, n⟩ (by rfl) (st.fresh ⟨2, noB, n⟩ rfl).2.blk (by simp only [List.length_append, List.length_cons, List.length_nil]; omega) ?_)
  intro vN w4 oo gg
  replace st := (st.fresh ⟨2, noB, n⟩ rfl).1.to gg oo
  clear p0 p1 p2 p3 p4 oo gg
  have p0 := st.bx.cell 0
  have p1 := st.bx.cell 1
  have p2 := st.bx.cell 2
  have p3 := st.bx.cell 3
  have p4 := st.bx.cell 4
  simp only [List.getElem?_toArray, List.getElem?_cons_zero, List.getElem?_cons_succ] at p0 p1 p2 p3 p4
  go_wp2_with (at_builtin; refine app_list rfl _ _ (by rfl) (st.fresh ⟨4, ⟨#[41]⟩, 0⟩ rfl).1.own (st.fresh ⟨4, ⟨#[41]⟩, 0⟩ rfl).1.hB (by first | rfl | simp [Act.eval, Act.put]) w4.heap.size 1 ⟨4, ⟨#[41]⟩, 0⟩ (by rfl) (st.fresh ⟨4, ⟨#[41]⟩, 0⟩ rfl).2.blk (by simp only [List.length_append, List.length_cons, List.length_nil]; omega) ?_)
  intro vN w5 oo gg
  replace st := (st.fresh ⟨4, ⟨#[41]⟩, 0⟩ rfl).1.to gg oo
  clear p0 p1 p2 p3 p4 oo gg
  go_wp2_with fail
  go_ret
  exact RTokPost.to st (by simp)
set_option maxHeartbeats 3200000 in
theorem rts1 (n : Int) (nm op : ByteArray) (A : Option Addr) (m c d : Nat) (w : World) (hd : bindsK 1 op < d) :
    Calls Tryz.prog 19 #[.agg (exC 1 n nm op A m c).toArray, .int .i64 d] w (RTokPost w (⟨4, ⟨#[40]⟩, 0⟩ :: ([⟨6, nm, 0⟩]) ++ [⟨4, ⟨#[41]⟩, 0⟩])) := by
  obtain ⟨wa, hwa⟩ : ∃ z : World, w.alloc (.cells (exC 1 n nm op A m c).toArray 24) = z := ⟨_, rfl⟩
  have st := St.start (World.ownsRow_nil w w.heap.size 47 5) (Nat.le_refl _) hwa (l := []) (v := .slice none 0 0)
  have cb := rbinds_c 1 n nm op A m c (by omega) wa
  obtain ⟨s, hs⟩ : ∃ s, bindsK 1 op = s := ⟨_, rfl⟩
  rw [hs] at cb hd
  have dd : decide ((s : Int) < (d : Int)) = true := decide_eq_true (by omega)
  have p0 := st.bx.cell 0
  have p1 := st.bx.cell 1
  have p2 := st.bx.cell 2
  have p3 := st.bx.cell 3
  have p4 := st.bx.cell 4
  simp only [List.getElem?_toArray, List.getElem?_cons_zero, List.getElem?_cons_succ] at p0 p1 p2 p3 p4
  clear hs
  go_enter Tryz.func19, Tryz.ntmps19
  go_wp2_with fail
  (with_reducible refine cb.mono ?_)
  clear cb p0 p1 p2 p3 p4 hwa
  rintro x w2 ⟨rfl, b2⟩
  replace st := st.next b2
  clear b2
  have p0 := st.bx.cell 0
  have p1 := st.bx.cell 1
  have p2 := st.bx.cell 2
  have p3 := st.bx.cell 3
  have p4 := st.bx.cell 4
  simp only [List.getElem?_toArray, List.getElem?_cons_zero, List.getElem?_cons_succ] at p0 p1 p2 p3 p4
  go_wp2_with (at_builtin; refine app_list rfl _ _ (by rfl) (st.fresh ⟨4, ⟨#[40]⟩, 0⟩ rfl).1.own (st.fresh ⟨4, ⟨#[40]⟩, 0⟩ rfl).1.hB (by first | rfl | simp [Act.eval, Act.put]) w2.heap.size 1 ⟨4, ⟨#[40]⟩, 0⟩ (by rfl) (st.fresh ⟨4, ⟨#[40]⟩, 0⟩ rfl).2.blk (by simp only [List.length_append, List.length_cons, List.length_nil]; omega) ?_)
  intro vN w3 oo gg
  replace st := (st.fresh ⟨4, ⟨#[40]⟩, 0⟩ rfl).1.to gg oo
  clear p0 p1 p2 p3 p4 oo gg
  have p0 := st.bx.cell 0
  have p1 := st.bx.cell 1
  have p2 := st.bx.cell 2
  have p3 := st.bx.cell 3
  have p4 := st.bx.cell 4
  simp only [List.getElem?_toArray, List.getElem?_cons_zero, List.getElem?_cons_succ] at p0 p1 p2 p3 p4
  go_wp2_with (at_builtin; refine app_list rfl _ _ (by rfl) (st.fresh ⟨6, nm, 0⟩ rfl).1.own (st.fresh ⟨6, nm, 0⟩ rfl).1.hB (by first | rfl | simp [Act.eval, Act.put]) w3.heap.size 1 ⟨6, nm, 0⟩ (by rfl) (st.fresh ⟨6, nm, 0⟩ rfl).2.blk (by simp only [List.length_append, List.length_cons, List.length_nil]; omega) ?_)
  intro vN w4 oo gg
  replace st := (st.fresh ⟨6, nm, 0⟩ rfl).1.to gg oo
  clear p0 p1 p2 p3 p4 oo gg
  have p0 := st.bx.cell 0
  have p1 := st.bx.cell 1
  have p2 := st.bx.cell 2
  have p3 := st.bx.cell 3
  have p4 := st.bx.cell 4
  simp only [List.getElem?_toArray, List.getElem?_cons_zero, List.getElem?_cons_succ] at p0 p1 p2 p3 p4
  go_wp2_with (at_builtin; refine app_list rfl _ _ (by rfl) (st.fresh ⟨4, ⟨#[41]⟩, 0⟩ rfl).1.own (st.fresh ⟨4, ⟨#[41]⟩, 0⟩ rfl).1.hB (by first | rfl | simp [Act.eval, Act.put]) w4.heap.size 1 ⟨4, ⟨#[41]⟩, 0⟩ (by rfl) (st.fresh ⟨4, ⟨#[41]⟩, 0⟩ rfl).2.blk (by simp only [List.length_append, List.length_cons, List.length_nil]; omega) ?_)
  intro vN w5 oo gg
  replace st := (st.fresh ⟨4, ⟨#[41]⟩, 0⟩ rfl).1.to gg oo
  clear p0 p1 p2 p3 p4 oo gg
  go_wp2_with fail
  go_ret
  exact RTokPost.to st (by simp)
set_option maxHeartbeats 6400000 in
theorem rto2 (n : Int) (nm op : ByteArray) (A : Option Addr) (m c d : Nat) (w : World) (hd : d ≤ bindsK 2 op) (x : Ex) (K : Nat → Prop) (he : Et w K (.mk 2 n nm op [x]) (exC 2 n nm op A m c)) (hi : RTellR x 7) (hp : 0 < (tellE x 7).length) (hl : (tellE x 7).length ≤ 900000) :
    Calls Tryz.prog 19 #[.agg (exC 2 n nm op A m c).toArray, .int .i64 d] w (RTokPost w (⟨4, ⟨#[45]⟩, 0⟩ :: tellE x 7)) := by
  obtain ⟨g, o, A2, c2, rfl, hk, hc⟩ := Et.kid_ he (i := 0) (by simp)
  obtain rfl : m = 1 := et_len he
  simp only [List.getElem_cons_zero, Nat.zero_mul, Nat.add_zero] at hk hc
  have fk0 := hc 0 _ rfl
  have fk1 := hc 1 _ rfl
  have fk2 := hc 2 _ rfl
  have fk3 := hc 3 _ rfl
  have fk4 := hc 4 _ rfl
  simp only [Nat.add_zero] at fk0
  clear hc
  have ck : ∀ W, Below w.heap.size w W → Calls Tryz.prog 19 #[.agg (exC x.kind x.n x.name x.op A2 x.kids.length c2).toArray, .int .i64 7] W (RTokPost W (tellE x 7)) := fun W hb => hi K W _ (hk.bel hb) (by omega)
  clear hk hi he
  generalize x.kind = k0 at *
  generalize x.n = k1 at *
  generalize x.name = k3 at *
  generalize x.op = k4 at *
  generalize x.kids.length = k2 at *
  generalize tellE x 7 = TL at *
  have HCK := Lib.hid ck
  clear ck
  obtain ⟨wa, hwa⟩ : ∃ z : World, w.alloc (.cells (exC 2 n nm op (some ⟨g, o, none⟩) 1 c).toArray 24) = z := ⟨_, rfl⟩
  have st := St.start (World.ownsRow_nil w w.heap.size 47 5) (Nat.le_refl _) hwa (l := []) (v := .slice none 0 0)
  have cb := rbinds_c 2 n nm op (some ⟨g, o, none⟩) 1 c (by omega) wa
  obtain ⟨s, hs⟩ : ∃ s, bindsK 2 op = s := ⟨_, rfl⟩
  rw [hs] at cb hd
  have dd : decide ((s : Int) < (d : Int)) = false := decide_eq_false (by omega)
  have p0 := st.bx.cell 0
  have p1 := st.bx.cell 1
  have p2 := st.bx.cell 2
  have p3 := st.bx.cell 3
  have p4 := st.bx.cell 4
  simp only [List.getElem?_toArray, List.getElem?_cons_zero, List.getElem?_cons_succ] at p0 p1 p2 p3 p4
  clear hs
  go_enter Tryz.func19, Tryz.ntmps19
  go_wp2_with fail
  (with_reducible refine cb.mono ?_)
  clear cb p0 p1 p2 p3 p4 hwa
  rintro x w2 ⟨rfl, b2⟩
  replace st := st.next b2
  clear b2
  obtain ⟨u1, hu1⟩ : ∃ z : World, w2.alloc (.cells #[.string ⟨#[45]⟩, .string ⟨#[33]⟩] 9) = z := ⟨_, rfl⟩
  have bu : Below w2.heap.size w2 u1 := by rw [← hu1]; go_grown
  have su := st.next bu
  have zu : u1.heap.size = w2.heap.size + 1 := by rw [← hu1, World.size_alloc]
  have U : Blk u1 w2.heap.size 9 #[.string ⟨#[45]⟩, .string ⟨#[33]⟩] := by rw [← hu1]; exact Blk.new _ _ _
  have r0 := U.cell 0
  have r1 := U.cell 1
  simp only [List.getElem?_toArray, List.getElem?_cons_zero, List.getElem?_cons_succ] at r0 r1
  clear bu U
  have p0 := su.bx.cell 0
  have p1 := su.bx.cell 1
  have p2 := su.bx.cell 2
  have p3 := su.bx.cell 3
  have p4 := su.bx.cell 4
  simp only [List.getElem?_toArray, List.getElem?_cons_zero, List.getElem?_cons_succ] at p0 p1 p2 p3 p4
  have p0' := st.bx.cell 0
  simp only [List.getElem?_toArray, List.getElem?_cons_zero, List.getElem?_cons_succ] at p0'
  go_wp2_with (at_builtin; (try rw [hu1]); refine app_list rfl _ _ (by rfl) (su.fresh ⟨4, ⟨#[45]⟩, 0⟩ rfl).1.own (su.fresh ⟨4, ⟨#[45]⟩, 0⟩ rfl).1.hB (by first | rfl | simp [Act.eval, Act.put]) u1.heap.size 1 ⟨4, ⟨#[45]⟩, 0⟩ (by first | rfl | simp [Act.eval, Act.put, zu]) (su.fresh ⟨4, ⟨#[45]⟩, 0⟩ rfl).2.blk (by simp only [List.length_append, List.length_cons, List.length_nil]; omega) ?_)
  intro vN w4 oo gg
  replace st := (su.fresh ⟨4, ⟨#[45]⟩, 0⟩ rfl).1.to gg oo
  clear p0 p1 p2 p3 p4 p0' r0 r1 oo gg su hu1 zu
  have p0 := st.bx.cell 0
  have p1 := st.bx.cell 1
  have p2 := st.bx.cell 2
  have p3 := st.bx.cell 3
  have p4 := st.bx.cell 4
  simp only [List.getElem?_toArray, List.getElem?_cons_zero, List.getElem?_cons_succ] at p0 p1 p2 p3 p4
  have f0 := (st.bel.cell (p := ⟨g, o, none⟩) (World.block_lt_of_cell? _ _ fk0)).trans fk0
  have f1 := (st.bel.cell (p := ⟨g, o + 1, none⟩) (World.block_lt_of_cell? _ _ fk1)).trans fk1
  have f2 := (st.bel.cell (p := ⟨g, o + 2, none⟩) (World.block_lt_of_cell? _ _ fk2)).trans fk2
  have f3 := (st.bel.cell (p := ⟨g, o + 3, none⟩) (World.block_lt_of_cell? _ _ fk3)).trans fk3
  have f4 := (st.bel.cell (p := ⟨g, o + 4, none⟩) (World.block_lt_of_cell? _ _ fk4)).trans fk4
  have c5 := HCK.out w4 (st.bel)
  go_wp2_with fail
  (with_reducible refine c5.mono ?_)
  clear c5 f0 f1 f2 f3 f4
  rintro x w5 ⟨v5, rfl, o5, b5⟩
  replace st := st.next b5
  clear b5 p0 p1 p2 p3 p4
  have p0 := st.bx.cell 0
  have p1 := st.bx.cell 1
  have p2 := st.bx.cell 2
  have p3 := st.bx.cell 3
  have p4 := st.bx.cell 4
  simp only [List.getElem?_toArray, List.getElem?_cons_zero, List.getElem?_cons_succ] at p0 p1 p2 p3 p4
  go_wp2_with (at_builtin; go_loud (refine app_listm rfl _ _ (by rfl) st.own st.hB (by first | rfl | simp [Act.eval, Act.put]) o5 hp (by first | rfl | simp [Act.eval, Act.put]) (by simp only [List.length_append, List.length_cons, List.length_nil]; omega) ?_))
  intro vN w6 oo gg
  replace st := st.to gg oo
  clear p0 p1 p2 p3 p4 oo gg o5
  have p0 := st.bx.cell 0
  have p1 := st.bx.cell 1
  have p2 := st.bx.cell 2
  have p3 := st.bx.cell 3
  have p4 := st.bx.cell 4
  simp only [List.getElem?_toArray, List.getElem?_cons_zero, List.getElem?_cons_succ] at p0 p1 p2 p3 p4
  go_wp2_with fail
  go_ret
  exact RTokPost.to st (by simp)
set_option maxHeartbeats 6400000 in
theorem rto3 (n : Int) (nm op : ByteArray) (A : Option Addr) (m c d : Nat) (w : World) (hd : d ≤ bindsK 3 op) (x : Ex) (K : Nat → Prop) (he : Et w K (.mk 3 n nm op [x]) (exC 3 n nm op A m c)) (hi : RTellR x 7) (hp : 0 < (tellE x 7).length) (hl : (tellE x 7).length ≤ 900000) :
    Calls Tryz.prog 19 #[.agg (exC 3 n nm op A m c).toArray, .int .i64 d] w (RTokPost w (⟨4, ⟨#[33]⟩, 0⟩ :: tellE x 7)) := by
  obtain ⟨g, o, A2, c2, rfl, hk, hc⟩ := Et.kid_ he (i := 0) (by simp)
  obtain rfl : m = 1 := et_len he
  simp only [List.getElem_cons_zero, Nat.zero_mul, Nat.add_zero] at hk hc
  have fk0 := hc 0 _ rfl
  have fk1 := hc 1 _ rfl
  have fk2 := hc 2 _ rfl
  have fk3 := hc 3 _ rfl
  have fk4 := hc 4 _ rfl
  simp only [Nat.add_zero] at fk0
  clear hc
  have ck : ∀ W, Below w.heap.size w W → Calls Tryz.prog 19 #[.agg (exC x.kind x.n x.name x.op A2 x.kids.length c2).toArray, .int .i64 7] W (RTokPost W (tellE x 7)) := fun W hb => hi K W _ (hk.bel hb) (by omega)
  clear hk hi he
  generalize x.kind = k0 at *
  generalize x.n = k1 at *
  generalize x.name = k3 at *
  generalize x.op = k4 at *
  generalize x.kids.length = k2 at *
  generalize tellE x 7 = TL at *
  have HCK := Lib.hid ck
  clear ck
  obtain ⟨wa, hwa⟩ : ∃ z : World, w.alloc (.cells (exC 3 n nm op (some ⟨g, o, none⟩) 1 c).toArray 24) = z := ⟨_, rfl⟩
  have st := St.start (World.ownsRow_nil w w.heap.size 47 5) (Nat.le_refl _) hwa (l := []) (v := .slice none 0 0)
  have cb := rbinds_c 3 n nm op (some ⟨g, o, none⟩) 1 c (by omega) wa
  obtain ⟨s, hs⟩ : ∃ s, bindsK 3 op = s := ⟨_, rfl⟩
  rw [hs] at cb hd
  have dd : decide ((s : Int) < (d : Int)) = false := decide_eq_false (by omega)
  have p0 := st.bx.cell 0
  have p1 := st.bx.cell 1
  have p2 := st.bx.cell 2
  have p3 := st.bx.cell 3
  have p4 := st.bx.cell 4
  simp only [List.getElem?_toArray, List.getElem?_cons_zero, List.getElem?_cons_succ] at p0 p1 p2 p3 p4
  clear hs
  go_enter Tryz.func19, Tryz.ntmps19
  go_wp2_with fail
  (with_reducible refine cb.mono ?_)
  clear cb p0 p1 p2 p3 p4 hwa
  rintro x w2 ⟨rfl, b2⟩
  replace st := st.next b2
  clear b2
  obtain ⟨u1, hu1⟩ : ∃ z : World, w2.alloc (.cells #[.string ⟨#[45]⟩, .string ⟨#[33]⟩] 9) = z := ⟨_, rfl⟩
  have bu : Below w2.heap.size w2 u1 := by rw [← hu1]; go_grown
  have su := st.next bu
  have zu : u1.heap.size = w2.heap.size + 1 := by rw [← hu1, World.size_alloc]
  have U : Blk u1 w2.heap.size 9 #[.string ⟨#[45]⟩, .string ⟨#[33]⟩] := by rw [← hu1]; exact Blk.new _ _ _
  have r0 := U.cell 0
  have r1 := U.cell 1
  simp only [List.getElem?_toArray, List.getElem?_cons_zero, List.getElem?_cons_succ] at r0 r1
  clear bu U
  have p0 := su.bx.cell 0
  have p1 := su.bx.cell 1
  have p2 := su.bx.cell 2
  have p3 := su.bx.cell 3
  have p4 := su.bx.cell 4
  simp only [List.getElem?_toArray, List.getElem?_cons_zero, List.getElem?_cons_succ] at p0 p1 p2 p3 p4
  have p0' := st.bx.cell 0
  simp only [List.getElem?_toArray, List.getElem?_cons_zero, List.getElem?_cons_succ] at p0'
  go_wp2_with (at_builtin; (try rw [hu1]); refine app_list rfl _ _ (by rfl) (su.fresh ⟨4, ⟨#[33]⟩, 0⟩ rfl).1.own (su.fresh ⟨4, ⟨#[33]⟩, 0⟩ rfl).1.hB (by first | rfl | simp [Act.eval, Act.put]) u1.heap.size 1 ⟨4, ⟨#[33]⟩, 0⟩ (by first | rfl | simp [Act.eval, Act.put, zu]) (su.fresh ⟨4, ⟨#[33]⟩, 0⟩ rfl).2.blk (by simp only [List.length_append, List.length_cons, List.length_nil]; omega) ?_)
  intro vN w4 oo gg
  replace st := (su.fresh ⟨4, ⟨#[33]⟩, 0⟩ rfl).1.to gg oo
  clear p0 p1 p2 p3 p4 p0' r0 r1 oo gg su hu1 zu
  have p0 := st.bx.cell 0
  have p1 := st.bx.cell 1
  have p2 := st.bx.cell 2
  have p3 := st.bx.cell 3
  have p4 := st.bx.cell 4
  simp only [List.getElem?_toArray, List.getElem?_cons_zero, List.getElem?_cons_succ] at p0 p1 p2 p3 p4
  have f0 := (st.bel.cell (p := ⟨g, o, none⟩) (World.block_lt_of_cell? _ _ fk0)).trans fk0
  have f1 := (st.bel.cell (p := ⟨g, o + 1, none⟩) (World.block_lt_of_cell? _ _ fk1)).trans fk1
  have f2 := (st.bel.cell (p := ⟨g, o + 2, none⟩) (World.block_lt_of_cell? _ _ fk2)).trans fk2
  have f3 := (st.bel.cell (p := ⟨g, o + 3, none⟩) (World.block_lt_of_cell? _ _ fk3)).trans fk3
  have f4 := (st.bel.cell (p := ⟨g, o + 4, none⟩) (World.block_lt_of_cell? _ _ fk4)).trans fk4
  have c5 := HCK.out w4 (st.bel)
  go_wp2_with fail
  (with_reducible refine c5.mono ?_)
  clear c5 f0 f1 f2 f3 f4
  rintro x w5 ⟨v5, rfl, o5, b5⟩
  replace st := st.next b5
  clear b5 p0 p1 p2 p3 p4
  have p0 := st.bx.cell 0
  have p1 := st.bx.cell 1
  have p2 := st.bx.cell 2
  have p3 := st.bx.cell 3
  have p4 := st.bx.cell 4
  simp only [List.getElem?_toArray, List.getElem?_cons_zero, List.getElem?_cons_succ] at p0 p1 p2 p3 p4
  go_wp2_with (at_builtin; go_loud (refine app_listm rfl _ _ (by rfl) st.own st.hB (by first | rfl | simp [Act.eval, Act.put]) o5 hp (by first | rfl | simp [Act.eval, Act.put]) (by simp only [List.length_append, List.length_cons, List.length_nil]; omega) ?_))
  intro vN w6 oo gg
  replace st := st.to gg oo
  clear p0 p1 p2 p3 p4 oo gg o5
  have p0 := st.bx.cell 0
  have p1 := st.bx.cell 1
  have p2 := st.bx.cell 2
  have p3 := st.bx.cell 3
  have p4 := st.bx.cell 4
  simp only [List.getElem?_toArray, List.getElem?_cons_zero, List.getElem?_cons_succ] at p0 p1 p2 p3 p4
  go_wp2_with fail
  go_ret
  exact RTokPost.to st (by simp)
set_option maxHeartbeats 6400000 in
theorem rts2 (n : Int) (nm op : ByteArray) (A : Option Addr) (m c d : Nat) (w : World) (hd : bindsK 2 op < d) (x : Ex) (K : Nat → Prop) (he : Et w K (.mk 2 n nm op [x]) (exC 2 n nm op A m c)) (hi : RTellR x 7) (hp : 0 < (tellE x 7).length) (hl : (tellE x 7).length ≤ 900000) :
    Calls Tryz.prog 19 #[.agg (exC 2 n nm op A m c).toArray, .int .i64 d] w (RTokPost w (⟨4, ⟨#[40]⟩, 0⟩ :: (⟨4, ⟨#[45]⟩, 0⟩ :: tellE x 7) ++ [⟨4, ⟨#[41]⟩, 0⟩])) := by
  obtain ⟨g, o, A2, c2, rfl, hk, hc⟩ := Et.kid_ he (i := 0) (by simp)
  obtain rfl : m = 1 := et_len he
  simp only [List.getElem_cons_zero, Nat.zero_mul, Nat.add_zero] at hk hc
  have fk0 := hc 0 _ rfl
  have fk1 := hc 1 _ rfl
  have fk2 := hc 2 _ rfl
  have fk3 := hc 3 _ rfl
  have fk4 := hc 4 _ rfl
  simp only [Nat.add_zero] at fk0
  clear hc
  have ck : ∀ W, Below w.heap.size w W → Calls Tryz.prog 19 #[.agg (exC x.kind x.n x.name x.op A2 x.kids.length c2).toArray, .int .i64 7] W (RTokPost W (tellE x 7)) := fun W hb => hi K W _ (hk.bel hb) (by omega)
  clear hk hi he
  generalize x.kind = k0 at *
  generalize x.n = k1 at *
  generalize x.name = k3 at *
  generalize x.op = k4 at *
  generalize x.kids.length = k2 at *
  generalize tellE x 7 = TL at *
  have HCK := Lib.hid ck
  clear ck
  obtain ⟨wa, hwa⟩ : ∃ z : World, w.alloc (.cells (exC 2 n nm op (some ⟨g, o, none⟩) 1 c).toArray 24) = z := ⟨_, rfl⟩
  have st := St.start (World.ownsRow_nil w w.heap.size 47 5) (Nat.le_refl _) hwa (l := []) (v := .slice none 0 0)
  have cb := rbinds_c 2 n nm op (some ⟨g, o, none⟩) 1 c (by omega) wa
  obtain ⟨s, hs⟩ : ∃ s, bindsK 2 op = s := ⟨_, rfl⟩
  rw [hs] at cb hd
  have dd : decide ((s : Int) < (d : Int)) = true := decide_eq_true (by omega)
  have p0 := st.bx.cell 0
  have p1 := st.bx.cell 1
  have p2 := st.bx.cell 2
  have p3 := st.bx.cell 3
  have p4 := st.bx.cell 4
  simp only [List.getElem?_toArray, List.getElem?_cons_zero, List.getElem?_cons_succ] at p0 p1 p2 p3 p4
  clear hs
  go_enter Tryz.func19, Tryz.ntmps19
  go_wp2_with fail
  (with_reducible refine cb.mono ?_)
  clear cb p0 p1 p2 p3 p4 hwa
  rintro x w2 ⟨rfl, b2⟩
  replace st := st.next b2
  clear b2
  have p0 := st.bx.cell 0
  have p1 := st.bx.cell 1
  have p2 := st.bx.cell 2
  have p3 := st.bx.cell 3
  have p4 := st.bx.cell 4
  simp only [List.getElem?_toArray, List.getElem?_cons_zero, List.getElem?_cons_succ] at p0 p1 p2 p3 p4
  go_wp2_with (at_builtin; refine app_list rfl _ _ (by rfl) (st.fresh ⟨4, ⟨#[40]⟩, 0⟩ rfl).1.own (st.fresh ⟨4, ⟨#[40]⟩, 0⟩ rfl).1.hB (by first | rfl | simp [Act.eval, Act.put]) w2.heap.size 1 ⟨4, ⟨#[40]⟩, 0⟩ (by rfl) (st.fresh ⟨4, ⟨#[40]⟩, 0⟩ rfl).2.blk (by simp only [List.length_append, List.length_cons, List.length_nil]; omega) ?_)
  intro vN w3 oo gg
  replace st := (st.fresh ⟨4, ⟨#[40]⟩, 0⟩ rfl).1.to gg oo
  clear p0 p1 p2 p3 p4 oo gg
  obtain ⟨u1, hu1⟩ : ∃ z : World, w3.alloc (.cells #[.string ⟨#[45]⟩, .string ⟨#[33]⟩] 9) = z := ⟨_, rfl⟩
  have bu : Below w3.heap.size w3 u1 := by rw [← hu1]; go_grown
  have su := st.next bu
  have zu : u1.heap.size = w3.heap.size + 1 := by rw [← hu1, World.size_alloc]
  have U : Blk u1 w3.heap.size 9 #[.string ⟨#[45]⟩, .string ⟨#[33]⟩] := by rw [← hu1]; exact Blk.new _ _ _
  have r0 := U.cell 0
  have r1 := U.cell 1
  simp only [List.getElem?_toArray, List.getElem?_cons_zero, List.getElem?_cons_succ] at r0 r1
  clear bu U
  have p0 := su.bx.cell 0
  have p1 := su.bx.cell 1
  have p2 := su.bx.cell 2
  have p3 := su.bx.cell 3
  have p4 := su.bx.cell 4
  simp only [List.getElem?_toArray, List.getElem?_cons_zero, List.getElem?_cons_succ] at p0 p1 p2 p3 p4
  have p0' := st.bx.cell 0
  simp only [List.getElem?_toArray, List.getElem?_cons_zero, List.getElem?_cons_succ] at p0'
  go_wp2_with (at_builtin; (try rw [hu1]); refine app_list rfl _ _ (by rfl) (su.fresh ⟨4, ⟨#[45]⟩, 0⟩ rfl).1.own (su.fresh ⟨4, ⟨#[45]⟩, 0⟩ rfl).1.hB (by first | rfl | simp [Act.eval, Act.put]) u1.heap.size 1 ⟨4, ⟨#[45]⟩, 0⟩ (by first | rfl | simp [Act.eval, Act.put, zu]) (su.fresh ⟨4, ⟨#[45]⟩, 0⟩ rfl).2.blk (by simp only [List.length_append, List.length_cons, List.length_nil]; omega) ?_)
  intro vN w4 oo gg
  replace st := (su.fresh ⟨4, ⟨#[45]⟩, 0⟩ rfl).1.to gg oo
  clear p0 p1 p2 p3 p4 p0' r0 r1 oo gg su hu1 zu
  have p0 := st.bx.cell 0
  have p1 := st.bx.cell 1
  have p2 := st.bx.cell 2
  have p3 := st.bx.cell 3
  have p4 := st.bx.cell 4
  simp only [List.getElem?_toArray, List.getElem?_cons_zero, List.getElem?_cons_succ] at p0 p1 p2 p3 p4
  have f0 := (st.bel.cell (p := ⟨g, o, none⟩) (World.block_lt_of_cell? _ _ fk0)).trans fk0
  have f1 := (st.bel.cell (p := ⟨g, o + 1, none⟩) (World.block_lt_of_cell? _ _ fk1)).trans fk1
  have f2 := (st.bel.cell (p := ⟨g, o + 2, none⟩) (World.block_lt_of_cell? _ _ fk2)).trans fk2
  have f3 := (st.bel.cell (p := ⟨g, o + 3, none⟩) (World.block_lt_of_cell? _ _ fk3)).trans fk3
  have f4 := (st.bel.cell (p := ⟨g, o + 4, none⟩) (World.block_lt_of_cell? _ _ fk4)).trans fk4
  have c5 := HCK.out w4 (st.bel)
  go_wp2_with fail
  (with_reducible refine c5.mono ?_)
  clear c5 f0 f1 f2 f3 f4
  rintro x w5 ⟨v5, rfl, o5, b5⟩
  replace st := st.next b5
  clear b5 p0 p1 p2 p3 p4
  have p0 := st.bx.cell 0
  have p1 := st.bx.cell 1
  have p2 := st.bx.cell 2
  have p3 := st.bx.cell 3
  have p4 := st.bx.cell 4
  simp only [List.getElem?_toArray, List.getElem?_cons_zero, List.getElem?_cons_succ] at p0 p1 p2 p3 p4
  go_wp2_with (at_builtin; go_loud (refine app_listm rfl _ _ (by rfl) st.own st.hB (by first | rfl | simp [Act.eval, Act.put]) o5 hp (by first | rfl | simp [Act.eval, Act.put]) (by simp only [List.length_append, List.length_cons, List.length_nil]; omega) ?_))
  intro vN w6 oo gg
  replace st := st.to gg oo
  clear p0 p1 p2 p3 p4 oo gg o5
  have p0 := st.bx.cell 0
  have p1 := st.bx.cell 1
  have p2 := st.bx.cell 2
  have p3 := st.bx.cell 3
  have p4 := st.bx.cell 4
  simp only [List.getElem?_toArray, List.getElem?_cons_zero, List.getElem?_cons_succ] at p0 p1 p2 p3 p4
  go_wp2_with (at_builtin; refine app_list rfl _ _ (by rfl) (st.fresh ⟨4, ⟨#[41]⟩, 0⟩ rfl).1.own (st.fresh ⟨4, ⟨#[41]⟩, 0⟩ rfl).1.hB (by first | rfl | simp [Act.eval, Act.put]) w6.heap.size 1 ⟨4, ⟨#[41]⟩, 0⟩ (by rfl) (st.fresh ⟨4, ⟨#[41]⟩, 0⟩ rfl).2.blk (by simp only [List.length_append, List.length_cons, List.length_nil]; omega) ?_)
  intro vN w7 oo gg
  replace st := (st.fresh ⟨4, ⟨#[41]⟩, 0⟩ rfl).1.to gg oo
  clear p0 p1 p2 p3 p4 oo gg
  go_wp2_with fail
  go_ret
  exact RTokPost.to st (by simp)
set_option maxHeartbeats 6400000 in
theorem rts3 (n : Int) (nm op : ByteArray) (A : Option Addr) (m c d : Nat) (w : World) (hd : bindsK 3 op < d) (x : Ex) (K : Nat → Prop) (he : Et w K (.mk 3 n nm op [x]) (exC 3 n nm op A m c)) (hi : RTellR x 7) (hp : 0 < (tellE x 7).length) (hl : (tellE x 7).length ≤ 900000) :
    Calls Tryz.prog 19 #[.agg (exC 3 n nm op A m c).toArray, .int .i64 d] w (RTokPost w (⟨4, ⟨#[40]⟩, 0⟩ :: (⟨4, ⟨#[33]⟩, 0⟩ :: tellE x 7) ++ [⟨4, ⟨#[41]⟩, 0⟩])) := by
  obtain ⟨g, o, A2, c2, rfl, hk, hc⟩ := Et.kid_ he (i := 0) (by simp)
  obtain rfl : m = 1 := et_len he
  simp only [List.getElem_cons_zero, Nat.zero_mul, Nat.add_zero] at hk hc
  have fk0 := hc 0 _ rfl
  have fk1 := hc 1 _ rfl
  have fk2 := hc 2 _ rfl
  have fk3 := hc 3 _ rfl
  have fk4 := hc 4 _ rfl
  simp only [Nat.add_zero] at fk0
  clear hc
  have ck : ∀ W, Below w.heap.size w W → Calls Tryz.prog 19 #[.agg (exC x.kind x.n x.name x.op A2 x.kids.length c2).toArray, .int .i64 7] W (RTokPost W (tellE x 7)) := fun W hb => hi K W _ (hk.bel hb) (by omega)
  clear hk hi he
  generalize x.kind = k0 at *
  generalize x.n = k1 at *
  generalize x.name = k3 at *
  generalize x.op = k4 at *
  generalize x.kids.length = k2 at *
  generalize tellE x 7 = TL at *
  have HCK := Lib.hid ck
  clear ck
  obtain ⟨wa, hwa⟩ : ∃ z : World, w.alloc (.cells (exC 3 n nm op (some ⟨g, o, none⟩) 1 c).toArray 24) = z := ⟨_, rfl⟩
  have st := St.start (World.ownsRow_nil w w.heap.size 47 5) (Nat.le_refl _) hwa (l := []) (v := .slice none 0 0)
  have cb := rbinds_c 3 n nm op (some ⟨g, o, none⟩) 1 c (by omega) wa
  obtain ⟨s, hs⟩ : ∃ s, bindsK 3 op = s := ⟨_, rfl⟩
  rw [hs] at cb hd
  have dd : decide ((s : Int) < (d : Int)) = true := decide_eq_true (by omega)
  have p0 := st.bx.cell 0
  have p1 := st.bx.cell 1
  have p2 := st.bx.cell 2
  have p3 := st.bx.cell 3
  have p4 := st.bx.cell 4
  simp only [List.getElem?_toArray, List.getElem?_cons_zero, List.getElem?_cons_succ] at p0 p1 p2 p3 p4
  clear hs
  go_enter Tryz.func19, Tryz.ntmps19
  go_wp2_with fail
  (with_reducible refine cb.mono ?_)
  clear cb p0 p1 p2 p3 p4 hwa
  rintro x w2 ⟨rfl, b2⟩
  replace st := st.next b2
  clear b2
  have p0 := st.bx.cell 0
  have p1 := st.bx.cell 1
  have p2 := st.bx.cell 2
  have p3 := st.bx.cell 3
  have p4 := st.bx.cell 4
  simp only [List.getElem?_toArray, List.getElem?_cons_zero, List.getElem?_cons_succ] at p0 p1 p2 p3 p4
  go_wp2_with (at_builtin; refine app_list rfl _ _ (by rfl) (st.fresh ⟨4, ⟨#[40]⟩, 0⟩ rfl).1.own (st.fresh ⟨4, ⟨#[40]⟩, 0⟩ rfl).1.hB (by first | rfl | simp [Act.eval, Act.put]) w2.heap.size 1 ⟨4, ⟨#[40]⟩, 0⟩ (by rfl) (st.fresh ⟨4, ⟨#[40]⟩, 0⟩ rfl).2.blk (by simp only [List.length_append, List.length_cons, List.length_nil]; omega) ?_)
  intro vN w3 oo gg
  replace st := (st.fresh ⟨4, ⟨#[40]⟩, 0⟩ rfl).1.to gg oo
  clear p0 p1 p2 p3 p4 oo gg
  obtain ⟨u1, hu1⟩ : ∃ z : World, w3.alloc (.cells #[.string ⟨#[45]⟩, .string ⟨#[33]⟩] 9) = z := ⟨_, rfl⟩
  have bu : Below w3.heap.size w3 u1 := by rw [← hu1]; go_grown
  have su := st.next bu
  have zu : u1.heap.size = w3.heap.size + 1 := by rw [← hu1, World.size_alloc]
  have U : Blk u1 w3.heap.size 9 #[.string ⟨#[45]⟩, .string ⟨#[33]⟩] := by rw [← hu1]; exact Blk.new _ _ _
  have r0 := U.cell 0
  have r1 := U.cell 1
  simp only [List.getElem?_toArray, List.getElem?_cons_zero, List.getElem?_cons_succ] at r0 r1
  clear bu U
  have p0 := su.bx.cell 0
  have p1 := su.bx.cell 1
  have p2 := su.bx.cell 2
  have p3 := su.bx.cell 3
  have p4 := su.bx.cell 4
  simp only [List.getElem?_toArray, List.getElem?_cons_zero, List.getElem?_cons_succ] at p0 p1 p2 p3 p4
  have p0' := st.bx.cell 0
  simp only [List.getElem?_toArray, List.getElem?_cons_zero, List.getElem?_cons_succ] at p0'
  go_wp2_with (at_builtin; (try rw [hu1]); refine app_list rfl _ _ (by rfl) (su.fresh ⟨4, ⟨#[33]⟩, 0⟩ rfl).1.own (su.fresh ⟨4, ⟨#[33]⟩, 0⟩ rfl).1.hB (by first | rfl | simp [Act.eval, Act.put]) u1.heap.size 1 ⟨4, ⟨#[33]⟩, 0⟩ (by first | rfl | simp [Act.eval, Act.put, zu]) (su.fresh ⟨4, ⟨#[33]⟩, 0⟩ rfl).2.blk (by simp only [List.length_append, List.length_cons, List.length_nil]; omega) ?_)
  intro vN w4 oo gg
  replace st := (su.fresh ⟨4, ⟨#[33]⟩, 0⟩ rfl).1.to gg oo
  clear p0 p1 p2 p3 p4 p0' r0 r1 oo gg su hu1 zu
  have p0 := st.bx.cell 0
  have p1 := st.bx.cell 1
  have p2 := st.bx.cell 2
  have p3 := st.bx.cell 3
  have p4 := st.bx.cell 4
  simp only [List.getElem?_toArray, List.getElem?_cons_zero, List.getElem?_cons_succ] at p0 p1 p2 p3 p4
  have f0 := (st.bel.cell (p := ⟨g, o, none⟩) (World.block_lt_of_cell? _ _ fk0)).trans fk0
  have f1 := (st.bel.cell (p := ⟨g, o + 1, none⟩) (World.block_lt_of_cell? _ _ fk1)).trans fk1
  have f2 := (st.bel.cell (p := ⟨g, o + 2, none⟩) (World.block_lt_of_cell? _ _ fk2)).trans fk2
  have f3 := (st.bel.cell (p := ⟨g, o + 3, none⟩) (World.block_lt_of_cell? _ _ fk3)).trans fk3
  have f4 := (st.bel.cell (p := ⟨g, o + 4, none⟩) (World.block_lt_of_cell? _ _ fk4)).trans fk4
  have c5 := HCK.out w4 (st.bel)
  go_wp2_with fail
  (with_reducible refine c5.mono ?_)
  clear c5 f0 f1 f2 f3 f4
  rintro x w5 ⟨v5, rfl, o5, b5⟩
  replace st := st.next b5
  clear b5 p0 p1 p2 p3 p4
  have p0 := st.bx.cell 0
  have p1 := st.bx.cell 1
  have p2 := st.bx.cell 2
  have p3 := st.bx.cell 3
  have p4 := st.bx.cell 4
  simp only [List.getElem?_toArray, List.getElem?_cons_zero, List.getElem?_cons_succ] at p0 p1 p2 p3 p4
  go_wp2_with (at_builtin; go_loud (refine app_listm rfl _ _ (by rfl) st.own st.hB (by first | rfl | simp [Act.eval, Act.put]) o5 hp (by first | rfl | simp [Act.eval, Act.put]) (by simp only [List.length_append, List.length_cons, List.length_nil]; omega) ?_))
  intro vN w6 oo gg
  replace st := st.to gg oo
  clear p0 p1 p2 p3 p4 oo gg o5
  have p0 := st.bx.cell 0
  have p1 := st.bx.cell 1
  have p2 := st.bx.cell 2
  have p3 := st.bx.cell 3
  have p4 := st.bx.cell 4
  simp only [List.getElem?_toArray, List.getElem?_cons_zero, List.getElem?_cons_succ] at p0 p1 p2 p3 p4
  go_wp2_with (at_builtin; refine app_list rfl _ _ (by rfl) (st.fresh ⟨4, ⟨#[41]⟩, 0⟩ rfl).1.own (st.fresh ⟨4, ⟨#[41]⟩, 0⟩ rfl).1.hB (by first | rfl | simp [Act.eval, Act.put]) w6.heap.size 1 ⟨4, ⟨#[41]⟩, 0⟩ (by rfl) (st.fresh ⟨4, ⟨#[41]⟩, 0⟩ rfl).2.blk (by simp only [List.length_append, List.length_cons, List.length_nil]; omega) ?_)
  intro vN w7 oo gg
  replace st := (st.fresh ⟨4, ⟨#[41]⟩, 0⟩ rfl).1.to gg oo
  clear p0 p1 p2 p3 p4 oo gg
  go_wp2_with fail
  go_ret
  exact RTokPost.to st (by simp)
set_option maxHeartbeats 12800000 in
theorem rto4 (n : Int) (nm op : ByteArray) (A : Option Addr) (m c d : Nat) (w : World) (hd : d ≤ bindsK 4 op) (x y : Ex) (K : Nat → Prop) (he : Et w K (.mk 4 n nm op [x, y]) (exC 4 n nm op A m c)) (hi : RTellR x (strength op)) (hj : RTellR y (strength op + 1)) (hp : 0 < (tellE x (strength op)).length) (hq : 0 < (tellE y (strength op + 1)).length) (hl : (tellE x (strength op)).length + (tellE y (strength op + 1)).length ≤ 900000) :
    Calls Tryz.prog 19 #[.agg (exC 4 n nm op A m c).toArray, .int .i64 d] w (RTokPost w (tellE x (strength op) ++ ⟨4, op, 0⟩ :: tellE y (strength op + 1))) := by
  have hsx : strength op ≤ 6 := strength_le op
  obtain ⟨g, o, A2, c2, rfl, hk, hc⟩ := Et.kid_ he (i := 0) (by simp)
  obtain ⟨g', o', A3, c3, e, hky, hcy⟩ := Et.kid_ he (i := 1) (by simp)
  injection e with e
  injection e with e1 e2
  subst e1 e2
  obtain rfl : m = 2 := et_len he
  simp only [List.getElem_cons_zero, List.getElem_cons_succ, Nat.zero_mul, Nat.one_mul, Nat.add_zero] at hk hc hky hcy
  have fk0 := hc 0 _ rfl
  have fk1 := hc 1 _ rfl
  have fk2 := hc 2 _ rfl
  have fk3 := hc 3 _ rfl
  have fk4 := hc 4 _ rfl
  have fl0 := hcy 0 _ rfl
  have fl1 := hcy 1 _ rfl
  have fl2 := hcy 2 _ rfl
  have fl3 := hcy 3 _ rfl
  have fl4 := hcy 4 _ rfl
  simp only [Nat.add_zero] at fk0 fl0
  simp only [Nat.add_assoc, Nat.reduceAdd] at fl1 fl2 fl3 fl4
  have hg : g < w.heap.size := World.block_lt_of_cell? _ _ fk0
  clear hc hcy
  have ck : ∀ W, Below w.heap.size w W → Calls Tryz.prog 19 #[.agg (exC x.kind x.n x.name x.op A2 x.kids.length c2).toArray, .int .i64 (strength op : Nat)] W (RTokPost W (tellE x (strength op))) := fun W hb => hi K W _ (hk.bel hb) (by omega)
  have cl : ∀ W, Below w.heap.size w W → Calls Tryz.prog 19 #[.agg (exC y.kind y.n y.name y.op A3 y.kids.length c3).toArray, .int .i64 ((strength op : Nat) + 1)] W (RTokPost W (tellE y (strength op + 1))) := fun W hb => hj K W _ (hky.bel hb) (by omega)
  clear hk hky hi hj he
  generalize tellE x (strength op) = TL at *
  generalize tellE y (strength op + 1) = TM at *
  generalize x.kind = k0 at *
  generalize x.n = k1 at *
  generalize x.name = k3 at *
  generalize x.op = k4 at *
  generalize x.kids.length = k2 at *
  generalize y.kind = y0 at *
  generalize y.n = y1 at *
  generalize y.name = y3 at *
  generalize y.op = y4 at *
  generalize y.kids.length = y2 at *
  have HCK := Lib.hid ck
  have HCL := Lib.hid cl
  clear ck cl
  have cb4 := fun W => rbinds_c 4 n nm op (some ⟨g, o, none⟩) 2 c (by omega) W
  rw [show bindsK 4 op = strength op from rfl] at cb4 hd
  have HB4 := Lib.hid cb4
  clear cb4
  obtain ⟨wa, hwa⟩ : ∃ z : World, w.alloc (.cells (exC 4 n nm op (some ⟨g, o, none⟩) 2 c).toArray 24) = z := ⟨_, rfl⟩
  have st := St.start (World.ownsRow_nil w w.heap.size 47 5) (Nat.le_refl _) hwa (l := []) (v := .slice none 0 0)
  generalize strength op = so at *
  have cb := HB4.out wa
  have dd : decide ((so : Int) < (d : Int)) = false := decide_eq_false (by omega)
  have p0 := st.bx.cell 0
  have p1 := st.bx.cell 1
  have p2 := st.bx.cell 2
  have p3 := st.bx.cell 3
  have p4 := st.bx.cell 4
  simp only [List.getElem?_toArray, List.getElem?_cons_zero, List.getElem?_cons_succ] at p0 p1 p2 p3 p4
  go_enter Tryz.func19, Tryz.ntmps19
  go_wp2_with fail
  (with_reducible refine cb.mono ?_)
  clear cb p0 p1 p2 p3 p4 hwa
  rintro x w2 ⟨rfl, b2⟩
  replace st := st.next b2
  clear b2
  have p0 := st.bx.cell 0
  have p1 := st.bx.cell 1
  have p2 := st.bx.cell 2
  have p3 := st.bx.cell 3
  have p4 := st.bx.cell 4
  simp only [List.getElem?_toArray, List.getElem?_cons_zero, List.getElem?_cons_succ] at p0 p1 p2 p3 p4
  go_upto_region 13 with fail
  clear p0 p1 p2 p3 p4
  refine wp_region_held (S := fun W => W.cell? ⟨w.heap.size, 0, none⟩ = some (.int .i64 4) ∧ W.cell? ⟨w.heap.size, 1, none⟩ = some (.int .i64 n) ∧ W.cell? ⟨w.heap.size, 2, none⟩ = some (.string nm) ∧ W.cell? ⟨w.heap.size, 3, none⟩ = some (.string op) ∧ W.cell? ⟨w.heap.size, 4, none⟩ = some (.slice (some ⟨g, o, none⟩) 2 c) ∧ W.cell? ⟨g, o, none⟩ = some (.int .i64 k0) ∧ W.cell? ⟨g, o + 1, none⟩ = some (.int .i64 k1) ∧ W.cell? ⟨g, o + 2, none⟩ = some (.string k3) ∧ W.cell? ⟨g, o + 3, none⟩ = some (.string k4) ∧ W.cell? ⟨g, o + 4, none⟩ = some (.slice A2 k2 c2)) (by kernel_rfl) ?_
  replace st := st.drew
  have hHeld : (fun W : World => W.cell? ⟨w.heap.size, 0, none⟩ = some (.int .i64 4) ∧ W.cell? ⟨w.heap.size, 1, none⟩ = some (.int .i64 n) ∧ W.cell? ⟨w.heap.size, 2, none⟩ = some (.string nm) ∧ W.cell? ⟨w.heap.size, 3, none⟩ = some (.string op) ∧ W.cell? ⟨w.heap.size, 4, none⟩ = some (.slice (some ⟨g, o, none⟩) 2 c) ∧ W.cell? ⟨g, o, none⟩ = some (.int .i64 k0) ∧ W.cell? ⟨g, o + 1, none⟩ = some (.int .i64 k1) ∧ W.cell? ⟨g, o + 2, none⟩ = some (.string k3) ∧ W.cell? ⟨g, o + 3, none⟩ = some (.string k4) ∧ W.cell? ⟨g, o + 4, none⟩ = some (.slice A2 k2 c2)) w2.drew := ⟨st.bx.cell 0, st.bx.cell 1, st.bx.cell 2, st.bx.cell 3, st.bx.cell 4, (st.bel.cell (p := ⟨g, o, none⟩) hg).trans fk0, (st.bel.cell (p := ⟨g, o + 1, none⟩) hg).trans fk1, (st.bel.cell (p := ⟨g, o + 2, none⟩) hg).trans fk2, (st.bel.cell (p := ⟨g, o + 3, none⟩) hg).trans fk3, (st.bel.cell (p := ⟨g, o + 4, none⟩) hg).trans fk4⟩
  refine Rnd.take 0 (v := ?v1001) rfl (by rfl) (by kernel_rfl) (by kernel_rfl) (by kernel_rfl) (fun _ _ _ h => h) (Or.inl ⟨by rfl, ?h1001⟩) (by assumption) ?_
  case h1001 =>
    intro w hSw
    try dsimp only at hSw
    go_simp
    all_goals (with_reducible rfl)
  try simp only [List.setIfInBounds_toArray, List.set_cons_zero, List.set_cons_succ]
  refine Rnd.take 1 (v := ?v1002) rfl (by rfl) (by kernel_rfl) (by kernel_rfl) (by kernel_rfl) (fun _ _ _ h => h) (Or.inl ⟨by rfl, ?h1002⟩) (by assumption) ?_
  case h1002 =>
    intro w hSw
    try dsimp only at hSw
    go_simp
    all_goals (with_reducible rfl)
  try simp only [List.setIfInBounds_toArray, List.set_cons_zero, List.set_cons_succ]
  refine Rnd.take 2 (v := ?v1003) rfl (by rfl) (by kernel_rfl) (by kernel_rfl) (by kernel_rfl) (fun _ _ _ h => h) (Or.inl ⟨by rfl, ?h1003⟩) (by assumption) ?_
  case h1003 =>
    intro w hSw
    try dsimp only at hSw
    go_simp
    all_goals (with_reducible rfl)
  try simp only [List.setIfInBounds_toArray, List.set_cons_zero, List.set_cons_succ]
  refine Rnd.take 3 (v := ?v1004) rfl (by rfl) (by kernel_rfl) (by kernel_rfl) (by kernel_rfl) (fun _ _ _ h => h) (Or.inl ⟨by rfl, ?h1004⟩) (by assumption) ?_
  case h1004 =>
    intro w hSw
    try dsimp only at hSw
    go_simp
    all_goals (with_reducible rfl)
  try simp only [List.setIfInBounds_toArray, List.set_cons_zero, List.set_cons_succ]
  refine Rnd.take 4 (v := ?v1005) rfl (by rfl) (by kernel_rfl) (by kernel_rfl) (by kernel_rfl) (fun _ _ _ h => h) (Or.inl ⟨by rfl, ?h1005⟩) (by assumption) ?_
  case h1005 =>
    intro w hSw
    try dsimp only at hSw
    go_simp
    all_goals (with_reducible rfl)
  try simp only [List.setIfInBounds_toArray, List.set_cons_zero, List.set_cons_succ]
  refine Rnd.take 5 (v := ?v1006) rfl (by rfl) (by kernel_rfl) (by kernel_rfl) (by kernel_rfl) (fun _ _ _ h => h) (Or.inl ⟨by rfl, ?h1006⟩) (by assumption) ?_
  case h1006 =>
    intro w hSw
    try dsimp only at hSw
    go_simp
    all_goals (with_reducible rfl)
  try simp only [List.setIfInBounds_toArray, List.set_cons_zero, List.set_cons_succ]
  refine wpAnyH_ready (rs := [6]) (by kernel_rfl) (by simp) ?_
  refine AllReadyH.cons (o := _) rfl (fun K' hK => ?_) AllReadyH.nil
  have c6 := HB4.out w2.drew
  go_simp
  go_at_call 36
  (with_reducible refine c6.mono ?_)
  rintro e x1 ⟨rfl, bb⟩
  dsimp only
  replace st := st.next bb
  refine hK.out _ _ ⟨st.bx.cell 0, st.bx.cell 1, st.bx.cell 2, st.bx.cell 3, st.bx.cell 4, (st.bel.cell (p := ⟨g, o, none⟩) hg).trans fk0, (st.bel.cell (p := ⟨g, o + 1, none⟩) hg).trans fk1, (st.bel.cell (p := ⟨g, o + 2, none⟩) hg).trans fk2, (st.bel.cell (p := ⟨g, o + 3, none⟩) hg).trans fk3, (st.bel.cell (p := ⟨g, o + 4, none⟩) hg).trans fk4⟩ (fun hHeld => ?_)
  clear hK K' bb c6
  refine wpAnyH_ready (rs := [7]) (by kernel_rfl) (by simp) ?_
  refine AllReadyH.cons (o := _) rfl (fun K' hK => ?_) AllReadyH.nil
  have c7 := HCK.out x1 st.bel
  go_simp
  go_at_call 19
  (with_reducible refine c7.mono ?_)
  clear c7
  rintro e x2 ⟨v2, rfl, o2, bb⟩
  dsimp only
  replace st := st.next bb
  refine hK.out _ _ ⟨st.bx.cell 0, st.bx.cell 1, st.bx.cell 2, st.bx.cell 3, st.bx.cell 4, (st.bel.cell (p := ⟨g, o, none⟩) hg).trans fk0, (st.bel.cell (p := ⟨g, o + 1, none⟩) hg).trans fk1, (st.bel.cell (p := ⟨g, o + 2, none⟩) hg).trans fk2, (st.bel.cell (p := ⟨g, o + 3, none⟩) hg).trans fk3, (st.bel.cell (p := ⟨g, o + 4, none⟩) hg).trans fk4⟩ (fun hHeld => ?_)
  clear hK K' bb
  refine wpAnyH_ready (rs := [8]) (by kernel_rfl) (by simp) ?_
  refine AllReadyH.cons (o := _) rfl (fun K' hK => ?_) AllReadyH.nil
  refine app_stepm rfl _ _ (by rfl) st.own st.hB (by first | rfl | simp [Act.eval, Act.put]) o2 hp (by first | rfl | simp [Act.eval, Act.put]) (by simp only [List.length_append, List.length_cons, List.length_nil]; omega) ?_
  intro vN x3 oo gg
  replace st := st.to gg oo
  refine hK.out _ _ ⟨st.bx.cell 0, st.bx.cell 1, st.bx.cell 2, st.bx.cell 3, st.bx.cell 4, (st.bel.cell (p := ⟨g, o, none⟩) hg).trans fk0, (st.bel.cell (p := ⟨g, o + 1, none⟩) hg).trans fk1, (st.bel.cell (p := ⟨g, o + 2, none⟩) hg).trans fk2, (st.bel.cell (p := ⟨g, o + 3, none⟩) hg).trans fk3, (st.bel.cell (p := ⟨g, o + 4, none⟩) hg).trans fk4⟩ (fun hHeld => ?_)
  clear hK K' oo gg o2
  refine Rnd.take 9 (v := ?v1007) rfl (by rfl) (by kernel_rfl) (by kernel_rfl) (by kernel_rfl) (fun _ _ _ h => h) (Or.inl ⟨by rfl, ?h1007⟩) (by assumption) ?_
  case h1007 =>
    intro w hSw
    try dsimp only at hSw
    go_simp
    all_goals (with_reducible rfl)
  try simp only [List.setIfInBounds_toArray, List.set_cons_zero, List.set_cons_succ]
  refine wpAnyH_done (by kernel_rfl) ?_ _
  clear hHeld
  have p0 := st.bx.cell 0
  have p1 := st.bx.cell 1
  have p2 := st.bx.cell 2
  have p3 := st.bx.cell 3
  have p4 := st.bx.cell 4
  simp only [List.getElem?_toArray, List.getElem?_cons_zero, List.getElem?_cons_succ] at p0 p1 p2 p3 p4
  go_wp2_with (at_builtin; refine app_list rfl _ _ (by rfl) (st.fresh ⟨4, op, 0⟩ rfl).1.own (st.fresh ⟨4, op, 0⟩ rfl).1.hB (by first | rfl | simp [Act.eval, Act.put]) x3.heap.size 1 ⟨4, op, 0⟩ (by rfl) (st.fresh ⟨4, op, 0⟩ rfl).2.blk (by simp only [List.length_append, List.length_cons, List.length_nil]; omega) ?_)
  intro vN w7 oo gg
  replace st := (st.fresh ⟨4, op, 0⟩ rfl).1.to gg oo
  clear p0 p1 p2 p3 p4 oo gg
  have p0 := st.bx.cell 0
  have p1 := st.bx.cell 1
  have p2 := st.bx.cell 2
  have p3 := st.bx.cell 3
  have p4 := st.bx.cell 4
  simp only [List.getElem?_toArray, List.getElem?_cons_zero, List.getElem?_cons_succ] at p0 p1 p2 p3 p4
  go_upto_region 15 with fail
  clear p0 p1 p2 p3 p4
  refine wp_region_held (S := fun W => W.cell? ⟨w.heap.size, 0, none⟩ = some (.int .i64 4) ∧ W.cell? ⟨w.heap.size, 1, none⟩ = some (.int .i64 n) ∧ W.cell? ⟨w.heap.size, 2, none⟩ = some (.string nm) ∧ W.cell? ⟨w.heap.size, 3, none⟩ = some (.string op) ∧ W.cell? ⟨w.heap.size, 4, none⟩ = some (.slice (some ⟨g, o, none⟩) 2 c) ∧ W.cell? ⟨g, o + 5, none⟩ = some (.int .i64 y0) ∧ W.cell? ⟨g, o + 6, none⟩ = some (.int .i64 y1) ∧ W.cell? ⟨g, o + 7, none⟩ = some (.string y3) ∧ W.cell? ⟨g, o + 8, none⟩ = some (.string y4) ∧ W.cell? ⟨g, o + 9, none⟩ = some (.slice A3 y2 c3)) (by kernel_rfl) ?_
  replace st := st.drew
  have hHeld : (fun W : World => W.cell? ⟨w.heap.size, 0, none⟩ = some (.int .i64 4) ∧ W.cell? ⟨w.heap.size, 1, none⟩ = some (.int .i64 n) ∧ W.cell? ⟨w.heap.size, 2, none⟩ = some (.string nm) ∧ W.cell? ⟨w.heap.size, 3, none⟩ = some (.string op) ∧ W.cell? ⟨w.heap.size, 4, none⟩ = some (.slice (some ⟨g, o, none⟩) 2 c) ∧ W.cell? ⟨g, o + 5, none⟩ = some (.int .i64 y0) ∧ W.cell? ⟨g, o + 6, none⟩ = some (.int .i64 y1) ∧ W.cell? ⟨g, o + 7, none⟩ = some (.string y3) ∧ W.cell? ⟨g, o + 8, none⟩ = some (.string y4) ∧ W.cell? ⟨g, o + 9, none⟩ = some (.slice A3 y2 c3)) w7.drew := ⟨st.bx.cell 0, st.bx.cell 1, st.bx.cell 2, st.bx.cell 3, st.bx.cell 4, (st.bel.cell (p := ⟨g, o + 5, none⟩) hg).trans fl0, (st.bel.cell (p := ⟨g, o + 6, none⟩) hg).trans fl1, (st.bel.cell (p := ⟨g, o + 7, none⟩) hg).trans fl2, (st.bel.cell (p := ⟨g, o + 8, none⟩) hg).trans fl3, (st.bel.cell (p := ⟨g, o + 9, none⟩) hg).trans fl4⟩
  refine Rnd.take 0 (v := ?v1008) rfl (by rfl) (by kernel_rfl) (by kernel_rfl) (by kernel_rfl) (fun _ _ _ h => h) (Or.inl ⟨by rfl, ?h1008⟩) (by assumption) ?_
  case h1008 =>
    intro w hSw
    try dsimp only at hSw
    go_simp
    all_goals (with_reducible rfl)
  try simp only [List.setIfInBounds_toArray, List.set_cons_zero, List.set_cons_succ]
  refine Rnd.take 1 (v := ?v1009) rfl (by rfl) (by kernel_rfl) (by kernel_rfl) (by kernel_rfl) (fun _ _ _ h => h) (Or.inl ⟨by rfl, ?h1009⟩) (by assumption) ?_
  case h1009 =>
    intro w hSw
    try dsimp only at hSw
    go_simp
    all_goals (with_reducible rfl)
  try simp only [List.setIfInBounds_toArray, List.set_cons_zero, List.set_cons_succ]
  refine Rnd.take 2 (v := ?v1010) rfl (by rfl) (by kernel_rfl) (by kernel_rfl) (by kernel_rfl) (fun _ _ _ h => h) (Or.inl ⟨by rfl, ?h1010⟩) (by assumption) ?_
  case h1010 =>
    intro w hSw
    try dsimp only at hSw
    go_simp
    all_goals (with_reducible rfl)
  try simp only [List.setIfInBounds_toArray, List.set_cons_zero, List.set_cons_succ]
  refine Rnd.take 3 (v := ?v1011) rfl (by rfl) (by kernel_rfl) (by kernel_rfl) (by kernel_rfl) (fun _ _ _ h => h) (Or.inl ⟨by rfl, ?h1011⟩) (by assumption) ?_
  case h1011 =>
    intro w hSw
    try dsimp only at hSw
    go_simp
    all_goals (with_reducible rfl)
  try simp only [List.setIfInBounds_toArray, List.set_cons_zero, List.set_cons_succ]
  refine Rnd.take 4 (v := ?v1012) rfl (by rfl) (by kernel_rfl) (by kernel_rfl) (by kernel_rfl) (fun _ _ _ h => h) (Or.inl ⟨by rfl, ?h1012⟩) (by assumption) ?_
  case h1012 =>
    intro w hSw
    try dsimp only at hSw
    go_simp
    all_goals (with_reducible rfl)
  try simp only [List.setIfInBounds_toArray, List.set_cons_zero, List.set_cons_succ]
  refine Rnd.take 5 (v := ?v1013) rfl (by rfl) (by kernel_rfl) (by kernel_rfl) (by kernel_rfl) (fun _ _ _ h => h) (Or.inl ⟨by rfl, ?h1013⟩) (by assumption) ?_
  case h1013 =>
    intro w hSw
    try dsimp only at hSw
    go_simp
    all_goals (with_reducible rfl)
  try simp only [List.setIfInBounds_toArray, List.set_cons_zero, List.set_cons_succ]
  refine wpAnyH_ready (rs := [6]) (by kernel_rfl) (by simp) ?_
  refine AllReadyH.cons (o := _) rfl (fun K' hK => ?_) AllReadyH.nil
  have c6 := HB4.out w7.drew
  go_simp
  go_at_call 36
  (with_reducible refine c6.mono ?_)
  rintro e x1 ⟨rfl, bb⟩
  dsimp only
  replace st := st.next bb
  refine hK.out _ _ ⟨st.bx.cell 0, st.bx.cell 1, st.bx.cell 2, st.bx.cell 3, st.bx.cell 4, (st.bel.cell (p := ⟨g, o + 5, none⟩) hg).trans fl0, (st.bel.cell (p := ⟨g, o + 6, none⟩) hg).trans fl1, (st.bel.cell (p := ⟨g, o + 7, none⟩) hg).trans fl2, (st.bel.cell (p := ⟨g, o + 8, none⟩) hg).trans fl3, (st.bel.cell (p := ⟨g, o + 9, none⟩) hg).trans fl4⟩ (fun hHeld => ?_)
  clear hK K' bb c6
  refine Rnd.take 7 (v := ?v1014) rfl (by rfl) (by kernel_rfl) (by kernel_rfl) (by kernel_rfl) (fun _ _ _ h => h) (Or.inl ⟨by rfl, ?h1014⟩) (by assumption) ?_
  case h1014 =>
    intro w hSw
    try dsimp only at hSw
    go_simp
    all_goals (with_reducible rfl)
  try simp only [List.setIfInBounds_toArray, List.set_cons_zero, List.set_cons_succ]
  refine wpAnyH_ready (rs := [8]) (by kernel_rfl) (by simp) ?_
  refine AllReadyH.cons (o := _) rfl (fun K' hK => ?_) AllReadyH.nil
  have c7 := HCL.out x1 st.bel
  have e12 : IntKind.i64.wrap ((so : Int) + 1) = (so : Int) + 1 := IntWalk.i64_in _ (by omega)
  go_simp
  go_at_call 19
  (with_reducible refine c7.mono ?_)
  clear c7
  rintro e x2 ⟨v2, rfl, o2, bb⟩
  dsimp only
  replace st := st.next bb
  refine hK.out _ _ ⟨st.bx.cell 0, st.bx.cell 1, st.bx.cell 2, st.bx.cell 3, st.bx.cell 4, (st.bel.cell (p := ⟨g, o + 5, none⟩) hg).trans fl0, (st.bel.cell (p := ⟨g, o + 6, none⟩) hg).trans fl1, (st.bel.cell (p := ⟨g, o + 7, none⟩) hg).trans fl2, (st.bel.cell (p := ⟨g, o + 8, none⟩) hg).trans fl3, (st.bel.cell (p := ⟨g, o + 9, none⟩) hg).trans fl4⟩ (fun hHeld => ?_)
  clear hK K' bb
  refine wpAnyH_ready (rs := [9]) (by kernel_rfl) (by simp) ?_
  refine AllReadyH.cons (o := _) rfl (fun K' hK => ?_) AllReadyH.nil
  refine app_stepm rfl _ _ (by rfl) st.own st.hB (by first | rfl | simp [Act.eval, Act.put]) o2 hq (by first | rfl | simp [Act.eval, Act.put]) (by simp only [List.length_append, List.length_cons, List.length_nil]; omega) ?_
  intro vN x3 oo gg
  replace st := st.to gg oo
  refine hK.out _ _ ⟨st.bx.cell 0, st.bx.cell 1, st.bx.cell 2, st.bx.cell 3, st.bx.cell 4, (st.bel.cell (p := ⟨g, o + 5, none⟩) hg).trans fl0, (st.bel.cell (p := ⟨g, o + 6, none⟩) hg).trans fl1, (st.bel.cell (p := ⟨g, o + 7, none⟩) hg).trans fl2, (st.bel.cell (p := ⟨g, o + 8, none⟩) hg).trans fl3, (st.bel.cell (p := ⟨g, o + 9, none⟩) hg).trans fl4⟩ (fun hHeld => ?_)
  clear hK K' oo gg o2
  refine Rnd.take 10 (v := ?v1015) rfl (by rfl) (by kernel_rfl) (by kernel_rfl) (by kernel_rfl) (fun _ _ _ h => h) (Or.inl ⟨by rfl, ?h1015⟩) (by assumption) ?_
  case h1015 =>
    intro w hSw
    try dsimp only at hSw
    go_simp
    all_goals (with_reducible rfl)
  try simp only [List.setIfInBounds_toArray, List.set_cons_zero, List.set_cons_succ]
  refine wpAnyH_done (by kernel_rfl) ?_ _
  clear hHeld
  have p0 := st.bx.cell 0
  have p1 := st.bx.cell 1
  have p2 := st.bx.cell 2
  have p3 := st.bx.cell 3
  have p4 := st.bx.cell 4
  simp only [List.getElem?_toArray, List.getElem?_cons_zero, List.getElem?_cons_succ] at p0 p1 p2 p3 p4
  go_wp2_with fail
  go_ret
  exact RTokPost.to st (by simp)
set_option maxHeartbeats 12800000 in
theorem rts4 (n : Int) (nm op : ByteArray) (A : Option Addr) (m c d : Nat) (w : World) (hd : bindsK 4 op < d) (x y : Ex) (K : Nat → Prop) (he : Et w K (.mk 4 n nm op [x, y]) (exC 4 n nm op A m c)) (hi : RTellR x (strength op)) (hj : RTellR y (strength op + 1)) (hp : 0 < (tellE x (strength op)).length) (hq : 0 < (tellE y (strength op + 1)).length) (hl : (tellE x (strength op)).length + (tellE y (strength op + 1)).length ≤ 900000) :
    Calls Tryz.prog 19 #[.agg (exC 4 n nm op A m c).toArray, .int .i64 d] w (RTokPost w (⟨4, ⟨#[40]⟩, 0⟩ :: (tellE x (strength op) ++ ⟨4, op, 0⟩ :: tellE y (strength op + 1)) ++ [⟨4, ⟨#[41]⟩, 0⟩])) := by
  have hsx : strength op ≤ 6 := strength_le op
  obtain ⟨g, o, A2, c2, rfl, hk, hc⟩ := Et.kid_ he (i := 0) (by simp)
  obtain ⟨g', o', A3, c3, e, hky, hcy⟩ := Et.kid_ he (i := 1) (by simp)
  injection e with e
  injection e with e1 e2
  subst e1 e2
  obtain rfl : m = 2 := et_len he
  simp only [List.getElem_cons_zero, List.getElem_cons_succ, Nat.zero_mul, Nat.one_mul, Nat.add_zero] at hk hc hky hcy
  have fk0 := hc 0 _ rfl
  have fk1 := hc 1 _ rfl
  have fk2 := hc 2 _ rfl
  have fk3 := hc 3 _ rfl
  have fk4 := hc 4 _ rfl
  have fl0 := hcy 0 _ rfl
  have fl1 := hcy 1 _ rfl
  have fl2 := hcy 2 _ rfl
  have fl3 := hcy 3 _ rfl
  have fl4 := hcy 4 _ rfl
  simp only [Nat.add_zero] at fk0 fl0
  simp only [Nat.add_assoc, Nat.reduceAdd] at fl1 fl2 fl3 fl4
  have hg : g < w.heap.size := World.block_lt_of_cell? _ _ fk0
  clear hc hcy
  have ck : ∀ W, Below w.heap.size w W → Calls Tryz.prog 19 #[.agg (exC x.kind x.n x.name x.op A2 x.kids.length c2).toArray, .int .i64 (strength op : Nat)] W (RTokPost W (tellE x (strength op))) := fun W hb => hi K W _ (hk.bel hb) (by omega)
  have cl : ∀ W, Below w.heap.size w W → Calls Tryz.prog 19 #[.agg (exC y.kind y.n y.name y.op A3 y.kids.length c3).toArray, .int .i64 ((strength op : Nat) + 1)] W (RTokPost W (tellE y (strength op + 1))) := fun W hb => hj K W _ (hky.bel hb) (by omega)
  clear hk hky hi hj he
  generalize tellE x (strength op) = TL at *
  generalize tellE y (strength op + 1) = TM at *
  generalize x.kind = k0 at *
  generalize x.n = k1 at *
  generalize x.name = k3 at *
  generalize x.op = k4 at *
  generalize x.kids.length = k2 at *
  generalize y.kind = y0 at *
  generalize y.n = y1 at *
  generalize y.name = y3 at *
  generalize y.op = y4 at *
  generalize y.kids.length = y2 at *
  have HCK := Lib.hid ck
  have HCL := Lib.hid cl
  clear ck cl
  have cb4 := fun W => rbinds_c 4 n nm op (some ⟨g, o, none⟩) 2 c (by omega) W
  rw [show bindsK 4 op = strength op from rfl] at cb4 hd
  have HB4 := Lib.hid cb4
  clear cb4
  obtain ⟨wa, hwa⟩ : ∃ z : World, w.alloc (.cells (exC 4 n nm op (some ⟨g, o, none⟩) 2 c).toArray 24) = z := ⟨_, rfl⟩
  have st := St.start (World.ownsRow_nil w w.heap.size 47 5) (Nat.le_refl _) hwa (l := []) (v := .slice none 0 0)
  generalize strength op = so at *
  have cb := HB4.out wa
  have dd : decide ((so : Int) < (d : Int)) = true := decide_eq_true (by omega)
  have p0 := st.bx.cell 0
  have p1 := st.bx.cell 1
  have p2 := st.bx.cell 2
  have p3 := st.bx.cell 3
  have p4 := st.bx.cell 4
  simp only [List.getElem?_toArray, List.getElem?_cons_zero, List.getElem?_cons_succ] at p0 p1 p2 p3 p4
  go_enter Tryz.func19, Tryz.ntmps19
  go_wp2_with fail
  (with_reducible refine cb.mono ?_)
  clear cb p0 p1 p2 p3 p4 hwa
  rintro x w2 ⟨rfl, b2⟩
  replace st := st.next b2
  clear b2
  have p0 := st.bx.cell 0
  have p1 := st.bx.cell 1
  have p2 := st.bx.cell 2
  have p3 := st.bx.cell 3
  have p4 := st.bx.cell 4
  simp only [List.getElem?_toArray, List.getElem?_cons_zero, List.getElem?_cons_succ] at p0 p1 p2 p3 p4
  go_wp2_with (at_builtin; refine app_list rfl _ _ (by rfl) (st.fresh ⟨4, ⟨#[40]⟩, 0⟩ rfl).1.own (st.fresh ⟨4, ⟨#[40]⟩, 0⟩ rfl).1.hB (by first | rfl | simp [Act.eval, Act.put]) w2.heap.size 1 ⟨4, ⟨#[40]⟩, 0⟩ (by rfl) (st.fresh ⟨4, ⟨#[40]⟩, 0⟩ rfl).2.blk (by simp only [List.length_append, List.length_cons, List.length_nil]; omega) ?_)
  intro vN w3 oo gg
  replace st := (st.fresh ⟨4, ⟨#[40]⟩, 0⟩ rfl).1.to gg oo
  clear p0 p1 p2 p3 p4 oo gg
  have p0 := st.bx.cell 0
  have p1 := st.bx.cell 1
  have p2 := st.bx.cell 2
  have p3 := st.bx.cell 3
  have p4 := st.bx.cell 4
  simp only [List.getElem?_toArray, List.getElem?_cons_zero, List.getElem?_cons_succ] at p0 p1 p2 p3 p4
  go_upto_region 13 with fail
  clear p0 p1 p2 p3 p4
  refine wp_region_held (S := fun W => W.cell? ⟨w.heap.size, 0, none⟩ = some (.int .i64 4) ∧ W.cell? ⟨w.heap.size, 1, none⟩ = some (.int .i64 n) ∧ W.cell? ⟨w.heap.size, 2, none⟩ = some (.string nm) ∧ W.cell? ⟨w.heap.size, 3, none⟩ = some (.string op) ∧ W.cell? ⟨w.heap.size, 4, none⟩ = some (.slice (some ⟨g, o, none⟩) 2 c) ∧ W.cell? ⟨g, o, none⟩ = some (.int .i64 k0) ∧ W.cell? ⟨g, o + 1, none⟩ = some (.int .i64 k1) ∧ W.cell? ⟨g, o + 2, none⟩ = some (.string k3) ∧ W.cell? ⟨g, o + 3, none⟩ = some (.string k4) ∧ W.cell? ⟨g, o + 4, none⟩ = some (.slice A2 k2 c2)) (by kernel_rfl) ?_
  replace st := st.drew
  have hHeld : (fun W : World => W.cell? ⟨w.heap.size, 0, none⟩ = some (.int .i64 4) ∧ W.cell? ⟨w.heap.size, 1, none⟩ = some (.int .i64 n) ∧ W.cell? ⟨w.heap.size, 2, none⟩ = some (.string nm) ∧ W.cell? ⟨w.heap.size, 3, none⟩ = some (.string op) ∧ W.cell? ⟨w.heap.size, 4, none⟩ = some (.slice (some ⟨g, o, none⟩) 2 c) ∧ W.cell? ⟨g, o, none⟩ = some (.int .i64 k0) ∧ W.cell? ⟨g, o + 1, none⟩ = some (.int .i64 k1) ∧ W.cell? ⟨g, o + 2, none⟩ = some (.string k3) ∧ W.cell? ⟨g, o + 3, none⟩ = some (.string k4) ∧ W.cell? ⟨g, o + 4, none⟩ = some (.slice A2 k2 c2)) w3.drew := ⟨st.bx.cell 0, st.bx.cell 1, st.bx.cell 2, st.bx.cell 3, st.bx.cell 4, (st.bel.cell (p := ⟨g, o, none⟩) hg).trans fk0, (st.bel.cell (p := ⟨g, o + 1, none⟩) hg).trans fk1, (st.bel.cell (p := ⟨g, o + 2, none⟩) hg).trans fk2, (st.bel.cell (p := ⟨g, o + 3, none⟩) hg).trans fk3, (st.bel.cell (p := ⟨g, o + 4, none⟩) hg).trans fk4⟩
  refine Rnd.take 0 (v := ?v1016) rfl (by rfl) (by kernel_rfl) (by kernel_rfl) (by kernel_rfl) (fun _ _ _ h => h) (Or.inl ⟨by rfl, ?h1016⟩) (by assumption) ?_
  case h1016 =>
    intro w hSw
    try dsimp only at hSw
    go_simp
    all_goals (with_reducible rfl)
  try simp only [List.setIfInBounds_toArray, List.set_cons_zero, List.set_cons_succ]
  refine Rnd.take 1 (v := ?v1017) rfl (by rfl) (by kernel_rfl) (by kernel_rfl) (by kernel_rfl) (fun _ _ _ h => h) (Or.inl ⟨by rfl, ?h1017⟩) (by assumption) ?_
  case h1017 =>
    intro w hSw
    try dsimp only at hSw
    go_simp
    all_goals (with_reducible rfl)
  try simp only [List.setIfInBounds_toArray, List.set_cons_zero, List.set_cons_succ]
  refine Rnd.take 2 (v := ?v1018) rfl (by rfl) (by kernel_rfl) (by kernel_rfl) (by kernel_rfl) (fun _ _ _ h => h) (Or.inl ⟨by rfl, ?h1018⟩) (by assumption) ?_
  case h1018 =>
    intro w hSw
    try dsimp only at hSw
    go_simp
    all_goals (with_reducible rfl)
  try simp only [List.setIfInBounds_toArray, List.set_cons_zero, List.set_cons_succ]
  refine Rnd.take 3 (v := ?v1019) rfl (by rfl) (by kernel_rfl) (by kernel_rfl) (by kernel_rfl) (fun _ _ _ h => h) (Or.inl ⟨by rfl, ?h1019⟩) (by assumption) ?_
  case h1019 =>
    intro w hSw
    try dsimp only at hSw
    go_simp
    all_goals (with_reducible rfl)
  try simp only [List.setIfInBounds_toArray, List.set_cons_zero, List.set_cons_succ]
  refine Rnd.take 4 (v := ?v1020) rfl (by rfl) (by kernel_rfl) (by kernel_rfl) (by kernel_rfl) (fun _ _ _ h => h) (Or.inl ⟨by rfl, ?h1020⟩) (by assumption) ?_
  case h1020 =>
    intro w hSw
    try dsimp only at hSw
    go_simp
    all_goals (with_reducible rfl)
  try simp only [List.setIfInBounds_toArray, List.set_cons_zero, List.set_cons_succ]
  refine Rnd.take 5 (v := ?v1021) rfl (by rfl) (by kernel_rfl) (by kernel_rfl) (by kernel_rfl) (fun _ _ _ h => h) (Or.inl ⟨by rfl, ?h1021⟩) (by assumption) ?_
  case h1021 =>
    intro w hSw
    try dsimp only at hSw
    go_simp
    all_goals (with_reducible rfl)
  try simp only [List.setIfInBounds_toArray, List.set_cons_zero, List.set_cons_succ]
  refine wpAnyH_ready (rs := [6]) (by kernel_rfl) (by simp) ?_
  refine AllReadyH.cons (o := _) rfl (fun K' hK => ?_) AllReadyH.nil
  have c6 := HB4.out w3.drew
  go_simp
  go_at_call 36
  (with_reducible refine c6.mono ?_)
  rintro e x1 ⟨rfl, bb⟩
  dsimp only
  replace st := st.next bb
  refine hK.out _ _ ⟨st.bx.cell 0, st.bx.cell 1, st.bx.cell 2, st.bx.cell 3, st.bx.cell 4, (st.bel.cell (p := ⟨g, o, none⟩) hg).trans fk0, (st.bel.cell (p := ⟨g, o + 1, none⟩) hg).trans fk1, (st.bel.cell (p := ⟨g, o + 2, none⟩) hg).trans fk2, (st.bel.cell (p := ⟨g, o + 3, none⟩) hg).trans fk3, (st.bel.cell (p := ⟨g, o + 4, none⟩) hg).trans fk4⟩ (fun hHeld => ?_)
  clear hK K' bb c6
  refine wpAnyH_ready (rs := [7]) (by kernel_rfl) (by simp) ?_
  refine AllReadyH.cons (o := _) rfl (fun K' hK => ?_) AllReadyH.nil
  have c7 := HCK.out x1 st.bel
  go_simp
  go_at_call 19
  (with_reducible refine c7.mono ?_)
  clear c7
  rintro e x2 ⟨v2, rfl, o2, bb⟩
  dsimp only
  replace st := st.next bb
  refine hK.out _ _ ⟨st.bx.cell 0, st.bx.cell 1, st.bx.cell 2, st.bx.cell 3, st.bx.cell 4, (st.bel.cell (p := ⟨g, o, none⟩) hg).trans fk0, (st.bel.cell (p := ⟨g, o + 1, none⟩) hg).trans fk1, (st.bel.cell (p := ⟨g, o + 2, none⟩) hg).trans fk2, (st.bel.cell (p := ⟨g, o + 3, none⟩) hg).trans fk3, (st.bel.cell (p := ⟨g, o + 4, none⟩) hg).trans fk4⟩ (fun hHeld => ?_)
  clear hK K' bb
  refine wpAnyH_ready (rs := [8]) (by kernel_rfl) (by simp) ?_
  refine AllReadyH.cons (o := _) rfl (fun K' hK => ?_) AllReadyH.nil
  refine app_stepm rfl _ _ (by rfl) st.own st.hB (by first | rfl | simp [Act.eval, Act.put]) o2 hp (by first | rfl | simp [Act.eval, Act.put]) (by simp only [List.length_append, List.length_cons, List.length_nil]; omega) ?_
  intro vN x3 oo gg
  replace st := st.to gg oo
  refine hK.out _ _ ⟨st.bx.cell 0, st.bx.cell 1, st.bx.cell 2, st.bx.cell 3, st.bx.cell 4, (st.bel.cell (p := ⟨g, o, none⟩) hg).trans fk0, (st.bel.cell (p := ⟨g, o + 1, none⟩) hg).trans fk1, (st.bel.cell (p := ⟨g, o + 2, none⟩) hg).trans fk2, (st.bel.cell (p := ⟨g, o + 3, none⟩) hg).trans fk3, (st.bel.cell (p := ⟨g, o + 4, none⟩) hg).trans fk4⟩ (fun hHeld => ?_)
  clear hK K' oo gg o2
  refine Rnd.take 9 (v := ?v1022) rfl (by rfl) (by kernel_rfl) (by kernel_rfl) (by kernel_rfl) (fun _ _ _ h => h) (Or.inl ⟨by rfl, ?h1022⟩) (by assumption) ?_
  case h1022 =>
    intro w hSw
    try dsimp only at hSw
    go_simp
    all_goals (with_reducible rfl)
  try simp only [List.setIfInBounds_toArray, List.set_cons_zero, List.set_cons_succ]
  refine wpAnyH_done (by kernel_rfl) ?_ _
  clear hHeld
  have p0 := st.bx.cell 0
  have p1 := st.bx.cell 1
  have p2 := st.bx.cell 2
  have p3 := st.bx.cell 3
  have p4 := st.bx.cell 4
  simp only [List.getElem?_toArray, List.getElem?_cons_zero, List.getElem?_cons_succ] at p0 p1 p2 p3 p4
  go_wp2_with (at_builtin; refine app_list rfl _ _ (by rfl) (st.fresh ⟨4, op, 0⟩ rfl).1.own (st.fresh ⟨4, op, 0⟩ rfl).1.hB (by first | rfl | simp [Act.eval, Act.put]) x3.heap.size 1 ⟨4, op, 0⟩ (by rfl) (st.fresh ⟨4, op, 0⟩ rfl).2.blk (by simp only [List.length_append, List.length_cons, List.length_nil]; omega) ?_)
  intro vN w7 oo gg
  replace st := (st.fresh ⟨4, op, 0⟩ rfl).1.to gg oo
  clear p0 p1 p2 p3 p4 oo gg
  have p0 := st.bx.cell 0
  have p1 := st.bx.cell 1
  have p2 := st.bx.cell 2
  have p3 := st.bx.cell 3
  have p4 := st.bx.cell 4
  simp only [List.getElem?_toArray, List.getElem?_cons_zero, List.getElem?_cons_succ] at p0 p1 p2 p3 p4
  go_upto_region 15 with fail
  clear p0 p1 p2 p3 p4
  refine wp_region_held (S := fun W => W.cell? ⟨w.heap.size, 0, none⟩ = some (.int .i64 4) ∧ W.cell? ⟨w.heap.size, 1, none⟩ = some (.int .i64 n) ∧ W.cell? ⟨w.heap.size, 2, none⟩ = some (.string nm) ∧ W.cell? ⟨w.heap.size, 3, none⟩ = some (.string op) ∧ W.cell? ⟨w.heap.size, 4, none⟩ = some (.slice (some ⟨g, o, none⟩) 2 c) ∧ W.cell? ⟨g, o + 5, none⟩ = some (.int .i64 y0) ∧ W.cell? ⟨g, o + 6, none⟩ = some (.int .i64 y1) ∧ W.cell? ⟨g, o + 7, none⟩ = some (.string y3) ∧ W.cell? ⟨g, o + 8, none⟩ = some (.string y4) ∧ W.cell? ⟨g, o + 9, none⟩ = some (.slice A3 y2 c3)) (by kernel_rfl) ?_
  replace st := st.drew
  have hHeld : (fun W : World => W.cell? ⟨w.heap.size, 0, none⟩ = some (.int .i64 4) ∧ W.cell? ⟨w.heap.size, 1, none⟩ = some (.int .i64 n) ∧ W.cell? ⟨w.heap.size, 2, none⟩ = some (.string nm) ∧ W.cell? ⟨w.heap.size, 3, none⟩ = some (.string op) ∧ W.cell? ⟨w.heap.size, 4, none⟩ = some (.slice (some ⟨g, o, none⟩) 2 c) ∧ W.cell? ⟨g, o + 5, none⟩ = some (.int .i64 y0) ∧ W.cell? ⟨g, o + 6, none⟩ = some (.int .i64 y1) ∧ W.cell? ⟨g, o + 7, none⟩ = some (.string y3) ∧ W.cell? ⟨g, o + 8, none⟩ = some (.string y4) ∧ W.cell? ⟨g, o + 9, none⟩ = some (.slice A3 y2 c3)) w7.drew := ⟨st.bx.cell 0, st.bx.cell 1, st.bx.cell 2, st.bx.cell 3, st.bx.cell 4, (st.bel.cell (p := ⟨g, o + 5, none⟩) hg).trans fl0, (st.bel.cell (p := ⟨g, o + 6, none⟩) hg).trans fl1, (st.bel.cell (p := ⟨g, o + 7, none⟩) hg).trans fl2, (st.bel.cell (p := ⟨g, o + 8, none⟩) hg).trans fl3, (st.bel.cell (p := ⟨g, o + 9, none⟩) hg).trans fl4⟩
  refine Rnd.take 0 (v := ?v1023) rfl (by rfl) (by kernel_rfl) (by kernel_rfl) (by kernel_rfl) (fun _ _ _ h => h) (Or.inl ⟨by rfl, ?h1023⟩) (by assumption) ?_
  case h1023 =>
    intro w hSw
    try dsimp only at hSw
    go_simp
    all_goals (with_reducible rfl)
  try simp only [List.setIfInBounds_toArray, List.set_cons_zero, List.set_cons_succ]
  refine Rnd.take 1 (v := ?v1024) rfl (by rfl) (by kernel_rfl) (by kernel_rfl) (by kernel_rfl) (fun _ _ _ h => h) (Or.inl ⟨by rfl, ?h1024⟩) (by assumption) ?_
  case h1024 =>
    intro w hSw
    try dsimp only at hSw
    go_simp
    all_goals (with_reducible rfl)
  try simp only [List.setIfInBounds_toArray, List.set_cons_zero, List.set_cons_succ]
  refine Rnd.take 2 (v := ?v1025) rfl (by rfl) (by kernel_rfl) (by kernel_rfl) (by kernel_rfl) (fun _ _ _ h => h) (Or.inl ⟨by rfl, ?h1025⟩) (by assumption) ?_
  case h1025 =>
    intro w hSw
    try dsimp only at hSw
    go_simp
    all_goals (with_reducible rfl)
  try simp only [List.setIfInBounds_toArray, List.set_cons_zero, List.set_cons_succ]
  refine Rnd.take 3 (v := ?v1026) rfl (by rfl) (by kernel_rfl) (by kernel_rfl) (by kernel_rfl) (fun _ _ _ h => h) (Or.inl ⟨by rfl, ?h1026⟩) (by assumption) ?_
  case h1026 =>
    intro w hSw
    try dsimp only at hSw
    go_simp
    all_goals (with_reducible rfl)
  try simp only [List.setIfInBounds_toArray, List.set_cons_zero, List.set_cons_succ]
  refine Rnd.take 4 (v := ?v1027) rfl (by rfl) (by kernel_rfl) (by kernel_rfl) (by kernel_rfl) (fun _ _ _ h => h) (Or.inl ⟨by rfl, ?h1027⟩) (by assumption) ?_
  case h1027 =>
    intro w hSw
    try dsimp only at hSw
    go_simp
    all_goals (with_reducible rfl)
  try simp only [List.setIfInBounds_toArray, List.set_cons_zero, List.set_cons_succ]
  refine Rnd.take 5 (v := ?v1028) rfl (by rfl) (by kernel_rfl) (by kernel_rfl) (by kernel_rfl) (fun _ _ _ h => h) (Or.inl ⟨by rfl, ?h1028⟩) (by assumption) ?_
  case h1028 =>
    intro w hSw
    try dsimp only at hSw
    go_simp
    all_goals (with_reducible rfl)
  try simp only [List.setIfInBounds_toArray, List.set_cons_zero, List.set_cons_succ]
  refine wpAnyH_ready (rs := [6]) (by kernel_rfl) (by simp) ?_
  refine AllReadyH.cons (o := _) rfl (fun K' hK => ?_) AllReadyH.nil
  have c6 := HB4.out w7.drew
  go_simp
  go_at_call 36
  (with_reducible refine c6.mono ?_)
  rintro e x1 ⟨rfl, bb⟩
  dsimp only
  replace st := st.next bb
  refine hK.out _ _ ⟨st.bx.cell 0, st.bx.cell 1, st.bx.cell 2, st.bx.cell 3, st.bx.cell 4, (st.bel.cell (p := ⟨g, o + 5, none⟩) hg).trans fl0, (st.bel.cell (p := ⟨g, o + 6, none⟩) hg).trans fl1, (st.bel.cell (p := ⟨g, o + 7, none⟩) hg).trans fl2, (st.bel.cell (p := ⟨g, o + 8, none⟩) hg).trans fl3, (st.bel.cell (p := ⟨g, o + 9, none⟩) hg).trans fl4⟩ (fun hHeld => ?_)
  clear hK K' bb c6
  refine Rnd.take 7 (v := ?v1029) rfl (by rfl) (by kernel_rfl) (by kernel_rfl) (by kernel_rfl) (fun _ _ _ h => h) (Or.inl ⟨by rfl, ?h1029⟩) (by assumption) ?_
  case h1029 =>
    intro w hSw
    try dsimp only at hSw
    go_simp
    all_goals (with_reducible rfl)
  try simp only [List.setIfInBounds_toArray, List.set_cons_zero, List.set_cons_succ]
  refine wpAnyH_ready (rs := [8]) (by kernel_rfl) (by simp) ?_
  refine AllReadyH.cons (o := _) rfl (fun K' hK => ?_) AllReadyH.nil
  have c7 := HCL.out x1 st.bel
  have e12 : IntKind.i64.wrap ((so : Int) + 1) = (so : Int) + 1 := IntWalk.i64_in _ (by omega)
  go_simp
  go_at_call 19
  (with_reducible refine c7.mono ?_)
  clear c7
  rintro e x2 ⟨v2, rfl, o2, bb⟩
  dsimp only
  replace st := st.next bb
  refine hK.out _ _ ⟨st.bx.cell 0, st.bx.cell 1, st.bx.cell 2, st.bx.cell 3, st.bx.cell 4, (st.bel.cell (p := ⟨g, o + 5, none⟩) hg).trans fl0, (st.bel.cell (p := ⟨g, o + 6, none⟩) hg).trans fl1, (st.bel.cell (p := ⟨g, o + 7, none⟩) hg).trans fl2, (st.bel.cell (p := ⟨g, o + 8, none⟩) hg).trans fl3, (st.bel.cell (p := ⟨g, o + 9, none⟩) hg).trans fl4⟩ (fun hHeld => ?_)
  clear hK K' bb
  refine wpAnyH_ready (rs := [9]) (by kernel_rfl) (by simp) ?_
  refine AllReadyH.cons (o := _) rfl (fun K' hK => ?_) AllReadyH.nil
  refine app_stepm rfl _ _ (by rfl) st.own st.hB (by first | rfl | simp [Act.eval, Act.put]) o2 hq (by first | rfl | simp [Act.eval, Act.put]) (by simp only [List.length_append, List.length_cons, List.length_nil]; omega) ?_
  intro vN x3 oo gg
  replace st := st.to gg oo
  refine hK.out _ _ ⟨st.bx.cell 0, st.bx.cell 1, st.bx.cell 2, st.bx.cell 3, st.bx.cell 4, (st.bel.cell (p := ⟨g, o + 5, none⟩) hg).trans fl0, (st.bel.cell (p := ⟨g, o + 6, none⟩) hg).trans fl1, (st.bel.cell (p := ⟨g, o + 7, none⟩) hg).trans fl2, (st.bel.cell (p := ⟨g, o + 8, none⟩) hg).trans fl3, (st.bel.cell (p := ⟨g, o + 9, none⟩) hg).trans fl4⟩ (fun hHeld => ?_)
  clear hK K' oo gg o2
  refine Rnd.take 10 (v := ?v1030) rfl (by rfl) (by kernel_rfl) (by kernel_rfl) (by kernel_rfl) (fun _ _ _ h => h) (Or.inl ⟨by rfl, ?h1030⟩) (by assumption) ?_
  case h1030 =>
    intro w hSw
    try dsimp only at hSw
    go_simp
    all_goals (with_reducible rfl)
  try simp only [List.setIfInBounds_toArray, List.set_cons_zero, List.set_cons_succ]
  refine wpAnyH_done (by kernel_rfl) ?_ _
  clear hHeld
  have p0 := st.bx.cell 0
  have p1 := st.bx.cell 1
  have p2 := st.bx.cell 2
  have p3 := st.bx.cell 3
  have p4 := st.bx.cell 4
  simp only [List.getElem?_toArray, List.getElem?_cons_zero, List.getElem?_cons_succ] at p0 p1 p2 p3 p4
  go_wp2_with (at_builtin; refine app_list rfl _ _ (by rfl) (st.fresh ⟨4, ⟨#[41]⟩, 0⟩ rfl).1.own (st.fresh ⟨4, ⟨#[41]⟩, 0⟩ rfl).1.hB (by first | rfl | simp [Act.eval, Act.put]) x3.heap.size 1 ⟨4, ⟨#[41]⟩, 0⟩ (by rfl) (st.fresh ⟨4, ⟨#[41]⟩, 0⟩ rfl).2.blk (by simp only [List.length_append, List.length_cons, List.length_nil]; omega) ?_)
  intro vN w9 oo gg
  replace st := (st.fresh ⟨4, ⟨#[41]⟩, 0⟩ rfl).1.to gg oo
  clear p0 p1 p2 p3 p4 oo gg
  go_wp2_with fail
  go_ret
  exact RTokPost.to st (by simp)
/-- The reference's tokens of an expression. -/
theorem rtokens_c : ∀ (N : Nat) (r : Ex), nodesE r ≤ N → ∀ q, rightE r q = true → ∀ d, RTellR r d := by
  intro N
  induction N with
  | zero => intro r h; cases r; simp [nodesE] at h
  | succ N ih =>
    intro r hN q hq d K w cs he hl
    obtain ⟨A, c, rfl⟩ := he.shape
    obtain ⟨k, n, nm, op, kids⟩ := r
    simp only [Ex.kind, Ex.n, Ex.name, Ex.op, Ex.kids] at he ⊢
    have hlb : (tellE (.mk k n nm op kids) 0).length ≤ 900000 := by
      by_cases hd : d ≤ bindsK k op
      · rw [tell_open hd] at hl; exact hl
      · rw [tell_shut (by omega)] at hl
        simp only [List.length_append, List.length_cons, List.length_nil] at hl; omega
    have hlb2 : ¬ d ≤ bindsK k op → (tellE (.mk k n nm op kids) 0).length ≤ 899998 := fun hd => by
      rw [tell_shut (by omega)] at hl
      simp only [List.length_append, List.length_cons, List.length_nil] at hl; omega
    clear hl
    rw [right_eq] at hq
    simp only [Bool.and_eq_true, decide_eq_true_eq] at hq
    obtain ⟨⟨⟨h1, h2⟩, h3⟩, h4⟩ := hq
    rcases ok_kinds h1 with rfl | rfl | rfl | rfl | rfl
    · by_cases hd : d ≤ bindsK 0 op
      · rw [tell_open hd, tell_0]; exact rto0 n nm op A kids.length c d w hd
      · rw [tell_shut (by omega), tell_0]; exact rts0 n nm op A kids.length c d w (by omega)
    · by_cases hd : d ≤ bindsK 1 op
      · rw [tell_open hd, tell_1]; exact rto1 n nm op A kids.length c d w hd
      · rw [tell_shut (by omega), tell_1]; exact rts1 n nm op A kids.length c d w (by omega)
    · match kids, h3, h4, he, hlb, hN with
      | [x], _, h4, he, hlb, hN =>
        rw [rightL, Bool.and_eq_true] at h4
        simp only [nodesE, nodesL] at hN
        rw [tell_2, List.length_cons] at hlb
        have hx := ih x (by omega) _ h4.1 7
        by_cases hd : d ≤ bindsK 2 op
        · rw [tell_open hd, tell_2]; exact rto2 n nm op A 1 c d w hd x K he hx (tell_posq x 7 h4.1) (by omega)
        · rw [tell_shut (by omega), tell_2]; exact rts2 n nm op A 1 c d w (by omega) x K he hx (tell_posq x 7 h4.1) (by omega)
    · match kids, h3, h4, he, hlb, hN with
      | [x], _, h4, he, hlb, hN =>
        rw [rightL, Bool.and_eq_true] at h4
        simp only [nodesE, nodesL] at hN
        rw [tell_3, List.length_cons] at hlb
        have hx := ih x (by omega) _ h4.1 7
        by_cases hd : d ≤ bindsK 3 op
        · rw [tell_open hd, tell_3]; exact rto3 n nm op A 1 c d w hd x K he hx (tell_posq x 7 h4.1) (by omega)
        · rw [tell_shut (by omega), tell_3]; exact rts3 n nm op A 1 c d w (by omega) x K he hx (tell_posq x 7 h4.1) (by omega)
    · match kids, h3, h4, he, hlb, hN with
      | [x, y], _, h4, he, hlb, hN =>
        simp only [rightL, Bool.and_eq_true] at h4
        simp only [nodesE, nodesL] at hN
        rw [tell_4, List.length_append, List.length_cons] at hlb
        have hx := ih x (by omega) _ h4.1 (strength op)
        have hy := ih y (by omega) _ h4.2.1 (strength op + 1)
        by_cases hd : d ≤ bindsK 4 op
        · rw [tell_open hd, tell_4]; exact rto4 n nm op A 2 c d w hd x y K he hx hy (tell_posq x _ h4.1) (tell_posq y _ h4.2.1) (by omega)
        · rw [tell_shut (by omega), tell_4]; exact rts4 n nm op A 2 c d w (by omega) x y K he hx hy (tell_posq x _ h4.1) (tell_posq y _ h4.2.1) (by omega)
end ExpW
end Go.Proofs.YtchceoclkdofhaaGreatDoor
