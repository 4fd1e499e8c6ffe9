/- The tokens of an expression: the program's tell. Condition: trees that may be. Printed by gen_expg.py. -/
import Derived.Test.YtchceoclkdofhaaGreatDoorTok
import Derived.Test.YtchceoclkdofhaaGreatDoorExpB
import Derived.Test.YtchceoclkdofhaaGreatDoorExpE
import Derived.Deep.DeepCutAuto
import Derived.Deep.CutBlock
namespace Go.Proofs.YtchceoclkdofhaaGreatDoor
set_option linter.unusedVariables false
set_option linter.unusedSimpArgs false
open Go.RowKit
namespace ExpW
open CalP CalW ExpP Tok
/-- A kid's cells, and its block. -/
theorem et_kidB {w : World} {B : Nat} {k n : Int} {nm op : ByteArray} {l : List Ex} {A : Option Addr} {m c : Nat} (h : Et w (· < B) (.mk k n nm op l) (exC k n nm op A m c)) {i : Nat} (hi : i < l.length) :
    ∃ g o A2 c2, A = some ⟨g, o, none⟩ ∧ g < B ∧ Et w (· < B) (l[i]'hi) (exC (l[i]'hi).kind (l[i]'hi).n (l[i]'hi).name (l[i]'hi).op A2 (l[i]'hi).kids.length c2) ∧
    ∀ j u, (exC (l[i]'hi).kind (l[i]'hi).n (l[i]'hi).name (l[i]'hi).op A2 (l[i]'hi).kids.length c2)[j]? = some u → w.cell? ⟨g, o + i * 5 + j, none⟩ = some u := by
  obtain ⟨g, o, A2, c2, e, hk, hc⟩ := Et.kid_ h hi
  refine ⟨g, o, A2, c2, e, ?_, hk, hc⟩
  generalize hr : Ex.mk k n nm op l = r at h
  generalize hcs : exC k n nm op A m c = cs at h
  cases h with
  | mk k' n' nm' op' l' A' c' css h0 h1 h2 h3 h4 hk' hA =>
    injection hr with e1 e2 e3 e4 e5
    subst e1 e2 e3 e4 e5
    simp only [List.cons.injEq, Value.slice.injEq, true_and, and_true] at hcs
    obtain ⟨g', o', e', hg, _⟩ := hA (by omega)
    rw [← hcs.1, e] at e'
    injection e' with e'
    injection e' with e1
    rw [e1]; exact hg
theorem et_bB {w w' : World} {B : Nat} {r : Ex} {cs : List Value} (h : Et w (· < B) r cs) (hb : Below B w w') : Et w' (· < B) r cs := h.keep (fun _ hb => hb) (fun b hb' _ => hb.block b hb')
theorem St.start {B : Nat} {w w' : World} {v : Value} {l : List Tk} {T : TypeId} {cs : Array Value} (h : OwnT w B v l) (hB : B ≤ w.heap.size) (hw : w.alloc (.cells cs T) = w') : St B w.heap.size T w w' cs v v l := by
  have hb : Below w.heap.size w w' := by rw [← hw]; go_grown
  refine ⟨hb.mono hB, Nat.le_trans hB hb.size, ExpT.own_bel h hb, ?_, fun e => ?_, Nat.le_refl _, Gr.of_below hb v⟩
  · rw [← hw]; exact Blk.new _ _ _
  · have := (h.lt _ e).2; omega
theorem tell_open {k n : Int} {nm op : ByteArray} {l : List Ex} {d : Nat} (h : d ≤ bindsK k op) : tellE (.mk k n nm op l) d = tellE (.mk k n nm op l) 0 := by
  simp only [tellE]
  rw [if_neg (show ¬ bindsK k op < d by omega), if_neg (show ¬ bindsK k op < 0 by omega)]
theorem tell_shut {k n : Int} {nm op : ByteArray} {l : List Ex} {d : Nat} (h : bindsK k op < d) : tellE (.mk k n nm op l) d = ⟨4, ⟨#[40]⟩, 0⟩ :: tellE (.mk k n nm op l) 0 ++ [⟨4, ⟨#[41]⟩, 0⟩] := by
  simp only [tellE]
  rw [if_pos h, if_neg (show ¬ bindsK k op < 0 by omega)]
theorem tell_0 {n : Int} {nm op : ByteArray} {l : List Ex} : tellE (.mk 0 n nm op l) 0 = [⟨2, noB, n⟩] := by simp [tellE]
theorem tell_1 {n : Int} {nm op : ByteArray} {l : List Ex} : tellE (.mk 1 n nm op l) 0 = [⟨6, nm, 0⟩] := by simp [tellE]
theorem tell_2 {n : Int} {nm op : ByteArray} {x : Ex} : tellE (.mk 2 n nm op [x]) 0 = ⟨4, ⟨#[45]⟩, 0⟩ :: tellE x 7 := by simp [tellE, tellH]
theorem tell_3 {n : Int} {nm op : ByteArray} {x : Ex} : tellE (.mk 3 n nm op [x]) 0 = ⟨4, ⟨#[33]⟩, 0⟩ :: tellE x 7 := by simp [tellE, tellH]
theorem tell_4 {n : Int} {nm op : ByteArray} {x y : Ex} : tellE (.mk 4 n nm op [x, y]) 0 = tellE x (strength op) ++ ⟨4, op, 0⟩ :: tellE y (strength op + 1) := by simp [tellE, tellH, tellT]
def TellPost (B : Nat) (w : World) (v : Value) (l m : List Tk) (x : Ending) (w' : World) : Prop := ∃ v', x = .returned v' ∧ OwnT w' B v' (l ++ m) ∧ Gr w w' v v'
theorem TellPost.to {B : Nat} {w : World} {v v' : Value} {l m : List Tk} {w' : World} {b : Nat} {T : TypeId} {cs : Array Value} {l' : List Tk} (h : St B b T w w' cs v v' l') (e : l' = l ++ m) : TellPost B w v l m (.returned v') w' := ⟨v', rfl, e ▸ h.own, h.gr⟩
/-- The walk of tell at a tree. -/
def TellR (B : Nat) (r : Ex) (d : Nat) : Prop := ∀ (w : World) (cs : List Value) (v : Value) (l : List Tk), Et w (· < B) r cs → OwnT w B v l → B ≤ w.heap.size → l.length + (tellE r d).length ≤ 1000000 →
  Calls Tryz.prog 31 #[v, .agg cs.toArray, .int .i64 d] w (TellPost B w v l (tellE r d))
set_option maxRecDepth 100000
set_option maxHeartbeats 1600000 in
theorem open0 {B : Nat}  (n : Int) (nm op : ByteArray) (A : Option Addr) (m c d : Nat) (w : World) (v : Value) (l : List Tk) (hd : d ≤ bindsK 0 op) (h : OwnT w B v l) (hB : B ≤ w.heap.size) (hl : l.length + 1 ≤ 1000000) :
    Calls Tryz.prog 31 #[v, .agg (exC 0 n nm op A m c).toArray, .int .i64 d] w (TellPost B w v l [⟨2, noB, n⟩]) := by
  obtain ⟨wa, hwa⟩ : ∃ z : World, w.alloc (.cells (exC 0 n nm op A m c).toArray 24) = z := ⟨_, rfl⟩
  have st := St.start h hB hwa
  have cb := binds_c 0 n nm op A m c wa
  obtain ⟨s, hs⟩ : ∃ s, bindsK 0 op = s := ⟨_, rfl⟩
  rw [hs] at cb hd
  have dd : decide ((s : Int) < (d : Int)) = false := decide_eq_false (by omega)
  have p0 := st.bx.cell 0
  have p1 := st.bx.cell 1
  have p2 := st.bx.cell 2
  have p3 := st.bx.cell 3
  have p4 := st.bx.cell 4
  simp only [List.getElem?_toArray, List.getElem?_cons_zero, List.getElem?_cons_succ] at p0 p1 p2 p3 p4
  clear hs
  go_enter Tryz.func31, Tryz.ntmps31
  go_wp2_with fail
  (with_reducible refine cb.mono ?_)
  clear cb p0 p1 p2 p3 p4 hwa
  rintro x w2 ⟨rfl, b2⟩
  replace st := st.next b2
  clear b2
  have p0 := st.bx.cell 0
  have p1 := st.bx.cell 1
  have p2 := st.bx.cell 2
  have p3 := st.bx.cell 3
  have p4 := st.bx.cell 4
  simp only [List.getElem?_toArray, List.getElem?_cons_zero, List.getElem?_cons_succ] at p0 p1 p2 p3 p4
  go_wp2_with (at_builtin; refine app_list rfl _ _ (by rfl) (st.fresh ⟨2, noB, n⟩ rfl).1.own (st.fresh ⟨2, noB, n⟩ rfl).1.hB (by rfl) w2.heap.size 1 ⟨2, noB, n⟩ (by rfl) (st.fresh ⟨2, noB, n⟩ rfl).2.blk hl ?_)
  intro vN w3 o3 g3
  have st3 := (st.fresh ⟨2, noB, n⟩ rfl).1.to g3 o3
  clear p0 p1 p2 p3 p4 st o3 g3
  go_wp2_with fail
  go_ret
  exact TellPost.to st3 rfl
set_option maxHeartbeats 1600000 in
theorem open1 {B : Nat}  (n : Int) (nm op : ByteArray) (A : Option Addr) (m c d : Nat) (w : World) (v : Value) (l : List Tk) (hd : d ≤ bindsK 1 op) (h : OwnT w B v l) (hB : B ≤ w.heap.size) (hl : l.length + 1 ≤ 1000000) :
    Calls Tryz.prog 31 #[v, .agg (exC 1 n nm op A m c).toArray, .int .i64 d] w (TellPost B w v l [⟨6, nm, 0⟩]) := by
  obtain ⟨wa, hwa⟩ : ∃ z : World, w.alloc (.cells (exC 1 n nm op A m c).toArray 24) = z := ⟨_, rfl⟩
  have st := St.start h hB hwa
  have cb := binds_c 1 n nm op A m c wa
  obtain ⟨s, hs⟩ : ∃ s, bindsK 1 op = s := ⟨_, rfl⟩
  rw [hs] at cb hd
  have dd : decide ((s : Int) < (d : Int)) = false := decide_eq_false (by omega)
  have p0 := st.bx.cell 0
  have p1 := st.bx.cell 1
  have p2 := st.bx.cell 2
  have p3 := st.bx.cell 3
  have p4 := st.bx.cell 4
  simp only [List.getElem?_toArray, List.getElem?_cons_zero, List.getElem?_cons_succ] at p0 p1 p2 p3 p4
  clear hs
  go_enter Tryz.func31, Tryz.ntmps31
  go_wp2_with fail
  (with_reducible refine cb.mono ?_)
  clear cb p0 p1 p2 p3 p4 hwa
  rintro x w2 ⟨rfl, b2⟩
  replace st := st.next b2
  clear b2
  have p0 := st.bx.cell 0
  have p1 := st.bx.cell 1
  have p2 := st.bx.cell 2
  have p3 := st.bx.cell 3
  have p4 := st.bx.cell 4
  simp only [List.getElem?_toArray, List.getElem?_cons_zero, List.getElem?_cons_succ] at p0 p1 p2 p3 p4
  go_wp2_with (at_builtin; refine app_list rfl _ _ (by rfl) (st.fresh ⟨6, nm, 0⟩ rfl).1.own (st.fresh ⟨6, nm, 0⟩ rfl).1.hB (by rfl) w2.heap.size 1 ⟨6, nm, 0⟩ (by rfl) (st.fresh ⟨6, nm, 0⟩ rfl).2.blk hl ?_)
  intro vN w3 o3 g3
  have st3 := (st.fresh ⟨6, nm, 0⟩ rfl).1.to g3 o3
  clear p0 p1 p2 p3 p4 st o3 g3
  go_wp2_with fail
  go_ret
  exact TellPost.to st3 rfl
set_option maxHeartbeats 3200000 in
theorem open2 {B : Nat}  (n : Int) (nm op : ByteArray) (A : Option Addr) (m c d : Nat) (w : World) (v : Value) (l : List Tk) (hd : d ≤ bindsK 2 op) (h : OwnT w B v l) (hB : B ≤ w.heap.size) (x : Ex)
    (he : Et w (· < B) (.mk 2 n nm op [x]) (exC 2 n nm op A m c)) (hi : TellR B x 7) (hl : l.length + (1 + (tellE x 7).length) ≤ 1000000) :
    Calls Tryz.prog 31 #[v, .agg (exC 2 n nm op A m c).toArray, .int .i64 d] w (TellPost B w v l (⟨4, ⟨#[45]⟩, 0⟩ :: tellE x 7)) := by
  obtain ⟨g, o, A2, c2, rfl, hg, hk, hc⟩ := et_kidB he (i := 0) (by simp)
  obtain rfl : m = 1 := et_len he
  simp only [List.getElem_cons_zero, Nat.zero_mul, Nat.add_zero] at hk hc
  have fk0 := hc 0 _ rfl
  have fk1 := hc 1 _ rfl
  have fk2 := hc 2 _ rfl
  have fk3 := hc 3 _ rfl
  have fk4 := hc 4 _ rfl
  simp only [Nat.add_zero] at fk0
  clear hc he
  have ck : ∀ (W : World) (v : Value) (l : List Tk), Below B w W → OwnT W B v l → B ≤ W.heap.size → l.length + (tellE x 7).length ≤ 1000000 → Calls Tryz.prog 31 #[v, .agg (exC x.kind x.n x.name x.op A2 x.kids.length c2).toArray, .int .i64 7] W (TellPost B W v l (tellE x 7)) :=
    fun W v l hb ho hBW hl => hi W _ v l (et_bB hk hb) ho hBW hl
  clear hk hi
  generalize x.kind = k0 at *
  generalize x.n = k1 at *
  generalize x.name = k3 at *
  generalize x.op = k4 at *
  generalize x.kids.length = k2 at *
  generalize tellE x 7 = TL at *
  have HCK := Lib.hid ck
  clear ck
  obtain ⟨wa, hwa⟩ : ∃ z : World, w.alloc (.cells (exC 2 n nm op (some ⟨g, o, none⟩) 1 c).toArray 24) = z := ⟨_, rfl⟩
  have st := St.start h hB hwa
  have cb := binds_c 2 n nm op (some ⟨g, o, none⟩) 1 c wa
  obtain ⟨s, hs⟩ : ∃ s, bindsK 2 op = s := ⟨_, rfl⟩
  rw [hs] at cb hd
  have dd : decide ((s : Int) < (d : Int)) = false := decide_eq_false (by omega)
  have p0 := st.bx.cell 0
  have p1 := st.bx.cell 1
  have p2 := st.bx.cell 2
  have p3 := st.bx.cell 3
  have p4 := st.bx.cell 4
  simp only [List.getElem?_toArray, List.getElem?_cons_zero, List.getElem?_cons_succ] at p0 p1 p2 p3 p4
  clear hs
  go_enter Tryz.func31, Tryz.ntmps31
  go_wp2_with fail
  (with_reducible refine cb.mono ?_)
  clear cb p0 p1 p2 p3 p4 hwa
  rintro x w2 ⟨rfl, b2⟩
  replace st := st.next b2
  clear b2
  have p0 := st.bx.cell 0
  have p1 := st.bx.cell 1
  have p2 := st.bx.cell 2
  have p3 := st.bx.cell 3
  have p4 := st.bx.cell 4
  simp only [List.getElem?_toArray, List.getElem?_cons_zero, List.getElem?_cons_succ] at p0 p1 p2 p3 p4
  go_upto_region 7 with fail
  refine wp_region_held (S := fun W => W.cell? ⟨w.heap.size, 4, none⟩ = some (.slice (some ⟨g, o, none⟩) 1 c) ∧ W.cell? ⟨g, o, none⟩ = some (.int .i64 k0) ∧ W.cell? ⟨g, o + 1, none⟩ = some (.int .i64 k1) ∧ W.cell? ⟨g, o + 2, none⟩ = some (.string k3) ∧ W.cell? ⟨g, o + 3, none⟩ = some (.string k4) ∧ W.cell? ⟨g, o + 4, none⟩ = some (.slice A2 k2 c2)) (by kernel_rfl) ?_
  replace st := st.drew
  have hHeld : (fun W : World => W.cell? ⟨w.heap.size, 4, none⟩ = some (.slice (some ⟨g, o, none⟩) 1 c) ∧ W.cell? ⟨g, o, none⟩ = some (.int .i64 k0) ∧ W.cell? ⟨g, o + 1, none⟩ = some (.int .i64 k1) ∧ W.cell? ⟨g, o + 2, none⟩ = some (.string k3) ∧ W.cell? ⟨g, o + 3, none⟩ = some (.string k4) ∧ W.cell? ⟨g, o + 4, none⟩ = some (.slice A2 k2 c2)) w2.drew := ⟨st.bx.cell 4, (st.bel.cell (p := ⟨g, o, none⟩) hg).trans fk0, (st.bel.cell (p := ⟨g, o + 1, none⟩) hg).trans fk1, (st.bel.cell (p := ⟨g, o + 2, none⟩) hg).trans fk2, (st.bel.cell (p := ⟨g, o + 3, none⟩) hg).trans fk3, (st.bel.cell (p := ⟨g, o + 4, none⟩) hg).trans fk4⟩
  clear p0 p1 p2 p3 p4
  refine Rnd.take 0 (v := ?v1001) rfl (by rfl) (by kernel_rfl) (by kernel_rfl) (by kernel_rfl) (fun _ _ _ h => h) (Or.inl ⟨by rfl, ?h1001⟩) (by assumption) ?_
  case h1001 =>
    intro w hSw
    try dsimp only at hSw
    go_simp
    all_goals (with_reducible rfl)
  try simp only [List.setIfInBounds_toArray, List.set_cons_zero, List.set_cons_succ]
  refine Rnd.take 4 (v := ?v1002) rfl (by rfl) (by kernel_rfl) (by kernel_rfl) (by kernel_rfl) (fun _ _ _ h => h) (Or.inl ⟨by rfl, ?h1002⟩) (by assumption) ?_
  case h1002 =>
    intro w hSw
    try dsimp only at hSw
    go_simp
    all_goals (with_reducible rfl)
  try simp only [List.setIfInBounds_toArray, List.set_cons_zero, List.set_cons_succ]
  refine Rnd.take 5 (v := ?v1003) rfl (by rfl) (by kernel_rfl) (by kernel_rfl) (by kernel_rfl) (fun _ _ _ h => h) (Or.inl ⟨by rfl, ?h1003⟩) (by assumption) ?_
  case h1003 =>
    intro w hSw
    try dsimp only at hSw
    go_simp
    all_goals (with_reducible rfl)
  try simp only [List.setIfInBounds_toArray, List.set_cons_zero, List.set_cons_succ]
  refine Rnd.take 6 (v := ?v1004) rfl (by rfl) (by kernel_rfl) (by kernel_rfl) (by kernel_rfl) (fun _ _ _ h => h) (Or.inl ⟨by rfl, ?h1004⟩) (by assumption) ?_
  case h1004 =>
    intro w hSw
    try dsimp only at hSw
    go_simp
    all_goals (with_reducible rfl)
  try simp only [List.setIfInBounds_toArray, List.set_cons_zero, List.set_cons_succ]
  refine Rnd.take 7 (v := ?v1005) rfl (by rfl) (by kernel_rfl) (by kernel_rfl) (by kernel_rfl) (fun _ _ _ h => h) (Or.inl ⟨by rfl, ?h1005⟩) (by assumption) ?_
  case h1005 =>
    intro w hSw
    try dsimp only at hSw
    go_simp
    all_goals (with_reducible rfl)
  try simp only [List.setIfInBounds_toArray, List.set_cons_zero, List.set_cons_succ]
  refine wpAnyH_ready (rs := [1]) (by kernel_rfl) (by simp) ?_
  refine AllReadyH.cons (o := _) rfl (fun K' hK => ?_) AllReadyH.nil
  go_simp
  go_at_call 54
  (with_reducible refine (tsign_c _ _).mono ?_)
  rintro e w3 ⟨rfl, b3⟩
  dsimp only
  replace st := st.next b3
  refine hK.out _ _ ⟨st.bx.cell 4, (st.bel.cell (p := ⟨g, o, none⟩) hg).trans fk0, (st.bel.cell (p := ⟨g, o + 1, none⟩) hg).trans fk1, (st.bel.cell (p := ⟨g, o + 2, none⟩) hg).trans fk2, (st.bel.cell (p := ⟨g, o + 3, none⟩) hg).trans fk3, (st.bel.cell (p := ⟨g, o + 4, none⟩) hg).trans fk4⟩ (fun hHeld => ?_)
  clear hK K' b3
  refine wpAnyH_ready (rs := [2]) (by kernel_rfl) (by simp) ?_
  refine AllReadyH.cons (o := _) rfl (fun K' hK => ?_) AllReadyH.nil
  go_simp
  obtain ⟨w4, hw4⟩ : ∃ z : World, w3.alloc (.cells (tk0 ⟨4, ⟨#[45]⟩, 0⟩).toArray 47) = z := ⟨_, rfl⟩
  obtain ⟨st4, n4⟩ := st.fresh _ hw4
  try rw [hw4]
  clear hw4
  refine hK.out _ _ ⟨st4.bx.cell 4, (st4.bel.cell (p := ⟨g, o, none⟩) hg).trans fk0, (st4.bel.cell (p := ⟨g, o + 1, none⟩) hg).trans fk1, (st4.bel.cell (p := ⟨g, o + 2, none⟩) hg).trans fk2, (st4.bel.cell (p := ⟨g, o + 3, none⟩) hg).trans fk3, (st4.bel.cell (p := ⟨g, o + 4, none⟩) hg).trans fk4⟩ (fun hHeld => ?_)
  clear hK K' st
  refine wpAnyH_ready (rs := [3]) (by kernel_rfl) (by simp) ?_
  refine AllReadyH.cons (o := _) rfl (fun K' hK => ?_) AllReadyH.nil
  refine app_step rfl _ _ (by rfl) st4.own st4.hB (by first | rfl | simp [Act.eval, Act.put]) w3.heap.size 1 ⟨4, ⟨#[45]⟩, 0⟩ (by first | rfl | simp [Act.eval, Act.put]) n4.blk (by omega) ?_
  intro vN w5 o5 g5
  have st5 := st4.to g5 o5
  refine hK.out _ _ ⟨st5.bx.cell 4, (st5.bel.cell (p := ⟨g, o, none⟩) hg).trans fk0, (st5.bel.cell (p := ⟨g, o + 1, none⟩) hg).trans fk1, (st5.bel.cell (p := ⟨g, o + 2, none⟩) hg).trans fk2, (st5.bel.cell (p := ⟨g, o + 3, none⟩) hg).trans fk3, (st5.bel.cell (p := ⟨g, o + 4, none⟩) hg).trans fk4⟩ (fun hHeld => ?_)
  clear hK K' st4 n4 o5 g5
  refine wpAnyH_ready (rs := [8]) (by kernel_rfl) (by simp) ?_
  refine AllReadyH.cons (o := _) rfl (fun K' hK => ?_) AllReadyH.nil
  have c8 := HCK.out w5 _ _ st5.bel st5.own st5.hB (by simp only [List.length_append, List.length_cons, List.length_nil]; omega)
  go_simp
  go_at_call 31
  (with_reducible refine c8.mono ?_)
  clear c8
  rintro e w6 ⟨v6, rfl, o6, g6⟩
  dsimp only
  have st6 := st5.to g6 o6
  refine hK.out _ _ ⟨st6.bx.cell 4, (st6.bel.cell (p := ⟨g, o, none⟩) hg).trans fk0, (st6.bel.cell (p := ⟨g, o + 1, none⟩) hg).trans fk1, (st6.bel.cell (p := ⟨g, o + 2, none⟩) hg).trans fk2, (st6.bel.cell (p := ⟨g, o + 3, none⟩) hg).trans fk3, (st6.bel.cell (p := ⟨g, o + 4, none⟩) hg).trans fk4⟩ (fun hHeld => ?_)
  clear hK K' st5 o6 g6
  refine Rnd.take 9 (v := ?v1006) rfl (by rfl) (by kernel_rfl) (by kernel_rfl) (by kernel_rfl) (fun _ _ _ h => h) (Or.inl ⟨by rfl, ?h1006⟩) (by assumption) ?_
  case h1006 =>
    intro w hSw
    try dsimp only at hSw
    go_simp
    all_goals (with_reducible rfl)
  try simp only [List.setIfInBounds_toArray, List.set_cons_zero, List.set_cons_succ]
  refine wpAnyH_done (by kernel_rfl) ?_ _
  clear hHeld
  go_wp2_with fail
  go_ret
  exact TellPost.to st6 (by simp)
set_option maxHeartbeats 3200000 in
theorem open3 {B : Nat}  (n : Int) (nm op : ByteArray) (A : Option Addr) (m c d : Nat) (w : World) (v : Value) (l : List Tk) (hd : d ≤ bindsK 3 op) (h : OwnT w B v l) (hB : B ≤ w.heap.size) (x : Ex)
    (he : Et w (· < B) (.mk 3 n nm op [x]) (exC 3 n nm op A m c)) (hi : TellR B x 7) (hl : l.length + (1 + (tellE x 7).length) ≤ 1000000) :
    Calls Tryz.prog 31 #[v, .agg (exC 3 n nm op A m c).toArray, .int .i64 d] w (TellPost B w v l (⟨4, ⟨#[33]⟩, 0⟩ :: tellE x 7)) := by
  obtain ⟨g, o, A2, c2, rfl, hg, hk, hc⟩ := et_kidB he (i := 0) (by simp)
  obtain rfl : m = 1 := et_len he
  simp only [List.getElem_cons_zero, Nat.zero_mul, Nat.add_zero] at hk hc
  have fk0 := hc 0 _ rfl
  have fk1 := hc 1 _ rfl
  have fk2 := hc 2 _ rfl
  have fk3 := hc 3 _ rfl
  have fk4 := hc 4 _ rfl
  simp only [Nat.add_zero] at fk0
  clear hc he
  have ck : ∀ (W : World) (v : Value) (l : List Tk), Below B w W → OwnT W B v l → B ≤ W.heap.size → l.length + (tellE x 7).length ≤ 1000000 → Calls Tryz.prog 31 #[v, .agg (exC x.kind x.n x.name x.op A2 x.kids.length c2).toArray, .int .i64 7] W (TellPost B W v l (tellE x 7)) :=
    fun W v l hb ho hBW hl => hi W _ v l (et_bB hk hb) ho hBW hl
  clear hk hi
  generalize x.kind = k0 at *
  generalize x.n = k1 at *
  generalize x.name = k3 at *
  generalize x.op = k4 at *
  generalize x.kids.length = k2 at *
  generalize tellE x 7 = TL at *
  have HCK := Lib.hid ck
  clear ck
  obtain ⟨wa, hwa⟩ : ∃ z : World, w.alloc (.cells (exC 3 n nm op (some ⟨g, o, none⟩) 1 c).toArray 24) = z := ⟨_, rfl⟩
  have st := St.start h hB hwa
  have cb := binds_c 3 n nm op (some ⟨g, o, none⟩) 1 c wa
  obtain ⟨s, hs⟩ : ∃ s, bindsK 3 op = s := ⟨_, rfl⟩
  rw [hs] at cb hd
  have dd : decide ((s : Int) < (d : Int)) = false := decide_eq_false (by omega)
  have p0 := st.bx.cell 0
  have p1 := st.bx.cell 1
  have p2 := st.bx.cell 2
  have p3 := st.bx.cell 3
  have p4 := st.bx.cell 4
  simp only [List.getElem?_toArray, List.getElem?_cons_zero, List.getElem?_cons_succ] at p0 p1 p2 p3 p4
  clear hs
  go_enter Tryz.func31, Tryz.ntmps31
  go_wp2_with fail
  (with_reducible refine cb.mono ?_)
  clear cb p0 p1 p2 p3 p4 hwa
  rintro x w2 ⟨rfl, b2⟩
  replace st := st.next b2
  clear b2
  have p0 := st.bx.cell 0
  have p1 := st.bx.cell 1
  have p2 := st.bx.cell 2
  have p3 := st.bx.cell 3
  have p4 := st.bx.cell 4
  simp only [List.getElem?_toArray, List.getElem?_cons_zero, List.getElem?_cons_succ] at p0 p1 p2 p3 p4
  go_upto_region 9 with fail
  refine wp_region_held (S := fun W => W.cell? ⟨w.heap.size, 4, none⟩ = some (.slice (some ⟨g, o, none⟩) 1 c) ∧ W.cell? ⟨g, o, none⟩ = some (.int .i64 k0) ∧ W.cell? ⟨g, o + 1, none⟩ = some (.int .i64 k1) ∧ W.cell? ⟨g, o + 2, none⟩ = some (.string k3) ∧ W.cell? ⟨g, o + 3, none⟩ = some (.string k4) ∧ W.cell? ⟨g, o + 4, none⟩ = some (.slice A2 k2 c2)) (by kernel_rfl) ?_
  replace st := st.drew
  have hHeld : (fun W : World => W.cell? ⟨w.heap.size, 4, none⟩ = some (.slice (some ⟨g, o, none⟩) 1 c) ∧ W.cell? ⟨g, o, none⟩ = some (.int .i64 k0) ∧ W.cell? ⟨g, o + 1, none⟩ = some (.int .i64 k1) ∧ W.cell? ⟨g, o + 2, none⟩ = some (.string k3) ∧ W.cell? ⟨g, o + 3, none⟩ = some (.string k4) ∧ W.cell? ⟨g, o + 4, none⟩ = some (.slice A2 k2 c2)) w2.drew := ⟨st.bx.cell 4, (st.bel.cell (p := ⟨g, o, none⟩) hg).trans fk0, (st.bel.cell (p := ⟨g, o + 1, none⟩) hg).trans fk1, (st.bel.cell (p := ⟨g, o + 2, none⟩) hg).trans fk2, (st.bel.cell (p := ⟨g, o + 3, none⟩) hg).trans fk3, (st.bel.cell (p := ⟨g, o + 4, none⟩) hg).trans fk4⟩
  clear p0 p1 p2 p3 p4
  refine Rnd.take 0 (v := ?v1007) rfl (by rfl) (by kernel_rfl) (by kernel_rfl) (by kernel_rfl) (fun _ _ _ h => h) (Or.inl ⟨by rfl, ?h1007⟩) (by assumption) ?_
  case h1007 =>
    intro w hSw
    try dsimp only at hSw
    go_simp
    all_goals (with_reducible rfl)
  try simp only [List.setIfInBounds_toArray, List.set_cons_zero, List.set_cons_succ]
  refine Rnd.take 4 (v := ?v1008) rfl (by rfl) (by kernel_rfl) (by kernel_rfl) (by kernel_rfl) (fun _ _ _ h => h) (Or.inl ⟨by rfl, ?h1008⟩) (by assumption) ?_
  case h1008 =>
    intro w hSw
    try dsimp only at hSw
    go_simp
    all_goals (with_reducible rfl)
  try simp only [List.setIfInBounds_toArray, List.set_cons_zero, List.set_cons_succ]
  refine Rnd.take 5 (v := ?v1009) rfl (by rfl) (by kernel_rfl) (by kernel_rfl) (by kernel_rfl) (fun _ _ _ h => h) (Or.inl ⟨by rfl, ?h1009⟩) (by assumption) ?_
  case h1009 =>
    intro w hSw
    try dsimp only at hSw
    go_simp
    all_goals (with_reducible rfl)
  try simp only [List.setIfInBounds_toArray, List.set_cons_zero, List.set_cons_succ]
  refine Rnd.take 6 (v := ?v1010) rfl (by rfl) (by kernel_rfl) (by kernel_rfl) (by kernel_rfl) (fun _ _ _ h => h) (Or.inl ⟨by rfl, ?h1010⟩) (by assumption) ?_
  case h1010 =>
    intro w hSw
    try dsimp only at hSw
    go_simp
    all_goals (with_reducible rfl)
  try simp only [List.setIfInBounds_toArray, List.set_cons_zero, List.set_cons_succ]
  refine Rnd.take 7 (v := ?v1011) rfl (by rfl) (by kernel_rfl) (by kernel_rfl) (by kernel_rfl) (fun _ _ _ h => h) (Or.inl ⟨by rfl, ?h1011⟩) (by assumption) ?_
  case h1011 =>
    intro w hSw
    try dsimp only at hSw
    go_simp
    all_goals (with_reducible rfl)
  try simp only [List.setIfInBounds_toArray, List.set_cons_zero, List.set_cons_succ]
  refine wpAnyH_ready (rs := [1]) (by kernel_rfl) (by simp) ?_
  refine AllReadyH.cons (o := _) rfl (fun K' hK => ?_) AllReadyH.nil
  go_simp
  go_at_call 54
  (with_reducible refine (tsign_c _ _).mono ?_)
  rintro e w3 ⟨rfl, b3⟩
  dsimp only
  replace st := st.next b3
  refine hK.out _ _ ⟨st.bx.cell 4, (st.bel.cell (p := ⟨g, o, none⟩) hg).trans fk0, (st.bel.cell (p := ⟨g, o + 1, none⟩) hg).trans fk1, (st.bel.cell (p := ⟨g, o + 2, none⟩) hg).trans fk2, (st.bel.cell (p := ⟨g, o + 3, none⟩) hg).trans fk3, (st.bel.cell (p := ⟨g, o + 4, none⟩) hg).trans fk4⟩ (fun hHeld => ?_)
  clear hK K' b3
  refine wpAnyH_ready (rs := [2]) (by kernel_rfl) (by simp) ?_
  refine AllReadyH.cons (o := _) rfl (fun K' hK => ?_) AllReadyH.nil
  go_simp
  obtain ⟨w4, hw4⟩ : ∃ z : World, w3.alloc (.cells (tk0 ⟨4, ⟨#[33]⟩, 0⟩).toArray 47) = z := ⟨_, rfl⟩
  obtain ⟨st4, n4⟩ := st.fresh _ hw4
  try rw [hw4]
  clear hw4
  refine hK.out _ _ ⟨st4.bx.cell 4, (st4.bel.cell (p := ⟨g, o, none⟩) hg).trans fk0, (st4.bel.cell (p := ⟨g, o + 1, none⟩) hg).trans fk1, (st4.bel.cell (p := ⟨g, o + 2, none⟩) hg).trans fk2, (st4.bel.cell (p := ⟨g, o + 3, none⟩) hg).trans fk3, (st4.bel.cell (p := ⟨g, o + 4, none⟩) hg).trans fk4⟩ (fun hHeld => ?_)
  clear hK K' st
  refine wpAnyH_ready (rs := [3]) (by kernel_rfl) (by simp) ?_
  refine AllReadyH.cons (o := _) rfl (fun K' hK => ?_) AllReadyH.nil
  refine app_step rfl _ _ (by rfl) st4.own st4.hB (by first | rfl | simp [Act.eval, Act.put]) w3.heap.size 1 ⟨4, ⟨#[33]⟩, 0⟩ (by first | rfl | simp [Act.eval, Act.put]) n4.blk (by omega) ?_
  intro vN w5 o5 g5
  have st5 := st4.to g5 o5
  refine hK.out _ _ ⟨st5.bx.cell 4, (st5.bel.cell (p := ⟨g, o, none⟩) hg).trans fk0, (st5.bel.cell (p := ⟨g, o + 1, none⟩) hg).trans fk1, (st5.bel.cell (p := ⟨g, o + 2, none⟩) hg).trans fk2, (st5.bel.cell (p := ⟨g, o + 3, none⟩) hg).trans fk3, (st5.bel.cell (p := ⟨g, o + 4, none⟩) hg).trans fk4⟩ (fun hHeld => ?_)
  clear hK K' st4 n4 o5 g5
  refine wpAnyH_ready (rs := [8]) (by kernel_rfl) (by simp) ?_
  refine AllReadyH.cons (o := _) rfl (fun K' hK => ?_) AllReadyH.nil
  have c8 := HCK.out w5 _ _ st5.bel st5.own st5.hB (by simp only [List.length_append, List.length_cons, List.length_nil]; omega)
  go_simp
  go_at_call 31
  (with_reducible refine c8.mono ?_)
  clear c8
  rintro e w6 ⟨v6, rfl, o6, g6⟩
  dsimp only
  have st6 := st5.to g6 o6
  refine hK.out _ _ ⟨st6.bx.cell 4, (st6.bel.cell (p := ⟨g, o, none⟩) hg).trans fk0, (st6.bel.cell (p := ⟨g, o + 1, none⟩) hg).trans fk1, (st6.bel.cell (p := ⟨g, o + 2, none⟩) hg).trans fk2, (st6.bel.cell (p := ⟨g, o + 3, none⟩) hg).trans fk3, (st6.bel.cell (p := ⟨g, o + 4, none⟩) hg).trans fk4⟩ (fun hHeld => ?_)
  clear hK K' st5 o6 g6
  refine Rnd.take 9 (v := ?v1012) rfl (by rfl) (by kernel_rfl) (by kernel_rfl) (by kernel_rfl) (fun _ _ _ h => h) (Or.inl ⟨by rfl, ?h1012⟩) (by assumption) ?_
  case h1012 =>
    intro w hSw
    try dsimp only at hSw
    go_simp
    all_goals (with_reducible rfl)
  try simp only [List.setIfInBounds_toArray, List.set_cons_zero, List.set_cons_succ]
  refine wpAnyH_done (by kernel_rfl) ?_ _
  clear hHeld
  go_wp2_with fail
  go_ret
  exact TellPost.to st6 (by simp)
set_option maxHeartbeats 6400000 in
theorem open4 {B : Nat}  (n : Int) (nm op : ByteArray) (A : Option Addr) (m c d : Nat) (w : World) (v : Value) (l : List Tk) (hd : d ≤ bindsK 4 op) (h : OwnT w B v l) (hB : B ≤ w.heap.size) (x y : Ex)
    (he : Et w (· < B) (.mk 4 n nm op [x, y]) (exC 4 n nm op A m c)) (hi : TellR B x (strength op)) (hj : TellR B y (strength op + 1)) (hl : l.length + ((tellE x (strength op)).length + (1 + (tellE y (strength op + 1)).length)) ≤ 1000000) :
    Calls Tryz.prog 31 #[v, .agg (exC 4 n nm op A m c).toArray, .int .i64 d] w (TellPost B w v l (tellE x (strength op) ++ ⟨4, op, 0⟩ :: tellE y (strength op + 1))) := by
  have hsx : strength op ≤ 6 := strength_le op
  obtain ⟨g, o, A2, c2, rfl, hg, hk, hc⟩ := et_kidB he (i := 0) (by simp)
  obtain ⟨g', o', A3, c3, e, _, hky, hcy⟩ := et_kidB he (i := 1) (by simp)
  injection e with e
  injection e with e1 e2
  subst e1 e2
  obtain rfl : m = 2 := et_len he
  simp only [List.getElem_cons_zero, List.getElem_cons_succ, Nat.zero_mul, Nat.one_mul, Nat.add_zero] at hk hc hky hcy
  have fk0 := hc 0 _ rfl
  have fk1 := hc 1 _ rfl
  have fk2 := hc 2 _ rfl
  have fk3 := hc 3 _ rfl
  have fk4 := hc 4 _ rfl
  have fl0 := hcy 0 _ rfl
  have fl1 := hcy 1 _ rfl
  have fl2 := hcy 2 _ rfl
  have fl3 := hcy 3 _ rfl
  have fl4 := hcy 4 _ rfl
  simp only [Nat.add_zero] at fk0 fl0
  simp only [Nat.add_assoc, Nat.reduceAdd] at fl1 fl2 fl3 fl4
  clear hc he hcy
  have ck : ∀ (W : World) (v : Value) (l : List Tk), Below B w W → OwnT W B v l → B ≤ W.heap.size → l.length + (tellE x (strength op)).length ≤ 1000000 → Calls Tryz.prog 31 #[v, .agg (exC x.kind x.n x.name x.op A2 x.kids.length c2).toArray, .int .i64 (strength op : Nat)] W (TellPost B W v l (tellE x (strength op))) :=
    fun W v l hb ho hBW hl => hi W _ v l (et_bB hk hb) ho hBW hl
  have cl : ∀ (W : World) (v : Value) (l : List Tk), Below B w W → OwnT W B v l → B ≤ W.heap.size → l.length + (tellE y (strength op + 1)).length ≤ 1000000 → Calls Tryz.prog 31 #[v, .agg (exC y.kind y.n y.name y.op A3 y.kids.length c3).toArray, .int .i64 ((strength op : Nat) + 1)] W (TellPost B W v l (tellE y (strength op + 1))) :=
    fun W v l hb ho hBW hl => hj W _ v l (et_bB hky hb) ho hBW hl
  clear hk hi hky hj
  generalize tellE x (strength op) = TL at *
  generalize tellE y (strength op + 1) = TM at *
  generalize x.kind = k0 at *
  generalize x.n = k1 at *
  generalize x.name = k3 at *
  generalize x.op = k4 at *
  generalize x.kids.length = k2 at *
  generalize y.kind = y0 at *
  generalize y.n = y1 at *
  generalize y.name = y3 at *
  generalize y.op = y4 at *
  generalize y.kids.length = y2 at *
  have HCK := Lib.hid ck
  have HCL := Lib.hid cl
  clear ck cl
  have cb4 := fun W => binds_c 4 n nm op (some ⟨g, o, none⟩) 2 c W
  rw [show bindsK 4 op = strength op from rfl] at cb4 hd
  generalize strength op = so at *
  have HB4 := Lib.hid cb4
  clear cb4
  obtain ⟨wa, hwa⟩ : ∃ z : World, w.alloc (.cells (exC 4 n nm op (some ⟨g, o, none⟩) 2 c).toArray 24) = z := ⟨_, rfl⟩
  have st := St.start h hB hwa
  have cb := HB4.out wa
  have dd : decide ((so : Int) < (d : Int)) = false := decide_eq_false (by omega)
  have p0 := st.bx.cell 0
  have p1 := st.bx.cell 1
  have p2 := st.bx.cell 2
  have p3 := st.bx.cell 3
  have p4 := st.bx.cell 4
  simp only [List.getElem?_toArray, List.getElem?_cons_zero, List.getElem?_cons_succ] at p0 p1 p2 p3 p4
  go_enter Tryz.func31, Tryz.ntmps31
  go_wp2_with fail
  (with_reducible refine cb.mono ?_)
  clear cb p0 p1 p2 p3 p4 hwa
  rintro x w2 ⟨rfl, b2⟩
  replace st := st.next b2
  clear b2
  have p0 := st.bx.cell 0
  have p1 := st.bx.cell 1
  have p2 := st.bx.cell 2
  have p3 := st.bx.cell 3
  have p4 := st.bx.cell 4
  simp only [List.getElem?_toArray, List.getElem?_cons_zero, List.getElem?_cons_succ] at p0 p1 p2 p3 p4
  go_upto_region 11 with fail
  refine wp_region_held (S := fun W => W.cell? ⟨w.heap.size, 0, none⟩ = some (.int .i64 4) ∧ W.cell? ⟨w.heap.size, 1, none⟩ = some (.int .i64 n) ∧ W.cell? ⟨w.heap.size, 2, none⟩ = some (.string nm) ∧ W.cell? ⟨w.heap.size, 3, none⟩ = some (.string op) ∧ W.cell? ⟨w.heap.size, 4, none⟩ = some (.slice (some ⟨g, o, none⟩) 2 c) ∧ W.cell? ⟨g, o, none⟩ = some (.int .i64 k0) ∧ W.cell? ⟨g, o + 1, none⟩ = some (.int .i64 k1) ∧ W.cell? ⟨g, o + 2, none⟩ = some (.string k3) ∧ W.cell? ⟨g, o + 3, none⟩ = some (.string k4) ∧ W.cell? ⟨g, o + 4, none⟩ = some (.slice A2 k2 c2)) (by kernel_rfl) ?_
  replace st := st.drew
  have hHeld : (fun W : World => W.cell? ⟨w.heap.size, 0, none⟩ = some (.int .i64 4) ∧ W.cell? ⟨w.heap.size, 1, none⟩ = some (.int .i64 n) ∧ W.cell? ⟨w.heap.size, 2, none⟩ = some (.string nm) ∧ W.cell? ⟨w.heap.size, 3, none⟩ = some (.string op) ∧ W.cell? ⟨w.heap.size, 4, none⟩ = some (.slice (some ⟨g, o, none⟩) 2 c) ∧ W.cell? ⟨g, o, none⟩ = some (.int .i64 k0) ∧ W.cell? ⟨g, o + 1, none⟩ = some (.int .i64 k1) ∧ W.cell? ⟨g, o + 2, none⟩ = some (.string k3) ∧ W.cell? ⟨g, o + 3, none⟩ = some (.string k4) ∧ W.cell? ⟨g, o + 4, none⟩ = some (.slice A2 k2 c2)) w2.drew := ⟨st.bx.cell 0, st.bx.cell 1, st.bx.cell 2, st.bx.cell 3, st.bx.cell 4, (st.bel.cell (p := ⟨g, o, none⟩) hg).trans fk0, (st.bel.cell (p := ⟨g, o + 1, none⟩) hg).trans fk1, (st.bel.cell (p := ⟨g, o + 2, none⟩) hg).trans fk2, (st.bel.cell (p := ⟨g, o + 3, none⟩) hg).trans fk3, (st.bel.cell (p := ⟨g, o + 4, none⟩) hg).trans fk4⟩
  clear p0 p1 p2 p3 p4
  refine Rnd.take 0 (v := ?v1013) rfl (by rfl) (by kernel_rfl) (by kernel_rfl) (by kernel_rfl) (fun _ _ _ h => h) (Or.inl ⟨by rfl, ?h1013⟩) (by assumption) ?_
  case h1013 =>
    intro w hSw
    try dsimp only at hSw
    go_simp
    all_goals (with_reducible rfl)
  try simp only [List.setIfInBounds_toArray, List.set_cons_zero, List.set_cons_succ]
  refine Rnd.take 1 (v := ?v1014) rfl (by rfl) (by kernel_rfl) (by kernel_rfl) (by kernel_rfl) (fun _ _ _ h => h) (Or.inl ⟨by rfl, ?h1014⟩) (by assumption) ?_
  case h1014 =>
    intro w hSw
    try dsimp only at hSw
    go_simp
    all_goals (with_reducible rfl)
  try simp only [List.setIfInBounds_toArray, List.set_cons_zero, List.set_cons_succ]
  refine Rnd.take 2 (v := ?v1015) rfl (by rfl) (by kernel_rfl) (by kernel_rfl) (by kernel_rfl) (fun _ _ _ h => h) (Or.inl ⟨by rfl, ?h1015⟩) (by assumption) ?_
  case h1015 =>
    intro w hSw
    try dsimp only at hSw
    go_simp
    all_goals (with_reducible rfl)
  try simp only [List.setIfInBounds_toArray, List.set_cons_zero, List.set_cons_succ]
  refine Rnd.take 3 (v := ?v1016) rfl (by rfl) (by kernel_rfl) (by kernel_rfl) (by kernel_rfl) (fun _ _ _ h => h) (Or.inl ⟨by rfl, ?h1016⟩) (by assumption) ?_
  case h1016 =>
    intro w hSw
    try dsimp only at hSw
    go_simp
    all_goals (with_reducible rfl)
  try simp only [List.setIfInBounds_toArray, List.set_cons_zero, List.set_cons_succ]
  refine Rnd.take 4 (v := ?v1017) rfl (by rfl) (by kernel_rfl) (by kernel_rfl) (by kernel_rfl) (fun _ _ _ h => h) (Or.inl ⟨by rfl, ?h1017⟩) (by assumption) ?_
  case h1017 =>
    intro w hSw
    try dsimp only at hSw
    go_simp
    all_goals (with_reducible rfl)
  try simp only [List.setIfInBounds_toArray, List.set_cons_zero, List.set_cons_succ]
  refine Rnd.take 5 (v := ?v1018) rfl (by rfl) (by kernel_rfl) (by kernel_rfl) (by kernel_rfl) (fun _ _ _ h => h) (Or.inl ⟨by rfl, ?h1018⟩) (by assumption) ?_
  case h1018 =>
    intro w hSw
    try dsimp only at hSw
    go_simp
    all_goals (with_reducible rfl)
  try simp only [List.setIfInBounds_toArray, List.set_cons_zero, List.set_cons_succ]
  refine wpAnyH_ready (rs := [6]) (by kernel_rfl) (by simp) ?_
  refine AllReadyH.cons (o := _) rfl (fun K' hK => ?_) AllReadyH.nil
  have c6 := HB4.out w2.drew
  go_simp
  go_at_call 53
  (with_reducible refine c6.mono ?_)
  rintro e w3 ⟨rfl, b3⟩
  dsimp only
  replace st := st.next b3
  refine hK.out _ _ ⟨st.bx.cell 0, st.bx.cell 1, st.bx.cell 2, st.bx.cell 3, st.bx.cell 4, (st.bel.cell (p := ⟨g, o, none⟩) hg).trans fk0, (st.bel.cell (p := ⟨g, o + 1, none⟩) hg).trans fk1, (st.bel.cell (p := ⟨g, o + 2, none⟩) hg).trans fk2, (st.bel.cell (p := ⟨g, o + 3, none⟩) hg).trans fk3, (st.bel.cell (p := ⟨g, o + 4, none⟩) hg).trans fk4⟩ (fun hHeld => ?_)
  clear hK K' b3 c6
  refine wpAnyH_ready (rs := [7]) (by kernel_rfl) (by simp) ?_
  refine AllReadyH.cons (o := _) rfl (fun K' hK => ?_) AllReadyH.nil
  have c7 := HCK.out w3 _ _ st.bel st.own st.hB (by omega)
  go_simp
  go_at_call 31
  (with_reducible refine c7.mono ?_)
  clear c7
  rintro e w4 ⟨v4, rfl, o4, g4⟩
  dsimp only
  have st4 := st.to g4 o4
  refine hK.out _ _ ⟨st4.bx.cell 0, st4.bx.cell 1, st4.bx.cell 2, st4.bx.cell 3, st4.bx.cell 4, (st4.bel.cell (p := ⟨g, o, none⟩) hg).trans fk0, (st4.bel.cell (p := ⟨g, o + 1, none⟩) hg).trans fk1, (st4.bel.cell (p := ⟨g, o + 2, none⟩) hg).trans fk2, (st4.bel.cell (p := ⟨g, o + 3, none⟩) hg).trans fk3, (st4.bel.cell (p := ⟨g, o + 4, none⟩) hg).trans fk4⟩ (fun hHeld => ?_)
  clear hK K' st o4 g4
  refine Rnd.take 8 (v := ?v1019) rfl (by rfl) (by kernel_rfl) (by kernel_rfl) (by kernel_rfl) (fun _ _ _ h => h) (Or.inl ⟨by rfl, ?h1019⟩) (by assumption) ?_
  case h1019 =>
    intro w hSw
    try dsimp only at hSw
    go_simp
    all_goals (with_reducible rfl)
  try simp only [List.setIfInBounds_toArray, List.set_cons_zero, List.set_cons_succ]
  refine wpAnyH_done (by kernel_rfl) ?_ _
  clear hHeld
  have p0 := st4.bx.cell 0
  have p1 := st4.bx.cell 1
  have p2 := st4.bx.cell 2
  have p3 := st4.bx.cell 3
  have p4 := st4.bx.cell 4
  simp only [List.getElem?_toArray, List.getElem?_cons_zero, List.getElem?_cons_succ] at p0 p1 p2 p3 p4
  go_upto_region 12 with fail
  refine wp_region_held (S := fun W => W.cell? ⟨w.heap.size, 0, none⟩ = some (.int .i64 4) ∧ W.cell? ⟨w.heap.size, 1, none⟩ = some (.int .i64 n) ∧ W.cell? ⟨w.heap.size, 2, none⟩ = some (.string nm) ∧ W.cell? ⟨w.heap.size, 3, none⟩ = some (.string op) ∧ W.cell? ⟨w.heap.size, 4, none⟩ = some (.slice (some ⟨g, o, none⟩) 2 c) ∧ W.cell? ⟨g, o + 5, none⟩ = some (.int .i64 y0) ∧ W.cell? ⟨g, o + 6, none⟩ = some (.int .i64 y1) ∧ W.cell? ⟨g, o + 7, none⟩ = some (.string y3) ∧ W.cell? ⟨g, o + 8, none⟩ = some (.string y4) ∧ W.cell? ⟨g, o + 9, none⟩ = some (.slice A3 y2 c3)) (by kernel_rfl) ?_
  replace st4 := st4.drew
  have hHeld : (fun W : World => W.cell? ⟨w.heap.size, 0, none⟩ = some (.int .i64 4) ∧ W.cell? ⟨w.heap.size, 1, none⟩ = some (.int .i64 n) ∧ W.cell? ⟨w.heap.size, 2, none⟩ = some (.string nm) ∧ W.cell? ⟨w.heap.size, 3, none⟩ = some (.string op) ∧ W.cell? ⟨w.heap.size, 4, none⟩ = some (.slice (some ⟨g, o, none⟩) 2 c) ∧ W.cell? ⟨g, o + 5, none⟩ = some (.int .i64 y0) ∧ W.cell? ⟨g, o + 6, none⟩ = some (.int .i64 y1) ∧ W.cell? ⟨g, o + 7, none⟩ = some (.string y3) ∧ W.cell? ⟨g, o + 8, none⟩ = some (.string y4) ∧ W.cell? ⟨g, o + 9, none⟩ = some (.slice A3 y2 c3)) w4.drew := ⟨st4.bx.cell 0, st4.bx.cell 1, st4.bx.cell 2, st4.bx.cell 3, st4.bx.cell 4, (st4.bel.cell (p := ⟨g, o + 5, none⟩) hg).trans fl0, (st4.bel.cell (p := ⟨g, o + 6, none⟩) hg).trans fl1, (st4.bel.cell (p := ⟨g, o + 7, none⟩) hg).trans fl2, (st4.bel.cell (p := ⟨g, o + 8, none⟩) hg).trans fl3, (st4.bel.cell (p := ⟨g, o + 9, none⟩) hg).trans fl4⟩
  clear p0 p1 p2 p3 p4
  refine Rnd.take 0 (v := ?v1020) rfl (by rfl) (by kernel_rfl) (by kernel_rfl) (by kernel_rfl) (fun _ _ _ h => h) (Or.inl ⟨by rfl, ?h1020⟩) (by assumption) ?_
  case h1020 =>
    intro w hSw
    try dsimp only at hSw
    go_simp
    all_goals (with_reducible rfl)
  try simp only [List.setIfInBounds_toArray, List.set_cons_zero, List.set_cons_succ]
  refine Rnd.take 1 (v := ?v1021) rfl (by rfl) (by kernel_rfl) (by kernel_rfl) (by kernel_rfl) (fun _ _ _ h => h) (Or.inl ⟨by rfl, ?h1021⟩) (by assumption) ?_
  case h1021 =>
    intro w hSw
    try dsimp only at hSw
    go_simp
    all_goals (with_reducible rfl)
  try simp only [List.setIfInBounds_toArray, List.set_cons_zero, List.set_cons_succ]
  refine Rnd.take 2 (v := ?v1022) rfl (by rfl) (by kernel_rfl) (by kernel_rfl) (by kernel_rfl) (fun _ _ _ h => h) (Or.inl ⟨by rfl, ?h1022⟩) (by assumption) ?_
  case h1022 =>
    intro w hSw
    try dsimp only at hSw
    go_simp
    all_goals (with_reducible rfl)
  try simp only [List.setIfInBounds_toArray, List.set_cons_zero, List.set_cons_succ]
  refine Rnd.take 6 (v := ?v1023) rfl (by rfl) (by kernel_rfl) (by kernel_rfl) (by kernel_rfl) (fun _ _ _ h => h) (Or.inl ⟨by rfl, ?h1023⟩) (by assumption) ?_
  case h1023 =>
    intro w hSw
    try dsimp only at hSw
    go_simp
    all_goals (with_reducible rfl)
  try simp only [List.setIfInBounds_toArray, List.set_cons_zero, List.set_cons_succ]
  refine Rnd.take 7 (v := ?v1024) rfl (by rfl) (by kernel_rfl) (by kernel_rfl) (by kernel_rfl) (fun _ _ _ h => h) (Or.inl ⟨by rfl, ?h1024⟩) (by assumption) ?_
  case h1024 =>
    intro w hSw
    try dsimp only at hSw
    go_simp
    all_goals (with_reducible rfl)
  try simp only [List.setIfInBounds_toArray, List.set_cons_zero, List.set_cons_succ]
  refine Rnd.take 8 (v := ?v1025) rfl (by rfl) (by kernel_rfl) (by kernel_rfl) (by kernel_rfl) (fun _ _ _ h => h) (Or.inl ⟨by rfl, ?h1025⟩) (by assumption) ?_
  case h1025 =>
    intro w hSw
    try dsimp only at hSw
    go_simp
    all_goals (with_reducible rfl)
  try simp only [List.setIfInBounds_toArray, List.set_cons_zero, List.set_cons_succ]
  refine Rnd.take 9 (v := ?v1026) rfl (by rfl) (by kernel_rfl) (by kernel_rfl) (by kernel_rfl) (fun _ _ _ h => h) (Or.inl ⟨by rfl, ?h1026⟩) (by assumption) ?_
  case h1026 =>
    intro w hSw
    try dsimp only at hSw
    go_simp
    all_goals (with_reducible rfl)
  try simp only [List.setIfInBounds_toArray, List.set_cons_zero, List.set_cons_succ]
  refine Rnd.take 10 (v := ?v1027) rfl (by rfl) (by kernel_rfl) (by kernel_rfl) (by kernel_rfl) (fun _ _ _ h => h) (Or.inl ⟨by rfl, ?h1027⟩) (by assumption) ?_
  case h1027 =>
    intro w hSw
    try dsimp only at hSw
    go_simp
    all_goals (with_reducible rfl)
  try simp only [List.setIfInBounds_toArray, List.set_cons_zero, List.set_cons_succ]
  refine wpAnyH_ready (rs := [3]) (by kernel_rfl) (by simp) ?_
  refine AllReadyH.cons (o := _) rfl (fun K' hK => ?_) AllReadyH.nil
  go_simp
  go_at_call 54
  (with_reducible refine (tsign_c _ _).mono ?_)
  rintro e w5 ⟨rfl, b5⟩
  dsimp only
  replace st4 := st4.next b5
  refine hK.out _ _ ⟨st4.bx.cell 0, st4.bx.cell 1, st4.bx.cell 2, st4.bx.cell 3, st4.bx.cell 4, (st4.bel.cell (p := ⟨g, o + 5, none⟩) hg).trans fl0, (st4.bel.cell (p := ⟨g, o + 6, none⟩) hg).trans fl1, (st4.bel.cell (p := ⟨g, o + 7, none⟩) hg).trans fl2, (st4.bel.cell (p := ⟨g, o + 8, none⟩) hg).trans fl3, (st4.bel.cell (p := ⟨g, o + 9, none⟩) hg).trans fl4⟩ (fun hHeld => ?_)
  clear hK K' b5
  refine wpAnyH_ready (rs := [4]) (by kernel_rfl) (by simp) ?_
  refine AllReadyH.cons (o := _) rfl (fun K' hK => ?_) AllReadyH.nil
  go_simp
  obtain ⟨w6, hw6⟩ : ∃ z : World, w5.alloc (.cells (tk0 ⟨4, op, 0⟩).toArray 47) = z := ⟨_, rfl⟩
  obtain ⟨st6, n6⟩ := st4.fresh _ hw6
  try rw [hw6]
  clear hw6
  replace st4 := st6
  refine hK.out _ _ ⟨st4.bx.cell 0, st4.bx.cell 1, st4.bx.cell 2, st4.bx.cell 3, st4.bx.cell 4, (st4.bel.cell (p := ⟨g, o + 5, none⟩) hg).trans fl0, (st4.bel.cell (p := ⟨g, o + 6, none⟩) hg).trans fl1, (st4.bel.cell (p := ⟨g, o + 7, none⟩) hg).trans fl2, (st4.bel.cell (p := ⟨g, o + 8, none⟩) hg).trans fl3, (st4.bel.cell (p := ⟨g, o + 9, none⟩) hg).trans fl4⟩ (fun hHeld => ?_)
  clear hK K'
  refine wpAnyH_ready (rs := [5]) (by kernel_rfl) (by simp) ?_
  refine AllReadyH.cons (o := _) rfl (fun K' hK => ?_) AllReadyH.nil
  refine app_step rfl _ _ (by rfl) st4.own st4.hB (by first | rfl | simp [Act.eval, Act.put]) _ 1 ⟨4, op, 0⟩ (by first | rfl | simp [Act.eval, Act.put]) n6.blk (by simp only [List.length_append]; omega) ?_
  intro vN w7 o7 g7
  replace st4 := st4.to g7 o7
  refine hK.out _ _ ⟨st4.bx.cell 0, st4.bx.cell 1, st4.bx.cell 2, st4.bx.cell 3, st4.bx.cell 4, (st4.bel.cell (p := ⟨g, o + 5, none⟩) hg).trans fl0, (st4.bel.cell (p := ⟨g, o + 6, none⟩) hg).trans fl1, (st4.bel.cell (p := ⟨g, o + 7, none⟩) hg).trans fl2, (st4.bel.cell (p := ⟨g, o + 8, none⟩) hg).trans fl3, (st4.bel.cell (p := ⟨g, o + 9, none⟩) hg).trans fl4⟩ (fun hHeld => ?_)
  clear hK K' o7 g7
  refine wpAnyH_ready (rs := [11]) (by kernel_rfl) (by simp) ?_
  refine AllReadyH.cons (o := _) rfl (fun K' hK => ?_) AllReadyH.nil
  have c11 := HB4.out w7
  go_simp
  go_at_call 53
  (with_reducible refine c11.mono ?_)
  rintro e w8 ⟨rfl, b8⟩
  dsimp only
  replace st4 := st4.next b8
  refine hK.out _ _ ⟨st4.bx.cell 0, st4.bx.cell 1, st4.bx.cell 2, st4.bx.cell 3, st4.bx.cell 4, (st4.bel.cell (p := ⟨g, o + 5, none⟩) hg).trans fl0, (st4.bel.cell (p := ⟨g, o + 6, none⟩) hg).trans fl1, (st4.bel.cell (p := ⟨g, o + 7, none⟩) hg).trans fl2, (st4.bel.cell (p := ⟨g, o + 8, none⟩) hg).trans fl3, (st4.bel.cell (p := ⟨g, o + 9, none⟩) hg).trans fl4⟩ (fun hHeld => ?_)
  clear hK K' b8 c11
  refine Rnd.take 12 (v := ?v1028) rfl (by rfl) (by kernel_rfl) (by kernel_rfl) (by kernel_rfl) (fun _ _ _ h => h) (Or.inl ⟨by rfl, ?h1028⟩) (by assumption) ?_
  case h1028 =>
    intro w hSw
    try dsimp only at hSw
    go_simp
    all_goals (with_reducible rfl)
  try simp only [List.setIfInBounds_toArray, List.set_cons_zero, List.set_cons_succ]
  refine wpAnyH_ready (rs := [13]) (by kernel_rfl) (by simp) ?_
  refine AllReadyH.cons (o := _) rfl (fun K' hK => ?_) AllReadyH.nil
  have c13 := HCL.out w8 _ _ st4.bel st4.own st4.hB (by simp only [List.length_append, List.length_cons, List.length_nil]; omega)
  have e12 : IntKind.i64.wrap ((so : Int) + 1) = (so : Int) + 1 := IntWalk.i64_in _ (by omega)
  go_simp
  go_at_call 31
  (with_reducible refine c13.mono ?_)
  clear c13
  rintro e w9 ⟨v9, rfl, o9, g9⟩
  dsimp only
  replace st4 := st4.to g9 o9
  refine hK.out _ _ ⟨st4.bx.cell 0, st4.bx.cell 1, st4.bx.cell 2, st4.bx.cell 3, st4.bx.cell 4, (st4.bel.cell (p := ⟨g, o + 5, none⟩) hg).trans fl0, (st4.bel.cell (p := ⟨g, o + 6, none⟩) hg).trans fl1, (st4.bel.cell (p := ⟨g, o + 7, none⟩) hg).trans fl2, (st4.bel.cell (p := ⟨g, o + 8, none⟩) hg).trans fl3, (st4.bel.cell (p := ⟨g, o + 9, none⟩) hg).trans fl4⟩ (fun hHeld => ?_)
  clear hK K' o9 g9
  refine Rnd.take 14 (v := ?v1029) rfl (by rfl) (by kernel_rfl) (by kernel_rfl) (by kernel_rfl) (fun _ _ _ h => h) (Or.inl ⟨by rfl, ?h1029⟩) (by assumption) ?_
  case h1029 =>
    intro w hSw
    try dsimp only at hSw
    go_simp
    all_goals (with_reducible rfl)
  try simp only [List.setIfInBounds_toArray, List.set_cons_zero, List.set_cons_succ]
  refine wpAnyH_done (by kernel_rfl) ?_ _
  clear hHeld
  go_wp2_with fail
  go_ret
  exact TellPost.to st4 (by simp)
set_option maxHeartbeats 12800000 in
theorem shut_c {B : Nat} (k : Int)  (n : Int) (nm op : ByteArray) (A : Option Addr) (m c d : Nat) (w : World) (v : Value) (l : List Tk) (hd : bindsK k op < d) (h : OwnT w B v l) (hB : B ≤ w.heap.size) (TL : List Tk)
    (ck : ∀ (W : World) (v : Value) (l : List Tk), Below B w W → OwnT W B v l → B ≤ W.heap.size → l.length + TL.length ≤ 1000000 → Calls Tryz.prog 31 #[v, .agg (exC k n nm op A m c).toArray, .int .i64 0] W (TellPost B W v l TL)) (hl : l.length + (TL.length + 2) ≤ 1000000) :
    Calls Tryz.prog 31 #[v, .agg (exC k n nm op A m c).toArray, .int .i64 d] w (TellPost B w v l (⟨4, ⟨#[40]⟩, 0⟩ :: TL ++ [⟨4, ⟨#[41]⟩, 0⟩])) := by
  have HCK := Lib.hid ck
  clear ck
  obtain ⟨wa, hwa⟩ : ∃ z : World, w.alloc (.cells (exC k n nm op A m c).toArray 24) = z := ⟨_, rfl⟩
  have st := St.start h hB hwa
  have cb := binds_c k n nm op A m c wa
  obtain ⟨s, hs⟩ : ∃ s, bindsK k op = s := ⟨_, rfl⟩
  rw [hs] at cb hd
  have dd : decide ((s : Int) < (d : Int)) = true := decide_eq_true (by omega)
  have p0 := st.bx.cell 0
  have p1 := st.bx.cell 1
  have p2 := st.bx.cell 2
  have p3 := st.bx.cell 3
  have p4 := st.bx.cell 4
  simp only [List.getElem?_toArray, List.getElem?_cons_zero, List.getElem?_cons_succ] at p0 p1 p2 p3 p4
  clear hs
  go_enter Tryz.func31, Tryz.ntmps31
  go_wp2_with fail
  (with_reducible refine cb.mono ?_)
  clear cb p0 p1 p2 p3 p4 hwa
  rintro x w2 ⟨rfl, b2⟩
  replace st := st.next b2
  clear b2
  have p0 := st.bx.cell 0
  have p1 := st.bx.cell 1
  have p2 := st.bx.cell 2
  have p3 := st.bx.cell 3
  have p4 := st.bx.cell 4
  simp only [List.getElem?_toArray, List.getElem?_cons_zero, List.getElem?_cons_succ] at p0 p1 p2 p3 p4
  go_upto_region 2 with fail
  refine wp_region_held (S := fun W => W.cell? ⟨w.heap.size, 0, none⟩ = some (.int .i64 k) ∧ W.cell? ⟨w.heap.size, 1, none⟩ = some (.int .i64 n) ∧ W.cell? ⟨w.heap.size, 2, none⟩ = some (.string nm) ∧ W.cell? ⟨w.heap.size, 3, none⟩ = some (.string op) ∧ W.cell? ⟨w.heap.size, 4, none⟩ = some (.slice A m c)) (by kernel_rfl) ?_
  replace st := st.drew
  have hHeld : (fun W : World => W.cell? ⟨w.heap.size, 0, none⟩ = some (.int .i64 k) ∧ W.cell? ⟨w.heap.size, 1, none⟩ = some (.int .i64 n) ∧ W.cell? ⟨w.heap.size, 2, none⟩ = some (.string nm) ∧ W.cell? ⟨w.heap.size, 3, none⟩ = some (.string op) ∧ W.cell? ⟨w.heap.size, 4, none⟩ = some (.slice A m c)) w2.drew := ⟨st.bx.cell 0, st.bx.cell 1, st.bx.cell 2, st.bx.cell 3, st.bx.cell 4⟩
  clear p0 p1 p2 p3 p4
  refine Rnd.take 0 (v := ?v1030) rfl (by rfl) (by kernel_rfl) (by kernel_rfl) (by kernel_rfl) (fun _ _ _ h => h) (Or.inl ⟨by rfl, ?h1030⟩) (by assumption) ?_
  case h1030 =>
    intro w hSw
    try dsimp only at hSw
    go_simp
    all_goals (with_reducible rfl)
  try simp only [List.setIfInBounds_toArray, List.set_cons_zero, List.set_cons_succ]
  refine Rnd.take 4 (v := ?v1031) rfl (by rfl) (by kernel_rfl) (by kernel_rfl) (by kernel_rfl) (fun _ _ _ h => h) (Or.inl ⟨by rfl, ?h1031⟩) (by assumption) ?_
  case h1031 =>
    intro w hSw
    try dsimp only at hSw
    go_simp
    all_goals (with_reducible rfl)
  try simp only [List.setIfInBounds_toArray, List.set_cons_zero, List.set_cons_succ]
  refine wpAnyH_ready (rs := [1]) (by kernel_rfl) (by simp) ?_
  refine AllReadyH.cons (o := _) rfl (fun K' hK => ?_) AllReadyH.nil
  go_simp
  go_at_call 54
  (with_reducible refine (tsign_c _ _).mono ?_)
  rintro e x1 ⟨rfl, bb⟩
  dsimp only
  replace st := st.next bb
  refine hK.out _ _ ⟨st.bx.cell 0, st.bx.cell 1, st.bx.cell 2, st.bx.cell 3, st.bx.cell 4⟩ (fun hHeld => ?_)
  clear hK K'
  refine wpAnyH_ready (rs := [2]) (by kernel_rfl) (by simp) ?_
  refine AllReadyH.cons (o := _) rfl (fun K' hK => ?_) AllReadyH.nil
  go_simp
  obtain ⟨x2, hw6⟩ : ∃ z : World, x1.alloc (.cells (tk0 ⟨4, ⟨#[40]⟩, 0⟩).toArray 47) = z := ⟨_, rfl⟩
  have bb : Below x1.heap.size x1 x2 := by rw [← hw6]; go_grown
  obtain ⟨st6, nA⟩ := st.fresh _ hw6
  try rw [hw6]
  clear hw6
  replace st := st6
  refine hK.out _ _ ⟨st.bx.cell 0, st.bx.cell 1, st.bx.cell 2, st.bx.cell 3, st.bx.cell 4⟩ (fun hHeld => ?_)
  clear hK K'
  refine wpAnyH_ready (rs := [3]) (by kernel_rfl) (by simp) ?_
  refine AllReadyH.cons (o := _) rfl (fun K' hK => ?_) AllReadyH.nil
  refine app_step rfl _ _ (by rfl) st.own st.hB (by first | rfl | simp [Act.eval, Act.put]) _ 1 ⟨4, ⟨#[40]⟩, 0⟩ (by first | rfl | simp [Act.eval, Act.put]) nA.blk (by omega) ?_
  intro vN x3 oo gg
  replace st := st.to gg oo
  refine hK.out _ _ ⟨st.bx.cell 0, st.bx.cell 1, st.bx.cell 2, st.bx.cell 3, st.bx.cell 4⟩ (fun hHeld => ?_)
  clear hK K'
  refine wpAnyH_ready (rs := [5]) (by kernel_rfl) (by simp) ?_
  refine AllReadyH.cons (o := _) rfl (fun K' hK => ?_) AllReadyH.nil
  have cc := HCK.out x3 _ _ st.bel st.own st.hB (by simp only [List.length_append, List.length_cons, List.length_nil]; omega)
  go_simp
  go_at_call 31
  (with_reducible refine cc.mono ?_)
  clear cc
  rintro e x4 ⟨vv, rfl, oo, gg⟩
  dsimp only
  replace st := st.to gg oo
  refine hK.out _ _ ⟨st.bx.cell 0, st.bx.cell 1, st.bx.cell 2, st.bx.cell 3, st.bx.cell 4⟩ (fun hHeld => ?_)
  clear hK K'
  refine wpAnyH_ready (rs := [6]) (by kernel_rfl) (by simp) ?_
  refine AllReadyH.cons (o := _) rfl (fun K' hK => ?_) AllReadyH.nil
  go_simp
  go_at_call 54
  (with_reducible refine (tsign_c _ _).mono ?_)
  rintro e x6 ⟨rfl, bb⟩
  dsimp only
  replace st := st.next bb
  refine hK.out _ _ ⟨st.bx.cell 0, st.bx.cell 1, st.bx.cell 2, st.bx.cell 3, st.bx.cell 4⟩ (fun hHeld => ?_)
  clear hK K'
  refine wpAnyH_ready (rs := [7]) (by kernel_rfl) (by simp) ?_
  refine AllReadyH.cons (o := _) rfl (fun K' hK => ?_) AllReadyH.nil
  go_simp
  obtain ⟨x8, hw6⟩ : ∃ z : World, x6.alloc (.cells (tk0 ⟨4, ⟨#[41]⟩, 0⟩).toArray 47) = z := ⟨_, rfl⟩
  have bb : Below x6.heap.size x6 x8 := by rw [← hw6]; go_grown
  obtain ⟨st6, nB⟩ := st.fresh _ hw6
  try rw [hw6]
  clear hw6
  replace st := st6
  refine hK.out _ _ ⟨st.bx.cell 0, st.bx.cell 1, st.bx.cell 2, st.bx.cell 3, st.bx.cell 4⟩ (fun hHeld => ?_)
  clear hK K'
  refine wpAnyH_ready (rs := [8]) (by kernel_rfl) (by simp) ?_
  refine AllReadyH.cons (o := _) rfl (fun K' hK => ?_) AllReadyH.nil
  refine app_step rfl _ _ (by rfl) st.own st.hB (by first | rfl | simp [Act.eval, Act.put]) _ 1 ⟨4, ⟨#[41]⟩, 0⟩ (by first | rfl | simp [Act.eval, Act.put]) nB.blk (by simp only [List.length_append, List.length_cons, List.length_nil]; omega) ?_
  intro vN w9 o9 g9
  replace st := st.to g9 o9
  refine hK.out _ _ ⟨st.bx.cell 0, st.bx.cell 1, st.bx.cell 2, st.bx.cell 3, st.bx.cell 4⟩ (fun hHeld => ?_)
  clear hK K'
  refine Rnd.take 9 (v := ?v1032) rfl (by rfl) (by kernel_rfl) (by kernel_rfl) (by kernel_rfl) (fun _ _ _ h => h) (Or.inl ⟨by rfl, ?h1032⟩) (by assumption) ?_
  case h1032 =>
    intro w hSw
    try dsimp only at hSw
    go_simp
    all_goals (with_reducible rfl)
  try simp only [List.setIfInBounds_toArray, List.set_cons_zero, List.set_cons_succ]
  refine wpAnyH_done (by kernel_rfl) ?_ _
  clear hHeld
  go_wp2_with fail
  go_ret
  exact TellPost.to st (by simp)
/-- The tokens of an expression. -/
theorem tell_c {B : Nat} : ∀ (N : Nat) (r : Ex), nodesE r ≤ N → ∀ q, rightE r q = true → ∀ d, TellR B r d := by
  intro N
  induction N with
  | zero => intro r h; cases r; simp [nodesE] at h
  | succ N ih =>
    intro r hN q hq
    have ho : ∀ d, d ≤ bindsK r.kind r.op → TellR B r d := by
      intro d hd w cs v l he ho hB hl
      obtain ⟨A, c, rfl⟩ := he.shape
      obtain ⟨k, n, nm, op, kids⟩ := r
      simp only [Ex.kind, Ex.n, Ex.name, Ex.op, Ex.kids] at he hd ⊢
      rw [tell_open hd] at hl ⊢
      rw [right_eq] at hq
      simp only [Bool.and_eq_true, decide_eq_true_eq] at hq
      obtain ⟨⟨⟨h1, h2⟩, h3⟩, h4⟩ := hq
      have hk : k = 0 ∨ k = 1 ∨ k = 2 ∨ k = 3 ∨ k = 4 := by
        unfold okE at h1
        by_cases e0 : k = 0
        · exact .inl e0
        by_cases e1 : k = 1
        · exact .inr (.inl e1)
        by_cases e2 : k = 2
        · exact .inr (.inr (.inl e2))
        by_cases e3 : k = 3
        · exact .inr (.inr (.inr (.inl e3)))
        by_cases e4 : k = 4
        · exact .inr (.inr (.inr (.inr e4)))
        rw [if_neg e0, if_neg e1, if_neg (by omega), if_neg e4] at h1; cases h1
      rcases hk with rfl | rfl | rfl | rfl | rfl
      · rw [tell_0] at hl ⊢
        exact open0 n nm op A kids.length c d w v l hd ho hB hl
      · rw [tell_1] at hl ⊢
        exact open1 n nm op A kids.length c d w v l hd ho hB hl
      · match kids, h3, h4, he, hl, hN with
        | [x], _, h4, he, hl, hN =>
          rw [rightL, Bool.and_eq_true] at h4
          simp only [nodesE, nodesL] at hN
          rw [tell_2] at hl ⊢
          exact open2 n nm op A 1 c d w v l hd ho hB x he (ih x (by omega) _ h4.1 7) (by simpa [Nat.add_comm] using hl)
      · match kids, h3, h4, he, hl, hN with
        | [x], _, h4, he, hl, hN =>
          rw [rightL, Bool.and_eq_true] at h4
          simp only [nodesE, nodesL] at hN
          rw [tell_3] at hl ⊢
          exact open3 n nm op A 1 c d w v l hd ho hB x he (ih x (by omega) _ h4.1 7) (by simpa [Nat.add_comm] using hl)
      · match kids, h3, h4, he, hl, hN with
        | [x, y], _, h4, he, hl, hN =>
          simp only [rightL, Bool.and_eq_true] at h4
          simp only [nodesE, nodesL] at hN
          rw [tell_4] at hl ⊢
          simp only [List.length_append, List.length_cons] at hl
          exact open4 n nm op A 2 c d w v l hd ho hB x y he (ih x (by omega) _ h4.1 _) (ih y (by omega) _ h4.2.1 _) (by omega)
    intro d
    by_cases hd : d ≤ bindsK r.kind r.op
    · exact ho d hd
    intro w cs v l he hw hB hl
    obtain ⟨A, c, rfl⟩ := he.shape
    have ho0 := ho 0 (Nat.zero_le _)
    obtain ⟨k, n, nm, op, kids⟩ := r
    simp only [Ex.kind, Ex.n, Ex.name, Ex.op, Ex.kids] at he hd ⊢
    rw [tell_shut (by omega)] at hl ⊢
    refine shut_c k n nm op A kids.length c d w v l (by omega) hw hB _ (fun W v l hb h1 h2 h3 => ho0 W _ v l (et_bB he hb) h1 h2 h3) ?_
    simp only [List.length_append, List.length_cons, List.length_nil] at hl
    omega
end ExpW
end Go.Proofs.YtchceoclkdofhaaGreatDoor
