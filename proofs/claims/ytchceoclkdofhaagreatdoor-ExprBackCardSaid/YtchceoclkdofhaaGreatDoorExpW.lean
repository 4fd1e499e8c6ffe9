/- The reader of tokens, the program's and the reference's: its small walks. Conditions: none. -/
import Derived.Test.YtchceoclkdofhaaGreatDoorExpP
import Derived.Test.YtchceoclkdofhaaGreatDoorCalTM
import Derived.Test.YtchceoclkdofhaaGreatDoorCalS
import Derived.Test.YtchceoclkdofhaaGreatDoorRow
import Derived.BigQuiet
import Derived.Deep.AppendLies
namespace Go.Proofs.YtchceoclkdofhaaGreatDoor
set_option linter.unusedVariables false
set_option linter.unusedSimpArgs false
open Go.RowKit
namespace ExpW
open CalP CalW ExpP
/-- A slice of tokens in memory: what the parser looks at. -/
def Tks (w : World) (B : Nat) (A : Option Addr) (l : List Tk) : Prop := 0 < l.length → ∃ g o, A = some ⟨g, o, none⟩ ∧ g < B ∧ ∀ i (h : i < l.length),
  w.cell? ⟨g, o + i * 5, none⟩ = some (.int .i64 (l[i]'h).kind) ∧ w.cell? ⟨g, o + i * 5 + 1, none⟩ = some (.string (l[i]'h).word) ∧ w.cell? ⟨g, o + i * 5 + 2, none⟩ = some (.int .i64 (l[i]'h).n) ∧
  I64 (l[i]'h).n ∧ (l[i]'h).word.size ≤ maxLen ∧ ∃ P m c q, w.cell? ⟨g, o + i * 5 + 3, none⟩ = some (.slice P m c) ∧ w.cell? ⟨g, o + i * 5 + 4, none⟩ = some (.int .i64 q)
theorem Tks.keep {w w' : World} {B B' : Nat} {A : Option Addr} {l : List Tk} (h : Tks w B A l) (hB : B ≤ B') (hk : ∀ b, b < B → b < w.heap.size → w'.heap[b]? = w.heap[b]?) : Tks w' B' A l := by
  intro hl
  obtain ⟨g, o, rfl, hg, hc⟩ := h hl
  refine ⟨g, o, rfl, by omega, fun i hi => ?_⟩
  obtain ⟨h0, h1, h2, h3, h4, P, m, c, q, h5, h6⟩ := hc i hi
  have hk2 : ∀ j v, w.cell? ⟨g, j, none⟩ = some v → w'.cell? ⟨g, j, none⟩ = some v := fun j v hv => (World.cell?_of_block (a := ⟨g, j, none⟩) (hk g hg (World.block_lt_of_cell? w _ hv))).trans hv
  exact ⟨hk2 _ _ h0, hk2 _ _ h1, hk2 _ _ h2, h3, h4, P, m, c, q, hk2 _ _ h5, hk2 _ _ h6⟩
theorem Tks.tch {S : Nat → Prop} {w w' : World} {B : Nat} {A : Option Addr} {l : List Tk} (h : Tks w B A l) (t : Tch S w w') (hS : ∀ b, b < B → ¬ S b) : Tks w' B A l := h.keep (Nat.le_refl _) (fun b hb hl => t.block b hl (hS b hb))
theorem Tks.bel {w w' : World} {B : Nat} {A : Option Addr} {l : List Tk} (h : Tks w B A l) (hb : Below w.heap.size w w') : Tks w' B A l := h.keep (Nat.le_refl _) (fun b _ hl => hb.block b hl)
/-- The reader. -/
def Rdx (T : TypeId) (w : World) (R : Nat) (A : Option Addr) (c : Nat) (l : List Tk) (i : Nat) (e : Int) : Prop := Blk w R T #[.slice A l.length c, .int .i64 i, .int .i64 e]
abbrev pt (R : Nat) : Value := .pointer (some ⟨R, 0, none⟩)
abbrev On (R : Nat) : Nat → Prop := fun b => b = R
section
variable {T : TypeId} {w w' : World} {R : Nat} {A : Option Addr} {c : Nat} {l : List Tk} {i : Nat} {e : Int}
theorem Rdx.cells (h : Rdx T w R A c l i e) : w.cell? ⟨R, 0, none⟩ = some (.slice A l.length c) ∧ w.cell? ⟨R, 1, none⟩ = some (.int .i64 i) ∧ w.cell? ⟨R, 2, none⟩ = some (.int .i64 e) := ⟨Blk.cell h 0, Blk.cell h 1, Blk.cell h 2⟩
theorem Rdx.setI (h : Rdx T w R A c l i e) (k : Nat) : Rdx T (w.setCell ⟨R, 1, none⟩ (.int .i64 k)) R A c l k e := Blk.set_ h 1 _
theorem Rdx.setE (h : Rdx T w R A c l i e) (k : Int) : Rdx T (w.setCell ⟨R, 2, none⟩ (.int .i64 k)) R A c l i k := Blk.set_ h 2 _
theorem Rdx.drewN (h : Rdx T w R A c l i e) (n : Nat) : Rdx T (w.drewN n) R A c l i e := h
theorem Rdx.next (h : Rdx T w R A c l i e) (hb : Below w.heap.size w w') : Rdx T w' R A c l i e := Blk.next h hb
theorem Rdx.tch {S : Nat → Prop} (h : Rdx T w R A c l i e) (t : Tch S w w') (hR : ¬ S R) : Rdx T w' R A c l i e := Blk.tch h t hR
end
abbrev RP : TypeId := 62
abbrev RQ : TypeId := 72
theorem drew_two (w : World) (a b : Nat) : (w.drewN a).drewN b = w.drewN (a + b) := by simp [World.drewN, Nat.add_assoc]
def signE (l : List Tk) (i : Nat) (e : Int) : ByteArray := if e = 0 then signS l i else noB
def SignPost (b : ByteArray) (w : World) (x : Ending) (w' : World) : Prop := x = .returned (.string b) ∧ ∃ m, w' = w.drewN m
set_option maxRecDepth 100000 in
set_option maxHeartbeats 1600000 in
theorem sign_c (R B : Nat) (A : Option Addr) (c : Nat) (l : List Tk) (i : Nat) (e : Int) (w : World) (h : Rdx RP w R A c l i e) (ht : Tks w B A l) :
    Calls Tryz.prog 50 #[pt R] w (SignPost (signE l i e) w) := by
  obtain ⟨k0, k1, k2⟩ := h.cells
  clear h
  unfold SignPost
  by_cases he : e = 0
  · subst he
    by_cases hlt : i < l.length
    · obtain ⟨g, o, rfl, hg, hc⟩ := ht (by omega)
      obtain ⟨h0, h1, -, -⟩ := hc i hlt
      have d : decide ((i : Int) < (l.length : Int)) = true := decide_eq_true (by omega)
      have hs : signE l i 0 = if (l[i]'hlt).kind = 4 then (l[i]'hlt).word else noB := by rw [signE, if_pos rfl, signS, List.getElem?_eq_getElem hlt]
      rw [hs]
      clear hs hc ht
      generalize (l[i]'hlt).kind = kd at *
      generalize (l[i]'hlt).word = wd at *
      generalize l.length = n at *
      by_cases h4 : kd = 4
      · have d4 : (kd == 4) = true := by simpa using h4
        rw [if_pos h4]
        clear h4
        go_enter Tryz.func50, Tryz.ntmps50
        go_wp2_with fail
        go_quiet (fail)
        go_wp2_with fail
        go_quiet (fail)
        go_wp2_with fail
        go_ret
        exact ⟨rfl, _, drew_two _ _ _⟩
      · have d4 : (kd == 4) = false := by simpa using h4
        rw [if_neg h4]
        clear h4
        go_enter Tryz.func50, Tryz.ntmps50
        go_wp2_with fail
        go_quiet (fail)
        go_wp2_with fail
        go_ret
        exact ⟨rfl, _, rfl⟩
    · have d : decide ((i : Int) < (l.length : Int)) = false := decide_eq_false (by omega)
      have hs : signE l i 0 = noB := by rw [signE, if_pos rfl, signS, List.getElem?_eq_none (by omega)]
      rw [hs]
      generalize l.length = n at *
      clear hs ht
      go_enter Tryz.func50, Tryz.ntmps50
      go_wp2_with fail
      go_quiet (fail)
      go_wp2_with fail
      go_ret
      exact ⟨rfl, _, rfl⟩
  · have d : (e == 0) = false := by simpa using he
    have hs : signE l i e = noB := by rw [signE, if_neg he]
    rw [hs]
    generalize l.length = n at *
    clear hs ht he
    go_enter Tryz.func50, Tryz.ntmps50
    go_wp2_with fail
    go_quiet (fail)
    go_wp2_with fail
    go_ret
    exact ⟨rfl, _, rfl⟩
def failS (k e : Int) : Int := if e = 0 then k else e
abbrev zV : Array Value := #[.int .i64 0, .int .i64 0, .string noB, .string noB, .slice none 0 0]
theorem ex_size : (Tryz.prog.info? 24).map (·.size) = some 5 := by kernel_rfl
section
variable {ops : Array Oper} {rest : List Oper} {o : Oper} {a : Act} {w : World} {Q : Exit → Act → World → Prop}
/-- A whole expression stored. -/
theorem store5 (hgd : o.guard = none) (x y : Operand) (ho : o.op = .store 24 x y) (g : Nat) (cs old : Array Value) (hx : a.eval x = pt g) (hy : a.eval y = .agg cs) (hg : Blk w g 24 old) (hc : cs.size = 5) (hold : old.size = 5) (h1 : cs.all (·.oneCell') = true)
    (h : wpList Tryz.prog ops Q rest (a.put o.dst undef) (w.setRow g cs)) : wpList Tryz.prog ops Q (o :: rest) a w :=
  wpList_store_row hgd 24 x y ho g cs hx hy 24 old hg (by rw [ex_size, hc]) (by rw [hold, hc]) h1 h
/-- A whole expression loaded. -/
theorem load5 (hgd : o.guard = none) (x : Operand) (ho : o.op = .load 24 x) (g : Nat) (cs : Array Value) (hx : a.eval x = pt g) (hg : Blk w g 24 cs) (hc : cs.size = 5)
    (h : wpList Tryz.prog ops Q rest (a.put o.dst (.agg cs)) w) : wpList Tryz.prog ops Q (o :: rest) a w :=
  wpList_load_row hgd 24 x ho g hx 24 cs (0, 0) _ hg Tryz.underlying24 rfl (by rw [ex_size, hc]) h
end
theorem results5 {fn : Func} {p : Tmp} (h : fn.results = #[.cell p 24]) (tmps : Array Value) (w : World) (g : Nat) (cs : Array Value) (hp : tmps.getD p undef = pt g) (hg : Blk w g 24 cs) (hc : cs.size = 5) :
    (results fn tmps).run Tryz.prog w = .ok (.agg cs) w :=
  results_cell_row h tmps w g 24 cs (0, 0) _ hp hg Tryz.underlying24 rfl (by rw [ex_size, hc])
theorem Rdx.far {T : TypeId} {w : World} {R : Nat} {A : Option Addr} {c : Nat} {l : List Tk} {i : Nat} {e : Int} (h : Rdx T w R A c l i e) {p : Addr} (hp : R ≠ p.block) (u : Value) : Rdx T (w.setCell p u) R A c l i e := Blk.far h hp u
/-- Five cells written one behind the other. -/
abbrev put5 (w : World) (g : Nat) (v0 v1 v2 v3 v4 : Value) : World := ((((w.setCell ⟨g, 0, none⟩ v0).setCell ⟨g, 1, none⟩ v1).setCell ⟨g, 2, none⟩ v2).setCell ⟨g, 3, none⟩ v3).setCell ⟨g, 4, none⟩ v4
section
variable {w : World} {g : Nat} {T : TypeId} {v0 v1 v2 v3 v4 : Value}
theorem put5_blk {u0 u1 u2 u3 u4 : Value} (h : Blk w g T #[u0, u1, u2, u3, u4]) (v0 v1 v2 v3 v4 : Value) : Blk (put5 w g v0 v1 v2 v3 v4) g T #[v0, v1, v2, v3, v4] :=
  ((((h.set_ 0 v0).set_ 1 v1).set_ 2 v2).set_ 3 v3).set_ 4 v4
theorem put5_far {b : Nat} {cs : Array Value} (h : Blk w b T cs) (hb : b ≠ g) (v0 v1 v2 v3 v4 : Value) : Blk (put5 w g v0 v1 v2 v3 v4) b T cs :=
  ((((h.far (p := ⟨g, 0, none⟩) hb v0).far (p := ⟨g, 1, none⟩) hb v1).far (p := ⟨g, 2, none⟩) hb v2).far (p := ⟨g, 3, none⟩) hb v3).far (p := ⟨g, 4, none⟩) hb v4
theorem setn_tch {S : Nat → Prop} {a : World} (h : Tch S a w) {p : Addr} (hg : a.heap.size ≤ p.block) (v : Value) : Tch S a (w.setCell p v) :=
  ⟨h.os, h.tape, h.output, by simpa [World.setCell] using h.size, fun i hi hs => (Below.heap_setCell w p v i (by omega)).trans (h.block i hi hs)⟩
theorem put5_tch {S : Nat → Prop} {a : World} (h : Tch S a w) (hg : a.heap.size ≤ g) (v0 v1 v2 v3 v4 : Value) : Tch S a (put5 w g v0 v1 v2 v3 v4) :=
  setn_tch (p := ⟨g, 4, none⟩) (setn_tch (p := ⟨g, 3, none⟩) (setn_tch (p := ⟨g, 2, none⟩) (setn_tch (p := ⟨g, 1, none⟩) (setn_tch (p := ⟨g, 0, none⟩) h hg v0) hg v1) hg v2) hg v3) hg v4
end
set_option maxRecDepth 100000 in
set_option maxHeartbeats 1600000 in
theorem fail_c (R : Nat) (A : Option Addr) (c : Nat) (l : List Tk) (i : Nat) (e k : Int) (w : World) (h : Rdx RP w R A c l i e) :
    Calls Tryz.prog 82 #[pt R, .int .i64 k] w fun x w' => x = .returned (.agg zV) ∧ Rdx RP w' R A c l i (failS k e) ∧ Tch (On R) w w' := by
  have hlt := Blk.lt h
  obtain ⟨w1, hw1⟩ : ∃ z : World, w.alloc (.cells zV 24) = z := ⟨_, rfl⟩
  have X1 : Blk w1 w.heap.size 24 zV := by rw [← hw1]; exact Blk.new _ _ _
  have h1 : Rdx RP w1 R A c l i e := by rw [← hw1]; exact h.next (by go_grown)
  have T1 : Tch (On R) w w1 := by rw [← hw1]; exact (Tch.refl _ _).alloc _
  obtain ⟨k0, k1, k2⟩ := h1.cells
  have f2 := Blk.loose h1 2
  by_cases he : e = 0
  · subst he
    have h2 := h1.setE k
    have T2 := T1.setCell (p := ⟨R, 2, none⟩) rfl (.int .i64 k)
    have X2 : Blk (w1.setCell ⟨R, 2, none⟩ (.int .i64 k)) w.heap.size 24 zV := X1.far (p := ⟨R, 2, none⟩) (by show w.heap.size ≠ R; omega) _
    have H := Lib.hid (show Rdx RP (put5 (w1.setCell ⟨R, 2, none⟩ (.int .i64 k)) w.heap.size (.int .i64 0) (.int .i64 0) (.string noB) (.string noB) (.slice none 0 0)) R A c l i k from put5_far h2 (by omega) _ _ _ _ _)
    have T := Lib.hid (put5_tch T2 (g := w.heap.size) (Nat.le_refl _) (.int .i64 0) (.int .i64 0) (.string noB) (.string noB) (.slice none 0 0))
    have RB := Lib.hid (put5_blk X2 (.int .i64 0) (.int .i64 0) (.string noB) (.string noB) (.slice none 0 0))
    have p0 := X1.cell 0
    have r0 := X1.loose 0
    have p1 := X1.cell 1
    have r1 := X1.loose 1
    have p2 := X1.cell 2
    have r2 := X1.loose 2
    have p3 := X1.cell 3
    have r3 := X1.loose 3
    have p4 := X1.cell 4
    have r4 := X1.loose 4
    simp only [List.getElem?_toArray, List.getElem?_cons_zero, List.getElem?_cons_succ] at p0 p1 p2 p3 p4
    clear h h1 T1 h2 T2 X2
    generalize l.length = n at *
    go_enter Tryz.func82, Tryz.ntmps82
    go_wp2_with fail
    refine bodyPost_ret (results5 (by rfl) _ _ w.heap.size zV (by rfl) RB.out (by rfl)) rfl ⟨rfl, H.out, T.out⟩
  · have d : (e == 0) = false := by simpa using he
    have H := Lib.hid (show Rdx RP (put5 w1 w.heap.size (.int .i64 0) (.int .i64 0) (.string noB) (.string noB) (.slice none 0 0)) R A c l i e from put5_far h1 (by omega) _ _ _ _ _)
    have T := Lib.hid (put5_tch T1 (g := w.heap.size) (Nat.le_refl _) (.int .i64 0) (.int .i64 0) (.string noB) (.string noB) (.slice none 0 0))
    have RB := Lib.hid (put5_blk X1 (.int .i64 0) (.int .i64 0) (.string noB) (.string noB) (.slice none 0 0))
    have d2 : failS k e = e := if_neg he
    rw [d2]
    have p0 := X1.cell 0
    have r0 := X1.loose 0
    have p1 := X1.cell 1
    have r1 := X1.loose 1
    have p2 := X1.cell 2
    have r2 := X1.loose 2
    have p3 := X1.cell 3
    have r3 := X1.loose 3
    have p4 := X1.cell 4
    have r4 := X1.loose 4
    simp only [List.getElem?_toArray, List.getElem?_cons_zero, List.getElem?_cons_succ] at p0 p1 p2 p3 p4
    clear h h1 T1 d2 he
    generalize l.length = n at *
    go_enter Tryz.func82, Tryz.ntmps82
    go_wp2_with fail
    refine bodyPost_ret (results5 (by rfl) _ _ w.heap.size zV (by rfl) RB.out (by rfl)) rfl ⟨rfl, H.out, T.out⟩
set_option maxRecDepth 100000 in
theorem deep_c (R : Nat) (A : Option Addr) (c : Nat) (l : List Tk) (i : Nat) (d : Int) (hd : 0 ≤ d ∧ d ≤ 64) (hi : i ≤ 1048576) (w : World) (h : Rdx RP w R A c l i 0) :
    Calls Tryz.prog 52 #[pt R, .int .i64 d] w fun x w' => x = .returned (.bool (decide (d < 64))) ∧ (if d < 64 then Rdx RP w' R A c l (i + 1) 0 else Rdx RP w' R A c l i 8) ∧ Tch (On R) w w' := by
  obtain ⟨k0, k1, k2⟩ := h.cells
  have f1 := Blk.loose h 1
  by_cases h6 : d < 64
  · have e6 : decide (d < 64) = true := decide_eq_true h6
    simp only [if_pos h6]
    have H := Lib.hid (h.setI (i + 1))
    have T := Lib.hid ((Tch.refl (On R) w).setCell (p := ⟨R, 1, none⟩) rfl (.int .i64 ((i + 1 : Nat) : Int)))
    rw [e6]
    clear h h6
    rw [Int.natCast_add, Int.natCast_one] at H T
    generalize l.length = n at *
    go_enter Tryz.func52, Tryz.ntmps52
    go_wp2_with fail
    go_ret
    exact ⟨rfl, H.out, T.out⟩
  · have e6 : decide (d < 64) = false := decide_eq_false h6
    have c1 := fail_c R A c l i 0 8 w h
    simp only [if_neg h6, e6]
    clear h h6
    generalize l.length = n at *
    go_enter Tryz.func52, Tryz.ntmps52
    go_wp2_with fail
    (with_reducible refine c1.mono ?_)
    rintro x w2 ⟨rfl, h2, t2⟩
    go_wp2_with fail
    go_ret
    exact ⟨rfl, h2, t2⟩
end ExpW
end Go.Proofs.YtchceoclkdofhaaGreatDoor
