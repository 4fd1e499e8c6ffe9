/- The reference's Scan of one token's text, its Same, Text and Join at tokens of an expression: walked. Conditions: such tokens. -/
import Derived.Test.YtchceoclkdofhaaGreatDoorExpTx
import Derived.Test.YtchceoclkdofhaaGreatDoorExpPr
import Derived.Test.YtchceoclkdofhaaGreatDoorTok
namespace Go.Proofs.YtchceoclkdofhaaGreatDoor
set_option linter.unusedVariables false
set_option linter.unusedSimpArgs false
open Go.RowKit
namespace ExpW
open CalP CalW ExpP ExpT QuoP Tok
set_option maxRecDepth 100000 in
set_option maxHeartbeats 3200000 in
theorem scan1_c (s : ByteArray) (t : Tk) (hs : s.size ≤ 2000) (h0 : 0 < s.size) (hb : Beg s) (ho : oneX s 0 = some (t, s.size)) (hk : t.kind ≠ 3) (w : World) :
    Calls Tryz.prog 13 #[.string s] w fun x w' => ∃ v, x = .returned (.tuple #[v, .int .i64 0, .int .i64 0]) ∧ OwnT w' w.heap.size v [t] ∧ Below w.heap.size w w' := by
  have d : decide ((2000 : Int) < (s.size : Int)) = false := decide_eq_false (by omega)
  obtain ⟨c, hc, hc1, hc2⟩ := hb
  have hsc : s.data.toList[0]? = some (s[0]'h0) := List.getElem?_eq_getElem (by rw [← Lib.size_eq]; exact h0)
  rw [hsc] at hc
  injection hc with hc
  rw [← hc] at hc1 hc2
  have q32 := eqc (s[0]'h0) 32
  have q9 := eqc (s[0]'h0) 9
  have q10 := eqc (s[0]'h0) 10
  have q35 := eqc (s[0]'h0) 35
  rw [show ((32 : UInt8).toNat : Int) = 32 from rfl, decide_eq_false (fun h => hc1 (.inl h))] at q32
  rw [show ((9 : UInt8).toNat : Int) = 9 from rfl, decide_eq_false (fun h => hc1 (.inr (.inl h)))] at q9
  rw [show ((10 : UInt8).toNat : Int) = 10 from rfl, decide_eq_false (fun h => hc1 (.inr (.inr h)))] at q10
  rw [show ((35 : UInt8).toNat : Int) = 35 from rfl, decide_eq_false hc2] at q35
  clear hc hc1 hc2 hsc
  have ct := tok_c s 0 h0 hs w
  unfold OnePost at ct
  have ct' : Calls Tryz.prog 29 #[.string s, .int .i64 0] w _ := ct
  clear ct
  have d0 : decide ((0 : Int) < (s.size : Int)) = true := decide_eq_true (by omega)
  have dn : decide ((s.size : Int) < (s.size : Int)) = false := decide_eq_false (by omega)
  go_enter Tryz.func13, Tryz.ntmps13
  go_wp2_with fail
  go_loopw [5, 6] (fun ov iv wr => (OwnT wr w.heap.size ov [] ∧ iv = .int .i64 0 ∧ w = wr) ∨ (iv = .int .i64 s.size ∧ OwnT wr w.heap.size ov [t] ∧ Below w.heap.size w wr)) (fun _ iv _ => s.size - (intOf iv).toNat)
  case atStart => exact .inl ⟨World.ownsRow_nil _ _ _ _, rfl, rfl⟩
  case round =>
    rcases hrel with ⟨hov, rfl, rfl⟩ | ⟨rfl, hown, hB⟩
    rotate_left
    · clear ct' q32 q9 q10 q35
      go_wp2_with fail
      go_ret3
      exact ⟨_, rfl, hown, hB⟩
    go_wp2_with fail
    (with_reducible refine ct'.mono ?_)
    clear ct'
    rintro x9 w2 ⟨b2, ⟨t', sl, q, e, ho', hle, rfl, hq, hsl, hn, hw, P, m, c, hP⟩ | ⟨b, er, ho', hne, rfl⟩⟩
    rotate_left
    · rw [ho] at ho'; cases ho'
    rw [ho] at ho'
    injection ho' with ho'
    injection ho' with e1 e2
    subst e1 e2
    have hsl' := hsl hk
    subst hsl'
    subst hq
    clear hsl hP hle hw hn q32 q9 q10 q35 ho
    have hz := b2.size
    have st3 := own_bel hov b2
    have hlt3 := hov.lt
    have B3 : Below w.heap.size w (w2.alloc (.cells #[.int .i64 t.kind, .string t.word, .int .i64 t.n, .slice none 0 0, .int .i64 0] 47)) := b2.alloc hz _
    clear hk
    rw [show ((0 : Nat) : Int) = 0 from rfl]
    go_wp2_with (at_builtin; refine app_list (l := []) rfl _ _ (by rfl) ((st3.alloc (.cells #[.int .i64 t.kind, .string t.word, .int .i64 t.n, .slice none 0 0, .int .i64 0] 47)).alloc (.cells (tk0 t).toArray 47)) (by rw [World.size_alloc, World.size_alloc]; omega) (by first | rfl | simp [Act.eval, Act.put]) (w2.heap.size + 1) 1 t (by rfl) (Blk.new1 w2 _ _ _) (by simp) ?_)
    intro vN w5 oo gg
    have b5 : Below w.heap.size w w5 := gg.below (B3.alloc B3.size _) (by rw [World.size_alloc, World.size_alloc]; omega) (fun g e => (hlt3 g e).1)
    clear st3 gg hov hlt3 B3
    go_wp2_with fail
    go_roundw
    case rel => exact .inr ⟨rfl, oo, b5⟩
    case measure => simp [intOf]; omega
theorem psame0_c (w : World) : Calls Tryz.prog 37 #[.slice none 0 0, .slice none 0 0] w fun x w' => x = .returned (.bool true) ∧ Below w.heap.size w w' := by
  go_enter Tryz.func37, Tryz.ntmps37
  go_wp2_with fail
  go_loop [5] (fun kv => kv = .int .i64 0) (fun kv => 0)
  case atStart => rfl
  case round =>
    subst hrel
    go_wp2_with fail
    go_ret
    exact ⟨rfl, Below.refl _ _⟩
set_option maxRecDepth 100000 in
set_option maxHeartbeats 1600000 in
theorem tsame_c (t : Tk) (w : World) : Calls Tryz.prog 20 #[.agg (tk0 t).toArray, .agg (tk0 t).toArray] w fun x w' => x = .returned (.bool true) ∧ Below w.heap.size w w' := by
  obtain ⟨k, s, n⟩ := t
  show Calls Tryz.prog 20 #[.agg #[.int .i64 k, .string s, .int .i64 n, .slice none 0 0, .int .i64 0], .agg #[.int .i64 k, .string s, .int .i64 n, .slice none 0 0, .int .i64 0]] w _
  have e1 : (k == k) = true := by simp
  have e2 : (s.toList == s.toList) = true := by simp
  have e3 : (n == n) = true := by simp
  have cp := fun W => psame0_c W
  go_enter Tryz.func20, Tryz.ntmps20
  go_wp2_with fail
  (with_reducible refine (cp _).mono ?_)
  rintro x w2 ⟨rfl, b2⟩
  have b1 : Below w.heap.size w w2 := via b2 (by go_grown)
  go_wp2_with fail
  go_ret
  exact ⟨rfl, b1⟩
/-- The text of a token: what all kinds share. -/
def TxtPost (S : ByteArray) (w : World) (x : Ending) (w' : World) : Prop := x = .returned (.tuple #[.string S, .int .i64 0]) ∧ Below w.heap.size w w'
theorem own_one {w : World} {B : Nat} {v : Value} {t : Tk} (h : OwnT w B v [t]) : ∃ A c, v = .slice A 1 c ∧ ∃ g, A = some ⟨g, 0, none⟩ ∧ ∀ j u, (tk0 t)[j]? = some u → w.cell? ⟨g, j, none⟩ = some u := by
  rcases h.2 with ⟨_, h0⟩ | ⟨g, cap, cur, rfl, hrest⟩
  · cases h0
  · refine ⟨_, _, rfl, g, rfl, fun j u hu => ?_⟩
    have hj : j < (tk0 t).length := (List.getElem?_eq_some_iff.1 hu).1
    have := World.ownsRow.cellAt h j (by simpa using hj)
    rw [this]
    simpa using hu
set_option maxRecDepth 100000 in
set_option maxHeartbeats 6400000 in
theorem rtext4_c  (S : ByteArray) (hS : S.size ≤ 1010) (h0 : 0 < S.size) (hb : Beg S) (ho : oneX S 0 = some (⟨4, S, 0⟩, S.size)) (w : World) :
    Calls Tryz.prog 38 #[.agg #[.int .i64 4, .string S, .int .i64 0, .slice none 0 0, .int .i64 0]] w (TxtPost S w) := by
  have HC1 := Lib.hid (fun W => scan1_c S ⟨4, S, 0⟩ (by omega) h0 hb ho (by simp) W)
  have HSM := Lib.hid (fun W => tsame_c ⟨4, S, 0⟩ W)
  have d20 : decide ((2000 : Int) < (S.size : Int)) = false := decide_eq_false (by omega)
  clear ho hb
  obtain ⟨wa, hwa⟩ : ∃ z : World, w.alloc (.cells #[.int .i64 4, .string S, .int .i64 0, .slice none 0 0, .int .i64 0] 47) = z := ⟨_, rfl⟩
  have xa : Blk wa w.heap.size 47 #[.int .i64 4, .string S, .int .i64 0, .slice none 0 0, .int .i64 0] := by rw [← hwa]; exact Blk.new _ _ _
  have ba : Below w.heap.size w wa := by rw [← hwa]; go_grown
  have p0 := xa.cell 0
  have p1 := xa.cell 1
  have p2 := xa.cell 2
  have p3 := xa.cell 3
  have p4 := xa.cell 4
  simp only [List.getElem?_toArray, List.getElem?_cons_zero, List.getElem?_cons_succ] at p0 p1 p2 p3 p4
  go_enter Tryz.func38, Tryz.ntmps38
  go_upto_region 1 with fail
  try rw [hwa]
  clear hwa
  obtain ⟨wb, hwb⟩ : ∃ z, z = wa := ⟨_, rfl⟩
  have xb : Blk wb w.heap.size 47 #[.int .i64 4, .string S, .int .i64 0, .slice none 0 0, .int .i64 0] := by rw [hwb]; exact xa
  have bb : Below w.heap.size w wb := by rw [hwb]; exact ba
  subst hwb
  clear xa ba

  have c1 := HC1.out wb
  clear HC1
  go_wp2_with fail
  (with_reducible refine c1.mono ?_)
  clear c1
  rintro x w2 ⟨v, rfl, ov, b2⟩
  have x2 := xb.next b2
  have B2 := via b2 bb
  obtain ⟨A2, c2, rfl, hcell⟩ := own_one ov
  obtain ⟨g2, rfl, hg2⟩ := hcell
  have hne : (w.heap.size == g2) = false := by
    have h1 := (ov.lt g2 rfl).1
    have h2 := xb.lt
    simp; omega
  have hne2 : g2 ≠ w.heap.size := by
    have h1 := (ov.lt g2 rfl).1
    have h2 := xb.lt
    omega
  clear xb bb b2 ov
  have q0 := hg2 0 _ rfl
  have q1 := hg2 1 _ rfl
  have q2 := hg2 2 _ rfl
  have q3 := hg2 3 _ rfl
  have q4 := hg2 4 _ rfl
  dsimp only at q0 q1 q2 q3 q4
  -- the store of the place: the same again
  have l4 := x2.loose 4
  have p4 := x2.cell 4
  simp only [List.getElem?_toArray, List.getElem?_cons_zero, List.getElem?_cons_succ] at p4
  go_upto_region 16 with fail
  obtain ⟨w3, hw3⟩ : ∃ z : World, w2.setCell ⟨w.heap.size, 4, none⟩ (.int .i64 0) = z := ⟨_, rfl⟩
  have x3 : Blk w3 w.heap.size 47 #[.int .i64 4, .string S, .int .i64 0, .slice none 0 0, .int .i64 0] := by rw [← hw3]; exact x2.set_ 4 _
  have B3 : Below w.heap.size w w3 := by rw [← hw3]; exact B2.setCell (Nat.le_refl _) _
  have r0 : w3.cell? ⟨g2, 0, none⟩ = some (.int .i64 4) := by rw [← hw3, World.cell?_setCell_far _ _ _ _ hne2.symm]; exact q0
  have r1 : w3.cell? ⟨g2, 1, none⟩ = some (.string S) := by rw [← hw3, World.cell?_setCell_far _ _ _ _ hne2.symm]; exact q1
  have r2 : w3.cell? ⟨g2, 2, none⟩ = some (.int .i64 0) := by rw [← hw3, World.cell?_setCell_far _ _ _ _ hne2.symm]; exact q2
  have r3 : w3.cell? ⟨g2, 3, none⟩ = some (.slice none 0 0) := by rw [← hw3, World.cell?_setCell_far _ _ _ _ hne2.symm]; exact q3
  have r4 : w3.cell? ⟨g2, 4, none⟩ = some (.int .i64 0) := by rw [← hw3, World.cell?_setCell_far _ _ _ _ hne2.symm]; exact q4
  try rw [hw3]
  clear hw3 x2 B2 q0 q1 q2 q3 q4 l4 p4 hg2
  have b3 : ∀ x : Cls w3, Below w3.heap.size w3 x.val := fun x => x.ok
  have m1 : ∀ x : Cls w3, Calls Tryz.prog 20 #[.agg #[.int .i64 4, .string S, .int .i64 0, .slice none 0 0, .int .i64 0], .agg #[.int .i64 4, .string S, .int .i64 0, .slice none 0 0, .int .i64 0]] x.val fun e w'' => e = .returned (.bool true) ∧ ∃ y : Cls w3, w'' = y.val := fun x => call_cls (x := x) (v := .bool true) (HSM.out x.val)
  have hlt : g2 < w3.heap.size := World.block_lt_of_cell? _ _ r0
  have s0 := fun x : Cls w3 => (x.ok.cell (p := ⟨g2, 0, none⟩) hlt).trans r0
  have s1 := fun x : Cls w3 => (x.ok.cell (p := ⟨g2, 1, none⟩) hlt).trans r1
  have s2 := fun x : Cls w3 => (x.ok.cell (p := ⟨g2, 2, none⟩) hlt).trans r2
  have s3 := fun x : Cls w3 => (x.ok.cell (p := ⟨g2, 3, none⟩) hlt).trans r3
  have s4 := fun x : Cls w3 => (x.ok.cell (p := ⟨g2, 4, none⟩) hlt).trans r4
  have p0 := fun x : Cls w3 => x3.cls x 0
  have p1 := fun x : Cls w3 => x3.cls x 1
  have p2 := fun x : Cls w3 => x3.cls x 2
  have p3 := fun x : Cls w3 => x3.cls x 3
  have p4 := fun x : Cls w3 => x3.cls x 4
  simp only [List.getElem?_toArray, List.getElem?_cons_zero, List.getElem?_cons_succ] at p0 p1 p2 p3 p4
  clear r0 r1 r2 r3 r4 x3 b3 HSM hne hne2 hlt
  go_simp
  refine wp_region_cls (by kernel_rfl) (by kernel_rfl) ?_
  repeat (quiet_step (first
    | (go_at_call 20; with_reducible exact m1 _)))
  refine wpQuiet_nil ?_
  rintro _ ⟨z, rfl⟩
  have B7 := via z.ok B3
  clear m1 p0 p1 p2 p3 p4 s0 s1 s2 s3 s4
  generalize z.val = w7 at *
  go_wp2_with fail
  go_ret2
  exact ⟨rfl, B7⟩
set_option maxRecDepth 100000 in
set_option maxHeartbeats 6400000 in
theorem rtext6_c (nm : ByteArray) (S : ByteArray) (hS : S.size ≤ 1010) (h0 : 0 < S.size) (hb : Beg S) (ho : oneX S 0 = some (⟨6, nm, 0⟩, S.size)) (hcat : (⟨#[36]⟩ : ByteArray) ++ nm = S) (hnm : nm.size ≤ 1010) (w : World) :
    Calls Tryz.prog 38 #[.agg #[.int .i64 6, .string nm, .int .i64 0, .slice none 0 0, .int .i64 0]] w (TxtPost S w) := by
  have HC1 := Lib.hid (fun W => scan1_c S ⟨6, nm, 0⟩ (by omega) h0 hb ho (by simp) W)
  have HSM := Lib.hid (fun W => tsame_c ⟨6, nm, 0⟩ W)
  have d20 : decide ((2000 : Int) < (S.size : Int)) = false := decide_eq_false (by omega)
  clear ho hb
  obtain ⟨wa, hwa⟩ : ∃ z : World, w.alloc (.cells #[.int .i64 6, .string nm, .int .i64 0, .slice none 0 0, .int .i64 0] 47) = z := ⟨_, rfl⟩
  have xa : Blk wa w.heap.size 47 #[.int .i64 6, .string nm, .int .i64 0, .slice none 0 0, .int .i64 0] := by rw [← hwa]; exact Blk.new _ _ _
  have ba : Below w.heap.size w wa := by rw [← hwa]; go_grown
  have p0 := xa.cell 0
  have p1 := xa.cell 1
  have p2 := xa.cell 2
  have p3 := xa.cell 3
  have p4 := xa.cell 4
  simp only [List.getElem?_toArray, List.getElem?_cons_zero, List.getElem?_cons_succ] at p0 p1 p2 p3 p4
  go_enter Tryz.func38, Tryz.ntmps38
  go_upto_region 1 with fail
  try rw [hwa]
  clear hwa
  obtain ⟨wb, hwb⟩ : ∃ z, z = wa := ⟨_, rfl⟩
  have xb : Blk wb w.heap.size 47 #[.int .i64 6, .string nm, .int .i64 0, .slice none 0 0, .int .i64 0] := by rw [hwb]; exact xa
  have bb : Below w.heap.size w wb := by rw [hwb]; exact ba
  subst hwb
  clear xa ba
  have hnz : nm.size ≤ 1010 := hnm

  have c1 := HC1.out wb
  clear HC1
  go_wp2_with fail
  (with_reducible refine c1.mono ?_)
  clear c1
  rintro x w2 ⟨v, rfl, ov, b2⟩
  have x2 := xb.next b2
  have B2 := via b2 bb
  obtain ⟨A2, c2, rfl, hcell⟩ := own_one ov
  obtain ⟨g2, rfl, hg2⟩ := hcell
  have hne : (w.heap.size == g2) = false := by
    have h1 := (ov.lt g2 rfl).1
    have h2 := xb.lt
    simp; omega
  have hne2 : g2 ≠ w.heap.size := by
    have h1 := (ov.lt g2 rfl).1
    have h2 := xb.lt
    omega
  clear xb bb b2 ov
  have q0 := hg2 0 _ rfl
  have q1 := hg2 1 _ rfl
  have q2 := hg2 2 _ rfl
  have q3 := hg2 3 _ rfl
  have q4 := hg2 4 _ rfl
  dsimp only at q0 q1 q2 q3 q4
  -- the store of the place: the same again
  have l4 := x2.loose 4
  have p4 := x2.cell 4
  simp only [List.getElem?_toArray, List.getElem?_cons_zero, List.getElem?_cons_succ] at p4
  go_upto_region 16 with fail
  obtain ⟨w3, hw3⟩ : ∃ z : World, w2.setCell ⟨w.heap.size, 4, none⟩ (.int .i64 0) = z := ⟨_, rfl⟩
  have x3 : Blk w3 w.heap.size 47 #[.int .i64 6, .string nm, .int .i64 0, .slice none 0 0, .int .i64 0] := by rw [← hw3]; exact x2.set_ 4 _
  have B3 : Below w.heap.size w w3 := by rw [← hw3]; exact B2.setCell (Nat.le_refl _) _
  have r0 : w3.cell? ⟨g2, 0, none⟩ = some (.int .i64 6) := by rw [← hw3, World.cell?_setCell_far _ _ _ _ hne2.symm]; exact q0
  have r1 : w3.cell? ⟨g2, 1, none⟩ = some (.string nm) := by rw [← hw3, World.cell?_setCell_far _ _ _ _ hne2.symm]; exact q1
  have r2 : w3.cell? ⟨g2, 2, none⟩ = some (.int .i64 0) := by rw [← hw3, World.cell?_setCell_far _ _ _ _ hne2.symm]; exact q2
  have r3 : w3.cell? ⟨g2, 3, none⟩ = some (.slice none 0 0) := by rw [← hw3, World.cell?_setCell_far _ _ _ _ hne2.symm]; exact q3
  have r4 : w3.cell? ⟨g2, 4, none⟩ = some (.int .i64 0) := by rw [← hw3, World.cell?_setCell_far _ _ _ _ hne2.symm]; exact q4
  try rw [hw3]
  clear hw3 x2 B2 q0 q1 q2 q3 q4 l4 p4 hg2
  have b3 : ∀ x : Cls w3, Below w3.heap.size w3 x.val := fun x => x.ok
  have m1 : ∀ x : Cls w3, Calls Tryz.prog 20 #[.agg #[.int .i64 6, .string nm, .int .i64 0, .slice none 0 0, .int .i64 0], .agg #[.int .i64 6, .string nm, .int .i64 0, .slice none 0 0, .int .i64 0]] x.val fun e w'' => e = .returned (.bool true) ∧ ∃ y : Cls w3, w'' = y.val := fun x => call_cls (x := x) (v := .bool true) (HSM.out x.val)
  have hlt : g2 < w3.heap.size := World.block_lt_of_cell? _ _ r0
  have s0 := fun x : Cls w3 => (x.ok.cell (p := ⟨g2, 0, none⟩) hlt).trans r0
  have s1 := fun x : Cls w3 => (x.ok.cell (p := ⟨g2, 1, none⟩) hlt).trans r1
  have s2 := fun x : Cls w3 => (x.ok.cell (p := ⟨g2, 2, none⟩) hlt).trans r2
  have s3 := fun x : Cls w3 => (x.ok.cell (p := ⟨g2, 3, none⟩) hlt).trans r3
  have s4 := fun x : Cls w3 => (x.ok.cell (p := ⟨g2, 4, none⟩) hlt).trans r4
  have p0 := fun x : Cls w3 => x3.cls x 0
  have p1 := fun x : Cls w3 => x3.cls x 1
  have p2 := fun x : Cls w3 => x3.cls x 2
  have p3 := fun x : Cls w3 => x3.cls x 3
  have p4 := fun x : Cls w3 => x3.cls x 4
  simp only [List.getElem?_toArray, List.getElem?_cons_zero, List.getElem?_cons_succ] at p0 p1 p2 p3 p4
  clear r0 r1 r2 r3 r4 x3 b3 HSM hne hne2 hlt
  go_simp
  refine wp_region_cls (by kernel_rfl) (by kernel_rfl) ?_
  repeat (quiet_step (first
    | (go_at_call 20; with_reducible exact m1 _)))
  refine wpQuiet_nil ?_
  rintro _ ⟨z, rfl⟩
  have B7 := via z.ok B3
  clear m1 p0 p1 p2 p3 p4 s0 s1 s2 s3 s4
  generalize z.val = w7 at *
  go_wp2_with fail
  go_ret2
  exact ⟨rfl, B7⟩
theorem rprint_x (n : Int) (h0 : 0 ≤ n) (h1 : n ≤ 9223372036854775807) (w : World) : Calls Tryz.prog 60 #[.int .i64 n] w fun e w' => e = .returned (.string ⟨(Lib.itoa n).toArray⟩) ∧ Below w.heap.size w w' := NumW.rprint_c n w (by omega) h1
set_option maxRecDepth 100000 in
set_option maxHeartbeats 6400000 in
theorem rtext2_c (n : Int) (hn0 : 0 ≤ n) (hn1 : n ≤ 9223372036854775807) (S : ByteArray) (hS : S.size ≤ 1010) (h0 : 0 < S.size) (hb : Beg S) (ho : oneX S 0 = some (⟨2, noB, n⟩, S.size)) (hpr : (⟨(Lib.itoa n).toArray⟩ : ByteArray) = S) (w : World) :
    Calls Tryz.prog 38 #[.agg #[.int .i64 2, .string noB, .int .i64 n, .slice none 0 0, .int .i64 0]] w (TxtPost S w) := by
  have HC1 := Lib.hid (fun W => scan1_c S ⟨2, noB, n⟩ (by omega) h0 hb ho (by simp) W)
  have HSM := Lib.hid (fun W => tsame_c ⟨2, noB, n⟩ W)
  have d20 : decide ((2000 : Int) < (S.size : Int)) = false := decide_eq_false (by omega)
  clear ho hb
  obtain ⟨wa, hwa⟩ : ∃ z : World, w.alloc (.cells #[.int .i64 2, .string noB, .int .i64 n, .slice none 0 0, .int .i64 0] 47) = z := ⟨_, rfl⟩
  have xa : Blk wa w.heap.size 47 #[.int .i64 2, .string noB, .int .i64 n, .slice none 0 0, .int .i64 0] := by rw [← hwa]; exact Blk.new _ _ _
  have ba : Below w.heap.size w wa := by rw [← hwa]; go_grown
  have p0 := xa.cell 0
  have p1 := xa.cell 1
  have p2 := xa.cell 2
  have p3 := xa.cell 3
  have p4 := xa.cell 4
  simp only [List.getElem?_toArray, List.getElem?_cons_zero, List.getElem?_cons_succ] at p0 p1 p2 p3 p4
  go_enter Tryz.func38, Tryz.ntmps38
  go_upto_region 1 with fail
  try rw [hwa]
  clear hwa
  have d0 : decide ((0 : Int) ≤ n) = true := decide_eq_true hn0
  have cp := rprint_x n hn0 hn1 wa
  rw [hpr] at cp
  clear hpr
  go_wp2_with fail
  (with_reducible refine cp.mono ?_)
  clear cp
  rintro x wb ⟨rfl, b1⟩
  have xb := xa.next b1
  have bb := via b1 ba
  clear xa ba b1 p0 p1 p2 p3 p4
  have p0 := xb.cell 0
  have p1 := xb.cell 1
  have p2 := xb.cell 2
  have p3 := xb.cell 3
  have p4 := xb.cell 4
  simp only [List.getElem?_toArray, List.getElem?_cons_zero, List.getElem?_cons_succ] at p0 p1 p2 p3 p4

  have c1 := HC1.out wb
  clear HC1
  go_wp2_with fail
  (with_reducible refine c1.mono ?_)
  clear c1
  rintro x w2 ⟨v, rfl, ov, b2⟩
  have x2 := xb.next b2
  have B2 := via b2 bb
  obtain ⟨A2, c2, rfl, hcell⟩ := own_one ov
  obtain ⟨g2, rfl, hg2⟩ := hcell
  have hne : (w.heap.size == g2) = false := by
    have h1 := (ov.lt g2 rfl).1
    have h2 := xb.lt
    simp; omega
  have hne2 : g2 ≠ w.heap.size := by
    have h1 := (ov.lt g2 rfl).1
    have h2 := xb.lt
    omega
  clear xb bb b2 ov
  have q0 := hg2 0 _ rfl
  have q1 := hg2 1 _ rfl
  have q2 := hg2 2 _ rfl
  have q3 := hg2 3 _ rfl
  have q4 := hg2 4 _ rfl
  dsimp only at q0 q1 q2 q3 q4
  -- the store of the place: the same again
  have l4 := x2.loose 4
  have p4 := x2.cell 4
  simp only [List.getElem?_toArray, List.getElem?_cons_zero, List.getElem?_cons_succ] at p4
  go_upto_region 16 with fail
  obtain ⟨w3, hw3⟩ : ∃ z : World, w2.setCell ⟨w.heap.size, 4, none⟩ (.int .i64 0) = z := ⟨_, rfl⟩
  have x3 : Blk w3 w.heap.size 47 #[.int .i64 2, .string noB, .int .i64 n, .slice none 0 0, .int .i64 0] := by rw [← hw3]; exact x2.set_ 4 _
  have B3 : Below w.heap.size w w3 := by rw [← hw3]; exact B2.setCell (Nat.le_refl _) _
  have r0 : w3.cell? ⟨g2, 0, none⟩ = some (.int .i64 2) := by rw [← hw3, World.cell?_setCell_far _ _ _ _ hne2.symm]; exact q0
  have r1 : w3.cell? ⟨g2, 1, none⟩ = some (.string noB) := by rw [← hw3, World.cell?_setCell_far _ _ _ _ hne2.symm]; exact q1
  have r2 : w3.cell? ⟨g2, 2, none⟩ = some (.int .i64 n) := by rw [← hw3, World.cell?_setCell_far _ _ _ _ hne2.symm]; exact q2
  have r3 : w3.cell? ⟨g2, 3, none⟩ = some (.slice none 0 0) := by rw [← hw3, World.cell?_setCell_far _ _ _ _ hne2.symm]; exact q3
  have r4 : w3.cell? ⟨g2, 4, none⟩ = some (.int .i64 0) := by rw [← hw3, World.cell?_setCell_far _ _ _ _ hne2.symm]; exact q4
  try rw [hw3]
  clear hw3 x2 B2 q0 q1 q2 q3 q4 l4 p4 hg2
  have b3 : ∀ x : Cls w3, Below w3.heap.size w3 x.val := fun x => x.ok
  have m1 : ∀ x : Cls w3, Calls Tryz.prog 20 #[.agg #[.int .i64 2, .string noB, .int .i64 n, .slice none 0 0, .int .i64 0], .agg #[.int .i64 2, .string noB, .int .i64 n, .slice none 0 0, .int .i64 0]] x.val fun e w'' => e = .returned (.bool true) ∧ ∃ y : Cls w3, w'' = y.val := fun x => call_cls (x := x) (v := .bool true) (HSM.out x.val)
  have hlt : g2 < w3.heap.size := World.block_lt_of_cell? _ _ r0
  have s0 := fun x : Cls w3 => (x.ok.cell (p := ⟨g2, 0, none⟩) hlt).trans r0
  have s1 := fun x : Cls w3 => (x.ok.cell (p := ⟨g2, 1, none⟩) hlt).trans r1
  have s2 := fun x : Cls w3 => (x.ok.cell (p := ⟨g2, 2, none⟩) hlt).trans r2
  have s3 := fun x : Cls w3 => (x.ok.cell (p := ⟨g2, 3, none⟩) hlt).trans r3
  have s4 := fun x : Cls w3 => (x.ok.cell (p := ⟨g2, 4, none⟩) hlt).trans r4
  have p0 := fun x : Cls w3 => x3.cls x 0
  have p1 := fun x : Cls w3 => x3.cls x 1
  have p2 := fun x : Cls w3 => x3.cls x 2
  have p3 := fun x : Cls w3 => x3.cls x 3
  have p4 := fun x : Cls w3 => x3.cls x 4
  simp only [List.getElem?_toArray, List.getElem?_cons_zero, List.getElem?_cons_succ] at p0 p1 p2 p3 p4
  clear r0 r1 r2 r3 r4 x3 b3 HSM hne hne2 hlt
  go_simp
  refine wp_region_cls (by kernel_rfl) (by kernel_rfl) ?_
  repeat (quiet_step (first
    | (go_at_call 20; with_reducible exact m1 _)))
  refine wpQuiet_nil ?_
  rintro _ ⟨z, rfl⟩
  have B7 := via z.ok B3
  clear m1 p0 p1 p2 p3 p4 s0 s1 s2 s3 s4
  generalize z.val = w7 at *
  go_wp2_with fail
  go_ret2
  exact ⟨rfl, B7⟩
end ExpW
end Go.Proofs.YtchceoclkdofhaaGreatDoor
