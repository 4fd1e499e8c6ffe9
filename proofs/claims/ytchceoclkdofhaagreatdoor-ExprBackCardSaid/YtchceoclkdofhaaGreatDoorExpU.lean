/- The reference's scanner: the token at a place. Condition: texts that fit. Printed by gen_expu.py. -/
import Derived.Test.YtchceoclkdofhaaGreatDoorExpT
import Derived.Test.YtchceoclkdofhaaGreatDoorExpRM
import Derived.Test.YtchceoclkdofhaaGreatDoorNumM
import Derived.Test.YtchceoclkdofhaaGreatDoorQuoN
namespace Go.Proofs.YtchceoclkdofhaaGreatDoor
set_option linter.unusedVariables false
set_option linter.unusedSimpArgs false
open Go.RowKit
namespace ExpT
open QuoP CalP CalW ExpP ExpW
open QuoW (smallB drop_cons)
open NumP (pv formB)
abbrev zT : Array Value := #[.int .i64 0, .string noB, .int .i64 0, .slice none 0 0, .int .i64 0]
/-- The token at a place, and the place behind it. -/
def oneX (s : ByteArray) (i : Nat) : Option (Tk × Nat) := match s.data.toList[i]? with
  | none => none
  | some c =>
    if letterB c = true then (if 14 < runN withB s i - i then none else some (⟨1, s.extract i (runN withB s i), 0⟩, runN withB s i))
    else if digB c = true then (if formB (s.extract i (runN digB s i)).data.toList = true ∧ I64 (pv (s.extract i (runN digB s i)).data.toList) then some (⟨2, noB, pv (s.extract i (runN digB s i)).data.toList⟩, runN digB s i) else none)
    else if c = 34 then (match parse (s.extract i s.size).data.toList with
      | .bad _ => none
      | .ok _ r => some (⟨3, noB, 0⟩, s.size - r.length))
    else if c = 36 then (if nameB (s.extract (i + 1) (runN withB s (i + 1))).data.toList = true then some (⟨6, s.extract (i + 1) (runN withB s (i + 1)), 0⟩, runN withB s (i + 1)) else none)
    else if c = 45 ∧ i + 1 < runN letterB s (i + 1) then (if flagB (s.extract (i + 1) (runN letterB s (i + 1))).data.toList = true then some (⟨5, s.extract (i + 1) (runN letterB s (i + 1)), 0⟩, runN letterB s (i + 1)) else none)
    else match signL.find? (fun u => decide (i + u.length ≤ s.size) && (s.extract i (i + u.length)).data.toList == u) with
      | some u => some (⟨4, baS u, 0⟩, i + u.length)
      | none => none
def OnePost (s : ByteArray) (i : Nat) (w : World) (x : Ending) (w' : World) : Prop := Below w.heap.size w w' ∧
  ((∃ (t : Tk) (sl : Value) (q : Nat) (e : Nat), oneX s i = some (t, e) ∧ (i < e ∧ e ≤ s.size) ∧ x = .returned (.tuple #[.agg #[.int .i64 t.kind, .string t.word, .int .i64 t.n, sl, .int .i64 q], .int .i64 e, .int .i64 0, .int .i64 0]) ∧ q = i ∧ (t.kind ≠ 3 → sl = .slice none 0 0) ∧ I64 t.n ∧ (t.word.size ≤ s.size ∧ ∃ P m c, sl = .slice P m c)) ∨
   (∃ b er : Int, oneX s i = none ∧ er ≠ 0 ∧ x = .returned (.tuple #[.agg zT, .int .i64 0, .int .i64 b, .int .i64 er])))
theorem z64 : I64 0 := by unfold I64; omega
theorem eqc (c n : UInt8) : (((c.toNat : Nat) : Int) == (n.toNat : Int)) = decide (c = n) := by
  rw [Bool.eq_iff_iff, beq_iff_eq, decide_eq_true_eq]
  exact ⟨fun h => UInt8.toNat_inj.1 (by omega), fun h => by rw [h]⟩
theorem run_len : ∀ (l : Bs) (st : St) (o : List Pt) (t : Bs) (o' : List Pt) (r : Bs), run st o t l = .ok o' r → r.length < l.length
  | [], st, o, t, o', r => fun h => by rw [run_nil] at h; cases h
  | c :: l, st, o, t, o', r => fun h => by
    rw [run_cons] at h
    split at h
    · cases h
    · have := run_len l _ _ _ _ _ h; simp; omega
    · injection h with h1 h2; subst h2; simp
theorem parse_len {l : Bs} {o : List Pt} {r : Bs} (h : parse l = .ok o r) : r.length < l.length := run_len l _ _ _ _ _ h
theorem sig_len : ∀ u ∈ signL, 1 ≤ u.length ∧ u.length ≤ 2 := by decide
theorem tok_size : (Tryz.prog.info? 47).map (·.size) = some 5 := by kernel_rfl
theorem results54 {fn : Func} {p a b c : Tmp} (h : fn.results = #[.cell p 47, .tmp a, .tmp b, .tmp c]) (tmps : Array Value) (w : World) (g : Nat) (cs : Array Value) (va vb vc : Value) (hp : tmps.getD p undef = pt g) (ha : tmps.getD a undef = va) (hb : tmps.getD b undef = vb) (hcc : tmps.getD c undef = vc) (hg : Blk w g 47 cs) (hc : cs.size = 5) :
    (results fn tmps).run Tryz.prog w = .ok (.tuple #[.agg cs, va, vb, vc]) w := by
  have hp' : tmps[p]?.getD undef = .pointer (some ⟨g, 0, none⟩) := by simpa using hp
  have ha' : tmps[a]?.getD undef = va := by simpa using ha
  have hb' : tmps[b]?.getD undef = vb := by simpa using hb
  have hc' : tmps[c]?.getD undef = vc := by simpa using hcc
  simp [results, h, hp', ha', hb', hc', asAddr, run_loadVar_row w g 47 47 cs (0, 0) _ hg Tryz.underlying47 rfl (by rw [tok_size, hc])]
theorem ext_size (s : ByteArray) (i e : Nat) (h : i ≤ e ∧ e ≤ s.size) : (s.extract i e).size = e - i := by rw [ByteArray.size_extract]; omega
theorem pv_pos {l : List UInt8} (h : l.head? ≠ some 45) : 0 ≤ pv l := by unfold pv; rw [if_neg h]; omega
abbrev sigV : Array Value := (signL.map fun u => Value.string (baS u)).toArray
theorem signs_c (w : World) : Calls Tryz.prog 48 #[] w fun e w' => e = .returned (.slice (some ⟨w.heap.size, 0, none⟩) 18 18) ∧ Blk w' w.heap.size 9 sigV ∧ Below w.heap.size w w' := by
  go_enter Tryz.func48, Tryz.ntmps48
  go_wp2_with fail
  go_ret
  exact ⟨rfl, Blk.new _ _ _, by go_grown⟩
set_option maxRecDepth 100000 in
set_option maxHeartbeats 2000000 in
theorem tok_c (s : ByteArray) (i : Nat) (hi : i < s.size) (hs : s.size ≤ 2000) (w : World) : Calls Tryz.prog 29 #[.string s, .int .i64 i] w (OnePost s i w) := by
  unfold OnePost
  obtain ⟨w1, hw1⟩ : ∃ z : World, w.alloc (.cells zT 47) = z := ⟨_, rfl⟩
  have X1 : Blk w1 w.heap.size 47 zT := by rw [← hw1]; exact Blk.new _ _ _
  have B1 : Below w.heap.size w w1 := by rw [← hw1]; go_grown
  obtain ⟨OX, hOX⟩ : ∃ z, oneX s i = z := ⟨_, rfl⟩
  have hox := hOX
  unfold oneX at hox
  rw [List.getElem?_eq_getElem (by rw [← Lib.size_eq]; exact hi)] at hox
  rw [show s.data.toList[i]'(by rw [← Lib.size_eq]; exact hi) = s[i]'hi from rfl] at hox
  dsimp only at hox
  rw [hOX]
  clear hOX
  have c0 := small_c (s[i]'hi) w1 false
  rw [small_letter] at c0
  by_cases hl : letterB (s[i]'hi) = true
  · rw [if_pos hl] at hox
    rw [hl] at c0
    have hr := run_le withB s i (by omega)
    have hrs := run_step hi (p := withB) (by unfold withB; rw [hl]; rfl)
    have hr2 := run_le withB s (i + 1) (by omega)
    have c1 := fun W => run_c s i false (by omega) (by omega) W
    simp only [Bool.false_eq_true, if_false] at c1
    obtain ⟨e, he⟩ : ∃ e, runN withB s i = e := ⟨_, rfl⟩
    rw [he] at hox c1 hr hrs
    have hlt : i < e := by omega
    clear he hrs hr2
    by_cases h14 : 14 < e - i
    · have d : decide ((14 : Int) < (e : Int) - i) = true := decide_eq_true (by omega)
      rw [if_pos h14] at hox
      have HZ := Lib.hid hox.symm
      clear hox hl
      go_enter Tryz.func29, Tryz.ntmps29
      go_wp2_with fail
      (with_reducible refine c0.mono ?_)
      clear c0 hw1
      rintro x9 w9 ⟨rfl, rfl⟩
      go_wp2_with fail
      (with_reducible refine (c1 _).mono ?_)
      clear c1
      rintro x9 w9 ⟨rfl, rfl⟩
      have p0 := X1.cell 0
      have r0 := X1.loose 0
      have p1 := X1.cell 1
      have r1 := X1.loose 1
      have p2 := X1.cell 2
      have r2 := X1.loose 2
      have p3 := X1.cell 3
      have r3 := X1.loose 3
      have p4 := X1.cell 4
      have r4 := X1.loose 4
      simp only [List.getElem?_toArray, List.getElem?_cons_zero, List.getElem?_cons_succ] at p0 p1 p2 p3 p4
      have RB := Lib.hid (put5_blk X1 (.int .i64 0) (.string noB) (.int .i64 0) (.slice none 0 0) (.int .i64 0))
      have BB := Lib.hid (below_put5 B1 (g := w.heap.size) (Nat.le_refl _) (.int .i64 0) (.string noB) (.int .i64 0) (.slice none 0 0) (.int .i64 0))
      clear X1 B1
      go_wp2_with fail
      refine bodyPost_ret (results54 (by rfl) _ _ w.heap.size zT _ _ _ (by rfl) (by rfl) (by rfl) (by rfl) RB.out (by rfl)) rfl ?_
      exact ⟨BB.out, .inr ⟨_, 1, HZ.out, by decide, rfl⟩⟩
    · have d : decide ((14 : Int) < (e : Int) - i) = false := decide_eq_false (by omega)
      rw [if_neg h14] at hox
      have HZ := Lib.hid hox.symm
      have hwz := ext_size s i e hr
      have hw2 : (s.extract i e).size ≤ s.size := by omega
      have hr1 : i ≤ e := hr.1
      have hr3 : e ≤ s.size := hr.2
      have hr4 : (i : Int) ≤ (e : Int) := by omega
      have hr5 : (e : Int) ≤ (s.size : Int) := by omega
      clear hox hl hwz
      go_enter Tryz.func29, Tryz.ntmps29
      go_wp2_with fail
      (with_reducible refine c0.mono ?_)
      clear c0 hw1
      rintro x9 w9 ⟨rfl, rfl⟩
      go_wp2_with fail
      (with_reducible refine (c1 _).mono ?_)
      clear c1
      rintro x9 w9 ⟨rfl, rfl⟩
      have p0 := X1.cell 0
      have r0 := X1.loose 0
      have p1 := X1.cell 1
      have r1 := X1.loose 1
      have p2 := X1.cell 2
      have r2 := X1.loose 2
      have p3 := X1.cell 3
      have r3 := X1.loose 3
      have p4 := X1.cell 4
      have r4 := X1.loose 4
      simp only [List.getElem?_toArray, List.getElem?_cons_zero, List.getElem?_cons_succ] at p0 p1 p2 p3 p4
      have RB := Lib.hid (put5_blk X1 (.int .i64 1) (.string (s.extract i e)) (.int .i64 0) (.slice none 0 0) (.int .i64 i))
      have BB := Lib.hid (below_put5 B1 (g := w.heap.size) (Nat.le_refl _) (.int .i64 1) (.string (s.extract i e)) (.int .i64 0) (.slice none 0 0) (.int .i64 i))
      clear X1 B1
      go_wp2_with fail
      refine bodyPost_ret (results54 (by rfl) _ _ w.heap.size _ _ _ _ (by rfl) (by rfl) (by rfl) (by rfl) RB.out (by rfl)) rfl ?_
      exact ⟨BB.out, .inl ⟨⟨1, s.extract i e, 0⟩, _, i, e, HZ.out, ⟨hlt, hr.2⟩, rfl, rfl, (fun h => by first | rfl | exact absurd rfl h), z64, ⟨hw2, _, _, _, rfl⟩⟩⟩
  rw [if_neg hl] at hox
  have hl0 : letterB (s[i]'hi) = false := by simpa using hl
  rw [hl0] at c0
  by_cases hd : digB (s[i]'hi) = true
  · rw [if_pos hd] at hox
    have hdd : digB (s[i]'hi) = (decide (48 ≤ (s[i]'hi).toNat) && decide ((s[i]'hi).toNat ≤ 57)) := rfl
    have hd2 : 48 ≤ (s[i]'hi).toNat ∧ (s[i]'hi).toNat ≤ 57 := by rw [hdd, Bool.and_eq_true, decide_eq_true_eq, decide_eq_true_eq] at hd; exact hd
    have l1 : decide ((48 : Int) ≤ ((s[i]'hi).toNat : Int)) = true := decide_eq_true (by omega)
    have l2 : decide (((s[i]'hi).toNat : Int) ≤ 57) = true := decide_eq_true (by omega)
    have hr := run_le digB s i (by omega)
    have hrs := run_step hi (p := digB) hd
    have hr2 := run_le digB s (i + 1) (by omega)
    have c1 := fun W => run_c s i true (by omega) (by omega) W
    simp only [if_true] at c1
    obtain ⟨e, he⟩ : ∃ e, runN digB s i = e := ⟨_, rfl⟩
    rw [he] at hox c1 hr hrs
    have hlt : i < e := by omega
    have hwz := ext_size s i e hr
    have c2 := fun W => NumW.rparse_c (s.extract i e) W (by omega)
    have hr1 : i ≤ e := hr.1
    have hr3 : e ≤ s.size := hr.2
    have hr4 : (i : Int) ≤ (e : Int) := by omega
    have hr5 : (e : Int) ≤ (s.size : Int) := by omega
    clear he hrs hr2 hwz hdd hd2
    unfold NumW.pr NumW.res at c2
    by_cases hok : formB (s.extract i e).data.toList = true ∧ I64 (pv (s.extract i e).data.toList)
    · rw [if_pos hok] at hox
      simp only [if_pos hok.1, if_pos (show NumW.I64 (pv (s.extract i e).data.toList) from hok.2)] at c2
      have HN := Lib.hid hok.2
      obtain ⟨N, hN⟩ : ∃ N, pv (s.extract i e).data.toList = N := ⟨_, rfl⟩
      rw [hN] at hox c2 HN
      have HZ := Lib.hid hox.symm
      clear hox hl hd hok hN
      go_enter Tryz.func29, Tryz.ntmps29
      go_wp2_with fail
      (with_reducible refine c0.mono ?_)
      clear c0 hw1
      rintro x9 w9 ⟨rfl, rfl⟩
      go_wp2_with fail
      (with_reducible refine (c1 _).mono ?_)
      clear c1
      rintro x9 w9 ⟨rfl, rfl⟩
      go_wp2_with fail
      (with_reducible refine (c2 _).mono ?_)
      clear c2
      rintro x9 w9 ⟨rfl, rfl⟩
      have p0 := X1.cell 0
      have r0 := X1.loose 0
      have p1 := X1.cell 1
      have r1 := X1.loose 1
      have p2 := X1.cell 2
      have r2 := X1.loose 2
      have p3 := X1.cell 3
      have r3 := X1.loose 3
      have p4 := X1.cell 4
      have r4 := X1.loose 4
      simp only [List.getElem?_toArray, List.getElem?_cons_zero, List.getElem?_cons_succ] at p0 p1 p2 p3 p4
      have RB := Lib.hid (put5_blk X1 (.int .i64 2) (.string (noB)) (.int .i64 N) (.slice none 0 0) (.int .i64 i))
      have BB := Lib.hid (below_put5 B1 (g := w.heap.size) (Nat.le_refl _) (.int .i64 2) (.string (noB)) (.int .i64 N) (.slice none 0 0) (.int .i64 i))
      clear X1 B1
      go_wp2_with fail
      refine bodyPost_ret (results54 (by rfl) _ _ w.heap.size _ _ _ _ (by rfl) (by rfl) (by rfl) (by rfl) RB.out (by rfl)) rfl ?_
      exact ⟨BB.out, .inl ⟨⟨2, noB, N⟩, _, i, e, HZ.out, ⟨hlt, hr3⟩, rfl, rfl, (fun h => by first | rfl | exact absurd rfl h), HN.out, ⟨Nat.zero_le _, _, _, _, rfl⟩⟩⟩
    · rw [if_neg hok] at hox
      have HZ := Lib.hid hox.symm
      have hex : ∃ er : Int, er ≠ 0 ∧ ∀ W, Calls Tryz.prog 44 #[.string (s.extract i e)] W fun e w' => e = .returned (.tuple #[.int .i64 0, .int .i64 er]) ∧ W = w' := by
        by_cases h1 : formB (s.extract i e).data.toList = true
        · have h2 : ¬ NumW.I64 (pv (s.extract i e).data.toList) := fun h => hok ⟨h1, h⟩
          exact ⟨3, by decide, fun W => by have := c2 W; rw [if_pos h1, if_neg h2] at this; exact this⟩
        · exact ⟨1, by decide, fun W => by have := c2 W; rw [if_neg h1] at this; exact this⟩
      obtain ⟨er, hne, c3⟩ := hex
      have qe : (er == 0) = false := by simpa using hne
      have qe2 : (er != 0) = true := by simpa using hne
      have HNE := Lib.hid hne
      clear hox hl hd hok c2 hne
      go_enter Tryz.func29, Tryz.ntmps29
      go_wp2_with fail
      (with_reducible refine c0.mono ?_)
      clear c0 hw1
      rintro x9 w9 ⟨rfl, rfl⟩
      go_wp2_with fail
      (with_reducible refine (c1 _).mono ?_)
      clear c1
      rintro x9 w9 ⟨rfl, rfl⟩
      go_wp2_with fail
      (with_reducible refine (c3 _).mono ?_)
      clear c3
      rintro x9 w9 ⟨rfl, rfl⟩
      have p0 := X1.cell 0
      have r0 := X1.loose 0
      have p1 := X1.cell 1
      have r1 := X1.loose 1
      have p2 := X1.cell 2
      have r2 := X1.loose 2
      have p3 := X1.cell 3
      have r3 := X1.loose 3
      have p4 := X1.cell 4
      have r4 := X1.loose 4
      simp only [List.getElem?_toArray, List.getElem?_cons_zero, List.getElem?_cons_succ] at p0 p1 p2 p3 p4
      have RB := Lib.hid (put5_blk X1 (.int .i64 0) (.string noB) (.int .i64 0) (.slice none 0 0) (.int .i64 0))
      have BB := Lib.hid (below_put5 B1 (g := w.heap.size) (Nat.le_refl _) (.int .i64 0) (.string noB) (.int .i64 0) (.slice none 0 0) (.int .i64 0))
      clear X1 B1
      go_wp2_with fail
      refine bodyPost_ret (results54 (by rfl) _ _ w.heap.size zT _ _ _ (by rfl) (by rfl) (by rfl) (by rfl) RB.out (by rfl)) rfl ?_
      exact ⟨BB.out, .inr ⟨_, er, HZ.out, HNE.out, rfl⟩⟩
  rw [if_neg hd] at hox
  have hd0 : digB (s[i]'hi) = false := by simpa using hd
  have hdq : decide ((48 : Int) ≤ ((s[i]'hi).toNat : Int)) = false ∨ (decide ((48 : Int) ≤ ((s[i]'hi).toNat : Int)) = true ∧ decide (((s[i]'hi).toNat : Int) ≤ 57) = false) := by
    have hdd : digB (s[i]'hi) = (decide (48 ≤ (s[i]'hi).toNat) && decide ((s[i]'hi).toNat ≤ 57)) := rfl
    by_cases h1 : 48 ≤ (s[i]'hi).toNat
    · right
      refine ⟨decide_eq_true (by omega), decide_eq_false (fun h2 => hd ?_)⟩
      rw [hdd, decide_eq_true h1, decide_eq_true (by omega)]; rfl
    · left; exact decide_eq_false (by omega)
  have q34 := eqc (s[i]'hi) 34
  have q36 := eqc (s[i]'hi) 36
  have q45 := eqc (s[i]'hi) 45
  rw [show ((34 : UInt8).toNat : Int) = 34 from rfl] at q34
  rw [show ((36 : UInt8).toNat : Int) = 36 from rfl] at q36
  rw [show ((45 : UInt8).toNat : Int) = 45 from rfl] at q45
  clear hl hl0 hd hd0
  have HOX := Lib.hid hox
  clear hox
  go_enter Tryz.func29, Tryz.ntmps29
  go_wp2_with fail
  (with_reducible refine c0.mono ?_)
  clear c0 hw1
  rintro x9 w9 ⟨rfl, rfl⟩
  go_upto_region 7 with fail
  go_cut [47] (fun v wx => v = .bool false ∧ w1 = wx)
  case first =>
    rcases hdq with l1 | ⟨l1, l2⟩
    all_goals
      go_wp2_with fail
      go_meet
      exact ⟨rfl, rfl⟩
  case rest =>
    clear hdq
    obtain ⟨rfl, rfl⟩ := hcut
    by_cases h34 : s[i]'hi = 34
    · rw [decide_eq_true h34] at q34
      have hox := HOX.out
      rw [if_pos h34] at hox
      have hwz := ext_size s i s.size ⟨by omega, Nat.le_refl _⟩
      have c2 := QuoE.rparse_c (s.extract i s.size) w1 (by omega)
      unfold QuoR.PaPost at c2
      have hr1 : i ≤ s.size := by omega
      have hr4 : (i : Int) ≤ (s.size : Int) := by omega
      have hlen : (s.extract i s.size).data.toList.length = s.size - i := by rw [← Lib.size_eq]; exact hwz
      clear h34 HOX q36 q45 hwz
      have HOX := Lib.hid hox
      clear hox
      go_wp2_with fail
      (with_reducible refine c2.mono ?_)
      clear c2
      rintro x9 w9 ⟨b9, ⟨o, j, v, hp, hj, rfl, hown⟩ | ⟨j, hp, hj, rfl⟩⟩
      · obtain ⟨A2, n2, c2, rfl⟩ := QuoE.own_shape hown
        have hjl := parse_len hp
        have hox := HOX.out
        rw [hp] at hox
        dsimp only at hox
        have hds : ((s.extract i s.size).data.toList.drop j).length = s.size - i - j := by rw [List.length_drop, hlen]
        rw [hds] at hox hjl
        have hje : j ≤ s.size - i := by rw [ext_size s i s.size ⟨hr1, Nat.le_refl _⟩] at hj; exact hj
        rw [show s.size - (s.size - i - j) = i + j by omega] at hox
        have HZ := Lib.hid hox.symm
        have X9 := X1.next b9
        have B9 := via b9 B1
        have hje1 : i < i + j ∧ i + j ≤ s.size := by omega
        have hje2 : i + j ≤ 2000 := by omega
        clear hox HOX hp hj hown hjl hds hlen X1 B1 b9
        have p0 := X9.cell 0
        have r0 := X9.loose 0
        have p1 := X9.cell 1
        have r1 := X9.loose 1
        have p2 := X9.cell 2
        have r2 := X9.loose 2
        have p3 := X9.cell 3
        have r3 := X9.loose 3
        have p4 := X9.cell 4
        have r4 := X9.loose 4
        simp only [List.getElem?_toArray, List.getElem?_cons_zero, List.getElem?_cons_succ] at p0 p1 p2 p3 p4
        have RB := Lib.hid (put5_blk X9 (.int .i64 3) (.string (noB)) (.int .i64 0) (.slice A2 n2 c2) (.int .i64 i))
        have BB := Lib.hid (below_put5 B9 (g := w.heap.size) (Nat.le_refl _) (.int .i64 3) (.string (noB)) (.int .i64 0) (.slice A2 n2 c2) (.int .i64 i))
        clear X9 B9
        go_wp2_with fail
        refine bodyPost_ret (results54 (by rfl) _ _ w.heap.size _ _ _ _ (by rfl) (by rfl) (by rfl) (by rfl) RB.out (by rfl)) rfl ?_
        exact ⟨BB.out, .inl ⟨⟨3, noB, 0⟩, _, i, i + j, HZ.out, hje1, rfl, rfl, (fun h => by first | rfl | exact absurd rfl h), z64, ⟨Nat.zero_le _, _, _, _, rfl⟩⟩⟩
      · have hox := HOX.out
        rw [hp] at hox
        have HZ := Lib.hid (show none = OX from hox).symm
        have X9 := X1.next b9
        have B9 := via b9 B1
        have hje : j ≤ s.size - i := by rw [ext_size s i s.size ⟨hr1, Nat.le_refl _⟩] at hj; exact hj
        clear hox HOX hp hj X1 B1 b9 hlen
        have p0 := X9.cell 0
        have r0 := X9.loose 0
        have p1 := X9.cell 1
        have r1 := X9.loose 1
        have p2 := X9.cell 2
        have r2 := X9.loose 2
        have p3 := X9.cell 3
        have r3 := X9.loose 3
        have p4 := X9.cell 4
        have r4 := X9.loose 4
        simp only [List.getElem?_toArray, List.getElem?_cons_zero, List.getElem?_cons_succ] at p0 p1 p2 p3 p4
        have RB := Lib.hid (put5_blk X9 (.int .i64 0) (.string noB) (.int .i64 0) (.slice none 0 0) (.int .i64 0))
        have BB := Lib.hid (below_put5 B9 (g := w.heap.size) (Nat.le_refl _) (.int .i64 0) (.string noB) (.int .i64 0) (.slice none 0 0) (.int .i64 0))
        clear X9 B9
        go_wp2_with fail
        refine bodyPost_ret (results54 (by rfl) _ _ w.heap.size zT _ _ _ (by rfl) (by rfl) (by rfl) (by rfl) RB.out (by rfl)) rfl ?_
        exact ⟨BB.out, .inr ⟨_, 1, HZ.out, by decide, rfl⟩⟩
    rw [decide_eq_false h34] at q34
    by_cases h36 : s[i]'hi = 36
    · rw [decide_eq_true h36] at q36
      have hox := HOX.out
      rw [if_neg h34, if_pos h36] at hox
      have hr := run_le withB s (i + 1) (by omega)
      have c1 := fun W => run_c s (i + 1) false (by omega) (by omega) W
      simp only [Bool.false_eq_true, if_false, Int.natCast_add, Int.natCast_one] at c1
      obtain ⟨e, he⟩ : ∃ e, runN withB s (i + 1) = e := ⟨_, rfl⟩
      rw [he] at hox c1 hr
      have hwz := ext_size s (i + 1) e hr
      have c2 := fun W => QuoW.rname_c (s.extract (i + 1) e) W (by omega)
      obtain ⟨nb, hnb⟩ : ∃ nb, nameB (s.extract (i + 1) e).data.toList = nb := ⟨_, rfl⟩
      rw [hnb] at hox c2
      have hw2 : (s.extract (i + 1) e).size ≤ s.size := by omega
      have hr1 : i + 1 ≤ e := hr.1
      have hr3 : e ≤ s.size := hr.2
      have hr4 : (i : Int) + 1 ≤ (e : Int) := by omega
      have hr5 : (e : Int) ≤ (s.size : Int) := by omega
      have hlt : i < e ∧ e ≤ s.size := by omega
      clear he hnb hwz h34 h36 q45 HOX
      have HOX := Lib.hid hox
      clear hox
      cases nb with
      | true =>
        have HZ := Lib.hid (show OX = some (⟨6, s.extract (i + 1) e, 0⟩, e) from HOX.out.symm)
        clear HOX
        go_wp2_with fail
        (with_reducible refine (c1 _).mono ?_)
        clear c1
        rintro x9 w9 ⟨rfl, rfl⟩
        go_wp2_with fail
        (with_reducible refine (c2 _).mono ?_)
        clear c2
        rintro x9 w9 ⟨rfl, rfl⟩
        have p0 := X1.cell 0
        have r0 := X1.loose 0
        have p1 := X1.cell 1
        have r1 := X1.loose 1
        have p2 := X1.cell 2
        have r2 := X1.loose 2
        have p3 := X1.cell 3
        have r3 := X1.loose 3
        have p4 := X1.cell 4
        have r4 := X1.loose 4
        simp only [List.getElem?_toArray, List.getElem?_cons_zero, List.getElem?_cons_succ] at p0 p1 p2 p3 p4
        have RB := Lib.hid (put5_blk X1 (.int .i64 6) (.string (s.extract (i + 1) e)) (.int .i64 0) (.slice none 0 0) (.int .i64 i))
        have BB := Lib.hid (below_put5 B1 (g := w.heap.size) (Nat.le_refl _) (.int .i64 6) (.string (s.extract (i + 1) e)) (.int .i64 0) (.slice none 0 0) (.int .i64 i))
        clear X1 B1
        go_wp2_with fail
        refine bodyPost_ret (results54 (by rfl) _ _ w.heap.size _ _ _ _ (by rfl) (by rfl) (by rfl) (by rfl) RB.out (by rfl)) rfl ?_
        exact ⟨BB.out, .inl ⟨⟨6, s.extract (i + 1) e, 0⟩, _, i, e, HZ.out, hlt, rfl, rfl, (fun h => by first | rfl | exact absurd rfl h), z64, ⟨hw2, _, _, _, rfl⟩⟩⟩
      | false =>
        have HZ := Lib.hid (show OX = none from HOX.out.symm)
        clear HOX
        go_wp2_with fail
        (with_reducible refine (c1 _).mono ?_)
        clear c1
        rintro x9 w9 ⟨rfl, rfl⟩
        go_wp2_with fail
        (with_reducible refine (c2 _).mono ?_)
        clear c2
        rintro x9 w9 ⟨rfl, rfl⟩
        have p0 := X1.cell 0
        have r0 := X1.loose 0
        have p1 := X1.cell 1
        have r1 := X1.loose 1
        have p2 := X1.cell 2
        have r2 := X1.loose 2
        have p3 := X1.cell 3
        have r3 := X1.loose 3
        have p4 := X1.cell 4
        have r4 := X1.loose 4
        simp only [List.getElem?_toArray, List.getElem?_cons_zero, List.getElem?_cons_succ] at p0 p1 p2 p3 p4
        have RB := Lib.hid (put5_blk X1 (.int .i64 0) (.string noB) (.int .i64 0) (.slice none 0 0) (.int .i64 0))
        have BB := Lib.hid (below_put5 B1 (g := w.heap.size) (Nat.le_refl _) (.int .i64 0) (.string noB) (.int .i64 0) (.slice none 0 0) (.int .i64 0))
        clear X1 B1
        go_wp2_with fail
        refine bodyPost_ret (results54 (by rfl) _ _ w.heap.size zT _ _ _ (by rfl) (by rfl) (by rfl) (by rfl) RB.out (by rfl)) rfl ?_
        exact ⟨BB.out, .inr ⟨_, 1, HZ.out, by decide, rfl⟩⟩
    rw [decide_eq_false h36] at q36
    have c1 := fun W => letters_c s (i + 1) (by omega) (by omega) W
    simp only [Int.natCast_add, Int.natCast_one] at c1
    have hr := run_le letterB s (i + 1) (by omega)
    by_cases hfl : s[i]'hi = 45 ∧ i + 1 < runN letterB s (i + 1)
    · obtain ⟨h45, hgo⟩ := hfl
      rw [decide_eq_true h45] at q45
      have hox := HOX.out
      rw [if_neg h34, if_neg h36, if_pos ⟨h45, hgo⟩] at hox
      obtain ⟨e, he⟩ : ∃ e, runN letterB s (i + 1) = e := ⟨_, rfl⟩
      rw [he] at hox c1 hr hgo
      clear he
      have d : decide ((i : Int) + 1 < (e : Int)) = true := decide_eq_true (by omega)
      have hwz := ext_size s (i + 1) e hr
      have c2 := fun W => flag_c (s.extract (i + 1) e) W
      obtain ⟨nb, hnb⟩ : ∃ nb, flagB (s.extract (i + 1) e).data.toList = nb := ⟨_, rfl⟩
      rw [hnb] at hox c2
      have hw2 : (s.extract (i + 1) e).size ≤ s.size := by omega
      have hr1 : i + 1 ≤ e := hr.1
      have hr3 : e ≤ s.size := hr.2
      have hr4 : (i : Int) + 1 ≤ (e : Int) := by omega
      have hr5 : (e : Int) ≤ (s.size : Int) := by omega
      have hlt : i < e ∧ e ≤ s.size := by omega
      clear hnb hwz h34 h36 h45 HOX hgo
      have HOX := Lib.hid hox
      clear hox
      cases nb with
      | true =>
        have HZ := Lib.hid (show OX = some (⟨5, s.extract (i + 1) e, 0⟩, e) from HOX.out.symm)
        clear HOX
        go_wp2_with fail
        (with_reducible refine (c1 _).mono ?_)
        rintro x9 w9 ⟨rfl, rfl⟩
        go_wp2_with fail
        (with_reducible refine (c1 _).mono ?_)
        clear c1
        rintro x9 w9 ⟨rfl, rfl⟩
        go_wp2_with fail
        (with_reducible refine (c2 _).mono ?_)
        clear c2
        rintro x9 w9 ⟨rfl, rfl⟩
        have p0 := X1.cell 0
        have r0 := X1.loose 0
        have p1 := X1.cell 1
        have r1 := X1.loose 1
        have p2 := X1.cell 2
        have r2 := X1.loose 2
        have p3 := X1.cell 3
        have r3 := X1.loose 3
        have p4 := X1.cell 4
        have r4 := X1.loose 4
        simp only [List.getElem?_toArray, List.getElem?_cons_zero, List.getElem?_cons_succ] at p0 p1 p2 p3 p4
        have RB := Lib.hid (put5_blk X1 (.int .i64 5) (.string (s.extract (i + 1) e)) (.int .i64 0) (.slice none 0 0) (.int .i64 i))
        have BB := Lib.hid (below_put5 B1 (g := w.heap.size) (Nat.le_refl _) (.int .i64 5) (.string (s.extract (i + 1) e)) (.int .i64 0) (.slice none 0 0) (.int .i64 i))
        clear X1 B1
        go_wp2_with fail
        refine bodyPost_ret (results54 (by rfl) _ _ w.heap.size _ _ _ _ (by rfl) (by rfl) (by rfl) (by rfl) RB.out (by rfl)) rfl ?_
        exact ⟨BB.out, .inl ⟨⟨5, s.extract (i + 1) e, 0⟩, _, i, e, HZ.out, hlt, rfl, rfl, (fun h => by first | rfl | exact absurd rfl h), z64, ⟨hw2, _, _, _, rfl⟩⟩⟩
      | false =>
        have HZ := Lib.hid (show OX = none from HOX.out.symm)
        clear HOX
        go_wp2_with fail
        (with_reducible refine (c1 _).mono ?_)
        rintro x9 w9 ⟨rfl, rfl⟩
        go_wp2_with fail
        (with_reducible refine (c1 _).mono ?_)
        clear c1
        rintro x9 w9 ⟨rfl, rfl⟩
        go_wp2_with fail
        (with_reducible refine (c2 _).mono ?_)
        clear c2
        rintro x9 w9 ⟨rfl, rfl⟩
        have p0 := X1.cell 0
        have r0 := X1.loose 0
        have p1 := X1.cell 1
        have r1 := X1.loose 1
        have p2 := X1.cell 2
        have r2 := X1.loose 2
        have p3 := X1.cell 3
        have r3 := X1.loose 3
        have p4 := X1.cell 4
        have r4 := X1.loose 4
        simp only [List.getElem?_toArray, List.getElem?_cons_zero, List.getElem?_cons_succ] at p0 p1 p2 p3 p4
        have RB := Lib.hid (put5_blk X1 (.int .i64 0) (.string noB) (.int .i64 0) (.slice none 0 0) (.int .i64 0))
        have BB := Lib.hid (below_put5 B1 (g := w.heap.size) (Nat.le_refl _) (.int .i64 0) (.string noB) (.int .i64 0) (.slice none 0 0) (.int .i64 0))
        clear X1 B1
        go_wp2_with fail
        refine bodyPost_ret (results54 (by rfl) _ _ w.heap.size zT _ _ _ (by rfl) (by rfl) (by rfl) (by rfl) RB.out (by rfl)) rfl ?_
        exact ⟨BB.out, .inr ⟨_, 1, HZ.out, by decide, rfl⟩⟩
    have hox := HOX.out
    rw [if_neg h34, if_neg h36, if_neg hfl] at hox
    have HFD := Lib.hid hox
    have hq : ((((s[i]'hi).toNat : Nat) : Int) == 45) = false ∨ (((((s[i]'hi).toNat : Nat) : Int) == 45) = true ∧ decide ((i : Int) + 1 < ((runN letterB s (i + 1) : Nat) : Int)) = false) := by
      rw [q45]
      by_cases h45 : s[i]'hi = 45
      · right; exact ⟨decide_eq_true h45, decide_eq_false (fun x => hfl ⟨h45, by omega⟩)⟩
      · left; exact decide_eq_false h45
    obtain ⟨eL, heL⟩ : ∃ e, runN letterB s (i + 1) = e := ⟨_, rfl⟩
    rw [heL] at c1 hq
    clear hox hfl h34 h36 HOX q45 hr heL
    go_upto_region 23 with fail
    go_cut [123] (fun v wx => v = .bool false ∧ w1 = wx)
    case first =>
      rcases hq with q45 | ⟨q45, q46⟩
      · go_wp2_with fail
        go_meet
        exact ⟨rfl, rfl⟩
      · go_wp2_with fail
        (with_reducible refine (c1 _).mono ?_)
        rintro x9 w9 ⟨rfl, rfl⟩
        go_wp2_with fail
        go_meet
        exact ⟨rfl, rfl⟩
    case rest =>
      clear hq c1
      obtain ⟨rfl, rfl⟩ := hcut
      have cg := signs_c w1
      obtain ⟨SG, hSG⟩ : ∃ z, sigV = z := ⟨_, rfl⟩
      rw [hSG] at cg
      have HSG := Lib.hid hSG
      clear hSG
      go_wp2_with fail
      (with_reducible refine cg.mono ?_)
      clear cg
      rintro x9 w2 ⟨rfl, G2, b2⟩
      have X2 := X1.next b2
      have B2 := via b2 B1
      obtain ⟨gS, hgS⟩ : ∃ g, w1.heap.size = g := ⟨_, rfl⟩
      have hgS2 : w.heap.size < w1.heap.size := X1.lt
      rw [hgS] at G2 hgS2 ⊢
      clear X1 B1 b2 hgS q34 q36
      go_wp2_with fail
      go_loopw [19] (fun v wr => ∃ (j : Nat), v = .int .i64 j ∧ j ≤ 18 ∧ Blk wr w.heap.size 47 zT ∧ Blk wr gS 9 SG ∧ Below w.heap.size w wr ∧
        Hid (OX = match (signL.drop j).find? (fun u => decide (i + u.length ≤ s.size) && (s.extract i (i + u.length)).data.toList == u) with | some u => some (⟨4, baS u, 0⟩, i + u.length) | none => none)) (fun v _ => 18 - (intOf v).toNat)
      case atStart => exact ⟨0, rfl, by omega, X2, G2, B2, Lib.hid HFD.out.symm⟩
      case round =>
        clear X2 G2 B2 HFD
        obtain ⟨j, rfl, hj, X3, G3, B3, HF⟩ := hrel
        by_cases hlt : j < 18
        rotate_left
        · have hj18 : j = 18 := by omega
          subst hj18
          have HZ := Lib.hid (show OX = none from HF.out)
          clear HF G3
          have p0 := X3.cell 0
          have r0 := X3.loose 0
          have p1 := X3.cell 1
          have r1 := X3.loose 1
          have p2 := X3.cell 2
          have r2 := X3.loose 2
          have p3 := X3.cell 3
          have r3 := X3.loose 3
          have p4 := X3.cell 4
          have r4 := X3.loose 4
          simp only [List.getElem?_toArray, List.getElem?_cons_zero, List.getElem?_cons_succ] at p0 p1 p2 p3 p4
          have RB := Lib.hid (put5_blk X3 (.int .i64 0) (.string noB) (.int .i64 0) (.slice none 0 0) (.int .i64 0))
          have BB := Lib.hid (below_put5 B3 (g := w.heap.size) (Nat.le_refl _) (.int .i64 0) (.string noB) (.int .i64 0) (.slice none 0 0) (.int .i64 0))
          clear X3 B3
          go_wp2_with fail
          refine bodyPost_ret (results54 (by rfl) _ _ w.heap.size zT _ _ _ (by rfl) (by rfl) (by rfl) (by rfl) RB.out (by rfl)) rfl ?_
          exact ⟨BB.out, .inr ⟨_, 1, HZ.out, by decide, rfl⟩⟩
        obtain ⟨u, hu⟩ : ∃ u, signL[j]? = some u := ⟨_, List.getElem?_eq_getElem (show j < signL.length from hlt)⟩
        have hdr : signL.drop j = u :: signL.drop (j + 1) := by
          obtain ⟨h1, h2⟩ := List.getElem?_eq_some_iff.1 hu
          rw [List.drop_eq_getElem_cons h1, h2]
        have hf := HF.out
        rw [hdr, List.find?_cons] at hf
        have hT : (decide (i + u.length ≤ s.size) && (s.extract i (i + u.length)).data.toList == u) = true → OX = some (⟨4, baS u, 0⟩, i + u.length) := fun hb => by
          rw [hf, hb]
        have hF : (decide (i + u.length ≤ s.size) && (s.extract i (i + u.length)).data.toList == u) = false → OX = match (signL.drop (j + 1)).find? (fun u => decide (i + u.length ≤ s.size) && (s.extract i (i + u.length)).data.toList == u) with | some u => some (⟨4, baS u, 0⟩, i + u.length) | none => none := fun hb => by
          rw [hf, hb]
        clear hf
        have a0 := G3.cell j
        rw [← HSG.out, List.getElem?_toArray, List.getElem?_map, hu] at a0
        simp only [Option.map_some] at a0
        have hul : 1 ≤ u.length ∧ u.length ≤ 2 := sig_len u (List.mem_of_getElem? hu)
        have hbl : (baS u).data.toList = u := by simp [baS]
        have hbs : (baS u).size = u.length := by rw [Lib.size_eq, hbl]
        obtain ⟨bu, hbu⟩ : ∃ b, baS u = b := ⟨_, rfl⟩
        rw [hbu] at a0 hbl hbs hT
        obtain ⟨L, hL⟩ : ∃ L, bu.size = L := ⟨_, rfl⟩
        rw [hL] at hbs
        rw [← hbs] at hT hul
        obtain ⟨E, hE⟩ : ∃ E, i + L = E := ⟨_, rfl⟩
        have hEi : (i : Int) + (L : Int) = (E : Int) := by omega
        have hiE : i < E := by omega
        rw [hE] at hT
        have hgl := G3.lt
        have hF2 : (decide (E ≤ s.size) && (s.extract i E).data.toList == u) = false → _ := fun hb => hF (by rw [← hbs, hE]; exact hb)
        clear hE HF hdr hu hbu hbs hF
        by_cases hin : E ≤ s.size
        · have d : decide ((E : Int) ≤ (s.size : Int)) = true := decide_eq_true (by omega)
          have hiE1 : i ≤ E := by omega
          have hiE2 : (i : Int) ≤ (E : Int) := by omega
          have hES : (E : Int) ≤ (s.size : Int) := by omega
          have hEm : E ≤ 2000 := by omega
          rw [decide_eq_true hin, Bool.true_and] at hT hF2
          have hqe : ((s.extract i E).toList == bu.toList) = ((s.extract i E).data.toList == u) := by rw [ws_facts, ws_facts, hbl]
          cases hmm : ((s.extract i E).data.toList == u) with
          | true =>
            rw [hmm] at hqe
            have HZ := Lib.hid (hT hmm)
            have hbm : bu.size ≤ s.size := by omega
            have hEE : i < E ∧ E ≤ s.size := ⟨hiE, hin⟩
            clear hT hF2 hmm hbl
            go_upto_region 33 with fail
            go_quiet (fail)
            have X9 := X3.drewN nq
            have B9 : Below w.heap.size w (wr.drewN nq) := ⟨B3.os, B3.tape, B3.output, B3.size, B3.block⟩
            have a9 : (wr.drewN nq).cell? ⟨gS, j, none⟩ = some (.string bu) := a0
            obtain ⟨w9, hw9⟩ : ∃ z, wr.drewN nq = z := ⟨_, rfl⟩
            rw [hw9] at X9 B9 a9 ⊢
            clear hw9 X3 G3 B3 a0 hL
            have p0 := X9.cell 0
            have r0 := X9.loose 0
            have p1 := X9.cell 1
            have r1 := X9.loose 1
            have p2 := X9.cell 2
            have r2 := X9.loose 2
            have p3 := X9.cell 3
            have r3 := X9.loose 3
            have p4 := X9.cell 4
            have r4 := X9.loose 4
            simp only [List.getElem?_toArray, List.getElem?_cons_zero, List.getElem?_cons_succ] at p0 p1 p2 p3 p4
            have RB := Lib.hid (put5_blk X9 (.int .i64 4) (.string (bu)) (.int .i64 0) (.slice none 0 0) (.int .i64 i))
            have BB := Lib.hid (below_put5 B9 (g := w.heap.size) (Nat.le_refl _) (.int .i64 4) (.string (bu)) (.int .i64 0) (.slice none 0 0) (.int .i64 i))
            clear X9 B9
            go_wp2_with fail
            refine bodyPost_ret (results54 (by rfl) _ _ w.heap.size _ _ _ _ (by rfl) (by rfl) (by rfl) (by rfl) RB.out (by rfl)) rfl ?_
            exact ⟨BB.out, .inl ⟨⟨4, bu, 0⟩, _, i, E, HZ.out, hEE, rfl, rfl, (fun h => by first | rfl | exact absurd rfl h), z64, ⟨hbm, _, _, _, rfl⟩⟩⟩
          | false =>
            rw [hmm] at hqe
            have HZ := Lib.hid (hF2 hmm)
            clear hT hF2 hmm hbl
            go_upto_region 33 with fail
            go_quiet (fail)
            have B9 : Below w.heap.size w (wr.drewN nq) := ⟨B3.os, B3.tape, B3.output, B3.size, B3.block⟩
            have X9 := X3.drewN nq
            have G9 := G3.drewN nq
            clear X3 G3 B3
            go_wp2_with fail
            go_roundw
            case rel => exact ⟨j + 1, by go_num, by omega, X9, G9, B9, HZ⟩
            case measure => simp [intOf]; omega
        · have d : decide ((E : Int) ≤ (s.size : Int)) = false := decide_eq_false (by omega)
          rw [decide_eq_false hin, Bool.false_and] at hF2
          have HZ := Lib.hid (hF2 rfl)
          clear hT hF2 hbl
          go_upto_region 33 with fail
          go_quiet (fail)
          have B9 : Below w.heap.size w (wr.drewN nq) := ⟨B3.os, B3.tape, B3.output, B3.size, B3.block⟩
          have X9 := X3.drewN nq
          have G9 := G3.drewN nq
          clear X3 G3 B3
          go_wp2_with fail
          go_roundw
          case rel => exact ⟨j + 1, by go_num, by omega, X9, G9, B9, HZ⟩
          case measure => simp [intOf]; omega
end ExpT
end Go.Proofs.YtchceoclkdofhaaGreatDoor
