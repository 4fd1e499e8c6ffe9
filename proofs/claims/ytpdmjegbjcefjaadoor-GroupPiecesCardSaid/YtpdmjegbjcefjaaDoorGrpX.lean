/- Which places an expression leads to, forwards, as the reference reckons it: that it is what the expression stands for. No program. No condition. -/
import Derived.Test.YtpdmjegbjcefjaaDoorGrpPt
import Derived.Test.YtpdmjegbjcefjaaDoorGrpEn
import Derived.BigQuiet
import Derived.Deep.QuietTactic
namespace Go.Proofs.YtpdmjegbjcefjaaDoor
set_option linter.unusedVariables false
set_option linter.unusedSimpArgs false
open Go.RowKit
namespace GrpS
open EreP EreX GrpP
def setO (l : Bs) (S : Nat) (x : List Bool) : List Bool := false :: ((List.range l.length).map fun i => x.getD i false && (match l[i]? with | some c => S.testBit c.toNat | none => false))
def repO (g : List Bool → List Bool) (n : Nat) (lo hi : Int) (x : List Bool) : List Bool := upS g hi (n + 2) lo (noneS n) (itS g lo.toNat x)
section
variable (l : Bs) (bg en : Bool)
mutual
def overS : Re → List Bool → List Bool
  | .mk k S kids lo hi _ => fun x =>
    if k = 0 then x
    else if k = 1 then setO l S x
    else if k = 2 then (noneS l.length).set 0 (x.getD 0 false && bg)
    else if k = 3 then (noneS l.length).set l.length (x.getD l.length false && en)
    else if k = 4 then catO kids x
    else if k = 5 then altO kids x
    else if k = 6 then repO (headO kids) l.length lo hi x
    else if k = 7 then headO kids x
    else noneS l.length
def catO : List Re → List Bool → List Bool
  | [] => fun x => x
  | y :: r => fun x => catO r (overS y x)
def altO : List Re → List Bool → List Bool
  | [] => fun _ => noneS l.length
  | y :: r => fun x => orS (overS y x) (altO r x)
def headO : List Re → List Bool → List Bool
  | [] => fun _ => noneS l.length
  | y :: _ => fun x => overS y x
end
end
theorem pw_rev {P : Nat → Nat → Prop} : ∀ (t i j : Nat), pw (fun a b => P b a) t i j ↔ pw P t j i
  | 0, i, j => ⟨fun h => (show i = j from h).symm, fun h => (show j = i from h).symm⟩
  | t + 1, i, j => by
    rw [pw_last t j i]
    constructor
    · rintro ⟨m, h1, h2⟩; exact ⟨m, (pw_rev t m j).1 h2, h1⟩
    · rintro ⟨m, h1, h2⟩; exact ⟨m, h2, (pw_rev t m j).2 h1⟩
theorem setO_len (l : Bs) (S : Nat) (x : List Bool) : (setO l S x).length = l.length + 1 := by simp [setO]
theorem setO_on (l : Bs) (S : Nat) (x : List Bool) (j : Nat) (hj : j ≤ l.length) : On (setO l S x) j ↔ ∃ i, j = i + 1 ∧ On x i ∧ ∃ c, l[i]? = some c ∧ S.testBit c.toNat = true := by
  cases j with
  | zero => simp [On, setO]
  | succ i =>
    unfold setO On
    rw [List.getElem?_cons_succ, List.getElem?_map, List.getElem?_range (by omega)]
    simp only [Option.map_some, Option.some.injEq]
    obtain ⟨c, hc⟩ : ∃ c, l[i]? = some c := ⟨_, List.getElem?_eq_getElem (by omega)⟩
    rw [hc]
    simp only [Bool.and_eq_true]
    constructor
    · rintro ⟨h1, h2⟩; exact ⟨i, rfl, getD_on.1 h1, c, hc, h2⟩
    · rintro ⟨i', e, h1, c', hc', h2⟩
      have e : i' = i := by omega
      subst e
      rw [hc] at hc'; injection hc' with hc'; subst hc'
      exact ⟨getD_on.2 h1, h2⟩
theorem repO_len {n : Nat} {g : List Bool → List Bool} {P : Nat → Nat → Prop} (hg : Step n g P) (lo hi : Int) (x : List Bool) (hx : x.length = n + 1) : (repO g n lo hi x).length = n + 1 :=
  up_len hg _ _ _ _ _ (none_len n) (it_len hg _ _ hx)
theorem repO_on {n : Nat} {g : List Bool → List Bool} {P : Nat → Nat → Prop} (hg : Step n g P) (hP : ∀ i j, P i j → i ≤ n → j ≤ n) (lo hi : Int) (h0 : 0 ≤ lo) (hlh : hi < 0 ∨ lo ≤ hi) (x : List Bool) (hx : x.length = n + 1) (i : Nat) (hi' : i ≤ n) :
    On (repO g n lo hi x) i ↔ ∃ k, k ≤ n ∧ On x k ∧ ∃ t : Nat, lo ≤ t ∧ (hi < 0 ∨ (t : Int) ≤ hi) ∧ pw P t i k := by
  have hX : (itS g lo.toNat x).length = n + 1 := it_len hg _ _ hx
  have hu := up_on hg hP lo hi (itS g lo.toNat x) hX (n + 2) 0 (noneS n) (itS g lo.toNat x) (none_len n) hX (by omega) (by simpa using hlh) (fun _ _ => Iff.rfl)
    (fun j _ => ⟨fun h => absurd h none_on, fun ⟨t, ht, _⟩ => absurd ht (Nat.not_lt_zero _)⟩)
  simp only [Int.natCast_zero, Int.add_zero] at hu
  unfold repO
  rw [hu i hi']
  constructor
  · rintro ⟨t, ht, h3⟩
    obtain ⟨m, hm, h4, h5⟩ := (it_back hP t i hi').1 h3
    obtain ⟨k, hk, h6, h7⟩ := (it_on hg hP lo.toNat x hx m hm).1 h4
    exact ⟨k, hk, h6, t + lo.toNat, by omega, by omega, (pw_add t lo.toNat i k).2 ⟨m, h5, h7⟩⟩
  · rintro ⟨k, hk, h4, t', h1, h2, h3⟩
    rw [show t' = (t' - lo.toNat) + lo.toNat by omega] at h3
    obtain ⟨m, h5, h6⟩ := (pw_add (t' - lo.toNat) lo.toNat i k).1 h3
    have hm := pw_in hP _ i m h5 hi'
    exact ⟨t' - lo.toNat, by omega, (it_back hP _ i hi').2 ⟨m, hm, (it_on hg hP lo.toNat x hx m hm).2 ⟨k, hk, h4, h6⟩, h5⟩⟩
variable (l : Bs) (bg en : Bool)
mutual
theorem over_step : ∀ (r : Re), wfR r → Step l.length (overS l bg en r) (fun j i => rel l bg en r i j)
  | .mk k S kids lo hi nn, hw => by
    rw [wfR] at hw
    obtain ⟨h6, h7, hk⟩ := hw
    refine ⟨fun x hx => ?_, fun x hx i hi' => ?_⟩
    · rw [overS]
      split
      · exact hx
      split
      · exact setO_len l S x
      split
      · simp [none_len]
      split
      · simp [none_len]
      split
      · exact (catO_step kids hk).len x hx
      split
      · exact (altO_step kids hk).len x hx
      split
      · next h => exact repO_len (headO_step kids hk (by rw [(h6 h).1]; decide)) lo hi x hx
      split
      · next h => exact (headO_step kids hk (by rw [(h7 h).1]; decide)).len x hx
      · exact none_len _
    · simp only [overS, rel]
      split
      · exact ⟨fun h => ⟨i, hi', h, rfl⟩, fun ⟨k, _, h1, h2⟩ => by subst h2; exact h1⟩
      split
      · rw [setO_on l S x i hi']
        constructor
        · rintro ⟨j, rfl, h2, c, h3, h4⟩; exact ⟨j, by omega, h2, rfl, c, h3, h4⟩
        · rintro ⟨j, _, h1, rfl, c, h2, h3⟩; exact ⟨j, rfl, h1, c, h2, h3⟩
      split
      · rw [On, List.getElem?_set]
        constructor
        · intro h
          split at h
          · next e =>
            rw [if_pos (by rw [none_len]; omega)] at h
            subst e
            simp only [Option.some.injEq, Bool.and_eq_true] at h
            exact ⟨0, by omega, getD_on.1 h.1, rfl, rfl, h.2⟩
          · exact absurd h none_on
        · rintro ⟨k, _, h1, rfl, rfl, hb⟩
          rw [if_pos rfl, if_pos (by rw [none_len]; omega)]
          rw [getD_on.2 h1, hb]; rfl
      split
      · rw [On, List.getElem?_set]
        constructor
        · intro h
          split at h
          · next e =>
            rw [if_pos (by rw [none_len]; omega)] at h
            subst e
            simp only [Option.some.injEq, Bool.and_eq_true] at h
            exact ⟨l.length, by omega, getD_on.1 h.1, rfl, rfl, h.2⟩
          · exact absurd h none_on
        · rintro ⟨k, _, h1, e1, e2, hb⟩
          subst e1 e2
          rw [if_pos rfl, if_pos (by rw [none_len]; omega)]
          rw [getD_on.2 h1, hb]; rfl
      split
      · exact (catO_step kids hk).on x hx i hi'
      split
      · exact (altO_step kids hk).on x hx i hi'
      split
      · next h =>
        obtain ⟨e1, e2, e3, e4, e5⟩ := h6 h
        rw [repO_on (headO_step kids hk (by rw [e1]; decide)) (fun a b hab ha => by have := (head_le l bg en kids b a hab).1; omega) lo hi e2 (by omega) x hx i hi']
        constructor
        · rintro ⟨k, hk, h1, t, h2, h3, h4⟩; exact ⟨k, hk, h1, t, h2, h3, (pw_rev t i k).1 h4⟩
        · rintro ⟨k, hk, h1, t, h2, h3, h4⟩; exact ⟨k, hk, h1, t, h2, h3, (pw_rev t i k).2 h4⟩
      split
      · next h => exact (headO_step kids hk (by rw [(h7 h).1]; decide)).on x hx i hi'
      · exact ⟨fun h => absurd h none_on, fun ⟨_, _, _, h⟩ => h.elim⟩
theorem catO_step : ∀ (kids : List Re), wfL kids → Step l.length (catO l bg en kids) (fun j i => catR l bg en kids i j)
  | [], _ => ⟨fun x hx => by rw [catO]; exact hx, fun x hx i hi => by
      simp only [catO, catR]; exact ⟨fun h => ⟨i, hi, h, rfl⟩, fun ⟨k, _, h1, h2⟩ => by subst h2; exact h1⟩⟩
  | y :: r, hw => by
    rw [wfL] at hw
    have h1 := over_step y hw.1
    have h2 := catO_step r hw.2
    refine ⟨fun x hx => by rw [catO]; exact h2.len _ (h1.len x hx), fun x hx i hi => ?_⟩
    simp only [catO, catR]
    rw [h2.on _ (h1.len x hx) i hi]
    constructor
    · rintro ⟨k, hk, a, b⟩
      obtain ⟨m, hm, c, d⟩ := (h1.on x hx k hk).1 a
      exact ⟨m, hm, c, k, d, b⟩
    · rintro ⟨m, hm, c, k, d, b⟩
      have hk := (cat_le l bg en r k i b).1
      exact ⟨k, by omega, (h1.on x hx k (by omega)).2 ⟨m, hm, c, d⟩, b⟩
theorem altO_step : ∀ (kids : List Re), wfL kids → Step l.length (altO l bg en kids) (fun j i => altR l bg en kids i j)
  | [], _ => ⟨fun x hx => by rw [altO]; exact none_len _, fun x hx i hi => by
      simp only [altO, altR]; exact ⟨fun h => absurd h none_on, fun ⟨_, _, _, h⟩ => h.elim⟩⟩
  | y :: r, hw => by
    rw [wfL] at hw
    have h1 := over_step y hw.1
    have h2 := altO_step r hw.2
    refine ⟨fun x hx => by rw [altO, or_len (by rw [h1.len x hx, h2.len x hx])]; exact h1.len x hx, fun x hx i hi => ?_⟩
    simp only [altO, altR]
    rw [or_on (by rw [h1.len x hx, h2.len x hx]), h1.on x hx i hi, h2.on x hx i hi]
    constructor
    · rintro (⟨k, hk, a, b⟩ | ⟨k, hk, a, b⟩)
      · exact ⟨k, hk, a, .inl b⟩
      · exact ⟨k, hk, a, .inr b⟩
    · rintro ⟨k, hk, a, b | b⟩
      · exact .inl ⟨k, hk, a, b⟩
      · exact .inr ⟨k, hk, a, b⟩
theorem headO_step : ∀ (kids : List Re), wfL kids → 0 < kids.length → Step l.length (headO l bg en kids) (fun j i => headR l bg en kids i j)
  | [], _, h => by cases h
  | y :: r, hw, _ => by
    rw [wfL] at hw
    have h1 := over_step y hw.1
    exact ⟨fun x hx => by rw [headO]; exact h1.len x hx, fun x hx i hi => by simp only [headO, headR]; exact h1.on x hx i hi⟩
end
end GrpS
end Go.Proofs.YtpdmjegbjcefjaaDoor
namespace Go.Proofs.YtpdmjegbjcefjaaDoor
set_option linter.unusedVariables false
set_option linter.unusedSimpArgs false
open Go.RowKit
namespace GrpW
open EreP EreW EreX GrpP GrpS
set_option maxRecDepth 100000 in
set_option maxHeartbeats 3200000 in
theorem join_c (gm go n : Nat) (m o : List Bool) (w : World) (hm : Mks w gm m) (ho : Mks w go o) (hne : gm ≠ go) (lm : m.length = n + 1) (lo : o.length = n + 1) (hn : n ≤ 1000000) :
    Calls Tryd.prog 29 #[mkV gm n, mkV go n] w (OrPost gm m o w) := by
  go_enter Tryd.func29, Tryd.ntmps29
  go_wp2
  have HLM := Lib.hid lm
  have HLO := Lib.hid lo
  clear lm lo
  go_loopw [5, 6] (fun fv iv wr => ∃ (i : Nat) (f : Bool), iv = .int .i64 i ∧ i ≤ n + 1 ∧ fv = .bool f ∧ Hid (f = freshS (m.take i) (o.take i)) ∧ Mks wr gm (orS (m.take i) (o.take i) ++ m.drop i) ∧ Tch (· = gm) w wr) (fun _ iv _ => n + 1 - (intOf iv).toNat)
  case atStart => exact ⟨0, false, rfl, by omega, rfl, Lib.hid (by simp [freshS]), by simpa [orS] using hm, Tch.refl _ _⟩
  case round =>
    clear hm
    obtain ⟨i, f, rfl, hi, rfl, hf, hM, hT⟩ := hrel
    by_cases hlt : i < n + 1
    · obtain ⟨a, ha⟩ : ∃ a, m[i]? = some a := ⟨_, List.getElem?_eq_getElem (by rw [HLM.out]; exact hlt)⟩
      obtain ⟨b, hb⟩ : ∃ b, o[i]? = some b := ⟨_, List.getElem?_eq_getElem (by rw [HLO.out]; exact hlt)⟩
      have c1 := (ho.tch hT (fun e => hne e.symm)).cell i
      rw [List.getElem?_toArray, List.getElem?_map, hb, Option.map_some] at c1
      have c0 := hM.cell i
      have l0 := hM.loose i
      have hpl : (orS (m.take i) (o.take i)).length = i := by rw [or_len (by simp [HLM.out, HLO.out])]; simp [HLM.out]; omega
      have hdr : m.drop i = a :: m.drop (i + 1) := by
        rw [List.drop_eq_getElem_cons (by rw [HLM.out]; exact hlt)]
        congr 1
        rw [List.getElem?_eq_getElem (by rw [HLM.out]; exact hlt)] at ha
        injection ha
      rw [hdr] at c0 hM
      rw [List.getElem?_toArray, List.getElem?_map, List.getElem?_append_right (by omega), hpl, Nat.sub_self] at c0
      simp only [List.getElem?_cons_zero, Option.map_some] at c0
      have HOT := Lib.hid (or_take ha hb)
      have HFT := Lib.hid (fresh_take ha hb)
      have hset : ∀ v : Bool, Mks (wr.setCell ⟨gm, i, none⟩ (.bool v)) gm (orS (m.take i) (o.take i) ++ v :: m.drop (i + 1)) := fun v => by
        have := hM.set_ i (.bool v)
        rwa [bV_set _ _ _ _ hpl] at this
      have hTs := fun v => hT.setCell (p := ⟨gm, i, none⟩) rfl (.bool v)
      clear ha hb hpl hdr hM
      cases f <;> cases b <;> cases a
      all_goals
        go_wp2
        go_roundw
        case rel => exact ⟨i + 1, _, by go_num, by omega, rfl, Lib.hid (by rw [HFT.out, ← hf.out]; rfl), by rw [HOT.out, List.append_assoc]; exact hset _, hTs _⟩
        case measure => simp [intOf]; omega
    · have hin : i = n + 1 := by omega
      subst hin
      have hfin : f = freshS m o := by rw [hf.out, List.take_of_length_le (by rw [HLM.out]; omega), List.take_of_length_le (by rw [HLO.out]; omega)]
      rw [List.take_of_length_le (by rw [HLM.out]; omega), List.take_of_length_le (by rw [HLO.out]; omega), List.drop_eq_nil_of_le (by rw [HLM.out]; omega), List.append_nil] at hM
      have HFIN := Lib.hid hfin
      clear hf hfin
      go_wp2
      go_ret
      exact ⟨by rw [HFIN.out]; rfl, hM, hT⟩
set_option maxRecDepth 100000 in
set_option maxHeartbeats 3200000 in
theorem alike_c (ga gb n : Nat) (a b : List Bool) (w : World) (ha : Mks w ga a) (hb : Mks w gb b) (la : a.length = n + 1) (lb : b.length = n + 1) (hn : n ≤ 1000000) :
    Calls Tryd.prog 45 #[mkV ga n, mkV gb n] w fun e w' => e = .returned (.bool (decide (a = b))) ∧ Below w.heap.size w w' := by
  obtain ⟨R, hR⟩ : ∃ R, decide (a = b) = R := ⟨_, rfl⟩
  rw [hR]
  have HR := Lib.hid hR
  have HLA := Lib.hid la
  have HLB := Lib.hid lb
  clear hR la lb
  go_enter Tryd.func45, Tryd.ntmps45
  go_wp2
  go_loopw [5] (fun iv wr => ∃ (i k : Nat), iv = .int .i64 i ∧ i ≤ n + 1 ∧ Hid (a.take i = b.take i) ∧ wr = w.drewN k) (fun iv _ => n + 1 - (intOf iv).toNat)
  case atStart => exact ⟨0, 0, rfl, by omega, Lib.hid (by simp), rfl⟩
  case round =>
    obtain ⟨i, k, rfl, hi, he, rfl⟩ := hrel
    by_cases hlt : i < n + 1
    · obtain ⟨x, hx⟩ : ∃ x, a[i]? = some x := ⟨_, List.getElem?_eq_getElem (by rw [HLA.out]; exact hlt)⟩
      obtain ⟨y, hy⟩ : ∃ y, b[i]? = some y := ⟨_, List.getElem?_eq_getElem (by rw [HLB.out]; exact hlt)⟩
      have c1 := ha.cell i
      have c2 := hb.cell i
      rw [List.getElem?_toArray, List.getElem?_map, hx, Option.map_some] at c1
      rw [List.getElem?_toArray, List.getElem?_map, hy, Option.map_some] at c2
      by_cases hxy : x = y
      · have hn1 : Hid (a.take (i + 1) = b.take (i + 1)) := Lib.hid (by
          rw [List.take_add_one, List.take_add_one, he.out, hx, hy, hxy])
        subst hxy
        clear hx hy ha hb he
        cases x
        all_goals
          go_wp2_with fail
          go_quiet (fail)
          go_wp2_with fail
          go_roundw
          case rel => exact ⟨i + 1, _, by go_num, by omega, hn1, rfl⟩
          case measure => simp [intOf]; omega
      · have hR0 : R = false := by
          rw [← HR.out]
          refine decide_eq_false (fun e => hxy ?_)
          rw [e, hy] at hx
          injection hx with hx
          exact hx.symm
        have HR0 := Lib.hid hR0
        clear hx hy ha hb he hR0
        cases x <;> cases y
        all_goals first
          | exact absurd rfl hxy
          | (clear hxy
             go_wp2_with fail
             go_quiet (fail)
             go_wp2_with fail
             go_ret
             exact ⟨by rw [HR0.out]; rfl, below_dn (below_dn (Below.refl _ _) k) _⟩)
    · have hin : i = n + 1 := by omega
      subst hin
      have hR1 : R = true := by
        rw [← HR.out]
        have := he.out
        rw [List.take_of_length_le (by rw [HLA.out]; omega), List.take_of_length_le (by rw [HLB.out]; omega)] at this
        exact decide_eq_true this
      have HR1 := Lib.hid hR1
      clear hR1 he
      go_wp2
      go_ret
      exact ⟨by rw [HR1.out]; rfl, below_dn (Below.refl _ _) k⟩
end GrpW
end Go.Proofs.YtpdmjegbjcefjaaDoor
namespace Go.Proofs.YtpdmjegbjcefjaaDoor
set_option linter.unusedVariables false
set_option linter.unusedSimpArgs false
open Go.RowKit
namespace GrpS
open EreP EreX GrpP
theorem numG_in (g : Nat) : 0 ≤ numG g ∧ numG g ≤ 9 := by unfold numG; split <;> omega
theorem inR_in {lo hi : Int} (h : inR lo hi = true) : 0 ≤ lo ∧ lo ≤ 8 ∧ hi ≤ 8 ∧ (hi = -1 ∨ lo ≤ hi) := by
  unfold inR at h
  simp only [Bool.and_eq_true, Bool.or_eq_true, decide_eq_true_eq, beq_iff_eq] at h
  omega
mutual
theorem right_wf : ∀ (r : Re) (lv d g q : Nat), rightR r lv d g = some q → wfR r
  | .mk k s kids lo hi n, lv, d, g, q => by
    intro h
    have ih := rightL_wf kids
    have h0 : kids.length = 0 → wfL kids := fun e => by rw [List.eq_nil_of_length_eq_zero e]; trivial
    have hn := numG_in g
    unfold rightR at h
    rw [wfR]
    repeat' split at h
    all_goals first
      | (cases h; done)
      | (rename_i c; exact ⟨fun e => by omega, fun e => by omega, h0 (by first | exact c.2 | exact c)⟩)
      | (rename_i c; exact ⟨fun e => by omega, fun e => by omega, ih _ _ _ _ h⟩)
      | (rename_i c; exact ⟨fun e => ⟨c.2.2, inR_in c.2.1⟩, fun e => by omega, ih _ _ _ _ h⟩)
      | (rename_i c; exact ⟨fun e => by omega, fun e => ⟨c.2.2, by omega, by omega⟩, ih _ _ _ _ h⟩)
theorem rightL_wf : ∀ (l : List Re) (lv d g q : Nat), rightL l lv d g = some q → wfL l
  | [], lv, d, g, q => fun _ => trivial
  | x :: l, lv, d, g, q => by
    intro h
    rw [rightL] at h
    rw [wfL]
    cases hx : rightR x lv d g with
    | none => rw [hx] at h; cases h
    | some g' =>
      rw [hx] at h
      exact ⟨right_wf x lv d g g' hx, rightL_wf l lv d g' q h⟩
end
/-- The numbers of groups: each once, between what was met before and after. -/
def Nums (G : List (Nat × Re)) (g q : Nat) : Prop := (∀ x ∈ G, g < x.1 ∧ x.1 ≤ q ∧ x.1 ≤ 9) ∧ G.Pairwise (fun a b => a.1 ≠ b.1)
theorem Nums.nil {g q : Nat} : Nums [] g q := ⟨fun _ h => (by cases h), .nil⟩
theorem Nums.app {G G' : List (Nat × Re)} {g m q : Nat} (h : Nums G g m) (h' : Nums G' m q) (h1 : g ≤ m) (h2 : m ≤ q) : Nums (G ++ G') g q := by
  refine ⟨fun x hx => ?_, List.pairwise_append.2 ⟨h.2, h'.2, fun a ha b hb => ?_⟩⟩
  · rcases List.mem_append.1 hx with hx | hx
    · have := h.1 x hx; omega
    · have := h'.1 x hx; omega
  · have := h.1 a ha; have := h'.1 b hb; omega
mutual
theorem gk_nums : ∀ (r : Re) (lv d g q : Nat), rightR r lv d g = some q → g ≤ q ∧ Nums (gk r) g q
  | .mk k s kids lo hi n, lv, d, g, q => by
    intro h
    have ih := gkL_nums kids
    have h0 : kids.length = 0 → gkL kids = [] := fun e => by rw [List.eq_nil_of_length_eq_zero e]; rfl
    unfold rightR at h
    rw [gk]
    repeat' split at h
    all_goals first
      | (cases h; done)
      | (rename_i c; rw [if_neg (by omega), List.nil_append, h0 (by first | exact c.2 | exact c)]; injection h with h; exact ⟨by omega, Nums.nil⟩)
      | (rename_i c; rw [if_neg (by omega), List.nil_append]; exact ih _ _ _ _ h)
      | (rename_i c
         have h1 := ih _ _ _ _ h
         have hn := c.1
         unfold numG at hn
         by_cases hg : 9 < g + 1
         · rw [if_pos hg] at hn
           rw [if_neg (by omega), List.nil_append]
           exact ⟨by omega, fun x hx => by have := h1.2.1 x hx; omega, h1.2.2⟩
         · rw [if_neg hg] at hn
           rw [if_pos (by omega)]
           refine ⟨by omega, Nums.app (m := g + 1) ?_ h1.2 (by omega) h1.1⟩
           cases kids with
           | nil => exact Nums.nil
           | cons y l =>
             refine ⟨fun x hx => ?_, List.pairwise_singleton _ _⟩
             rw [hdK] at hx
             rw [List.mem_singleton.1 hx]
             show g < n.toNat ∧ n.toNat ≤ g + 1 ∧ n.toNat ≤ 9
             omega)
theorem gkL_nums : ∀ (l : List Re) (lv d g q : Nat), rightL l lv d g = some q → g ≤ q ∧ Nums (gkL l) g q
  | [], lv, d, g, q => fun h => by rw [rightL] at h; injection h with h; exact ⟨by omega, Nums.nil⟩
  | x :: l, lv, d, g, q => by
    intro h
    rw [rightL] at h
    rw [gkL]
    cases hx : rightR x lv d g with
    | none => rw [hx] at h; cases h
    | some g' =>
      rw [hx] at h
      have h1 := gk_nums x lv d g g' hx
      have h2 := gkL_nums l lv d g' q h
      exact ⟨by omega, h1.2.app h2.2 h1.1 h2.1⟩
end
/-- The kids laid by their numbers. -/
def layS (G : List (Nat × Re)) (o : List Re) : List Re := G.foldl (fun o x => o.set x.1 x.2) o
theorem lay_len : ∀ (G : List (Nat × Re)) (o : List Re), (layS G o).length = o.length
  | [], o => rfl
  | x :: G, o => by
    have := lay_len G (o.set x.1 x.2)
    rw [List.length_set] at this
    exact this
theorem lay_other : ∀ (G : List (Nat × Re)) (o : List Re) (i : Nat), (∀ x ∈ G, x.1 ≠ i) → (layS G o)[i]? = o[i]?
  | [], o, i, _ => rfl
  | x :: G, o, i, h => by
    have := lay_other G (o.set x.1 x.2) i (fun y hy => h y (List.mem_cons_of_mem _ hy))
    rw [List.getElem?_set_ne (h x (List.mem_cons_self ..))] at this
    exact this
theorem lay_get : ∀ (G : List (Nat × Re)) (o : List Re), G.Pairwise (fun a b => a.1 ≠ b.1) → ∀ x ∈ G, x.1 < o.length → (layS G o)[x.1]? = some x.2
  | [], o, _, x, hx, _ => by cases hx
  | y :: G, o, h, x, hx, hl => by
    rw [List.pairwise_cons] at h
    rcases List.mem_cons.1 hx with rfl | hx
    · have := lay_other G (o.set x.1 x.2) x.1 (fun z hz => fun e => h.1 z hz e.symm)
      rw [List.getElem?_set_self hl] at this
      exact this
    · exact lay_get G (o.set y.1 y.2) h.2 x hx (by rw [List.length_set]; exact hl)
mutual
theorem gk_wf : ∀ (r : Re), wfR r → ∀ x ∈ gk r, wfR x.2
  | .mk k s kids lo hi n, h => by
    intro x hx
    rw [wfR] at h
    rw [gk] at hx
    rcases List.mem_append.1 hx with hx | hx
    · split at hx
      · cases kids with
        | nil => cases hx
        | cons y l => rw [hdK] at hx; rw [List.mem_singleton.1 hx]; exact (by have := h.2.2; rw [wfL] at this; exact this.1)
      · cases hx
    · exact gkL_wf kids h.2.2 x hx
theorem gkL_wf : ∀ (l : List Re), wfL l → ∀ x ∈ gkL l, wfR x.2
  | [], _ => fun x hx => by cases hx
  | y :: l, h => by
    intro x hx
    rw [wfL] at h
    rw [gkL] at hx
    rcases List.mem_append.1 hx with hx | hx
    · exact gk_wf y h.1 x hx
    · exact gkL_wf l h.2 x hx
end
theorem one_on {n a i : Nat} (ha : a ≤ n) : On ((noneS n).set a true) i ↔ i = a := by
  rw [On, List.getElem?_set]
  split
  · next e => rw [if_pos (by rw [none_len]; omega)]; simp [e]
  · next e => exact ⟨fun h => absurd h none_on, fun h => absurd h.symm e⟩
/-- The pieces of the first way: each stands for its group's kid. -/
theorem first_pieces (l : Bs) (r : Re) (hw : wfR r) (f t : Nat) (tz : List Bool) (hf : f ≤ l.length) (hto : tz.length = l.length + 1) (hon : On (backS l r tz) f) (ht : ∀ e, On tz e → e = t) (m : Nat) (hm : m < 10) :
    (firstS l r f tz (List.replicate 10 (-1, -1))).2[m]? = some (-1, -1) ∨ ∃ (a b : Nat) (kid : Re), (firstS l r f tz (List.replicate 10 (-1, -1))).2[m]? = some ((a : Int), (b : Int)) ∧ (m, kid) ∈ gk r ∧ wfR kid ∧ f ≤ a ∧ a ≤ b ∧ b ≤ t ∧ t ≤ l.length ∧ On (overS l true true kid ((noneS l.length).set a true)) b := by
  have h := first_ok l r hw f tz (List.replicate 10 (-1, -1)) hf hto hon
  have he := ht _ h.on
  have hen := h.en
  rw [he] at hen
  rcases h.cut m with hc | ⟨a, b, kid, x1, x2, x3, x4, x5, x6⟩
  · left; rw [hc, List.getElem?_replicate, if_pos hm]
  · right
    rw [he] at x5
    have hk := gk_wf r hw _ x2
    refine ⟨a, b, kid, x1, x2, hk, x3, x4, x5, hen, ?_⟩
    rw [(over_step l true true kid hk).on _ (by rw [List.length_set, none_len]) b (by omega)]
    exact ⟨a, by omega, (one_on (by omega)).2 rfl, x6⟩
/-- There is a first way just where the reference tells one. -/
theorem back_over (l : Bs) (r : Re) (hw : wfR r) (f t : Nat) (hf : f ≤ l.length) (ht : t ≤ l.length) : On (backS l r ((noneS l.length).set t true)) f ↔ On (overS l true true r ((noneS l.length).set f true)) t := by
  rw [(back_step l r hw).on _ (by rw [List.length_set, none_len]) f hf, (over_step l true true r hw).on _ (by rw [List.length_set, none_len]) t ht]
  constructor
  · rintro ⟨k, hk, h1, h2⟩
    rw [(one_on ht).1 h1] at h2
    exact ⟨f, hf, (one_on hf).2 rfl, h2⟩
  · rintro ⟨k, hk, h1, h2⟩
    rw [(one_on hf).1 h1] at h2
    exact ⟨t, ht, (one_on ht).2 rfl, h2⟩
end GrpS
end Go.Proofs.YtpdmjegbjcefjaaDoor
