/- The walk of the reference's Runs. Conditions: fewer than 10^9 numbers. -/
import Derived.Test.YtfkjogkpdebepaaStaU
import Derived.Laws.OwnMore
namespace Go.Proofs.Ytfkjogkpdebepaa
open Go.RowKit
namespace StaU
open StaP StaL
def addR (rs : List Rn) (a : Int) : List Rn := match rs.getLast? with
  | some (k, b) => if b = a then rs.dropLast ++ [(k + 1, b)] else rs ++ [(1, a)]
  | none => rs ++ [(1, a)]
theorem addR_snoc (rs : List Rn) (k : Nat) (b a : Int) : addR (rs ++ [(k, b)]) a = if b = a then rs ++ [(k + 1, b)] else rs ++ [(k, b)] ++ [(1, a)] := by
  unfold addR; simp
theorem addR_cons (r : Rn) (rs : List Rn) (h : rs ≠ []) (a : Int) : addR (r :: rs) a = r :: addR rs a := by
  rcases List.eq_nil_or_concat rs with rfl | ⟨ini, ⟨k, b⟩, rfl⟩
  · exact absurd rfl h
  · rw [List.concat_eq_append, addR_snoc, ← List.cons_append, addR_snoc]
    split <;> rfl
theorem runs_snoc (l : List Int) (a : Int) : runs (l ++ [a]) = addR (runs l) a := by
  induction l with
  | nil => rfl
  | cons b l ih =>
    rw [List.cons_append, runs_cons, ih, runs_cons]
    cases hr : runs l with
    | nil =>
      simp only [addR, List.getLast?_nil, List.nil_append, List.getLast?_singleton, List.dropLast_singleton]
      by_cases e : b = a <;> simp [e]
    | cons r rs =>
      obtain ⟨k, c⟩ := r
      cases rs with
      | nil =>
        simp only [addR, List.getLast?_singleton, List.dropLast_singleton, List.nil_append]
        by_cases e : c = a <;> by_cases f : b = c <;> simp_all [addR]
      | cons r2 rs =>
        rw [addR_cons _ _ (by simp)]
        by_cases f : b = c
        · simp only [f, if_true]
          rw [addR_cons (k + 1, c) (r2 :: rs) (by simp)]
        · simp only [f, if_false]
          rw [addR_cons (1, b) ((k, c) :: r2 :: rs) (by simp), addR_cons (k, c) (r2 :: rs) (by simp)]
theorem own_succ {W : World} {base : Nat} {e : TypeId} {size : Nat} {v : Value} {k : Nat} {xs : List Value} (h : W.ownsRow base e size v (k + 1) xs) : ∃ g cap, v = .slice (some ⟨g, 0, none⟩) (k + 1) cap := by
  rcases h.2 with ⟨_, h0⟩ | ⟨g, cap, _, rfl, _⟩
  · omega
  · exact ⟨g, cap, rfl⟩
theorem rcells_len (l : List Rn) : (rcells l).length = l.length * 2 := by
  induction l with
  | nil => rfl
  | cons r l ih => rw [show rcells (r :: l) = .int .i64 (r.1 : Int) :: .int .i64 r.2 :: rcells l from rfl, List.length_cons, List.length_cons, List.length_cons, ih]; omega
theorem run_le : ∀ (rs : List Rn) (r : Rn), r ∈ rs → r.1 ≤ (expand rs).length := by
  intro rs
  induction rs with
  | nil => intro r h; cases h
  | cons q rs ih =>
    intro r h
    obtain ⟨k, a⟩ := q
    rw [expand_cons, List.length_append, List.length_replicate]
    rcases List.mem_cons.1 h with rfl | h
    · exact Nat.le_add_right _ _
    · have := ih r h; omega
theorem runs_le (l : List Int) : (runs l).length ≤ l.length := by
  obtain ⟨h1, h2⟩ := runs_ok l
  have := runs_len (runs l) ⟨_, h1⟩
  rwa [h2] at this
set_option maxHeartbeats 6400000 in
set_option maxRecDepth 100000 in
theorem refruns_c (A : Option Addr) (n c : Nat) (l : List Int) (w : World) (hr : Rd w w.heap.size 1 A n (ints l)) (hn : n ≤ 1000000000) :
    Calls Try.prog 13 #[.slice A n c] w (UPost l w) := by
  obtain ⟨i0, hi0, hz0, hz1, hz2⟩ := info_parts rn_i
  have hl := hr.1
  rw [List.length_map] at hl
  go_enter Try.func13, Try.ntmps13
  go_wp2_with fail
  go_loopw [3, 4] (fun ov iv wr => ∃ i : Nat, iv = .int .i64 i ∧ i ≤ n ∧ wr.ownsRow w.heap.size RnT 2 ov (runs (l.take i)).length (rcells (runs (l.take i))) ∧ Below w.heap.size w wr) (fun _ iv _ => n - (intOf iv).toNat)
  case atStart => exact ⟨0, rfl, by omega, World.ownsRow_nil _ _ _ _, Below.refl _ _⟩
  case round =>
    obtain ⟨i, rfl, hi, hown, hB⟩ := hrel
    have hBz := hB.size
    by_cases hlt : i < n
    rotate_left
    · obtain rfl : i = n := by omega
      rw [List.take_of_length_le (by omega)] at hown
      obtain ⟨oa, oc, rfl⟩ := own_shape hown
      go_wp2
      go_ret
      exact ⟨_, rfl, hown, hB⟩
    obtain ⟨ad, o, rfl, hg, hcell⟩ := Rd.flat hr (by omega) (by omega)
    obtain ⟨a, ha⟩ : ∃ a, l[i]? = some a := ⟨_, List.getElem?_eq_getElem (by omega)⟩
    have c0 : wr.cell? ⟨ad, o + i, none⟩ = some (.int .i64 a) := (hB.cell (p := ⟨ad, o + i, none⟩) hg).trans (hcell i _ (by rw [ints, List.getElem?_map, ha]; rfl))
    have HNX : Hid (runs (l.take (i + 1)) = addR (runs (l.take i)) a) := Lib.hid (by rw [List.take_add_one, ha]; exact runs_snoc _ _)
    have HLE : Hid ((runs (l.take i)).length ≤ i ∧ ∀ r ∈ runs (l.take i), r.1 ≤ i) := Lib.hid (by
      have e : (l.take i).length = i := by rw [List.length_take]; omega
      refine ⟨by have := runs_le (l.take i); omega, fun r hr => ?_⟩
      have := run_le _ r hr
      rw [(runs_ok _).2, e] at this; exact this)
    have di : decide ((i : Int) < (n : Int)) = true := by simp; omega
    clear hcell ha
    obtain ⟨wo, rfl⟩ : ∃ wo : World, wo = wr := ⟨_, rfl⟩
    rcases List.eq_nil_or_concat (runs (l.take i)) with he | ⟨ini, ⟨k, b⟩, he⟩
    · rw [he] at hown
      obtain ⟨oa, oc, rfl⟩ := own_shape hown
      go_wp2_with fail
      go_quiet (fail)
      obtain ⟨wd, hwd⟩ : ∃ x, wo.drewN nq = x := ⟨_, rfl⟩
      have d0 : wd.cell? ⟨ad, o + i, none⟩ = some (.int .i64 a) := by rw [← hwd]; exact c0
      have hownd : wd.ownsRow w.heap.size RnT 2 (.slice oa ([] : List Rn).length oc) ([] : List Rn).length (rcells []) := by rw [← hwd]; exact hown
      have hBd : Below w.heap.size w wd := by rw [← hwd]; exact below_dn hB nq
      rw [hwd]
      have hBzd := hBd.size
      clear hwd c0 hown hB
      go_wp2_with (at_builtin; refine wpList_append_lies _ rfl (.tmp 38) (.tmp 44) 40 rfl w.heap.size RnT i0 (.agg #[.int .i64 0, .int .i64 0]) 2 16 Try.underlying40 hi0 hz0 hz1 hz2 rfl (by decide) _ ([] : List Rn).length (rcells []) rfl (hownd.alloc _) ⟨wd.heap.size, 0, none⟩ 1 1 [.int .i64 1, .int .i64 a] rfl rfl (World.news_of_block (heap_alloc_new wd _)) (by intro u hu; simp at hu; rcases hu with rfl | rfl <;> rfl) (by first | omega | (simp; done) | (simp; omega)) (by unfold maxLen; first | omega | (simp; done) | (simp; omega)) (by first | omega | (simp; done) | (simp; omega)) (by first | omega | (simp; done) | (simp; omega)) _ rfl ?_)
      intro gg cap5 w5 hown5 hgrow hat hlt5
      have hB5 : Below w.heap.size w w5 := (hBd.alloc hBzd _).grown hgrow (by simp; omega) (fun k hk => (hownd.lt k hk).1)
      have hNX : runs (l.take (i + 1)) = [] ++ [(1, a)] := by rw [HNX.out]; rw [he]; rfl
      have hown6 : w5.ownsRow w.heap.size RnT 2 (.slice (some ⟨gg, 0, none⟩) 1 cap5) (runs (l.take (i + 1))).length (rcells (runs (l.take (i + 1)))) := by rw [hNX]; exact hown5
      clear hown5 hownd d0 HNX HLE hNX
      go_wp2
      go_roundw
      case rel => exact ⟨i + 1, by go_num, by omega, hown6, hB5⟩
      case measure => simp [intOf] <;> omega
    · rw [List.concat_eq_append] at he
      rw [he] at hown HNX HLE
      have hm : (ini ++ [(k, b)]).length = ini.length + 1 := by simp
      rw [hm] at hown
      obtain ⟨m, hmm⟩ : ∃ m, ini.length = m := ⟨_, rfl⟩
      rw [hmm] at hown
      obtain ⟨g, cap, rfl⟩ := own_succ hown
      have ck : wo.cell? ⟨g, m * 2, none⟩ = some (.int .i64 k) := by
        rw [hown.cellAt _ (by omega), rcells_app, List.getElem?_append_right (by rw [rcells_len, hmm]; omega), rcells_len, hmm, Nat.sub_self]; rfl
      have cb : wo.cell? ⟨g, m * 2 + 1, none⟩ = some (.int .i64 b) := by
        rw [hown.cellAt _ (by omega), rcells_app, List.getElem?_append_right (by rw [rcells_len, hmm]; omega), rcells_len, hmm, Nat.add_sub_cancel_left]; rfl
      have cf := hown.frozenAt (m * 2)
      have hk : k ≤ n := by have := HLE.out.2 (k, b) (by simp); simp at this; omega
      have hmn : m + 1 ≤ n := by have := HLE.out.1; simp at this; omega
      by_cases hba : b = a
      · have de : (b == a) = true := by rw [beq_iff_eq]; exact hba
        go_wp2_with fail
        go_quiet (fail)
        obtain ⟨wd, hwd⟩ : ∃ x, wo.drewN nq = x := ⟨_, rfl⟩
        have d0 : wd.cell? ⟨g, m * 2, none⟩ = some (.int .i64 k) := by rw [← hwd]; exact ck
        have d1 : wd.frozen? ⟨g, m * 2, none⟩ = false := by rw [← hwd]; exact cf
        have hownd : wd.ownsRow w.heap.size RnT 2 (.slice (some ⟨g, 0, none⟩) (m + 1) cap) (m + 1) (rcells (ini ++ [(k, b)])) := by rw [← hwd]; exact hown
        have hBd : Below w.heap.size w wd := by rw [← hwd]; exact below_dn hB nq
        rw [hwd]
        have hBzd := hBd.size
        clear hwd c0 hown hB ck cb cf
        go_wp2_with fail
        go_region
        have hNX : runs (l.take (i + 1)) = ini ++ [(k + 1, b)] := by rw [HNX.out, addR_snoc, if_pos hba]
        obtain ⟨o5, g5⟩ := hownd.stored (m * 2) (.int .i64 ((k : Int) + 1))
        obtain ⟨w5, hw5⟩ : ∃ x, (wd.setCell ⟨g, m * 2, none⟩ (.int .i64 ((k : Int) + 1))).drew = x := ⟨_, rfl⟩
        have hB5 : Below w.heap.size w w5 := by rw [← hw5]; exact (hBd.grown g5 hBzd (fun k hk => by injection hk with hk; subst hk; exact (hownd.lt _ rfl).1)).drew
        have hown6 : w5.ownsRow w.heap.size RnT 2 (.slice (some ⟨g, 0, none⟩) (m + 1) cap) (runs (l.take (i + 1))).length (rcells (runs (l.take (i + 1)))) := by
          rw [hNX, ← hw5]
          have e : rcells (ini ++ [(k + 1, b)]) = (rcells (ini ++ [(k, b)])).set (m * 2) (.int .i64 ((k : Int) + 1)) := by
            rw [rcells_app, rcells_app, List.set_append_right _ _ (by rw [rcells_len, hmm]; omega), rcells_len, hmm, Nat.sub_self]; simp [rcells]
          rw [e, show (ini ++ [(k + 1, b)]).length = m + 1 by simp [hmm]]; exact o5
        rw [hw5]
        clear o5 g5 hw5 hownd d0 d1 HNX HLE hNX
        go_wp2
        go_roundw
        case rel => exact ⟨i + 1, by go_num, by omega, hown6, hB5⟩
        case measure => simp [intOf] <;> omega
      · have de : (b == a) = false := by rw [beq_eq_false_iff_ne]; exact hba
        go_wp2_with fail
        go_quiet (fail)
        obtain ⟨wd, hwd⟩ : ∃ x, wo.drewN nq = x := ⟨_, rfl⟩
        have d0 : wd.cell? ⟨ad, o + i, none⟩ = some (.int .i64 a) := by rw [← hwd]; exact c0
        have hownd : wd.ownsRow w.heap.size RnT 2 (.slice (some ⟨g, 0, none⟩) (m + 1) cap) (m + 1) (rcells (ini ++ [(k, b)])) := by rw [← hwd]; exact hown
        have hBd : Below w.heap.size w wd := by rw [← hwd]; exact below_dn hB nq
        rw [hwd]
        have hBzd := hBd.size
        clear hwd c0 hown hB
        go_wp2_with (at_builtin; refine wpList_append_lies _ rfl (.tmp 38) (.tmp 44) 40 rfl w.heap.size RnT i0 (.agg #[.int .i64 0, .int .i64 0]) 2 16 Try.underlying40 hi0 hz0 hz1 hz2 rfl (by decide) _ (m + 1) (rcells (ini ++ [(k, b)])) rfl (hownd.alloc _) ⟨wd.heap.size, 0, none⟩ 1 1 [.int .i64 1, .int .i64 a] rfl rfl (World.news_of_block (heap_alloc_new wd _)) (by intro u hu; simp at hu; rcases hu with rfl | rfl <;> rfl) (by first | omega | (simp; done) | (simp; omega)) (by unfold maxLen; first | omega | (simp; done) | (simp; omega)) (by first | omega | (simp; done) | (simp; omega)) (by first | omega | (simp; done) | (simp; omega)) _ rfl ?_)
        intro gg cap5 w5 hown5 hgrow hat hlt5
        have hB5 : Below w.heap.size w w5 := (hBd.alloc hBzd _).grown hgrow (by simp; omega) (fun k hk => (hownd.lt k hk).1)
        have hNX : runs (l.take (i + 1)) = (ini ++ [(k, b)]) ++ [(1, a)] := by rw [HNX.out]; rw [addR_snoc, if_neg hba]
        have hown6 : w5.ownsRow w.heap.size RnT 2 (.slice (some ⟨gg, 0, none⟩) (m + 1 + 1) cap5) (runs (l.take (i + 1))).length (rcells (runs (l.take (i + 1)))) := by
          rw [hNX, rcells_app, List.length_append, hm, hmm]; exact hown5
        clear hown5 hownd d0 HNX HLE hNX
        go_wp2
        go_roundw
        case rel => exact ⟨i + 1, by go_num, by omega, hown6, hB5⟩
        case measure => simp [intOf] <;> omega
end StaU
end Go.Proofs.Ytfkjogkpdebepaa
