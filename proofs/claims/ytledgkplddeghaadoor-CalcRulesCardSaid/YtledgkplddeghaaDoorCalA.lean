/- The law's cuts, small, count, Small. Conditions: arguments that fit. -/
import Derived.Test.YtledgkplddeghaaDoorCalW
import Derived.Test.YtledgkplddeghaaDoorCalG
import Derived.Laws.CopyOwn
namespace Go.Proofs.YtledgkplddeghaaDoor
set_option linter.unusedVariables false
set_option linter.unusedSimpArgs false
open Go.RowKit
namespace CalW
open CalP QuoP MemP MemW
/-- Strings in a row. -/
abbrev strC (l : List ByteArray) : List Value := l.map .string
/-- Cuts of a list. -/
def cutOf (l : List ByteArray) : Cu := ⟨l.getD 0 ByteArray.empty, l.getD 1 ByteArray.empty, l.getD 2 ByteArray.empty, l.getD 3 ByteArray.empty, l.getD 4 ByteArray.empty, l.getD 5 ByteArray.empty, l.getD 6 ByteArray.empty, l.getD 7 ByteArray.empty, l.getD 8 ByteArray.empty, l.getD 9 ByteArray.empty⟩
theorem cut_list (l : List ByteArray) (h : l.length ≤ 10) : (strC l ++ ([.string ⟨#[]⟩, .string ⟨#[]⟩, .string ⟨#[]⟩, .string ⟨#[]⟩, .string ⟨#[]⟩, .string ⟨#[]⟩, .string ⟨#[]⟩, .string ⟨#[]⟩, .string ⟨#[]⟩, .string ⟨#[]⟩] : List Value).drop l.length) = (cutOf l).v := by
  match l, h with
  | [], _ => rfl
  | [a0], _ => rfl
  | [a0, a1], _ => rfl
  | [a0, a1, a2], _ => rfl
  | [a0, a1, a2, a3], _ => rfl
  | [a0, a1, a2, a3, a4], _ => rfl
  | [a0, a1, a2, a3, a4, a5], _ => rfl
  | [a0, a1, a2, a3, a4, a5, a6], _ => rfl
  | [a0, a1, a2, a3, a4, a5, a6, a7], _ => rfl
  | [a0, a1, a2, a3, a4, a5, a6, a7, a8], _ => rfl
  | [a0, a1, a2, a3, a4, a5, a6, a7, a8, a9], _ => rfl
theorem cut_mem (l : List ByteArray) (h : ∀ s ∈ l, s.size ≤ 60) : ∀ s ∈ (cutOf l).list, s.size ≤ 60 := by
  have hg : ∀ i, (l.getD i ByteArray.empty).size ≤ 60 := by
    intro i
    by_cases hi : i < l.length
    · rw [List.getD_eq_getElem?_getD, List.getElem?_eq_getElem hi]; exact h _ (List.getElem_mem hi)
    · rw [List.getD_eq_getElem?_getD, List.getElem?_eq_none (by omega)]; decide
  intro s hs
  simp only [Cu.list, cutOf, List.mem_cons, List.not_mem_nil, or_false] at hs
  rcases hs with rfl | rfl | rfl | rfl | rfl | rfl | rfl | rfl | rfl | rfl <;> exact hg _
set_option maxHeartbeats 3200000 in
set_option maxRecDepth 100000 in
theorem cuts_c (A : Option Addr) (n c : Nat) (l : List ByteArray) (w : World) (hr : Rd w w.heap.size 1 A n (strC l)) (hl : l.length = n) (hn : n ≤ 10) :
    Calls Tryd.prog 11 #[.slice A n c] w fun x w' => x = .returned (.agg (cutOf l).v.toArray) ∧ Below w.heap.size w w' := by
  obtain ⟨wa, hwa⟩ : ∃ z : World, z = (w.alloc (.cells ([.string ⟨#[]⟩, .string ⟨#[]⟩, .string ⟨#[]⟩, .string ⟨#[]⟩, .string ⟨#[]⟩, .string ⟨#[]⟩, .string ⟨#[]⟩, .string ⟨#[]⟩, .string ⟨#[]⟩, .string ⟨#[]⟩] : List Value).toArray 34)).alloc (.cells ([.string ⟨#[]⟩, .string ⟨#[]⟩, .string ⟨#[]⟩, .string ⟨#[]⟩, .string ⟨#[]⟩, .string ⟨#[]⟩, .string ⟨#[]⟩, .string ⟨#[]⟩, .string ⟨#[]⟩, .string ⟨#[]⟩] : List Value).toArray 34) := ⟨_, rfl⟩
  have BA : Below w.heap.size w wa := by rw [hwa]; go_grown
  have X1 : Blk wa w.heap.size 34 ([.string ⟨#[]⟩, .string ⟨#[]⟩, .string ⟨#[]⟩, .string ⟨#[]⟩, .string ⟨#[]⟩, .string ⟨#[]⟩, .string ⟨#[]⟩, .string ⟨#[]⟩, .string ⟨#[]⟩, .string ⟨#[]⟩] : List Value).toArray := by rw [hwa]; exact (Blk.new _ _ _).alloc _
  have X2 : Blk wa (w.heap.size + 1) 34 ([.string ⟨#[]⟩, .string ⟨#[]⟩, .string ⟨#[]⟩, .string ⟨#[]⟩, .string ⟨#[]⟩, .string ⟨#[]⟩, .string ⟨#[]⟩, .string ⟨#[]⟩, .string ⟨#[]⟩, .string ⟨#[]⟩] : List Value).toArray := by rw [hwa]; exact Blk.new1 _ _ _ _
  have hsz : (Tryd.prog.info? 9).map (·.size) = some 1 := by kernel_rfl
  have hra := hr.below BA
  have hpos : 0 < (strC l).length → (some ⟨w.heap.size + 1, 0, none⟩ : Option Addr) = some ⟨w.heap.size + 1, 0, none⟩ ∧ ∃ ad, A = some ad ∧ ∀ j v, (strC l)[j]? = some v → wa.cell? (ad.add j) = some v := by
    intro h0
    refine ⟨rfl, ?_⟩
    obtain ⟨a, ha, _, hc⟩ := hra.2 (by simp at h0; omega)
    exact ⟨a, ha, hc⟩
  have hlen : (strC l).length = Nat.min n 10 := by rw [List.length_map, hl]; exact (Nat.min_eq_left hn).symm
  have h1 : ∀ v ∈ strC l, v.oneCell' = true := by intro v hv; obtain ⟨s, _, rfl⟩ := List.mem_map.1 hv; rfl
  obtain ⟨q, hq⟩ : ∃ q, cutOf l = q := ⟨_, rfl⟩
  have HCU := Lib.hid (cut_list l (by omega))
  rw [hq] at HCU ⊢
  clear hq
  subst hwa
  go_enter Tryd.func11, Tryd.ntmps11
  go_wp2_with (refine wpList_copy_splice rfl _ _ 26 26 rfl 9 Tryd.underlying26 hsz (some ⟨w.heap.size + 1, 0, none⟩) A 10 10 n c (by rfl) (by rfl) (w.heap.size + 1) 0 ([.string ⟨#[]⟩, .string ⟨#[]⟩, .string ⟨#[]⟩, .string ⟨#[]⟩, .string ⟨#[]⟩, .string ⟨#[]⟩, .string ⟨#[]⟩, .string ⟨#[]⟩, .string ⟨#[]⟩, .string ⟨#[]⟩] : List Value) 34 X2 (strC l) hlen hpos (by simp; omega) h1 (w.heap.size + 1) _ (Below.refl _ _) (Nat.le_refl _) ?_)
  intro w3 hh hB3
  have Y2 : Blk w3 (w.heap.size + 1) 34 q.v.toArray := by
    have := hh.out
    rw [show splice ([.string ⟨#[]⟩, .string ⟨#[]⟩, .string ⟨#[]⟩, .string ⟨#[]⟩, .string ⟨#[]⟩, .string ⟨#[]⟩, .string ⟨#[]⟩, .string ⟨#[]⟩, .string ⟨#[]⟩, .string ⟨#[]⟩] : List Value) 0 (strC l) = q.v by rw [← HCU.out]; unfold splice; simp] at this
    exact this
  have Y1 : Blk w3 w.heap.size 34 ([.string ⟨#[]⟩, .string ⟨#[]⟩, .string ⟨#[]⟩, .string ⟨#[]⟩, .string ⟨#[]⟩, .string ⟨#[]⟩, .string ⟨#[]⟩, .string ⟨#[]⟩, .string ⟨#[]⟩, .string ⟨#[]⟩] : List Value).toArray := X1.below hB3 (by omega)
  have B3 : Below w.heap.size w w3 := BA.trans (hB3.mono (by omega))
  clear hh hB3 X1 X2 hpos hra HCU
  have p0 := Y1.cell 0
  have p1 := Y1.cell 1
  have p2 := Y1.cell 2
  have p3 := Y1.cell 3
  have p4 := Y1.cell 4
  have p5 := Y1.cell 5
  have p6 := Y1.cell 6
  have p7 := Y1.cell 7
  have p8 := Y1.cell 8
  have p9 := Y1.cell 9
  simp only [List.getElem?_toArray, List.getElem?_cons_zero, List.getElem?_cons_succ] at p0 p1 p2 p3 p4 p5 p6 p7 p8 p9
  have l0 := Y1.loose 0
  have l1 := Y1.loose 1
  have l2 := Y1.loose 2
  have l3 := Y1.loose 3
  have l4 := Y1.loose 4
  have l5 := Y1.loose 5
  have l6 := Y1.loose 6
  have l7 := Y1.loose 7
  have l8 := Y1.loose 8
  have l9 := Y1.loose 9
  have r0 := Y2.cell 0
  have r1 := Y2.cell 1
  have r2 := Y2.cell 2
  have r3 := Y2.cell 3
  have r4 := Y2.cell 4
  have r5 := Y2.cell 5
  have r6 := Y2.cell 6
  have r7 := Y2.cell 7
  have r8 := Y2.cell 8
  have r9 := Y2.cell 9
  simp only [List.getElem?_toArray, List.getElem?_cons_zero, List.getElem?_cons_succ] at r0 r1 r2 r3 r4 r5 r6 r7 r8 r9
  have hy1 := Y1.lt
  go_wp2
  first | (refine bodyPost_ret (R := fun x w' => x = .returned (.agg q.v.toArray) ∧ Below w.heap.size w w') (v := .agg q.v.toArray) (by simp [results, Tryd.results11, go_sem, hy1, p0, p1, p2, p3, p4, p5, p6, p7, p8, p9]) rfl ?_) | fail
  exact ⟨rfl, by go_grown⟩

def smallS (l : List ByteArray) : Bool := decide (l.length ≤ 10) && l.all fun s => decide (s.size ≤ 60)
theorem smallS_ok {l : List ByteArray} (h : smallS l = true) : l.length ≤ 10 ∧ ∀ s ∈ l, s.size ≤ 60 := by
  unfold smallS at h
  rw [Bool.and_eq_true] at h
  exact ⟨by simpa using h.1, fun s hs => by simpa using List.all_eq_true.1 h.2 s hs⟩
set_option maxHeartbeats 1600000 in
theorem smalls_c (A : Option Addr) (n c : Nat) (l : List ByteArray) (w : World) (hr : Rd w w.heap.size 1 A n (strC l)) (hl : l.length = n) (hn : n ≤ 9223372036854775807) :
    Calls Tryd.prog 9 #[.slice A n c] w fun x w' => x = .returned (.bool (smallS l)) ∧ Below w.heap.size w w' := by
  obtain ⟨GR, hGR⟩ : ∃ G, smallS l = G := ⟨_, rfl⟩
  rw [hGR]
  by_cases h10 : 10 < n
  · have d1 : decide ((10 : Int) < (n : Int)) = true := by simp; omega
    have HZ := Lib.hid (show GR = false by rw [← hGR]; unfold smallS; rw [show decide (l.length ≤ 10) = false by simp; omega]; rfl)
    clear hGR hr
    go_enter Tryd.func9, Tryd.ntmps9
    go_wp2
    go_ret
    exact ⟨by rw [HZ.out] <;> rfl, Below.refl _ _⟩
  have d1 : decide ((10 : Int) < (n : Int)) = false := by simp; omega
  have HG := Lib.hid (show GR = (l.drop 0).all (fun s => decide (s.size ≤ 60)) by rw [← hGR]; unfold smallS; rw [show decide (l.length ≤ 10) = true by simp; omega]; rfl)
  have HR := Lib.hid hr
  clear hGR hr
  go_enter Tryd.func9, Tryd.ntmps9
  go_wp2
  go_loopw [10] (fun v wr => ∃ i : Nat, v = .int .i64 i ∧ i ≤ n ∧ Hid (GR = (l.drop i).all (fun s => decide (s.size ≤ 60))) ∧ Below w.heap.size w wr) (fun v _ => n - (intOf v).toNat)
  case atStart => exact ⟨0, rfl, by omega, HG, Below.refl _ _⟩
  case round =>
    clear HG
    obtain ⟨i, rfl, hi, hq, hB⟩ := hrel
    have zB := hB.size
    by_cases hlt : i < n
    · obtain ⟨g, o, rfl, hb, hc⟩ := Rd.flat (HR.out.below hB) (by omega) (by omega)
      have hli : i < l.length := by omega
      have hci := hc i (.string (l[i]'hli)) (by simp [List.getElem?_eq_getElem hli])
      have hst := hq.out
      rw [List.drop_eq_getElem_cons hli, List.all_cons] at hst
      obtain ⟨s, hs⟩ : ∃ s, l[i]'hli = s := ⟨_, rfl⟩
      rw [hs] at hci hst
      clear hc hs
      by_cases h60 : 60 < s.size
      · have d2 : decide ((60 : Int) < (s.size : Int)) = true := by simp; omega
        have HZ := Lib.hid (show GR = false by rw [hst, show decide (s.size ≤ 60) = false by simp; omega]; rfl)
        clear hst hq
        go_wp2
        go_ret
        exact ⟨by rw [HZ.out] <;> rfl, hB⟩
      · have d2 : decide ((60 : Int) < (s.size : Int)) = false := by simp; omega
        have HS := Lib.hid (show GR = (l.drop (i + 1)).all (fun s => decide (s.size ≤ 60)) by rw [hst, show decide (s.size ≤ 60) = true by simp; omega, Bool.true_and])
        clear hst hq
        go_wp2
        go_roundw
        case rel => exact ⟨i + 1, by go_num, by omega, HS, hB⟩
        case measure => simp [intOf]; omega
    · have hi2 : i = n := by omega
      subst hi2
      have HZ := Lib.hid (show GR = true by rw [hq.out, List.drop_of_length_le (by omega)]; rfl)
      clear hq
      go_wp2
      go_ret
      exact ⟨by rw [HZ.out] <;> rfl, hB⟩
mutual
theorem count_b : ∀ (x : Ex) (left : Int), 0 ≤ left → -1 ≤ countE x left ∧ countE x left ≤ left
  | .mk k n nm op kids, left => by
    intro h
    rw [countE]
    split
    · omega
    · have := count_bL kids (left - 1) (by omega); omega
theorem count_bL : ∀ (l : List Ex) (left : Int), -1 ≤ left → -1 ≤ countL l left ∧ countL l left ≤ left
  | [], left => by intro h; rw [countL]; omega
  | x :: l, left => by
    intro h
    rw [countL]
    split
    · omega
    · have h1 := count_b x left (by omega)
      have h2 := count_bL l (countE x left) h1.1
      omega
end
theorem countL_drop (l : List Ex) (i : Nat) (h : i < l.length) (left : Int) : countL (l.drop i) left = if left < 0 then left else countL (l.drop (i + 1)) (countE (l[i]'h) left) := by
  rw [List.drop_eq_getElem_cons h, countL]
set_option maxHeartbeats 3200000 in
set_option maxRecDepth 100000 in
theorem count_step {K : Nat → Prop} (k n : Int) (nm op : ByteArray) (kids : List Ex) (A : Option Addr) (c : Nat) (w : World) (left : Int) (h0 : 0 ≤ left) (h1 : left ≤ 1000) (h : Et w K (.mk k n nm op kids) (exC k n nm op A kids.length c))
    (ih : ∀ (i : Nat) (hi : i < kids.length) (W : World) (cs : List Value) (x : Int), 0 ≤ x → x ≤ 1000 → Et W K (kids[i]'hi) cs → Calls Tryd.prog 19 #[.agg cs.toArray, .int .i64 x] W fun e w' => e = .returned (.int .i64 (countE (kids[i]'hi) x)) ∧ Below W.heap.size W w') :
    Calls Tryd.prog 19 #[.agg (exC k n nm op A kids.length c).toArray, .int .i64 left] w fun e w' => e = .returned (.int .i64 (countE (.mk k n nm op kids) left)) ∧ Below w.heap.size w w' := by
  obtain ⟨GR, hGR⟩ : ∃ G, countE (.mk k n nm op kids) left = G := ⟨_, rfl⟩
  rw [hGR]
  have hG2 : GR = if 60 < nm.size ∨ 60 < op.size then -1 else countL kids (left - 1) := by rw [← hGR, countE]
  have HE := Lib.hid h
  have IH := Lib.hid ih
  have hklm : kids.length ≤ 9223372036854775807 := by
    have h5 : kids.length ≤ maxLen := h.fits.2.2.2.2
    unfold maxLen at h5; omega
  clear hGR h ih
  obtain ⟨kl, hkl⟩ : ∃ kl, kids.length = kl := ⟨_, rfl⟩
  rw [hkl] at HE hklm ⊢
  have BA : Below w.heap.size w (w.alloc (.cells (exC k n nm op A kl c).toArray 24)) := by go_grown
  have XA : Blk (w.alloc (.cells (exC k n nm op A kl c).toArray 24)) w.heap.size 24 (exC k n nm op A kl c).toArray := Blk.new _ _ _
  by_cases a1 : 60 < nm.size
  · have d1 : decide ((60 : Int) < (nm.size : Int)) = true := by simp; omega
    have HZ := Lib.hid (show GR = -1 by rw [hG2, if_pos (Or.inl a1)])
    clear hG2 a1
    go_enter Tryd.func19, Tryd.ntmps19
    go_wp2
    go_ret
    exact ⟨by rw [HZ.out] <;> rfl, BA⟩
  have d1 : decide ((60 : Int) < (nm.size : Int)) = false := by simp; omega
  by_cases a2 : 60 < op.size
  · have d2 : decide ((60 : Int) < (op.size : Int)) = true := by simp; omega
    have d2n : decide (60 < op.size) = true := by simp; omega
    have HZ := Lib.hid (show GR = -1 by rw [hG2, if_pos (Or.inr a2)])
    clear hG2 a1 a2
    go_enter Tryd.func19, Tryd.ntmps19
    go_wp2
    go_ret
    exact ⟨by rw [HZ.out] <;> rfl, BA⟩
  have d2 : decide ((60 : Int) < (op.size : Int)) = false := by simp; omega
  have d2n : decide (60 < op.size) = false := by simp; omega
  have HG := Lib.hid (show countL (kids.drop 0) (left - 1) = GR by rw [hG2, if_neg (by omega)]; rfl)
  clear hG2 a1 a2
  go_enter Tryd.func19, Tryd.ntmps19
  go_wp2
  go_loopw [1, 21] (fun lv v wr => ∃ (i : Nat) (x : Int), lv = .int .i64 x ∧ v = .int .i64 i ∧ i ≤ kl ∧ -1 ≤ x ∧ x ≤ 1000 ∧ Hid (countL (kids.drop i) x = GR) ∧ Below w.heap.size w wr ∧ Blk wr w.heap.size 24 (exC k n nm op A kl c).toArray) (fun _ v _ => kl - (intOf v).toNat)
  case atStart => exact ⟨0, left - 1, by go_num, rfl, by omega, by omega, by omega, HG, BA, XA⟩
  case round =>
    clear HG
    obtain ⟨i, x, rfl, rfl, hi, x0, x1, hq, hB, hX⟩ := hrel
    have zB := hB.size
    have y0 := hX.cell 0
    have y1 := hX.cell 1
    have y2 := hX.cell 2
    have y3 := hX.cell 3
    have y4 := hX.cell 4
    simp only [List.getElem?_toArray, List.getElem?_cons_zero, List.getElem?_cons_succ] at y0 y1 y2 y3 y4
    by_cases hlt : i < kl
    · have hi2 : i < kids.length := by omega
      have hst := countL_drop kids i hi2 x
      rw [hq.out] at hst
      by_cases hx : x < 0
      · have d3 : decide (x < 0) = true := by simpa using hx
        have HZ := Lib.hid (show GR = x by rw [hst, if_pos hx])
        clear hst hq
        go_wp2
        go_ret
        exact ⟨by rw [HZ.out] <;> rfl, hB⟩
      · have d3 : decide (x < 0) = false := by simpa using hx
        obtain ⟨g0, o, A2, c2, rfl, hk, hc⟩ := (HE.out.bel hB).kid_ hi2
        have fk0 := hc 0 _ rfl
        have fk1 := hc 1 _ rfl
        have fk2 := hc 2 _ rfl
        have fk3 := hc 3 _ rfl
        have fk4 := hc 4 _ rfl
        simp only [Nat.add_zero] at fk0
        clear hc
        have ci := IH.out i hi2 wr _ x (by omega) x1 hk
        have hbb := count_b (kids[i]'hi2) x (by omega)
        obtain ⟨y, hy⟩ : ∃ y, kids[i]'hi2 = y := ⟨_, rfl⟩
        rw [hy] at fk0 fk1 fk2 fk3 fk4 hk hst hbb
        simp only [hy] at ci
        have HS := Lib.hid (show countL (kids.drop (i + 1)) (countE y x) = GR by rw [hst, if_neg hx])
        clear hk hy hst hq
        generalize countE y x = z at *
        generalize y.kind = k0 at *
        generalize y.n = k1 at *
        generalize y.name = k2 at *
        generalize y.op = k3 at *
        generalize y.kids.length = k4 at *
        go_wp2_with fail
        (with_reducible refine ci.mono ?_)
        rintro e w2 ⟨rfl, hb⟩
        have B3 := via hb hB
        have X3 := hX.next hb
        go_wp2
        go_roundw
        case rel => exact ⟨i + 1, z, rfl, by go_num, by omega, by omega, by omega, HS, B3, X3⟩
        case measure => simp [intOf]; omega
    · have hi2 : i = kl := by omega
      subst hi2
      have HZ := Lib.hid (show GR = x by rw [← hq.out, List.drop_of_length_le (by omega), countL])
      clear hq
      go_wp2
      go_ret
      exact ⟨by rw [HZ.out] <;> rfl, hB⟩
theorem count_c {K : Nat → Prop} : ∀ (N : Nat) (r : Ex), nodesE r ≤ N → ∀ (w : World) (cs : List Value) (left : Int), 0 ≤ left → left ≤ 1000 → Et w K r cs →
    Calls Tryd.prog 19 #[.agg cs.toArray, .int .i64 left] w fun e w' => e = .returned (.int .i64 (countE r left)) ∧ Below w.heap.size w w' := by
  intro N
  induction N with
  | zero => intro r h; have := nodes_pos r; omega
  | succ N ih =>
    intro r hN w cs left h0 h1 h
    obtain ⟨k, n, nm, op, kids⟩ := r
    obtain ⟨A, c, rfl⟩ := h.shape
    rw [nodesE] at hN
    exact count_step k n nm op kids A c w left h0 h1 h (fun i hi W cs2 x hx0 hx1 h2 => ih _ (by have := nodes_kid kids i hi; omega) W cs2 x hx0 hx1 h2)
theorem small9_c {K : Nat → Prop} (r : Ex) (w : World) (cs : List Value) (most : Int) (h0 : 0 ≤ most) (h1 : most ≤ 1000) (h : Et w K r cs) :
    Calls Tryd.prog 7 #[.agg cs.toArray, .int .i64 most] w fun x w' => x = .returned (.bool (smallE r most)) ∧ Below w.heap.size w w' := by
  obtain ⟨A, c, rfl⟩ := h.shape
  have cr := count_c (nodesE r) r (Nat.le_refl _) (w.alloc (.cells (exC r.kind r.n r.name r.op A r.kids.length c).toArray 24)) _ most h0 h1 (h.bel (by go_grown))
  obtain ⟨G, hG⟩ : ∃ G, smallE r most = G := ⟨_, rfl⟩
  rw [hG]
  unfold smallE at hG
  generalize countE r most = z at *
  have HG := Lib.hid hG
  generalize r.kind = k0 at *
  generalize r.n = k1 at *
  generalize r.name = k2 at *
  generalize r.op = k3 at *
  generalize r.kids.length = k4 at *
  clear h
  cases G
  all_goals
    go_enter Tryd.func7, Tryd.ntmps7
    go_wp2_with fail
    (with_reducible refine cr.mono ?_)
    rintro x w2 ⟨rfl, hb⟩
    go_wp2
    go_ret
    exact ⟨by first | rfl | (rw [hG] <;> rfl), ((Below.refl _ _).alloc (Nat.le_refl _) _).trans (hb.mono (by rw [World.size_alloc]; omega))⟩
end CalW
end Go.Proofs.YtledgkplddeghaaDoor
