/- A choice read from a text; a first line read: the walks. Conditions: texts that fit; the tables of strconv. -/
import Derived.Test.YtooinkhjoppijaaDoorTraA
namespace Go.Proofs.YtooinkhjoppijaaDoor
set_option linter.unusedVariables false
set_option linter.unusedSimpArgs false
open Go.RowKit
namespace TraW
open TraP NumP NumW
theorem lineAny_c (c : Ch) (w : World) : Calls Tryd.prog 14 #[chV c] w fun e w' => e = .returned (.tuple #[.string (if oneB c = true then ba (lineL c) else ByteArray.empty), .bool (oneB c)]) ∧ Below w.heap.size w w' := by
  cases h : oneB c
  · exact (linez_c c w h).mono fun e w' ⟨a, b⟩ => ⟨by rw [a]; rfl, b⟩
  · exact (line_c c w h).mono fun e w' ⟨a, b⟩ => ⟨by rw [a]; rfl, b⟩
/-- What is read of a choice's line. -/
def ChoPost (l : Bs) (w : World) (e : Ending) (w' : World) : Prop :=
  ∃ (c : Ch), e = .returned (.tuple #[chV c, .bool (choP l).isSome]) ∧ (∀ d, choP l = some d → c = d) ∧ Below w.heap.size w w'
theorem cho_none {l : Bs} {w w' : World} {c : Ch} {b : Bool} (h : choP l = none) (hb : b = false) (hw : Below w.heap.size w w') : ChoPost l w (.returned (.tuple #[chV c, .bool b])) w' :=
  ⟨c, by rw [h, hb]; rfl, (fun d hd => by rw [h] at hd; cases hd), hw⟩
theorem cho_cand {l : Bs} {c : Ch} (h : candP (spl l) = some c) : choP l = if oneB c = true ∧ lineL c = l then some c else none := by
  unfold choP; rw [h]
theorem cho_no {l : Bs} (h : candP (spl l) = none) : choP l = none := by unfold choP; rw [h]
theorem cho_end {s : ByteArray} {w w' : World} {c : Ch} {b : Bool} (h : candP (spl s.data.toList) = some c) (hb : b = (oneB c && ((if oneB c = true then ba (lineL c) else ByteArray.empty).toList == s.toList))) (hw : Below w.heap.size w w') :
    ChoPost s.data.toList w (.returned (.tuple #[chV c, .bool b])) w' := by
  refine ⟨c, ?_, ?_, hw⟩
  · have : b = (choP s.data.toList).isSome := by
      rw [hb, cho_cand h]
      cases h1 : oneB c
      · simp
      · by_cases h2 : lineL c = s.data.toList
        · rw [if_pos rfl]; simp only [Lib.toList_data, ba_list, h2]; simp
        · simp only [Lib.toList_data, ba_list, if_true, Bool.true_and, true_and, if_neg h2]
          simp [h2]
    rw [this]
  · intro d hd
    rw [cho_cand h] at hd
    split at hd
    · exact Option.some.inj hd
    · cases hd
set_option maxHeartbeats 3200000 in
theorem choice_1 (s : ByteArray) (w : World) (hs : s.size < 4294967281) (hw : Rdy w) (p0 : Bs) (hp : spl s.data.toList = [p0]) :
    Calls Tryd.prog 41 #[.string s] w (ChoPost s.data.toList w) := by
  have cs := fun W => split_c s W hs
  have hpi : pieces s = #[.string (ba p0)] := by unfold pieces; rw [hp]; rfl
  have HE := Lib.hid (show candP (spl s.data.toList) = some (wordK p0, 0, 0) by rw [hp]; rfl)
  rw [hpi, hp] at cs
  have cw := fun W => words_c (ba p0) W
  rw [ba_list] at cw
  have cl := fun W => lineAny_c (wordK p0, 0, 0) W
  simp only [chV] at cl
  clear hpi hp
  generalize wordK p0 = K at *
  obtain ⟨OK, hOK⟩ : ∃ b, oneB (K, 0, 0) = b := ⟨_, rfl⟩
  obtain ⟨T, hT⟩ : ∃ b, (if oneB (K, 0, 0) = true then ba (lineL (K, 0, 0)) else ByteArray.empty) = b := ⟨_, rfl⟩
  rw [hT, hOK] at cl
  have HO := Lib.hid hOK
  have HT := Lib.hid hT
  clear hOK hT
  go_enter Tryd.func41, Tryd.ntmps41
  go_wp2_with fail
  (with_reducible refine (cs _).mono ?_)
  rintro e w2 ⟨rfl, rfl⟩
  go_wp2_with fail
  (with_reducible refine (cw _).mono ?_)
  rintro e w3 ⟨rfl, rfl⟩
  go_wp2_with fail
  (with_reducible refine (cl _).mono ?_)
  rintro e w4 ⟨rfl, b4⟩
  have B4 := via (a := w) b4 (by go_grown)
  have R4 := (((Blk.new w 39 #[.int .i64 0, .int .i64 0, .int .i64 0]).alloc (.cells #[.string (ba p0)] 9)).alloc (.cells #[.int .i64 K, .int .i64 0, .int .i64 0] 39)).next b4
  have C4 := (Blk.new2 w (.cells #[.int .i64 0, .int .i64 0, .int .i64 0] 39) (.cells #[.string (ba p0)] 9) 39 #[.int .i64 K, .int .i64 0, .int .i64 0]).next b4
  clear b4 cl cw cs
  have r0 := R4.cell 0
  have r1 := R4.cell 1
  have r2 := R4.cell 2
  have l0 := R4.loose 0
  have l1 := R4.loose 1
  have l2 := R4.loose 2
  have c0 := C4.cell 0
  have c1 := C4.cell 1
  have c2 := C4.cell 2
  simp only [List.getElem?_toArray, List.getElem?_cons_zero, List.getElem?_cons_succ] at r0 r1 r2 c0 c1 c2
  have R5 := ((R4.set_ 0 (.int .i64 K)).set_ 1 (.int .i64 0)).set_ 2 (.int .i64 0)
  have k0 := R5.cell 0
  have k1 := R5.cell 1
  have k2 := R5.cell 2
  simp only [List.setIfInBounds_toArray, List.set_cons_zero, List.set_cons_succ, List.getElem?_toArray, List.getElem?_cons_zero, List.getElem?_cons_succ] at k0 k1 k2
  clear R4 C4 R5
  cases OK
  · go_wp2
    refine bodyPost_ret (by simp [results, Tryd.results41, go_sem, k0, k1, k2]; try rfl) rfl ?_
    exact cho_end HE.out (by rw [HO.out]; rfl) (by go_grown)
  · obtain ⟨q, hq⟩ : ∃ q, (T.toList == s.toList) = q := ⟨_, rfl⟩
    have HQ := Lib.hid hq
    go_wp2
    refine bodyPost_ret (by simp [results, Tryd.results41, go_sem, k0, k1, k2]; try rfl) rfl ?_
    exact cho_end HE.out (by rw [HT.out, HO.out]; simp [HQ.out]) (by go_grown)
theorem spl_short : ∀ (l p : Bs), p ∈ spl l → p.length ≤ l.length := by
  intro l
  induction l with
  | nil => intro p h; simp [spl] at h; subst h; simp
  | cons b l ih =>
    intro p h
    rw [spl] at h
    split at h
    · rw [List.mem_cons] at h
      rcases h with rfl | h
      · simp
      · have := ih p h; simp; omega
    · cases e : spl l with
      | nil => exact absurd e (spl_ne l)
      | cons q r =>
        rw [e] at h
        simp only [List.mem_cons] at h
        rcases h with rfl | h
        · have := ih q (by rw [e]; simp); simp; omega
        · have := ih p (by rw [e]; simp [h]); simp; omega
set_option maxHeartbeats 3200000 in
theorem choice_2 (s : ByteArray) (w : World) (hs : s.size ≤ 281474976) (hw : Rdy w) (p0 p1 : Bs) (hp : spl s.data.toList = [p0, p1]) :
    Calls Tryd.prog 41 #[.string s] w (ChoPost s.data.toList w) := by
  have cs := fun W => split_c s W (by omega)
  have hpi : pieces s = #[.string (ba p0), .string (ba p1)] := by unfold pieces; rw [hp]; rfl
  have z1 : (ba p1).size ≤ 281474976 := by rw [ba_size]; have := spl_short s.data.toList p1 (by rw [hp]; simp); rw [← Lib.size_eq] at this; omega
  have HN := Lib.hid (show smallB p1 7 = false → choP s.data.toList = none from fun h => cho_no (by rw [hp]; show (if smallB p1 7 = true then _ else _) = _; rw [h]; rfl))
  have HE := Lib.hid (show smallB p1 7 = true → candP (spl s.data.toList) = some (wordK p0, pv p1, 0) from fun h => by rw [hp]; show (if smallB p1 7 = true then _ else _) = _; rw [h]; rfl)
  have hlen : (spl s.data.toList).length = 2 := by rw [hp]; rfl
  rw [hpi, hlen] at cs
  have cw := fun W => words_c (ba p0) W
  rw [ba_list] at cw
  have c1 := fun W h => small_c (ba p1) 7 W (by omega) h (by omega)
  rw [ba_list] at c1
  have cl := fun c W => lineAny_c c W
  simp only [chV] at cl
  clear hpi hp hlen
  have HW := Lib.hid hw
  clear hw
  generalize wordK p0 = K at *
  obtain ⟨CS, hCS⟩ : ∃ CS : Array Value, CS = #[.string (ba p0), .string (ba p1)] := ⟨_, rfl⟩
  rw [← hCS] at cs
  have s0 : CS[0]? = some (.string (ba p0)) := by rw [hCS]; rfl
  have s1 : CS[1]? = some (.string (ba p1)) := by rw [hCS]; rfl
  clear hCS
  go_enter Tryd.func41, Tryd.ntmps41
  go_wp2_with fail
  (with_reducible refine (cs _).mono ?_)
  rintro e w2 ⟨rfl, hw2⟩
  have S2 : Blk w2 (w.heap.size + 1) 9 CS := by rw [hw2]; exact Blk.new1 _ _ _ _
  have R2 : Blk w2 w.heap.size 39 #[.int .i64 0, .int .i64 0, .int .i64 0] := by rw [hw2]; exact (Blk.new _ _ _).alloc _
  have B2 : Below w.heap.size w w2 := by rw [hw2]; go_grown
  have hz2 : w2.heap.size = w.heap.size + 1 + 1 := by rw [hw2]; simp
  simp only [World.size_alloc]
  clear hw2 cs
  have y0 := (S2.cell 0).trans s0
  go_wp2_with fail
  (with_reducible refine (cw _).mono ?_)
  rintro e w3 ⟨rfl, rfl⟩
  have S3 := S2.alloc (.cells #[.int .i64 K, .int .i64 0, .int .i64 0] 39)
  have R3 := R2.alloc (.cells #[.int .i64 K, .int .i64 0, .int .i64 0] 39)
  have C3 : Blk (w2.alloc (.cells #[.int .i64 K, .int .i64 0, .int .i64 0] 39)) (w.heap.size + 1 + 1) 39 #[.int .i64 K, .int .i64 0, .int .i64 0] := by rw [← hz2]; exact Blk.new _ _ _
  have B3 := B2.alloc B2.size (.cells #[.int .i64 K, .int .i64 0, .int .i64 0] 39)
  have y1 := (S2.cell 1).trans s1
  go_wp2_with fail
  obtain ⟨w4, hw4⟩ : ∃ z, w2.alloc (.cells #[.int .i64 K, .int .i64 0, .int .i64 0] 39) = z := ⟨_, rfl⟩
  rw [hw4] at S3 R3 C3 B3 ⊢
  clear hw4 S2 R2 B2 y0 y1 cw
  (with_reducible refine (c1 _ (HW.out.below B3)).mono ?_)
  rintro e w5 ⟨v, rfl, hv, b5⟩
  have S5 := S3.next b5
  have R5 := R3.next b5
  have C5 := (C3.next b5).set_ 1 (.int .i64 v)
  have f5 := (C3.next b5).loose 1
  have B5 := via b5 B3
  have CC := (C3.next b5).cell 1
  simp only [List.setIfInBounds_toArray, List.set_cons_zero, List.set_cons_succ, List.getElem?_toArray, List.getElem?_cons_zero, List.getElem?_cons_succ] at C5 CC
  clear S3 R3 C3 B3 b5 c1
  have hne : w.heap.size ≠ w.heap.size + 1 + 1 := by omega
  have hne1 : w.heap.size + 1 ≠ w.heap.size + 1 + 1 := by omega
  have R6 := R5.far (p := ⟨w.heap.size + 1 + 1, 1, none⟩) hne (.int .i64 v)
  have S6 := S5.far (p := ⟨w.heap.size + 1 + 1, 1, none⟩) hne1 (.int .i64 v)
  have B6 := B5.setCell (p := ⟨w.heap.size + 1 + 1, 1, none⟩) (by simp only []; omega) (.int .i64 v)
  obtain ⟨w6, hw6⟩ : ∃ z, w5.setCell ⟨w.heap.size + 1 + 1, 1, none⟩ (.int .i64 v) = z := ⟨_, rfl⟩
  rw [hw6] at C5 R6 S6 B6
  clear R5 S5 B5
  have r0 := R6.cell 0
  have r1 := R6.cell 1
  have r2 := R6.cell 2
  have l0 := R6.loose 0
  have l1 := R6.loose 1
  have l2 := R6.loose 2
  have x0 := C5.cell 0
  have x1 := C5.cell 1
  have x2 := C5.cell 2
  simp only [List.getElem?_toArray, List.getElem?_cons_zero, List.getElem?_cons_succ] at r0 r1 r2 x0 x1 x2
  cases hB : smallB p1 7
  · rw [hB] at hv
    have hNN := Lib.hid (HN.out hB)
    clear HN HE hv cl
    have R7 := ((R6.set_ 0 (.int .i64 0)).set_ 1 (.int .i64 0)).set_ 2 (.int .i64 0)
    have k0 := R7.cell 0
    have k1 := R7.cell 1
    have k2 := R7.cell 2
    simp only [List.setIfInBounds_toArray, List.set_cons_zero, List.set_cons_succ, List.getElem?_toArray, List.getElem?_cons_zero, List.getElem?_cons_succ] at k0 k1 k2
    go_wp2
    refine bodyPost_ret (v := .tuple #[chV (0, 0, 0), .bool false]) (by simp [results, Tryd.results41, go_sem, k0, k1, k2]) rfl ?_
    exact cho_none (c := (0, 0, 0)) (hNN.out) rfl (by go_grown)
  · rw [hB] at hv
    obtain rfl := hv rfl
    clear hv
    have HE2 := Lib.hid (HE.out hB)
    obtain ⟨OK, hOK⟩ : ∃ b, oneB (K, pv p1, 0) = b := ⟨_, rfl⟩
    obtain ⟨T, hT⟩ : ∃ b, (if oneB (K, pv p1, 0) = true then ba (lineL (K, pv p1, 0)) else ByteArray.empty) = b := ⟨_, rfl⟩
    have cl2 := fun W => cl (K, pv p1, 0) W
    rw [hT, hOK] at cl2
    have HO := Lib.hid hOK
    have HT := Lib.hid hT
    clear hOK hT cl HN HE
    go_wp2_with fail
    (with_reducible refine (cl2 _).mono ?_)
    rintro e w9 ⟨rfl, b9⟩
    have R9 := R6.next b9
    have C9 := C5.next b9
    have B9 := via b9 B6
    clear b9 cl2 R6 C5 B6 r0 r1 r2 l0 l1 l2 x0 x1 x2
    have r0 := R9.cell 0
    have r1 := R9.cell 1
    have r2 := R9.cell 2
    have l0 := R9.loose 0
    have l1 := R9.loose 1
    have l2 := R9.loose 2
    have x0 := C9.cell 0
    have x1 := C9.cell 1
    have x2 := C9.cell 2
    have R10 := ((R9.set_ 0 (.int .i64 (K, pv p1, 0).1)).set_ 1 (.int .i64 (K, pv p1, 0).2.1)).set_ 2 (.int .i64 (K, pv p1, 0).2.2)
    have k0 := R10.cell 0
    have k1 := R10.cell 1
    have k2 := R10.cell 2
    simp only [List.setIfInBounds_toArray, List.set_cons_zero, List.set_cons_succ, List.getElem?_toArray, List.getElem?_cons_zero, List.getElem?_cons_succ] at r0 r1 r2 x0 x1 x2 k0 k1 k2
    clear R9 C9 R10
    cases OK
    · go_wp2
      refine bodyPost_ret (by simp [results, Tryd.results41, go_sem, k0, k1, k2]; try rfl) rfl ?_
      exact cho_end HE2.out (by rw [HO.out]; rfl) (by go_grown)
    · obtain ⟨q, hq⟩ : ∃ q, (T.toList == s.toList) = q := ⟨_, rfl⟩
      have HQ := Lib.hid hq
      go_wp2
      refine bodyPost_ret (by simp [results, Tryd.results41, go_sem, k0, k1, k2]; try rfl) rfl ?_
      exact cho_end HE2.out (by rw [HT.out, HO.out]; simp [HQ.out]) (by go_grown)
set_option maxHeartbeats 3200000 in
theorem choice_3 (s : ByteArray) (w : World) (hs : s.size ≤ 281474976) (hw : Rdy w) (p0 p1 p2 : Bs) (r : List Bs) (hp : spl s.data.toList = p0 :: p1 :: p2 :: r) :
    Calls Tryd.prog 41 #[.string s] w (ChoPost s.data.toList w) := by
  have cs := fun W => split_c s W (by omega)
  have hpi : pieces s = (Value.string (ba p0) :: Value.string (ba p1) :: Value.string (ba p2) :: r.map (fun x => Value.string (ba x))).toArray := by unfold pieces; rw [hp]; rfl
  have z1 : (ba p1).size ≤ 281474976 := by rw [ba_size]; have := spl_short s.data.toList p1 (by rw [hp]; simp); rw [← Lib.size_eq] at this; omega
  have z2 : (ba p2).size ≤ 281474976 := by rw [ba_size]; have := spl_short s.data.toList p2 (by rw [hp]; simp); rw [← Lib.size_eq] at this; omega
  have HN := Lib.hid (show ¬ (smallB p1 7 = true ∧ smallB p2 64 = true) → choP s.data.toList = none from fun h => cho_no (by rw [hp]; show (if smallB p1 7 = true ∧ smallB p2 64 = true then _ else _) = _; rw [if_neg h]))
  have HE := Lib.hid (show (smallB p1 7 = true ∧ smallB p2 64 = true) → candP (spl s.data.toList) = some (wordK p0, pv p1, pv p2) from fun h => by rw [hp]; show (if smallB p1 7 = true ∧ smallB p2 64 = true then _ else _) = _; rw [if_pos h])
  have hlen : (spl s.data.toList).length = r.length + 3 := by rw [hp]; rfl
  have hlr : r.length + 3 ≤ 281474977 := by rw [← hlen, spl_len]; have := List.count_le_length (a := (32 : UInt8)) (l := s.data.toList); rw [← Lib.size_eq] at this; omega
  rw [hpi, hlen] at cs
  have cw := fun W => words_c (ba p0) W
  rw [ba_list] at cw
  have c1 := fun W h => small_c (ba p1) 7 W (by omega) h (by omega)
  rw [ba_list] at c1
  have c2 := fun W h => small_c (ba p2) 64 W (by omega) h (by omega)
  rw [ba_list] at c2
  have cl := fun c W => lineAny_c c W
  simp only [chV] at cl
  clear hpi hp hlen
  have HW := Lib.hid hw
  clear hw
  generalize wordK p0 = K at *
  obtain ⟨N, hN⟩ : ∃ N, r.length + 3 = N := ⟨_, rfl⟩
  rw [hN] at cs hlr
  have d1 : decide ((1 : Int) < (N : Int)) = true := by simp; omega
  have d2 : decide ((2 : Int) < (N : Int)) = true := by simp; omega
  have i2 : 2 < N := by omega
  have i0 : 0 < N := by omega
  have i1 : 1 < N := by omega
  clear hN
  obtain ⟨CS, hCS⟩ : ∃ CS : Array Value, CS = (Value.string (ba p0) :: Value.string (ba p1) :: Value.string (ba p2) :: r.map (fun x => Value.string (ba x))).toArray := ⟨_, rfl⟩
  rw [← hCS] at cs
  have s0 : CS[0]? = some (.string (ba p0)) := by rw [hCS]; rfl
  have s1 : CS[1]? = some (.string (ba p1)) := by rw [hCS]; rfl
  have s2 : CS[2]? = some (.string (ba p2)) := by rw [hCS]; rfl
  clear hCS
  go_enter Tryd.func41, Tryd.ntmps41
  go_wp2_with fail
  (with_reducible refine (cs _).mono ?_)
  rintro e w2 ⟨rfl, hw2⟩
  have S2 : Blk w2 (w.heap.size + 1) 9 CS := by rw [hw2]; exact Blk.new1 _ _ _ _
  have R2 : Blk w2 w.heap.size 39 #[.int .i64 0, .int .i64 0, .int .i64 0] := by rw [hw2]; exact (Blk.new _ _ _).alloc _
  have B2 : Below w.heap.size w w2 := by rw [hw2]; go_grown
  have hz2 : w2.heap.size = w.heap.size + 1 + 1 := by rw [hw2]; simp
  simp only [World.size_alloc]
  clear hw2 cs
  have y0 := (S2.cell 0).trans s0
  go_wp2_with fail
  (with_reducible refine (cw _).mono ?_)
  rintro e w3 ⟨rfl, rfl⟩
  have S3 := S2.alloc (.cells #[.int .i64 K, .int .i64 0, .int .i64 0] 39)
  have R3 := R2.alloc (.cells #[.int .i64 K, .int .i64 0, .int .i64 0] 39)
  have C3 : Blk (w2.alloc (.cells #[.int .i64 K, .int .i64 0, .int .i64 0] 39)) (w.heap.size + 1 + 1) 39 #[.int .i64 K, .int .i64 0, .int .i64 0] := by rw [← hz2]; exact Blk.new _ _ _
  have B3 := B2.alloc B2.size (.cells #[.int .i64 K, .int .i64 0, .int .i64 0] 39)
  have y1 := (S2.cell 1).trans s1
  have y2 := (S2.cell 2).trans s2
  go_wp2_with fail
  obtain ⟨w4, hw4⟩ : ∃ z, w2.alloc (.cells #[.int .i64 K, .int .i64 0, .int .i64 0] 39) = z := ⟨_, rfl⟩
  rw [hw4] at S3 R3 C3 B3 ⊢
  clear hw4 S2 R2 B2 y0 y1 cw
  clear y2
  (with_reducible refine (c1 _ (HW.out.below B3)).mono ?_)
  rintro e w5 ⟨v, rfl, hv, b5⟩
  have S5 := S3.next b5
  have R5 := R3.next b5
  have C5 := (C3.next b5).set_ 1 (.int .i64 v)
  have f5 := (C3.next b5).loose 1
  have B5 := via b5 B3
  have CC := (C3.next b5).cell 1
  simp only [List.setIfInBounds_toArray, List.set_cons_zero, List.set_cons_succ, List.getElem?_toArray, List.getElem?_cons_zero, List.getElem?_cons_succ] at C5 CC
  clear S3 R3 C3 B3 b5 c1
  have hne : w.heap.size ≠ w.heap.size + 1 + 1 := by omega
  have hne1 : w.heap.size + 1 ≠ w.heap.size + 1 + 1 := by omega
  have R6 := R5.far (p := ⟨w.heap.size + 1 + 1, 1, none⟩) hne (.int .i64 v)
  have S6 := S5.far (p := ⟨w.heap.size + 1 + 1, 1, none⟩) hne1 (.int .i64 v)
  have B6 := B5.setCell (p := ⟨w.heap.size + 1 + 1, 1, none⟩) (by simp only []; omega) (.int .i64 v)
  obtain ⟨w6, hw6⟩ : ∃ z, w5.setCell ⟨w.heap.size + 1 + 1, 1, none⟩ (.int .i64 v) = z := ⟨_, rfl⟩
  rw [hw6] at C5 R6 S6 B6
  clear R5 S5 B5
  have r0 := R6.cell 0
  have r1 := R6.cell 1
  have r2 := R6.cell 2
  have l0 := R6.loose 0
  have l1 := R6.loose 1
  have l2 := R6.loose 2
  have x0 := C5.cell 0
  have x1 := C5.cell 1
  have x2 := C5.cell 2
  have y2 := (S6.cell 2).trans s2
  simp only [List.getElem?_toArray, List.getElem?_cons_zero, List.getElem?_cons_succ] at r0 r1 r2 x0 x1 x2
  cases hB : smallB p1 7
  · rw [hB] at hv
    have hNN := Lib.hid (HN.out (by rw [hB]; simp))
    clear HN HE hv cl
    have R7 := ((R6.set_ 0 (.int .i64 0)).set_ 1 (.int .i64 0)).set_ 2 (.int .i64 0)
    have k0 := R7.cell 0
    have k1 := R7.cell 1
    have k2 := R7.cell 2
    simp only [List.setIfInBounds_toArray, List.set_cons_zero, List.set_cons_succ, List.getElem?_toArray, List.getElem?_cons_zero, List.getElem?_cons_succ] at k0 k1 k2
    go_wp2
    refine bodyPost_ret (v := .tuple #[chV (0, 0, 0), .bool false]) (by simp [results, Tryd.results41, go_sem, k0, k1, k2]) rfl ?_
    exact cho_none (c := (0, 0, 0)) (hNN.out) rfl (by go_grown)
  · rw [hB] at hv
    obtain rfl := hv rfl
    clear hv
    go_wp2_with fail
    (with_reducible refine (c2 _ (HW.out.below B6)).mono ?_)
    rintro e w7 ⟨v, rfl, hv, b7⟩
    have R7 := R6.next b7
    have C7 := (C5.next b7).set_ 2 (.int .i64 v)
    have f7 := (C5.next b7).loose 2
    have C7x := (C5.next b7).cell 2
    have B7 := via b7 B6
    simp only [List.setIfInBounds_toArray, List.set_cons_zero, List.set_cons_succ, List.getElem?_toArray, List.getElem?_cons_zero, List.getElem?_cons_succ] at C7 C7x
    clear R6 C5 B6 b7 c2 r0 r1 r2 l0 l1 l2 x0 x1 x2 y2 hw6 S6
    have R8 := R7.far (p := ⟨w.heap.size + 1 + 1, 2, none⟩) hne (.int .i64 v)
    have B8 := B7.setCell (p := ⟨w.heap.size + 1 + 1, 2, none⟩) (by simp only []; omega) (.int .i64 v)
    obtain ⟨w8, hw8⟩ : ∃ z, w7.setCell ⟨w.heap.size + 1 + 1, 2, none⟩ (.int .i64 v) = z := ⟨_, rfl⟩
    rw [hw8] at C7 R8 B8
    clear R7 B7
    have r0 := R8.cell 0
    have r1 := R8.cell 1
    have r2 := R8.cell 2
    have l0 := R8.loose 0
    have l1 := R8.loose 1
    have l2 := R8.loose 2
    have x0 := C7.cell 0
    have x1 := C7.cell 1
    have x2 := C7.cell 2
    simp only [List.getElem?_toArray, List.getElem?_cons_zero, List.getElem?_cons_succ] at r0 r1 r2 x0 x1 x2
    cases hB2 : smallB p2 64
    · rw [hB2] at hv
      have hNN := Lib.hid (HN.out (by rw [hB2]; simp))
      clear HN HE hv cl
      have R7 := ((R8.set_ 0 (.int .i64 0)).set_ 1 (.int .i64 0)).set_ 2 (.int .i64 0)
      have k0 := R7.cell 0
      have k1 := R7.cell 1
      have k2 := R7.cell 2
      simp only [List.setIfInBounds_toArray, List.set_cons_zero, List.set_cons_succ, List.getElem?_toArray, List.getElem?_cons_zero, List.getElem?_cons_succ] at k0 k1 k2
      go_wp2
      refine bodyPost_ret (v := .tuple #[chV (0, 0, 0), .bool false]) (by simp [results, Tryd.results41, go_sem, k0, k1, k2]) rfl ?_
      exact cho_none (c := (0, 0, 0)) (hNN.out) rfl (by go_grown)
    · rw [hB2] at hv
      obtain rfl := hv rfl
      clear hv
      have HE2 := Lib.hid (HE.out ⟨hB, hB2⟩)
      obtain ⟨OK, hOK⟩ : ∃ b, oneB (K, pv p1, pv p2) = b := ⟨_, rfl⟩
      obtain ⟨T, hT⟩ : ∃ b, (if oneB (K, pv p1, pv p2) = true then ba (lineL (K, pv p1, pv p2)) else ByteArray.empty) = b := ⟨_, rfl⟩
      have cl2 := fun W => cl (K, pv p1, pv p2) W
      rw [hT, hOK] at cl2
      have HO := Lib.hid hOK
      have HT := Lib.hid hT
      clear hOK hT cl HN HE
      go_wp2_with fail
      (with_reducible refine (cl2 _).mono ?_)
      rintro e w9 ⟨rfl, b9⟩
      have R9 := R8.next b9
      have C9 := C7.next b9
      have B9 := via b9 B8
      clear b9 cl2 R8 C7 B8 r0 r1 r2 l0 l1 l2 x0 x1 x2
      have r0 := R9.cell 0
      have r1 := R9.cell 1
      have r2 := R9.cell 2
      have l0 := R9.loose 0
      have l1 := R9.loose 1
      have l2 := R9.loose 2
      have x0 := C9.cell 0
      have x1 := C9.cell 1
      have x2 := C9.cell 2
      have R10 := ((R9.set_ 0 (.int .i64 (K, pv p1, pv p2).1)).set_ 1 (.int .i64 (K, pv p1, pv p2).2.1)).set_ 2 (.int .i64 (K, pv p1, pv p2).2.2)
      have k0 := R10.cell 0
      have k1 := R10.cell 1
      have k2 := R10.cell 2
      simp only [List.setIfInBounds_toArray, List.set_cons_zero, List.set_cons_succ, List.getElem?_toArray, List.getElem?_cons_zero, List.getElem?_cons_succ] at r0 r1 r2 x0 x1 x2 k0 k1 k2
      clear R9 C9 R10
      cases OK
      · go_wp2
        refine bodyPost_ret (by simp [results, Tryd.results41, go_sem, k0, k1, k2]; try rfl) rfl ?_
        exact cho_end HE2.out (by rw [HO.out]; rfl) (by go_grown)
      · obtain ⟨q, hq⟩ : ∃ q, (T.toList == s.toList) = q := ⟨_, rfl⟩
        have HQ := Lib.hid hq
        go_wp2
        refine bodyPost_ret (by simp [results, Tryd.results41, go_sem, k0, k1, k2]; try rfl) rfl ?_
        exact cho_end HE2.out (by rw [HT.out, HO.out]; simp [HQ.out]) (by go_grown)
theorem choice_c (s : ByteArray) (w : World) (hs : s.size ≤ 281474976) (hw : Rdy w) : Calls Tryd.prog 41 #[.string s] w (ChoPost s.data.toList w) := by
  cases e : spl s.data.toList with
  | nil => exact absurd e (spl_ne _)
  | cons p0 l =>
    cases l with
    | nil => exact choice_1 s w (by omega) hw p0 e
    | cons p1 l =>
      cases l with
      | nil => exact choice_2 s w hs hw p0 p1 e
      | cons p2 r => exact choice_3 s w hs hw p0 p1 p2 r e
end TraW
end Go.Proofs.YtooinkhjoppijaaDoor
