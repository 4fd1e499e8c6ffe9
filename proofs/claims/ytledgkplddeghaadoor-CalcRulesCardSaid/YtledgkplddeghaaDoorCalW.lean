/- What parts come to: the reference's Value. Conditions: few short parts. -/
import Derived.Test.YtledgkplddeghaaDoorCalV
namespace Go.Proofs.YtledgkplddeghaaDoor
set_option linter.unusedVariables false
set_option linter.unusedSimpArgs false
open Go.RowKit
namespace CalW
open CalP QuoP QuoW QuoB
open MemP (Vr getV)
open MemW (Vrs)
theorem may_text {ps : List Pt} (h : mayB ps = true) {i : Nat} {p : Pt} (hp : ps[i]? = some p) (hn : p.1 ≠ []) : p.2 = [] := by
  apply Classical.byContradiction
  intro ht
  have hbad : mayB ps = false := by
    obtain ⟨a, b⟩ := p
    have h1 : a.isEmpty = false := by cases a with | nil => exact absurd rfl hn | cons _ _ => rfl
    have h2 : b.isEmpty = false := by cases b with | nil => exact absurd rfl ht | cons _ _ => rfl
    cases hs : (ps.take i).foldl mstep (some false) with
    | none => exact mst_bad ps i hs
    | some x => exact mst_bad ps (i + 1) (by rw [mst_take ps i _ hp, hs]; exact ms_bad h1 (by rw [h2]; rfl))
  rw [h] at hbad; cases hbad
theorem ba_app (a b : Bs) : ba a ++ ba b = ba (a ++ b) := bytes_ext (by simp [ba])
theorem ba_add (a : Bs) (v : ByteArray) : ba a ++ v = ba (a ++ v.data.toList) := bytes_ext (by simp [ba])
set_option maxHeartbeats 6400000 in
set_option maxRecDepth 100000 in
theorem RValue_c (A : Option Addr) (n c : Nat) (l : List Vr) (q : Cu) (P : Option Addr) (pn pc : Nat) (ps : List Pt) (w : World) (he : Env A n l q w) (hp : Pts w w.heap.size P pn ps) (hf : ∀ p ∈ ps, p.1.length ≤ 60 ∧ p.2.length ≤ 60) (hpn : pn ≤ 10) :
    Calls Tryd.prog 15 #[.slice P pn pc, .slice A n c, .agg #[.string q.s0, .string q.s1, .string q.s2, .string q.s3, .string q.s4, .string q.s5, .string q.s6, .string q.s7, .string q.s8, .string q.s9]] w fun x w' => x = .returned (.tuple #[.string (ba (valP l q ps).1), .int .i64 (valP l q ps).2]) ∧ Below w.heap.size w w' := by
  have hpl := Pts.len hp
  obtain ⟨PR, hPR⟩ : ∃ R, valP l q ps = R := ⟨_, rfl⟩
  rw [hPR]
  have HPR := Lib.hid hPR
  clear hPR
  obtain ⟨wa, hwa⟩ : ∃ z : World, z = w.alloc (.cells ([.string q.s0, .string q.s1, .string q.s2, .string q.s3, .string q.s4, .string q.s5, .string q.s6, .string q.s7, .string q.s8, .string q.s9] : List Value).toArray 34) := ⟨_, rfl⟩
  have BA : Below w.heap.size w wa := by rw [hwa]; go_grown
  have XQ := Lib.hid (show Blk wa w.heap.size 34 ([.string q.s0, .string q.s1, .string q.s2, .string q.s3, .string q.s4, .string q.s5, .string q.s6, .string q.s7, .string q.s8, .string q.s9] : List Value).toArray by rw [hwa]; exact Blk.new _ _ _)
  have cm := QuoL.rmay_c P pn pc ps wa ((hp.below BA).more BA.size) (fun p h => by have := hf p h; omega) (by omega)
  have HE := Lib.hid he
  have HPT := Lib.hid hp
  have HF := Lib.hid hf
  clear he hp hf
  obtain ⟨MB, hMB⟩ : ∃ B, mayB ps = B := ⟨_, rfl⟩
  rw [hMB] at cm
  cases MB
  · have HP := Lib.hid (show PR = ([], 5) by rw [← HPR.out]; unfold valP; rw [if_pos hMB])
    clear HPR hMB
    go_enter Tryd.func15, Tryd.ntmps15
    go_wp2_with fail
    rw [← hwa]
    clear hwa
    (with_reducible refine cm.mono ?_)
    rintro x w2 ⟨rfl, b2⟩
    have B2 := via b2 BA
    go_wp2
    first | go_ret2 | go_returns
    exact ⟨by rw [HP.out] <;> rfl, B2⟩
  obtain ⟨GR, hGR⟩ : ∃ G, valT l q ps [] = G := ⟨_, rfl⟩
  have HP := Lib.hid (show PR = finV GR by rw [← HPR.out]; unfold valP; rw [if_neg (by rw [hMB]; decide), hGR])
  have HG0 := Lib.hid (show valT l q (ps.drop 0) [] = GR from hGR)
  have HMB := Lib.hid hMB
  clear HPR hMB hGR
  go_enter Tryd.func15, Tryd.ntmps15
  go_wp2_with fail
  rw [← hwa]
  clear hwa
  (with_reducible refine cm.mono ?_)
  rintro x w2 ⟨rfl, b2⟩
  have B2 := via b2 BA
  have XQ2 := Lib.hid (XQ.out.next b2)
  clear cm b2 XQ BA
  go_wp2
  obtain ⟨D, hD⟩ : ∃ D, w.heap.size = D := ⟨_, rfl⟩
  have HD := Lib.hid hD
  rw [hD] at HPT XQ2 B2 ⊢
  clear hD
  go_loopw [8, 9] (fun ov iv wr => ∃ (i : Nat) (acc : List UInt8), ov = .string (ba acc) ∧ iv = .int .i64 i ∧ i ≤ pn ∧ Hid (valT l q (ps.drop i) acc = GR) ∧ acc.length ≤ 120 * i ∧ Blk wr D 34 ([.string q.s0, .string q.s1, .string q.s2, .string q.s3, .string q.s4, .string q.s5, .string q.s6, .string q.s7, .string q.s8, .string q.s9] : List Value).toArray ∧ Below D w wr) (fun _ iv _ => pn - (intOf iv).toNat)
  case atStart => exact ⟨0, [], rfl, rfl, by omega, HG0, by simp, XQ2.out, B2⟩
  case round =>
    clear HG0 XQ2 B2
    obtain ⟨z0, rfl⟩ : ∃ z : World, z = wr := ⟨_, rfl⟩
    obtain ⟨i, acc, rfl, rfl, hi, hg, hal, hX, hB⟩ := hrel
    have hsa : (ba acc).size ≤ 1200 := by rw [ba_size]; omega
    by_cases hlt : i < pn
    · obtain ⟨g, o, ⟨pa, pb⟩, rfl, hgl, hpi, q1, q2⟩ := Pts.get (HPT.out.below hB) hlt
      simp only at q1 q2
      have hfit := HF.out _ (List.mem_of_getElem? hpi)
      have hmt := may_text HMB.out hpi
      simp only at hfit hmt
      have hst := valT_drop l q ps i _ hpi acc
      rw [hg.out] at hst
      simp only at hst
      have HST := Lib.hid hst
      clear hst hg hpi hgl
      have hsb : (ba pb).size ≤ 60 := by rw [ba_size]; omega
      by_cases hpa : pa = []
      · have f1 : ((ba pa).toList == []) = true := by rw [Lib.toList_data, ba_list]; simpa using hpa
        have f2 : ((ba pa).toList != []) = false := by rw [bne, f1]; rfl
        have HS2 := Lib.hid (show valT l q (ps.drop (i + 1)) (acc ++ pb) = GR by rw [HST.out, if_pos hpa])
        have hal2 : (acc ++ pb).length ≤ 120 * (i + 1) := by rw [List.length_append]; omega
        clear hpa HST hmt
        go_wp2
        go_roundw
        case rel => exact ⟨i + 1, acc ++ pb, by rw [ba_app], by go_num, by omega, HS2, hal2, hX, hB⟩
        case measure => simp [intOf]; omega
      have f1 : ((ba pa).toList == []) = false := by rw [Lib.toList_data, ba_list, beq_eq_false_iff_ne]; exact hpa
      have f2 : ((ba pa).toList != []) = true := by rw [bne, f1]; rfl
      have HS2 := Lib.hid (show GR = match nameV l q.list (ba pa) with | .error e => .error e | .ok v => valT l q (ps.drop (i + 1)) (acc ++ v.data.toList) by rw [HST.out, if_neg hpa, hmt hpa, List.append_nil]; cases nameV l q.list (ba pa) <;> rfl)
      clear HST hpa hmt
      have E0 : Env A n l q z0 := HE.out.bel (by rw [HD.out]; exact hB)
      have cn0 := rname_c A n c l q (ba pa) z0.drew E0.drew.vr E0.hn
      have cn : Calls Tryd.prog 30 #[.string (ba pa), .slice A n c, .agg #[.string q.s0, .string q.s1, .string q.s2, .string q.s3, .string q.s4, .string q.s5, .string q.s6, .string q.s7, .string q.s8, .string q.s9]] z0.drew fun x w' => ∃ (v : ByteArray) (e : Int), x = .returned (.tuple #[.string v, .int .i64 e]) ∧ Below z0.heap.size z0 w' ∧ ((nameV l q.list (ba pa) = .ok v ∧ e = 0) ∨ (nameV l q.list (ba pa) = .error 6 ∧ v = ⟨#[]⟩ ∧ e = 6)) :=
        cn0.mono (fun x w' ⟨hb, h⟩ => by
          rcases h with ⟨v, hv, rfl⟩ | ⟨hv, rfl⟩
          · exact ⟨v, 0, rfl, ⟨hb.os, hb.tape, hb.output, hb.size, hb.block⟩, Or.inl ⟨hv, rfl⟩⟩
          · exact ⟨_, 6, rfl, ⟨hb.os, hb.tape, hb.output, hb.size, hb.block⟩, Or.inr ⟨hv, rfl, rfl⟩⟩)
      clear cn0
      have hf2 := fun v hv => name_fit E0.fit E0.cut (nm := ba pa) (v := v) hv
      have p0 := hX.cell 0
      have p1 := hX.cell 1
      have p2 := hX.cell 2
      have p3 := hX.cell 3
      have p4 := hX.cell 4
      have p5 := hX.cell 5
      have p6 := hX.cell 6
      have p7 := hX.cell 7
      have p8 := hX.cell 8
      have p9 := hX.cell 9
      simp only [List.getElem?_toArray, List.getElem?_cons_zero, List.getElem?_cons_succ] at p0 p1 p2 p3 p4 p5 p6 p7 p8 p9
      clear E0
      go_wp2_with fail
      go_region_law (first
        | (go_simp
           go_at_call 30
           (with_reducible refine cn.mono ?_)
           rintro ed w6 ⟨v, e, rfl, b6, hnv⟩))
      all_goals
        have B6 : Below D w w6 := hB.trans (b6.mono (by have := hB.size; rw [HD.out] at this; exact this))
        have X6 := hX.next b6
        clear cn b6 hX p0 p1 p2 p3 p4 p5 p6 p7 p8 p9
        rcases hnv with ⟨hv, rfl⟩ | ⟨hv, rfl, rfl⟩
        rotate_left
        · have HS3 := Lib.hid (show PR = ([], 6) by rw [HP.out, HS2.out, hv]; rfl)
          clear hv HS2
          go_wp2
          first | go_ret2 | go_returns
          exact ⟨by rw [HS3.out] <;> rfl, by rw [HD.out]; exact B6⟩
        · have hv60 := hf2 v hv
          have HS3 := Lib.hid (show valT l q (ps.drop (i + 1)) (acc ++ v.data.toList) = GR by rw [HS2.out, hv])
          have hal2 : (acc ++ v.data.toList).length ≤ 120 * (i + 1) := by
            have h1 : v.data.toList.length = v.size := (Lib.size_eq v).symm
            rw [List.length_append]; omega
          clear hv HS2 hf2
          go_wp2
          go_roundw
          case rel => exact ⟨i + 1, _, by rw [ba_add], by go_num, by omega, HS3, hal2, X6, B6⟩
          case measure => simp [intOf]; omega
    · have hi2 : i = pn := by omega
      subst hi2
      have hz : GR = .ok acc := by rw [← hg.out, List.drop_of_length_le (by omega)]; rfl
      have HP2 := Lib.hid (show PR = if 32 < acc.length then ([], 2) else (acc, 0) by rw [HP.out, hz]; rfl)
      clear hg hz
      have hbl : (ba acc).size = acc.length := ba_size acc
      by_cases h32 : 32 < acc.length
      · have d1 : decide ((32 : Int) < ((ba acc).size : Int)) = true := by rw [hbl]; simp; omega
        have d1n : decide (32 < (ba acc).size) = true := by rw [hbl]; simp; omega
        have HP3 := Lib.hid (show PR = ([], 2) by rw [HP2.out, if_pos h32])
        clear hbl
        go_wp2
        first | go_ret2 | go_returns
        exact ⟨by rw [HP3.out] <;> rfl, by rw [HD.out]; exact hB⟩
      · have d1 : decide ((32 : Int) < ((ba acc).size : Int)) = false := by rw [hbl]; simp; omega
        have d1n : decide (32 < (ba acc).size) = false := by rw [hbl]; simp; omega
        have HP3 := Lib.hid (show PR = (acc, 0) by rw [HP2.out, if_neg h32])
        clear hbl
        go_wp2
        first | go_ret2 | go_returns
        exact ⟨by rw [HP3.out] <;> rfl, by rw [HD.out]; exact hB⟩
end CalW
end Go.Proofs.YtledgkplddeghaaDoor
