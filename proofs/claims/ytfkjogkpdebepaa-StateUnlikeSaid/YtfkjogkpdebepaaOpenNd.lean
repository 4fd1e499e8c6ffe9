/- A node that comes in, opened. No condition. -/
import Derived.Test.YtfkjogkpdebepaaOpenG
import Derived.Test.YtfkjogkpdebepaaStaMa
namespace Go.Proofs.Ytfkjogkpdebepaa
open Go.ChangeShapes Go.WideShapes Go.ChangeAt Go.RowKit Go.Deep
namespace OpenNd
open StaP StaL StaW StaG StaX StaD StaZ StaE StaM
theorem i64_of {n : Int} (h : (Lit.int .i64 n).wf = true) : I64 n := by
  simp [Lit.wf, IntKind.min, IntKind.max, IntKind.signed, IntKind.bits] at h
  exact h
theorem flag_of (a b c : Bool) : ∃ x : UInt8, x.toNat ≤ 7 ∧ b0 x = a ∧ b1 x = b ∧ b2 x = c := ⟨flN a b c, by cases a <;> cases b <;> cases c <;> decide⟩
theorem len11 {cs : List Value} (h : cs.length = 11) : ∃ c0 c1 c2 c3 c4 c5 c6 c7 c8 c9 c10, cs = [c0, c1, c2, c3, c4, c5, c6, c7, c8, c9, c10] := by
  match cs, h with
  | [c0, c1, c2, c3, c4, c5, c6, c7, c8, c9, c10], _ => exact ⟨c0, c1, c2, c3, c4, c5, c6, c7, c8, c9, c10, rfl⟩
theorem len2 {cs : List Value} (h : cs.length = 2) : ∃ c0 c1, cs = [c0, c1] := by
  match cs, h with
  | [c0, c1], _ => exact ⟨c0, c1, rfl⟩
section
variable {H : Type} {enc : TypeId × Value → H} {w : World} {base : Nat} {spare : Nat → Bool} {held : Bool}
theorem toBs (l : List ByteArray) : l.map Value.string = StaG.strs (l.map (·.data.toList)) := by
  induction l with
  | nil => rfl
  | cons a l ih => rw [List.map_cons, List.map_cons, ih, StaG.strs, StaG.strs, List.map_cons, bz_of]
theorem open_side {cs : List Value} (h : Opn enc Try.prog w base spare held 48 cs) : ∃ p : Sd × MSd, cs = Sd.cs p.1 ∧ SdQ w w.heap.size p.1 p.2 := by
  obtain ⟨hl, hf⟩ := Opn.struct Try.underlying48 h
  rw [show Try.prog.cellsOf 48 = 11 by kernel_rfl] at hl
  obtain ⟨c0, c1, c2, c3, c4, c5, c6, c7, c8, c9, c10, rfl⟩ := len11 hl
  have cb : Try.prog.cellsOf 4 = 1 := by kernel_rfl
  have ci : Try.prog.cellsOf 3 = 1 := by kernel_rfl
  have ct : Try.prog.cellsOf 9 = 1 := by kernel_rfl
  have cl : Try.prog.cellsOf 46 = 1 := by kernel_rfl
  have cg : Try.prog.cellsOf 25 = 1 := by kernel_rfl
  have f0 : Opn enc Try.prog w base spare held 4 [c0] := Opn.field h Try.underlying48 0 0 1 rfl cb
  have f1 : Opn enc Try.prog w base spare held 4 [c1] := Opn.field h Try.underlying48 1 1 1 rfl cb
  have f2 : Opn enc Try.prog w base spare held 4 [c2] := Opn.field h Try.underlying48 2 2 1 rfl cb
  have f3 : Opn enc Try.prog w base spare held 3 [c3] := Opn.field h Try.underlying48 3 3 1 rfl ci
  have f4 : Opn enc Try.prog w base spare held 3 [c4] := Opn.field h Try.underlying48 4 4 1 rfl ci
  have f5 : Opn enc Try.prog w base spare held 9 [c5] := Opn.field h Try.underlying48 5 5 1 rfl ct
  have f6 : Opn enc Try.prog w base spare held 46 [c6] := Opn.field h Try.underlying48 6 6 1 rfl cl
  have f7 : Opn enc Try.prog w base spare held 9 [c7] := Opn.field h Try.underlying48 7 7 1 rfl ct
  have f8 : Opn enc Try.prog w base spare held 25 [c8] := Opn.field h Try.underlying48 8 8 1 rfl cg
  have f9 : Opn enc Try.prog w base spare held 9 [c9] := Opn.field h Try.underlying48 9 9 1 rfl ct
  have f10 : Opn enc Try.prog w base spare held 9 [c10] := Opn.field h Try.underlying48 10 10 1 rfl ct
  obtain ⟨x0, h0⟩ := Opn.bool Try.underlying4 f0
  obtain ⟨x1, h1⟩ := Opn.bool Try.underlying4 f1
  obtain ⟨x2, h2⟩ := Opn.bool Try.underlying4 f2
  obtain ⟨x3, h3, w3⟩ := Opn.int Try.underlying3 f3
  obtain ⟨x4, h4, w4⟩ := Opn.int Try.underlying3 f4
  obtain ⟨x5, h5, w5⟩ := Opn.str Try.underlying9 f5
  obtain ⟨A, n6, q6, ls, h6, l6, m6, e6, w6, R6⟩ := Opn.strs Try.underlying46 Try.underlying9 ct f6
  obtain ⟨x7, h7, w7⟩ := Opn.str Try.underlying9 f7
  obtain ⟨A8, n8, q8, gs, h8, l8, m8, e8, w8, R8⟩ := Opn.ints Try.underlying25 Try.underlying3 ci f8
  obtain ⟨x9, h9, w9⟩ := Opn.str Try.underlying9 f9
  obtain ⟨x10, h10, w10⟩ := Opn.str Try.underlying9 f10
  cases h0; cases h1; cases h2; cases h3; cases h4; cases h5; cases h6; cases h7; cases h8; cases h9; cases h10
  obtain ⟨c, hc, hc0, hc1, hc2⟩ := flag_of x0 x1 x2
  subst e6
  subst e8
  refine ⟨(mkSd (c, x3, x4, x5.data.toList, ls.map (·.data.toList), x7.data.toList, gs, x9.data.toList, x10.data.toList) A q6 A8 q8, (c, x3, x4, x5.data.toList, ls.map (·.data.toList), x7.data.toList, gs, x9.data.toList, x10.data.toList)), ?_, A, q6, A8, q8, rfl, ?_, R8, l8, hc, i64_of w3, i64_of w4, fun x hx => i64_of (w8 x hx)⟩
  · simp only [Sd.cs, mkSd, hc0, hc1, hc2, bz_of, List.length_map]
  · simp only [List.length_map]
    rw [toBs] at R6
    exact R6
theorem open_var {cs : List Value} (h : Opn enc Try.prog w base spare held 45 cs) : ∃ p : MVr, cs = [.string (bz p.1), .string (bz p.2)] ∧ True := by
  obtain ⟨hl, hf⟩ := Opn.struct Try.underlying45 h
  rw [show Try.prog.cellsOf 45 = 2 by kernel_rfl] at hl
  have ct : Try.prog.cellsOf 9 = 1 := by kernel_rfl
  obtain ⟨c0, c1, rfl⟩ := len2 hl
  · have f0 : Opn enc Try.prog w base spare held 9 [c0] := Opn.field h Try.underlying45 0 0 1 rfl ct
    have f1 : Opn enc Try.prog w base spare held 9 [c1] := Opn.field h Try.underlying45 1 1 1 rfl ct
    obtain ⟨x0, h0, _⟩ := Opn.str Try.underlying9 f0
    obtain ⟨x1, h1, _⟩ := Opn.str Try.underlying9 f1
    cases h0; cases h1
    exact ⟨(x0.data.toList, x1.data.toList), by rw [bz_of, bz_of], trivial⟩
set_option maxRecDepth 100000 in
theorem open_node {v : Value} (h : Opn enc Try.prog w base spare held 31 v.cells.toList) : ∃ cs m, v.cells = cs ∧ NdQ w w.heap.size cs m := by
  obtain ⟨hl, hf⟩ := Opn.struct Try.underlying31 h
  have hl : v.cells.toList.length = 22 := hl.trans (by kernel_rfl)
  obtain ⟨c0, c1, c2, c3, c4, c5, c6, c7, c8, c9, d0, hc1⟩ := len11 (cs := v.cells.toList.take 11) (by rw [List.length_take, hl]; rfl)
  obtain ⟨d1, d2, d3, d4, d5, d6, d7, d8, d9, e0, e1, hc2⟩ := len11 (cs := v.cells.toList.drop 11) (by rw [List.length_drop, hl])
  have hcs : v.cells.toList = [c0, c1, c2, c3, c4, c5, c6, c7, c8, c9, d0, d1, d2, d3, d4, d5, d6, d7, d8, d9, e0, e1] := by
    rw [← List.take_append_drop 11 v.cells.toList, hc1, hc2]; rfl
  clear hc1 hc2
  have ci : Try.prog.cellsOf 3 = 1 := by kernel_rfl
  have cn : Try.prog.cellsOf 29 = 21 := by kernel_rfl
  have cv : Try.prog.cellsOf 23 = 1 := by kernel_rfl
  have cc : Try.prog.cellsOf 24 = 10 := by kernel_rfl
  have ct : Try.prog.cellsOf 9 = 1 := by kernel_rfl
  have cg : Try.prog.cellsOf 25 = 1 := by kernel_rfl
  have ce : Try.prog.cellsOf 26 = 1 := by kernel_rfl
  have cs : Try.prog.cellsOf 27 = 1 := by kernel_rfl
  rw [hcs] at h
  have g0 : Opn enc Try.prog w base spare held 29 [c0, c1, c2, c3, c4, c5, c6, c7, c8, c9, d0, d1, d2, d3, d4, d5, d6, d7, d8, d9, e0] := Opn.field h Try.underlying31 0 0 21 rfl cn
  have g1 : Opn enc Try.prog w base spare held 3 [e1] := Opn.field h Try.underlying31 1 21 1 rfl ci
  have f0 : Opn enc Try.prog w base spare held 3 [c0] := Opn.field g0 Try.underlying29 0 0 1 rfl ci
  have f1 : Opn enc Try.prog w base spare held 23 [c1] := Opn.field g0 Try.underlying29 1 1 1 rfl cv
  have f2 : Opn enc Try.prog w base spare held 24 [c2, c3, c4, c5, c6, c7, c8, c9, d0, d1] := Opn.field g0 Try.underlying29 2 2 10 rfl cc
  have f3 : Opn enc Try.prog w base spare held 25 [d2] := Opn.field g0 Try.underlying29 3 12 1 rfl cg
  have f4 : Opn enc Try.prog w base spare held 3 [d3] := Opn.field g0 Try.underlying29 4 13 1 rfl ci
  have f5 : Opn enc Try.prog w base spare held 26 [d4] := Opn.field g0 Try.underlying29 5 14 1 rfl ce
  have f6 : Opn enc Try.prog w base spare held 3 [d5] := Opn.field g0 Try.underlying29 6 15 1 rfl ci
  have f7 : Opn enc Try.prog w base spare held 3 [d6] := Opn.field g0 Try.underlying29 7 16 1 rfl ci
  have f8 : Opn enc Try.prog w base spare held 3 [d7] := Opn.field g0 Try.underlying29 8 17 1 rfl ci
  have f9 : Opn enc Try.prog w base spare held 25 [d8] := Opn.field g0 Try.underlying29 9 18 1 rfl cg
  have f10 : Opn enc Try.prog w base spare held 25 [d9] := Opn.field g0 Try.underlying29 10 19 1 rfl cg
  have f11 : Opn enc Try.prog w base spare held 27 [e0] := Opn.field g0 Try.underlying29 11 20 1 rfl cs
  have s0 : Opn enc Try.prog w base spare held 9 [c2] := Opn.elem f2 Try.underlying24 1 ct 0 (by omega)
  have s1 : Opn enc Try.prog w base spare held 9 [c3] := Opn.elem f2 Try.underlying24 1 ct 1 (by omega)
  have s2 : Opn enc Try.prog w base spare held 9 [c4] := Opn.elem f2 Try.underlying24 1 ct 2 (by omega)
  have s3 : Opn enc Try.prog w base spare held 9 [c5] := Opn.elem f2 Try.underlying24 1 ct 3 (by omega)
  have s4 : Opn enc Try.prog w base spare held 9 [c6] := Opn.elem f2 Try.underlying24 1 ct 4 (by omega)
  have s5 : Opn enc Try.prog w base spare held 9 [c7] := Opn.elem f2 Try.underlying24 1 ct 5 (by omega)
  have s6 : Opn enc Try.prog w base spare held 9 [c8] := Opn.elem f2 Try.underlying24 1 ct 6 (by omega)
  have s7 : Opn enc Try.prog w base spare held 9 [c9] := Opn.elem f2 Try.underlying24 1 ct 7 (by omega)
  have s8 : Opn enc Try.prog w base spare held 9 [d0] := Opn.elem f2 Try.underlying24 1 ct 8 (by omega)
  have s9 : Opn enc Try.prog w base spare held 9 [d1] := Opn.elem f2 Try.underlying24 1 ct 9 (by omega)
  obtain ⟨ta, ht, wt⟩ := Opn.int Try.underlying3 g1
  obtain ⟨pc, hpc, wpc⟩ := Opn.int Try.underlying3 f0
  obtain ⟨A1, n1, q1, rows1, h1, l1, m1, e1', w1, R1⟩ := Opn.slice Try.underlying23 (show Try.prog.cellsOf 45 = 2 by kernel_rfl) (by omega) f1
  obtain ⟨A2, n2, q2, st, h2, l2, m2, e2, w2, R2⟩ := Opn.ints Try.underlying25 Try.underlying3 ci f3
  obtain ⟨md, hmd, wmd⟩ := Opn.int Try.underlying3 f4
  obtain ⟨er, her, wer⟩ := Opn.int Try.underlying26 f5
  obtain ⟨us, hus, wus⟩ := Opn.int Try.underlying3 f6
  obtain ⟨ti, hti, wti⟩ := Opn.int Try.underlying3 f7
  obtain ⟨el, hel, wel⟩ := Opn.int Try.underlying3 f8
  obtain ⟨A3, n3, q3, bf, h3, l3, m3, e3, w3, R3⟩ := Opn.ints Try.underlying25 Try.underlying3 ci f9
  obtain ⟨A4, n4, q4, af', h4, l4, m4, e4, w4, R4⟩ := Opn.ints Try.underlying25 Try.underlying3 ci f10
  obtain ⟨A5, n5, q5, rows5, h5, l5, m5, e5, w5, R5⟩ := Opn.slice Try.underlying27 (show Try.prog.cellsOf 48 = 11 by kernel_rfl) (by omega) f11
  obtain ⟨x0, k0, _⟩ := Opn.str Try.underlying9 s0
  obtain ⟨x1, k1, _⟩ := Opn.str Try.underlying9 s1
  obtain ⟨x2, k2, _⟩ := Opn.str Try.underlying9 s2
  obtain ⟨x3, k3, _⟩ := Opn.str Try.underlying9 s3
  obtain ⟨x4, k4, _⟩ := Opn.str Try.underlying9 s4
  obtain ⟨x5, k5, _⟩ := Opn.str Try.underlying9 s5
  obtain ⟨x6, k6, _⟩ := Opn.str Try.underlying9 s6
  obtain ⟨x7, k7, _⟩ := Opn.str Try.underlying9 s7
  obtain ⟨x8, k8, _⟩ := Opn.str Try.underlying9 s8
  obtain ⟨x9, k9, _⟩ := Opn.str Try.underlying9 s9
  cases ht; cases hpc; cases h1; cases h2; cases hmd; cases her; cases hus; cases hti; cases hel; cases h3; cases h4; cases h5
  cases k0; cases k1; cases k2; cases k3; cases k4; cases k5; cases k6; cases k7; cases k8; cases k9
  obtain ⟨vs, hv1, hv2, _⟩ := Opn.each_flat (f := fun p : MVr => [Value.string (bz p.1), .string (bz p.2)]) (Q := fun _ => True) rows1 (fun r hr => open_var (w1 r hr).2)
  obtain ⟨so, hs1, hs2, hs3⟩ := Opn.each_flat (f := fun p : Sd × MSd => Sd.cs p.1) (Q := fun p => SdQ w w.heap.size p.1 p.2) rows5 (fun r hr => open_side (w5 r hr).2)
  rw [hv2] at R1
  rw [hs2] at R5
  subst e2 e3 e4
  rw [e1'] at hv1
  rw [e5] at hs1
  subst hv1
  subst hs1
  have hmx : maxLen ≤ 9223372036854775807 := by simp [maxLen]
  refine ⟨_, (ta, pc, md, er, us, ti, el, vs, [x0.data.toList, x1.data.toList, x2.data.toList, x3.data.toList, x4.data.toList, x5.data.toList, x6.data.toList, x7.data.toList, x8.data.toList, x9.data.toList], st, bf, af', so.map (·.2)), rfl, A1, q1, A2, q2, A3, q3, A4, q4, A5, q5, so.map (·.1), ?_, ⟨i64_of wt, i64_of wpc, i64_of wmd, i64_of wer, i64_of wus, i64_of wti, i64_of wel, ?_, rfl, ⟨?_, fun b hb => i64_of (w2 b hb)⟩, ⟨?_, fun b hb => i64_of (w3 b hb)⟩, ⟨?_, fun b hb => i64_of (w4 b hb)⟩, ?_⟩, R1, R2, R3, R4, ?_, ?_⟩
  · apply Array.toList_inj.1
    rw [hcs]
    simp only [ndArr]
    rw [cut10]
    simp [bz_of]
  · exact Nat.le_trans l1 (Nat.le_trans m1 hmx)
  · exact Nat.le_trans l2 (Nat.le_trans m2 hmx)
  · exact Nat.le_trans l3 (Nat.le_trans m3 hmx)
  · exact Nat.le_trans l4 (Nat.le_trans m4 hmx)
  · simp only [List.length_map]; exact Nat.le_trans l5 (Nat.le_trans m5 hmx)
  · simp only [List.length_map]
    have : scells (so.map (·.1)) = so.flatMap (fun p => Sd.cs p.1) := by rw [scells, List.flatMap_map]
    rw [this]; exact R5
  · refine ⟨by simp, fun k d m hd hm => ?_⟩
    rw [List.getElem?_map] at hd hm
    cases hk : so[k]? with
    | none => rw [hk] at hd; cases hd
    | some p =>
      rw [hk] at hd hm
      simp at hd hm
      subst hd; subst hm
      exact hs3 p (List.mem_of_getElem? hk)
end
end OpenNd
end Go.Proofs.Ytfkjogkpdebepaa
