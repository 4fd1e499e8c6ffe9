/- The law of any text read as a trace: the walk. Conditions: the tables of strconv. -/
import Derived.Test.YtooinkhjoppijaaDoorTraJ
import Derived.Test.YtooinkhjoppijaaDoorTraF
namespace Go.Proofs.YtooinkhjoppijaaDoor
set_option linter.unusedVariables false
set_option linter.unusedSimpArgs false
open Go.RowKit
namespace TraW
open TraP NumP NumW QuoB
set_option maxHeartbeats 6400000 in
set_option maxRecDepth 100000 in
theorem any_c (s : ByteArray) (w : World) (hw : Rdy w) : Calls Tryd.prog 4 #[.string s] w fun e w' => e = .returned (.bool true) ∧ Below w.heap.size w w' := by
  have HW := Lib.hid hw
  have ca := awake_c w hw
  clear hw
  go_enter Tryd.func4, Tryd.ntmps4
  go_wp2_with fail
  (with_reducible refine ca.mono ?_)
  rintro e w1 ⟨rfl, b1⟩
  clear ca
  by_cases h200 : 200 < s.size
  · have d : decide ((200 : Int) < (s.size : Int)) = true := decide_eq_true (by omega)
    go_wp2
    go_ret
    exact ⟨rfl, b1⟩
  have d : decide ((200 : Int) < (s.size : Int)) = false := decide_eq_false (by omega)
  obtain ⟨l, hl⟩ : ∃ l, s.data.toList = l := ⟨_, rfl⟩
  have HL := Lib.hid hl
  have H200 := Lib.hid h200
  clear h200 hl
  go_wp2_with fail
  have cd := decode_c s w1 (by have := H200.out; omega) (HW.out.below b1)
  rw [HL.out] at cd
  (with_reducible refine cd.mono ?_)
  clear cd
  rintro e w2 ⟨v2, rfl, own2, hle2, b2⟩
  have B2 := via b2 b1
  obtain ⟨T, hT⟩ : ∃ T, decP l = T := ⟨_, rfl⟩
  have HT := Lib.hid hT
  rw [hT] at own2 hle2
  try rw [hT]
  clear hT
  obtain ⟨⟨k, n, L⟩, pl, er⟩ := T
  simp only at own2 hle2
  obtain ⟨A2, c2, rfl, hlc2, hch2⟩ := own_chs own2
  obtain ⟨N, hN⟩ : ∃ N, L.length = N := ⟨_, rfl⟩
  rw [hN] at hch2 hlc2 hle2
  try rw [hN]
  have HN := Lib.hid hN
  clear hN own2 b2
  go_wp2_with fail
  have E3 := Blk.new w2 24 #[.int .i64 k, .int .i64 n, .slice A2 N c2]
  have B3 := B2.alloc B2.size (.cells #[.int .i64 k, .int .i64 n, .slice A2 N c2] 24)
  have hch3 : Chs (w2.alloc (.cells #[.int .i64 k, .int .i64 n, .slice A2 N c2] 24)) (w2.alloc (.cells #[.int .i64 k, .int .i64 n, .slice A2 N c2] 24)).heap.size A2 N L := (hch2.alloc (Nat.le_refl _) _).more (by simp)
  obtain ⟨w3, hw3⟩ : ∃ q, w2.alloc (.cells #[.int .i64 k, .int .i64 n, .slice A2 N c2] 24) = q := ⟨_, rfl⟩
  rw [hw3] at E3 B3 hch3 ⊢
  clear hw3 hch2 B2
  have ce := rdecode_c s w3 (by have := H200.out; omega)
  unfold DecPost at ce
  rw [HL.out, HT.out] at ce
  simp only at ce
  (with_reducible refine ce.mono ?_)
  clear ce
  rintro e w4 ⟨v4, rfl, own4, _, b4⟩
  have E4 := E3.next b4
  have B4 := via b4 B3
  have hch4 := (hch3.below b4).more b4.size
  obtain ⟨A4, c4, rfl, hlc4, hch4'⟩ := own_chs own4
  rw [HN.out] at hch4' hlc4
  try rw [HN.out]
  clear own4 b4 E3 B3 hch3
  have E5 := E4.alloc (.cells #[.int .i64 k, .int .i64 n, .slice A4 N c4] 24)
  have F5 := Blk.new w4 24 #[.int .i64 k, .int .i64 n, .slice A4 N c4]
  have B5 := B4.alloc B4.size (.cells #[.int .i64 k, .int .i64 n, .slice A4 N c4] 24)
  have hch5 : Chs (w4.alloc (.cells #[.int .i64 k, .int .i64 n, .slice A4 N c4] 24)) (w4.alloc (.cells #[.int .i64 k, .int .i64 n, .slice A4 N c4] 24)).heap.size A2 N L := (hch4.alloc (Nat.le_refl _) _).more (by simp)
  have hch5' : Chs (w4.alloc (.cells #[.int .i64 k, .int .i64 n, .slice A4 N c4] 24)) (w4.alloc (.cells #[.int .i64 k, .int .i64 n, .slice A4 N c4] 24)).heap.size A4 N L := (hch4'.alloc (Nat.le_refl _) _).more (by simp)
  clear hch4 hch4' B4 E4
  have x0 := E5.cell 0
  have x1 := E5.cell 1
  have x2 := E5.cell 2
  have u0 := F5.cell 0
  have u1 := F5.cell 1
  have u2 := F5.cell 2
  simp only [List.getElem?_toArray, List.getElem?_cons_zero, List.getElem?_cons_succ] at x0 x1 x2 u0 u1 u2
  have cs := same_c k n k n A2 A4 N c2 N c4 L L _ hch5 hch5' (by omega) (by omega)
  simp only [trV, decide_true] at cs
  go_wp2_with fail
  obtain ⟨w5, hw5⟩ : ∃ q, w4.alloc (.cells #[.int .i64 k, .int .i64 n, .slice A4 N c4] 24) = q := ⟨_, rfl⟩
  rw [hw5] at E5 F5 B5 hch5 hch5' cs ⊢
  clear hw5
  (with_reducible refine cs.mono ?_)
  clear cs
  rintro e w6 ⟨rfl, b6⟩
  have E6 := E5.next b6
  have B6 := via b6 B5
  have hch6 := (hch5.below b6).more b6.size
  clear E5 F5 B5 hch5 hch5' b6 x0 x1 x2 u0 u1 u2
  have x0 := E6.cell 0
  have x1 := E6.cell 1
  have x2 := E6.cell 2
  simp only [List.getElem?_toArray, List.getElem?_cons_zero, List.getElem?_cons_succ] at x0 x1 x2
  have z1 : (pl != pl) = false := by simp
  have z2 : (er != er) = false := by simp
  by_cases he : er = 0
  · subst he
    have z3 : ((0 : Int) != 0) = false := by decide
    obtain ⟨hmay, henc⟩ := enc_dec (s := l) (by rw [HT.out])
    rw [HT.out] at hmay henc
    simp only at hmay henc
    have cx := encode_c k n A2 N c2 L w6 hch6 (by omega) hlc2 (HW.out.below B6)
    unfold EncPost at cx
    rw [if_pos hmay, if_pos hmay, henc, ← HL.out] at cx
    have hbs : ba s.data.toList = s := by cases s; rfl
    rw [hbs] at cx
    have z4 : (s.toList == s.toList) = true := by simp
    clear hbs
    simp only [trV] at cx
    clear hmay henc
    go_wp2_with fail
    (with_reducible refine cx.mono ?_)
    clear cx
    rintro e w7 ⟨rfl, b7⟩
    have B7 := via b7 B6
    go_wp2
    go_ret
    exact ⟨rfl, B7⟩
  · have z3 : (er != 0) = true := by simpa using he
    go_wp2
    go_ret
    exact ⟨rfl, B6⟩
end TraW
end Go.Proofs.YtooinkhjoppijaaDoor
