/- What parts come to: Value. Conditions: few short parts. -/
import Derived.Test.YtledgkplddeghaaDoorCalN
import Derived.Test.YtledgkplddeghaaDoorCalE
import Derived.Test.YtledgkplddeghaaDoorPartR
import Derived.Test.YtledgkplddeghaaDoorBldS
import Derived.Test.YtledgkplddeghaaDoorShelf
namespace Go.Proofs.YtledgkplddeghaaDoor
set_option linter.unusedVariables false
set_option linter.unusedSimpArgs false
open Go.RowKit
namespace CalW
open CalP QuoP QuoW QuoB
open MemP (Vr getV)
open MemW (Vrs)
theorem isb_below {B b : Nat} {l : List UInt8} {w w' : World} (h : IsB B b l w) (hb : Below w.heap.size w w') : IsB B b l w' := by
  have key : ∀ p, Lib.BuilderAtF BT 5 B b p (Lib.byteCells l) w → Lib.BuilderAtF BT 5 B b p (Lib.byteCells l) w' := by
    intro p h
    have hlt := h.lt
    obtain ⟨hB, v, hbk, hown, hne⟩ := h
    exact ⟨hB, v, (hb.block b hlt).trans hbk, hown.kept (row := none) ⟨hb.os, hb.tape, hb.output, hb.size, fun k hk _ => hb.block k hk⟩ (by cases hv : v.ownBlock <;> simp), hne⟩
  exact h.elim (fun x => .inl (key _ x)) (fun x => .inr (key _ x))
theorem isb_lt {B b : Nat} {l : List UInt8} {w : World} (h : IsB B b l w) : b < w.heap.size := h.elim (fun x => x.lt) (fun x => x.lt)
theorem wr_below {B b : Nat} {w w' : World} (hB : B ≤ w.heap.size) (hb : Below w.heap.size w w') : Wr B b w w' :=
  ⟨hb.mono hB, fun k _ hk _ _ => (hb.block k (Array.getElem?_eq_some_iff.1 hk).1).trans hk⟩
theorem wr_alloc {B b : Nat} {w w' : World} (h : Wr B b w w') (hB : B ≤ w'.heap.size) (o : Obj) : Wr B b w (w'.alloc o) := ⟨h.below.alloc hB o, h.kept.alloc o⟩
theorem blk_wr {B b g : Nat} {t : TypeId} {cs : Array Value} {w w' : World} (h : Blk w g t cs) (k : Wr B b w w') (hg : g ≠ b) (ht : t ≠ 5) : Blk w' g t cs :=
  k.kept g _ h (fun e => hg (by injection e)) (fun _ _ e => ht (by injection e))
/-- What parts come to, behind some bytes. -/
def valT (l : List Vr) (q : Cu) : List Pt → Bs → Except Int Bs
  | [], acc => .ok acc
  | p :: r, acc => if p.1 = [] then valT l q r (acc ++ p.2) else match nameV l q.list (ba p.1) with
    | .error e => .error e
    | .ok v => valT l q r (acc ++ p.2 ++ v.data.toList)
def finV : Except Int Bs → Bs × Int
  | .error e => ([], e)
  | .ok s => if 32 < s.length then ([], 2) else (s, 0)
def valP (l : List Vr) (q : Cu) (ps : List Pt) : Bs × Int :=
  if mayB ps = false then ([], 5) else finV (valT l q ps [])
theorem valT_drop (l : List Vr) (q : Cu) (ps : List Pt) (i : Nat) (p : Pt) (h : ps[i]? = some p) (acc : Bs) : valT l q (ps.drop i) acc = if p.1 = [] then valT l q (ps.drop (i + 1)) (acc ++ p.2) else match nameV l q.list (ba p.1) with
    | .error e => .error e
    | .ok v => valT l q (ps.drop (i + 1)) (acc ++ p.2 ++ v.data.toList) := by
  have hi := (List.getElem?_eq_some_iff.1 h).1
  have hp := (List.getElem?_eq_some_iff.1 h).2
  rw [List.drop_eq_getElem_cons hi, hp, valT]
set_option maxHeartbeats 6400000 in
set_option maxRecDepth 100000 in
theorem Value_c (A : Option Addr) (n c : Nat) (l : List Vr) (q : Cu) (P : Option Addr) (pn pc : Nat) (ps : List Pt) (w : World) (he : Env A n l q w) (hp : Pts w w.heap.size P pn ps) (hf : ∀ p ∈ ps, p.1.length ≤ 60 ∧ p.2.length ≤ 60) (hpn : pn ≤ 10) :
    Calls Tryd.prog 14 #[.slice P pn pc, .slice A n c, .agg #[.string q.s0, .string q.s1, .string q.s2, .string q.s3, .string q.s4, .string q.s5, .string q.s6, .string q.s7, .string q.s8, .string q.s9]] w fun x w' => x = .returned (.tuple #[.string (ba (valP l q ps).1), .int .i64 (valP l q ps).2]) ∧ Below w.heap.size w w' := by
  have hpl := Pts.len hp
  obtain ⟨PR, hPR⟩ : ∃ R, valP l q ps = R := ⟨_, rfl⟩
  rw [hPR]
  have HPR := Lib.hid hPR
  clear hPR
  obtain ⟨wa, hwa⟩ : ∃ z : World, z = w.alloc (.cells ([.string q.s0, .string q.s1, .string q.s2, .string q.s3, .string q.s4, .string q.s5, .string q.s6, .string q.s7, .string q.s8, .string q.s9] : List Value).toArray 34) := ⟨_, rfl⟩
  have BA : Below w.heap.size w wa := by rw [hwa]; go_grown
  have XQ := Lib.hid (show Blk wa w.heap.size 34 ([.string q.s0, .string q.s1, .string q.s2, .string q.s3, .string q.s4, .string q.s5, .string q.s6, .string q.s7, .string q.s8, .string q.s9] : List Value).toArray by rw [hwa]; exact Blk.new _ _ _)
  have cm := QuoW.may_c P pn pc ps wa ((hp.below BA).more BA.size) (fun p h => by have := hf p h; omega) (by omega)
  have HE := Lib.hid he
  have HPT := Lib.hid hp
  have HF := Lib.hid hf
  clear he hp hf
  obtain ⟨MB, hMB⟩ : ∃ B, mayB ps = B := ⟨_, rfl⟩
  rw [hMB] at cm
  cases MB
  · have HP := Lib.hid (show PR = ([], 5) by rw [← HPR.out]; unfold valP; rw [if_pos hMB])
    clear HPR hMB
    go_enter Tryd.func14, Tryd.ntmps14
    go_wp2_with fail
    rw [← hwa]
    clear hwa
    (with_reducible refine cm.mono ?_)
    rintro x w2 ⟨rfl, b2⟩
    have B2 := via b2 BA
    go_wp2
    first | go_ret2 | go_returns
    exact ⟨by rw [HP.out] <;> rfl, B2⟩
  obtain ⟨GR, hGR⟩ : ∃ G, valT l q ps [] = G := ⟨_, rfl⟩
  have HP := Lib.hid (show PR = finV GR by rw [← HPR.out]; unfold valP; rw [if_neg (by rw [hMB]; decide), hGR])
  have HG0 := Lib.hid (show valT l q (ps.drop 0) [] = GR from hGR)
  clear HPR hMB hGR
  go_enter Tryd.func14, Tryd.ntmps14
  go_wp2_with fail
  rw [← hwa]
  clear hwa
  (with_reducible refine cm.mono ?_)
  rintro x w2 ⟨rfl, b2⟩
  have B2 := via b2 BA
  have xq := XQ.out.next b2
  have p0 := xq.cell 0
  have p1 := xq.cell 1
  have p2 := xq.cell 2
  have p3 := xq.cell 3
  have p4 := xq.cell 4
  have p5 := xq.cell 5
  have p6 := xq.cell 6
  have p7 := xq.cell 7
  have p8 := xq.cell 8
  have p9 := xq.cell 9
  simp only [List.getElem?_toArray, List.getElem?_cons_zero, List.getElem?_cons_succ] at p0 p1 p2 p3 p4 p5 p6 p7 p8 p9
  clear xq cm b2 XQ BA
  go_wp2
  clear p0 p1 p2 p3 p4 p5 p6 p7 p8 p9
  obtain ⟨D, hD⟩ : ∃ D, w.heap.size = D := ⟨_, rfl⟩
  obtain ⟨S, hS⟩ : ∃ S, w2.heap.size = S := ⟨_, rfl⟩
  have hDS : D ≤ S := by have := B2.size; omega
  obtain ⟨w3, hw3⟩ : ∃ z : World, z = (w2.alloc (.cells ([.slice A n c, .string q.s0, .string q.s1, .string q.s2, .string q.s3, .string q.s4, .string q.s5, .string q.s6, .string q.s7, .string q.s8, .string q.s9] : List Value).toArray 57)).alloc (.cells #[.pointer none, .slice none 0 0] 62) := ⟨_, rfl⟩
  have BS : Blk w3 S 57 ([.slice A n c, .string q.s0, .string q.s1, .string q.s2, .string q.s3, .string q.s4, .string q.s5, .string q.s6, .string q.s7, .string q.s8, .string q.s9] : List Value).toArray := by rw [hw3, ← hS]; exact (Blk.new _ _ _).alloc _
  have BB : Blk w3 (S + 1) 62 #[.pointer none, .slice none 0 0] := by rw [hw3, ← hS]; exact Blk.new1 _ _ _ _
  have B3 : Below D w w3 := by rw [hw3, ← hD]; exact (B2.alloc B2.size _).alloc (by rw [World.size_alloc]; have := B2.size; omega) _
  have IB : IsB D (S + 1) [] w3 := Or.inl ⟨by omega, .slice none 0 0, BB, World.ownsRowF_nil _ _ _ _, by simp [Value.ownBlock]⟩
  have HB3 := Lib.hid B3
  have HBS := Lib.hid BS
  have HIB := Lib.hid IB
  clear BS BB B3 IB
  rw [hS]
  rw [← hw3]
  clear hw3 B2 hS
  obtain ⟨b, hb⟩ : ∃ b, S + 1 = b := ⟨_, rfl⟩
  rw [hb] at HIB ⊢
  have hbS : S < b := by omega
  have hDb : D ≤ b := by omega
  clear hb
  have HD := Lib.hid hD
  rw [hD] at HPT
  clear hD
  go_loopw [22] (fun v wr => ∃ (i : Nat) (acc : List UInt8), v = .int .i64 i ∧ i ≤ pn ∧ Hid (valT l q (ps.drop i) acc = GR) ∧ acc.length ≤ 120 * i ∧ IsB D b acc wr ∧ Blk wr S 57 ([.slice A n c, .string q.s0, .string q.s1, .string q.s2, .string q.s3, .string q.s4, .string q.s5, .string q.s6, .string q.s7, .string q.s8, .string q.s9] : List Value).toArray ∧ Below D w wr) (fun v _ => pn - (intOf v).toNat)
  case atStart => exact ⟨0, [], rfl, by omega, HG0, by simp, HIB.out, HBS.out, HB3.out⟩
  case round =>
    clear HG0 HIB HBS HB3
    obtain ⟨z0, rfl⟩ : ∃ z : World, z = wr := ⟨_, rfl⟩
    obtain ⟨i, acc, rfl, hi, hg, hal, hI, hX, hB⟩ := hrel
    have zB0 := hB.size
    have zB : D ≤ z0.heap.size := by rw [← HD.out]; exact zB0
    by_cases hlt : i < pn
    · obtain ⟨g, o, ⟨pa, pb⟩, rfl, hgl, hpi, q1, q2⟩ := Pts.get (HPT.out.below hB) hlt
      simp only at q1 q2
      have hfit := HF.out _ (List.mem_of_getElem? hpi)
      simp only at hfit
      have hst := valT_drop l q ps i _ hpi acc
      rw [hg.out] at hst
      simp only at hst
      have HST := Lib.hid hst
      have EN := Lib.hid HE.out
      clear hst hg hpi hgl
      have hbz := isb_lt hI
      obtain ⟨w4, hw4⟩ : ∃ z : World, z = z0.alloc (.cells #[.string (ba pa), .string (ba pb)] 42) := ⟨_, rfl⟩
      have U4 : Below z0.heap.size z0 w4 := by rw [hw4]; exact (Below.refl _ _).alloc (Nat.le_refl _) _
      have I4 := isb_below hI U4
      have X4 := Lib.hid (hX.next U4)
      have T4 := Lib.hid (show Blk w4 z0.heap.size 42 #[.string (ba pa), .string (ba pb)] by rw [hw4]; exact Blk.new _ _ _)
      have B4 : Below D w w4 := hB.trans (U4.mono (by omega))
      have cw := wstr_c D b acc (ba pb) w4 I4 (by rw [ba_size]; omega) (by have := B4.size; rw [HD.out] at this; exact this)
      clear hI I4 hX U4
      go_wp2_with fail
      rw [← hw4]
      clear hw4
      obtain ⟨T, hT⟩ : ∃ T, z0.heap.size = T := ⟨_, rfl⟩
      rw [hT] at T4 ⊢
      have hTb : T ≠ b := by omega
      clear hT
      (with_reducible refine cw.mono ?_)
      rintro e w5 ⟨rfl, I5, K5⟩
      have X5 := Lib.hid (blk_wr X4.out K5 (by omega) (by decide))
      have T5 := blk_wr T4.out K5 hTb (by decide)
      have B5 := B4.trans K5.below
      have z5 : D ≤ w5.heap.size := by have := B5.size; rw [HD.out] at this; exact this
      clear cw X4 T4 K5
      rw [ba_list] at I5
      have t0 := T5.cell 0
      simp only [List.getElem?_toArray, List.getElem?_cons_zero] at t0
      by_cases hpa : pa = []
      · have f1 : ((ba pa).toList == []) = true := by rw [Lib.toList_data, ba_list]; simpa using hpa
        have HS2 := Lib.hid (show valT l q (ps.drop (i + 1)) (acc ++ pb) = GR by rw [HST.out, if_pos hpa])
        have hal2 : (acc ++ pb).length ≤ 120 * (i + 1) := by rw [List.length_append]; omega
        have HX5 := X5.out
        clear hpa HST
        go_wp2
        go_roundw
        case rel => exact ⟨i + 1, acc ++ pb, by go_num, by omega, HS2, hal2, I5, HX5, B5⟩
        case measure => simp [intOf]; omega
      have f1 : ((ba pa).toList == []) = false := by rw [Lib.toList_data, ba_list, beq_eq_false_iff_ne]; exact hpa
      have HS2 := Lib.hid (show GR = match nameV l q.list (ba pa) with | .error e => .error e | .ok v => valT l q (ps.drop (i + 1)) (acc ++ pb ++ v.data.toList) by rw [HST.out, if_neg hpa])
      clear HST hpa
      have E5 : Env A n l q w5 := EN.out.bel (by rw [HD.out]; exact B5)
      have cn := name_c A n c l q (ba pa) w5 E5.vr E5.hn
      unfold NamePost at cn
      have hf2 := fun v hv => name_fit E5.fit E5.cut (nm := ba pa) (v := v) hv
      have x5 := X5.out
      have p0 := x5.cell 0
      have p1 := x5.cell 1
      have p2 := x5.cell 2
      have p3 := x5.cell 3
      have p4 := x5.cell 4
      have p5 := x5.cell 5
      have p6 := x5.cell 6
      have p7 := x5.cell 7
      have p8 := x5.cell 8
      have p9 := x5.cell 9
      have p10 := x5.cell 10
      simp only [List.getElem?_toArray, List.getElem?_cons_zero, List.getElem?_cons_succ] at p0 p1 p2 p3 p4 p5 p6 p7 p8 p9 p10
      clear x5 E5
      go_wp2_with fail
      (with_reducible refine cn.mono ?_)
      rintro e w6 ⟨b6, ⟨v, hv, rfl⟩ | ⟨hv, rfl⟩⟩
      rotate_left
      · have HS3 := Lib.hid (show PR = ([], 6) by rw [HP.out, HS2.out, hv]; rfl)
        have B6 : Below D w w6 := B5.trans (b6.mono (by omega))
        clear cn hv HS2 b6
        go_wp2
        first | go_ret2 | go_returns
        exact ⟨by rw [HS3.out] <;> rfl, by rw [HD.out]; exact B6⟩
      have hv60 := hf2 v hv
      have HS3 := Lib.hid (show valT l q (ps.drop (i + 1)) (acc ++ pb ++ v.data.toList) = GR by rw [HS2.out, hv])
      have B6 : Below D w w6 := B5.trans (b6.mono (by omega))
      have I6 := isb_below I5 b6
      have X6 := Lib.hid (X5.out.next b6)
      have cw := wstr_c D b (acc ++ pb) v w6 I6 (by rw [List.length_append]; omega) (by have := B6.size; rw [HD.out] at this; exact this)
      clear cn hv HS2 hf2 b6 I5 I6 X5 p0 p1 p2 p3 p4 p5 p6 p7 p8 p9 p10 t0 T5
      go_wp2_with fail
      (with_reducible refine cw.mono ?_)
      rintro e w7 ⟨rfl, I7, K7⟩
      have X7 := blk_wr X6.out K7 (by omega) (by decide)
      have B7 := B6.trans K7.below
      have hal2 : (acc ++ pb ++ v.data.toList).length ≤ 120 * (i + 1) := by
        have h1 : v.data.toList.length = v.size := (Lib.size_eq v).symm
        rw [List.length_append, List.length_append]; omega
      clear cw K7 X6
      go_wp2
      go_roundw
      case rel => exact ⟨i + 1, _, by go_num, by omega, HS3, hal2, I7, X7, B7⟩
      case measure => simp [intOf]; omega
    · have hi2 : i = pn := by omega
      subst hi2
      have hz : GR = .ok acc := by rw [← hg.out, List.drop_of_length_le (by omega)]; rfl
      have HP2 := Lib.hid (show PR = if 32 < acc.length then ([], 2) else (acc, 0) by rw [HP.out, hz]; rfl)
      have cl := Tryd.Builder_Len_f D b _ z0 hI
      have cs := Tryd.Builder_String_any_f D b acc z0 hI zB
      rw [Lib.byteCells_length] at cl
      clear hg hz
      by_cases h32 : 32 < acc.length
      · have d1 : decide ((32 : Int) < (acc.length : Int)) = true := by simp; omega
        have d1n : decide (32 < acc.length) = true := by simp; omega
        have HP3 := Lib.hid (show PR = ([], 2) by rw [HP2.out, if_pos h32])
        go_wp2_with fail
        (with_reducible refine cl.mono ?_)
        rintro e w5 ⟨rfl, rfl⟩
        go_wp2
        first | go_ret2 | go_returns
        exact ⟨by rw [HP3.out] <;> rfl, by rw [HD.out]; exact hB⟩
      · have d1 : decide ((32 : Int) < (acc.length : Int)) = false := by simp; omega
        have d1n : decide (32 < acc.length) = false := by simp; omega
        have HP3 := Lib.hid (show PR = (acc, 0) by rw [HP2.out, if_neg h32])
        go_wp2_with fail
        (with_reducible refine cl.mono ?_)
        rintro e w5 ⟨rfl, rfl⟩
        go_wp2_with fail
        (with_reducible refine cs.mono ?_)
        rintro e w6 ⟨rfl, _, b6⟩
        go_wp2
        first | go_ret2 | go_returns
        exact ⟨by rw [HP3.out] <;> rfl, by rw [HD.out]; exact hB.trans b6⟩
end CalW
end Go.Proofs.YtledgkplddeghaaDoor
