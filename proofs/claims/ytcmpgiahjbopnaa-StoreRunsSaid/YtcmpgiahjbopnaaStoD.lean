/- A text is added to a store, or looked for: the walks of Add and Find. Conditions: few texts, texts that fit. -/
import Derived.Test.YtcmpgiahjbopnaaStoN
import Derived.Deep.AppendLies
import Derived.Deep.CutBlock
namespace Go.Proofs.Ytcmpgiahjbopnaa
set_option linter.unusedVariables false
set_option linter.unusedSimpArgs false
open Go.RowKit
namespace StoW
open StoP
/-- What grow leaves. -/
def GrowPost (R : Nat) (most size : Int) (seed mask : Nat) (T : Value) (m : Nat) (X : List ByteArray) (w : World) (e : Ending) (w' : World) : Prop :=
  e = .returned (.tuple #[]) ∧ Tch (· = R) w w' ∧ ∃ g sl, w.heap.size ≤ g ∧ sl.length = 2 * m ∧ Inv (hM seed mask) (X.map bs) sl ∧ Blk w' R 53 (stC most seed mask size T g (2 * m)) ∧ Blk w' g 3 (slV sl)
/-- The contract of grow. -/
def GrowC : Prop := ∀ (R g : Nat) (most size : Int) (seed mask : Nat) (A : Option Addr) (c m : Nat) (X : List ByteArray) (w : World)
    (hb : Blk w R 53 (stC most seed mask size (.slice A X.length c) g m)) (hX : Rd w w.heap.size 1 A X.length (X.map Value.string)) (hAR : ∀ ad, A = some ad → 0 < X.length → ad.block ≠ R)
    (h2 : Two (2 * m)) (hXm : X.length < 2 * m) (hnd : (X.map bs).Nodup)
    (hsd : seed < 18446744073709551616) (hmk : mask < 18446744073709551616) (hXl : X.length ≤ 1000000) (hkl : ∀ x ∈ X, x.size ≤ 4611686018427387904),
    Calls Try.prog 15 #[.pointer (some ⟨R, 0, none⟩)] w (GrowPost R most size seed mask (.slice A X.length c) m X w)
theorem blk_ne {w : World} {g g' : Nat} {t t' : TypeId} {cs cs' : Array Value} (h : Blk w g t cs) (h' : Blk w g' t' cs') (ht : t ≠ t') : g ≠ g' := by
  intro e
  subst e
  unfold Blk at h h'
  rw [h] at h'
  injection h' with h'
  injection h' with h1 h2
  exact ht h2
theorem row_ne {w : World} {g' : Nat} {v : Value} {t t' : TypeId} {z n B : Nat} {cs : List Value} {cs' : Array Value} (h : w.ownsRow B t z v n cs) (h' : Blk w g' t' cs') (ht : t ≠ t') : ∀ g, v.ownBlock = some g → g ≠ g' := by
  intro g hg
  rcases h.2 with ⟨e, _⟩ | ⟨b, cap, cur, e, _, h3, _⟩
  · rw [e] at hg; cases hg
  · rw [e] at hg
    injection hg with hg
    subst hg
    exact blk_ne (t := t) (cs := cur) h3 h' ht
/-- What Add answers, and the texts then. -/
def addS (X : List ByteArray) (most : Int) (key : ByteArray) : Int × Bool × Int × List ByteArray :=
  if 0 ≤ findI (X.map bs) (bs key) then (findI (X.map bs) (bs key), false, 0, X) else if most ≤ X.length then (0, false, 9, X) else ((X.length : Int), true, 0, X ++ [key])
theorem addS_old {X : List ByteArray} {most : Int} {key : ByteArray} {i : Int} (h : findI (X.map bs) (bs key) = i) (h0 : 0 ≤ i) : addS X most key = (i, false, 0, X) := by unfold addS; rw [h, if_pos h0]
theorem addS_full {X : List ByteArray} {most : Int} {key : ByteArray} (h : bs key ∉ X.map bs) (h0 : most ≤ X.length) : addS X most key = (0, false, 9, X) := by unfold addS; rw [findI_no h, if_neg (by omega), if_pos h0]
theorem addS_new {X : List ByteArray} {most : Int} {key : ByteArray} (h : bs key ∉ X.map bs) (h0 : ¬ most ≤ X.length) : addS X most key = ((X.length : Int), true, 0, X ++ [key]) := by unfold addS; rw [findI_no h, if_neg (by omega), if_neg h0]
def AddPost (R g : Nat) (most size : Int) (seed mask : Nat) (T : Value) (X : List ByteArray) (sl : List Nat) (key : ByteArray) (w : World) (e : Ending) (w' : World) : Prop :=
  ∃ (i : Int) (f : Bool) (er : Int) (X' : List ByteArray) (T' : Value) (g' : Nat) (sl' : List Nat), addS X most key = (i, f, er, X') ∧ e = .returned (.tuple #[.int .i64 i, .bool f, .int .i64 er]) ∧
    St w' R most size seed mask T' g' X' sl' ∧ Tch (ow R g T) w w' ∧ ∀ k, ow R g' T' k → ow R g T k ∨ w.heap.size ≤ k
theorem info_Str : (Try.prog.info? 9).map (fun i => (i.zero, i.size, i.bytes)) = some (some (.string ⟨#[]⟩), 1, 16) := by kernel_rfl
theorem St.drewN {w : World} {R g : Nat} {most size : Int} {seed mask : Nat} {T : Value} {X : List ByteArray} {sl : List Nat} (h : St w R most size seed mask T g X sl) (n : Nat) : St (w.drewN n) R most size seed mask T g X sl :=
  ⟨h.blk, h.row, h.slo, h.inv, h.two, h.half, h.big⟩
theorem St.tch {w w' : World} {R g : Nat} {most size : Int} {seed mask : Nat} {T : Value} {X : List ByteArray} {sl : List Nat} {S : Nat → Prop} (h : St w R most size seed mask T g X sl) (k : Tch S w w') (hs : ∀ b, ow R g T b → ¬ S b) : St w' R most size seed mask T g X sl :=
  ⟨h.blk.tch k (hs _ (.inl rfl)), ows_tch h.row k (fun b hb => hs b (.inr (.inr hb))), h.slo.tch k (hs _ (.inr (.inl rfl))), h.inv, h.two, h.half, h.big⟩
set_option maxRecDepth 100000 in
set_option maxHeartbeats 4000000 in
theorem add_c (HG : GrowC) (R g : Nat) (most size : Int) (seed mask : Nat) (T : Value) (X : List ByteArray) (sl : List Nat) (key : ByteArray) (w : World) (h : St w R most size seed mask T g X sl)
    (hsd : seed < 18446744073709551616) (hmk : mask < 18446744073709551616) (hk : key.size ≤ 4611686018427387904) (hXl : X.length ≤ 4000) (hkl : ∀ x ∈ X, x.size ≤ 4611686018427387904) :
    Calls Try.prog 7 #[.pointer (some ⟨R, 0, none⟩), .string key] w (AddPost R g most size seed mask T X sl key w) := by
  obtain ⟨A, c, rfl, hAc, hcm, hX, hlt⟩ := ows_rd h.row
  obtain ⟨M, hM1⟩ : ∃ M, sl.length = M + 1 := ⟨sl.length - 1, by have := h.big; omega⟩
  have hb := h.blk
  rw [hM1] at hb
  have cs := slot_c R g most size seed mask A c M X sl key w hb hX h.slo hM1 (by rw [← hM1]; exact h.two) h.inv.zeros (fun p v hp => by have := h.inv.ok p v hp; simpa using this) hsd hmk hk (by omega)
  have HS := Lib.hid h
  have HX := Lib.hid hX
  have HM1 := Lib.hid hM1
  have HKL := Lib.hid hkl
  have hAR : ∀ ad, A = some ad → 0 < X.length → ad.block ≠ R := fun ad e hn => by
    rcases h.row.2 with ⟨e1, e2⟩ | ⟨b, cap, cur, e1, _, h3, _⟩
    · injection e1 with e1; rw [e1] at e; cases e
    · injection e1 with e1 e2
      rw [e1] at e
      injection e with e
      rw [← e]
      exact blk_ne (cs := cur) h3 hb (by decide)
  have HAR := Lib.hid hAR
  clear hM1 hkl hlt hX h hAR
  obtain ⟨i0, hi, hz0, hz1, hz2⟩ := info_parts info_Str
  go_enter Try.func7, Try.ntmps7
  go_wp2_with fail
  (with_reducible refine cs.mono ?_)
  rintro e w' ⟨p, rfl, hr, n, rfl⟩
  clear cs
  obtain ⟨wq, hq⟩ : ∃ q, w.drewN n = q := ⟨_, rfl⟩
  have hT : Hid (Tch (ow R g (.slice A X.length c)) w wq) := Lib.hid (by rw [← hq]; exact (Tch.refl _ w).drewN n)
  have HSQ : Hid (St wq R most size seed mask (.slice A X.length c) g X sl) := Lib.hid (by rw [← hq]; exact HS.out.drewN n)
  have hb : Blk wq R 53 (stC most seed mask size (.slice A X.length c) g (M + 1)) := by rw [← hq]; exact hb
  have hzq : Hid (wq.heap.size = w.heap.size) := Lib.hid (by rw [← hq]; rfl)
  rw [hq]
  clear hq HS
  have HR := Lib.hid hr
  have hpl : p < M + 1 := by have := hr.lt (by rw [HM1.out]; omega); rw [HM1.out] at this; exact this
  have hpl2 : p < sl.length := by rw [HM1.out]; exact hpl
  clear hr
  have u0 := hb.cell 0
  have u4 := hb.cell 4
  have u5 := hb.cell 5
  simp only [List.getElem?_toArray, List.getElem?_cons_zero, List.getElem?_cons_succ] at u0 u4 u5
  have c0 := HSQ.out.slo.cell p
  rw [List.getElem?_toArray, List.getElem?_map, List.getElem?_eq_getElem hpl2] at c0
  simp only [Option.map_some] at c0
  obtain ⟨v, hv⟩ : ∃ v, sl[p]'hpl2 = v := ⟨_, rfl⟩
  have hsv : Hid (sl[p]? = some v) := Lib.hid (by rw [List.getElem?_eq_getElem hpl2, hv])
  rw [hv] at c0
  clear hv hpl2
  cases v with
  | succ v =>
    have hvx : Hid ((X.map bs)[v]? = some (bs key)) := Lib.hid (by
      obtain ⟨d, _, _, h0 | ⟨u, hu, hx⟩⟩ := HR.out
      · rw [hsv.out] at h0; cases h0
      · rw [hsv.out] at hu; injection hu with hu
        have : v = u := by omega
        rw [this]; exact hx)
    have hfi : Hid (findI (X.map bs) (bs key) = v) := Lib.hid (findI_at HSQ.out.inv.nd hvx.out)
    have t1 : decide (((v + 1 : Nat) : Int) > 0) = true := decide_eq_true (by omega)
    have t2 : decide ((0 : Int) < ((v : Nat) : Int) + 1) = true := decide_eq_true (by omega)
    have hvl : v + 1 ≤ 4000 := by
      have := (List.getElem?_eq_some_iff.1 hvx.out).1
      rw [List.length_map] at this; omega
    go_wp2_with fail
    go_returns
    exact ⟨v, false, 0, X, _, g, sl, addS_old hfi.out (by omega), by first | rfl | (simp), HSQ.out, hT.out, fun k hk => .inl hk⟩
  | zero =>
    have hno : Hid (bs key ∉ X.map bs) := Lib.hid (Res.free HSQ.out.inv (fun _ _ e => e) HR.out hsv.out)
    by_cases hfull : most ≤ (X.length : Int)
    · have t1 : decide (most ≤ (X.length : Int)) = true := decide_eq_true hfull
      have t2 : decide ((X.length : Int) ≥ most) = true := decide_eq_true hfull
      go_wp2_with fail
      go_quiet (fail)
      go_wp2_with fail
      go_returns
      exact ⟨0, false, 9, X, _, g, sl, addS_full hno.out hfull, rfl, HSQ.out.drewN nq, hT.out.drewN nq, fun k hk => .inl hk⟩
    · have t1 : decide (most ≤ (X.length : Int)) = false := decide_eq_false hfull
      have t2 : decide ((X.length : Int) ≥ most) = false := decide_eq_false hfull
      go_wp2_with fail
      go_quiet (fail)
      obtain ⟨wz, hz⟩ : ∃ q, wq.drewN nq = q := ⟨_, rfl⟩
      have hTz : Hid (Tch (ow R g (.slice A X.length c)) w wz) := Lib.hid (by rw [← hz]; exact hT.out.drewN nq)
      have HSZ : Hid (St wz R most size seed mask (.slice A X.length c) g X sl) := Lib.hid (by rw [← hz]; exact HSQ.out.drewN nq)
      have hb : Blk wz R 53 (stC most seed mask size (.slice A X.length c) g (M + 1)) := by rw [← hz]; exact hb
      have hzz : Hid (wz.heap.size = w.heap.size) := Lib.hid (by rw [← hz]; exact hzq.out)
      rw [hz]
      clear hz u0 u4 u5 c0 hT HSQ hzq
      have u4 := hb.cell 4
      simp only [List.getElem?_toArray, List.getElem?_cons_zero, List.getElem?_cons_succ] at u4
      have T1 : Tch (ow R g (.slice A X.length c)) w (wz.alloc (.cells #[.string key] 9)) := hTz.out.alloc _
      have own1 : (wz.alloc (.cells #[.string key] 9)).ownsRow 0 9 1 (.slice A X.length c) X.length (X.map Value.string) := ows_tch HSZ.out.row ((Tch.refl (fun _ => False) wz).alloc _) (fun _ _ h => h)
      have k1 := Blk.new wz 9 #[.string key]
      have hnews : ∀ (i : Nat) (u : Value), ([.string key] : List Value)[i]? = some u → (wz.alloc (.cells #[.string key] 9)).cell? ((⟨wz.heap.size, 0, none⟩ : Addr).add i) = some u := by
        intro i u hu
        cases i with
        | zero => have := k1.cell 0; simpa [Addr.add] using this.trans hu
        | succ i => simp at hu
      go_wp2_with (at_builtin; refine wpList_append_lies _ rfl (.tmp 40) (.tmp 42) 25 rfl 0 9 i0 (.string ⟨#[]⟩) 1 16 Try.underlying25 hi hz0 hz1 hz2 rfl (by decide) _ X.length (X.map Value.string) rfl own1 ⟨wz.heap.size, 0, none⟩ 1 1 [.string key] rfl rfl hnews (by intro u hu; simp at hu; subst hu; rfl) (by decide) (by unfold maxLen; omega) (by omega) (Nat.zero_le _) _ rfl ?_)
      intro g7 c7 w7 own8 hgrow7 hat hlt7
      have T7 : Tch (ow R g (.slice A X.length c)) w w7 := T1.trans (Tch.of_grown hgrow7 (fun k hk => .inr (.inr hk)))
      have hTR : (Value.slice A X.length c).ownBlock ≠ some R := fun e => row_ne HSZ.out.row HSZ.out.blk (by decide) R e rfl
      have hTg : (Value.slice A X.length c).ownBlock ≠ some g := fun e => row_ne HSZ.out.row HSZ.out.slo (by decide) g e rfl
      have hRg : R ≠ g := blk_ne HSZ.out.blk HSZ.out.slo (by decide)
      have b7 : Blk w7 R 53 (stC most seed mask size (.slice A X.length c) g (M + 1)) := (hgrow7.block R (hb.alloc _).lt (fun e => hTR e.symm)).trans (hb.alloc _)
      have s7 : Blk w7 g 3 (slV sl) := (hgrow7.block g (HSZ.out.slo.alloc _).lt (fun e => hTg e.symm)).trans (HSZ.out.slo.alloc _)
      have hz7 : w.heap.size ≤ w7.heap.size := T7.size
      have hfr : Hid (∀ k, (Value.slice (some ⟨g7, 0, none⟩) (X.length + 1) c7).ownBlock = some k → (Value.slice A X.length c).ownBlock = some k ∨ w.heap.size ≤ k) := Lib.hid (by
        intro k hk
        have hk2 : g7 = k := by injection hk
        subst hk2
        rcases hat with h | h
        · exact .inl h
        · right
          rw [h]
          have := hzz.out
          simp; omega)
      clear hat
      have hl7 : (X ++ [key]).length = X.length + 1 := by simp
      have own9 : w7.ownsRow 0 9 1 (.slice (some ⟨g7, 0, none⟩) (X.length + 1) c7) (X ++ [key]).length ((X ++ [key]).map Value.string) := by
        rw [hl7, List.map_append]; exact own8
      have hA := HSZ.out.inv.add (fun _ _ e => e) HR.out hsv.out (by have := HSZ.out.half; have := HSZ.out.big; simp; omega)
      have HA : Hid (Inv (hM seed mask) ((X ++ [key]).map bs) (sl.set p (X.length + 1))) := Lib.hid (by
        rw [List.map_append, List.map_singleton]
        rw [List.length_map] at hA
        exact hA)
      have HN : Hid (addS X most key = ((X.length : Int), true, 0, X ++ [key])) := Lib.hid (addS_new hno.out (by omega))
      clear hA own8 hgrow7 T1 own1 k1 hnews hno hb u4 hTz
      obtain ⟨X7, hX7⟩ : ∃ Y, X ++ [key] = Y := ⟨_, rfl⟩
      rw [hX7] at hl7 own9 HA HN
      have HK7 : Hid (∀ x ∈ X7, x.size ≤ 4611686018427387904) := Lib.hid (by
        rw [← hX7]
        intro x hx
        rcases List.mem_append.1 hx with hx | hx
        · exact HKL.out x hx
        · simp at hx; rw [hx]; exact hk)
      clear hX7 HX HKL hk
      obtain ⟨N, hN⟩ : ∃ N, X.length + 1 = N := ⟨_, rfl⟩
      rw [hN] at hl7 own9 hfr ⊢
      have hN4 : N ≤ 4001 := by omega
      have hM30 : M + 1 ≤ 1073741824 := by obtain ⟨k, hk, e⟩ := HSZ.out.two; rw [HM1.out] at e; rw [e]; exact Nat.pow_le_pow_right (by decide) hk
      have b8 := b7.set_ 4 (.slice (some ⟨g7, 0, none⟩) N c7)
      have hst : (stC most seed mask size (.slice A X.length c) g (M + 1)).setIfInBounds 4 (.slice (some ⟨g7, 0, none⟩) N c7) = stC most seed mask size (.slice (some ⟨g7, 0, none⟩) N c7) g (M + 1) := rfl
      rw [hst] at b8
      have s8 := s7.far (p := ⟨R, 4, none⟩) (fun e => hRg e.symm) (.slice (some ⟨g7, 0, none⟩) N c7)
      have T8 := T7.setCell (p := ⟨R, 4, none⟩) (.inl rfl) (.slice (some ⟨g7, 0, none⟩) N c7)
      have own10 := ows_far own9 ⟨R, 4, none⟩ (fun k hk => fun e => row_ne own9 b7 (by decide) k hk e) (.slice (some ⟨g7, 0, none⟩) N c7)
      have l4 := b7.loose 4
      have x4 := b7.cell 4
      simp only [List.getElem?_toArray, List.getElem?_cons_zero, List.getElem?_cons_succ] at x4
      obtain ⟨w8, hw8⟩ : ∃ q, w7.setCell ⟨R, 4, none⟩ (.slice (some ⟨g7, 0, none⟩) N c7) = q := ⟨_, rfl⟩
      clear own9 s7 hst
      have HN2 := Lib.hid hN
      have HL7 := Lib.hid hl7
      clear hN hl7
      go_wp2_with fail
      rw [hw8] at b8 s8 T8 own10
      clear hw8 b7 l4 x4 T7
      have x5 := b8.cell 5
      have x4 := b8.cell 4
      simp only [List.getElem?_toArray, List.getElem?_cons_zero, List.getElem?_cons_succ] at x5 x4
      have hpl2 : p < sl.length := by rw [HM1.out]; exact hpl
      have xp := s8.cell p
      have lp := s8.loose p
      rw [List.getElem?_toArray, List.getElem?_map, List.getElem?_eq_getElem hpl2] at xp
      simp only [Option.map_some] at xp
      obtain ⟨v9, hv9⟩ : ∃ v9 : Value, Value.int .i64 ((sl[p]'hpl2 : Nat) : Int) = v9 := ⟨_, rfl⟩
      rw [hv9] at xp
      clear hv9 hpl2
      go_region
      obtain ⟨w9, hw9⟩ : ∃ q, (w8.setCell ⟨g, p, none⟩ (.int .i64 (N : Int))).drew = q := ⟨_, rfl⟩
      have s9 : Blk w9 g 3 (slV (sl.set p N)) := by
        rw [← hw9]
        have := s8.set_ p (.int .i64 (N : Int))
        rw [show (slV sl).setIfInBounds p (.int .i64 (N : Int)) = slV (sl.set p N) from by rw [slV, slV, List.setIfInBounds_toArray, List.map_set]] at this
        exact this.drewN 1
      have b9 : Blk w9 R 53 (stC most seed mask size (.slice (some ⟨g7, 0, none⟩) N c7) g (M + 1)) := by
        rw [← hw9]; exact (b8.far (p := ⟨g, p, none⟩) hRg _).drewN 1
      have T9 : Tch (ow R g (.slice A X.length c)) w w9 := by
        rw [← hw9]; exact (T8.setCell (p := ⟨g, p, none⟩) (.inr (.inl rfl)) _).drewN 1
      have own11 : w9.ownsRow 0 9 1 (.slice (some ⟨g7, 0, none⟩) N c7) X7.length (X7.map Value.string) := by
        rw [← hw9]
        exact ows_tch (ows_far own10 ⟨g, p, none⟩ (fun k hk e => row_ne own10 s8 (by decide) k hk e) (.int .i64 (N : Int))) ((Tch.refl (fun _ => False) _).drewN 1) (fun _ _ h => h)
      rw [hw9]
      clear hw9 s8 b8 T8 own10 x5 x4 lp xp
      have x5 := b9.cell 5
      have x4 := b9.cell 4
      simp only [List.getElem?_toArray, List.getElem?_cons_zero, List.getElem?_cons_succ] at x5 x4
      have hNpos : 0 < N := by have := HN2.out; omega
      have HBIG : Hid (8 ≤ sl.length) := Lib.hid HSZ.out.big
      have HHALF : Hid (2 * X.length ≤ sl.length) := Lib.hid HSZ.out.half
      have HTWO : Hid (Two sl.length) := Lib.hid HSZ.out.two
      clear HSZ hb HR hsv hlt7 hz7 hzz
      have hNi : ((N : Int) - 1) = (X.length : Int) := by have := HN2.out; omega
      have HNI := Lib.hid hNi
      clear hNi
      by_cases hgr : 2 * N ≤ M + 1
      · have d1 : decide (2 * (N : Int) > ((M + 1 : Nat) : Int)) = false := decide_eq_false (by omega)
        have d2 : decide (((M + 1 : Nat) : Int) < 2 * (N : Int)) = false := decide_eq_false (by omega)
        have d3 : decide ((M : Int) + 1 < 2 * (N : Int)) = false := decide_eq_false (by omega)
        go_wp2_with fail
        go_quiet (fail)
        obtain ⟨wa, hwa⟩ : ∃ q, w9.drewN nq = q := ⟨_, rfl⟩
        have y4 : wa.cell? ⟨R, 4, none⟩ = some (.slice (some ⟨g7, 0, none⟩) N c7) := by rw [← hwa]; exact x4
        rw [hwa]
        have Ta : Tch (ow R g (.slice A X.length c)) w wa := by rw [← hwa]; exact T9.drewN nq
        have Sa : St wa R most size seed mask (.slice (some ⟨g7, 0, none⟩) N c7) g X7 (sl.set p N) := by
          rw [← hwa]
          refine ⟨?_, ows_tch own11 ((Tch.refl (fun _ => False) _).drewN nq) (fun _ _ h => h), s9.drewN nq, ?_, ?_, ?_, ?_⟩
          · rw [List.length_set, HM1.out]; exact b9.drewN nq
          · have := HA.out; rw [HN2.out] at this; exact this
          · rw [List.length_set]; exact HTWO.out
          · rw [List.length_set, HM1.out, HL7.out]; exact hgr
          · rw [List.length_set]; exact HBIG.out
        clear hwa T9 own11 s9 b9 x4 x5
        go_wp2_with fail
        go_returns
        refine ⟨X.length, true, 0, X7, _, g, _, HN.out, ?_, Sa, Ta, ?_⟩
        · rw [← HNI.out]; rfl
        · rintro k (h | h | h)
          · exact .inl (.inl h)
          · exact .inl (.inr (.inl h))
          · rcases hfr.out k h with h | h
            · exact .inl (.inr (.inr h))
            · exact .inr h
      · have d1 : decide (2 * (N : Int) > ((M + 1 : Nat) : Int)) = true := decide_eq_true (by omega)
        have d2 : decide (((M + 1 : Nat) : Int) < 2 * (N : Int)) = true := decide_eq_true (by omega)
        have d3 : decide ((M : Int) + 1 < 2 * (N : Int)) = true := decide_eq_true (by omega)
        have htw : Two (2 * (M + 1)) := by
          obtain ⟨k, hk, e⟩ := HTWO.out
          rw [HM1.out] at e
          refine ⟨k + 1, ?_, by rw [e, Nat.pow_succ]; omega⟩
          by_cases h13 : k < 13
          · omega
          · exfalso
            have : 2 ^ 13 ≤ 2 ^ k := Nat.pow_le_pow_right (by decide) (by omega)
            omega
        go_wp2_with fail
        go_quiet (fail)
        obtain ⟨wa, hwa⟩ : ∃ q, w9.drewN nq = q := ⟨_, rfl⟩
        have ba : Blk wa R 53 (stC most seed mask size (.slice (some ⟨g7, 0, none⟩) N c7) g (M + 1)) := by rw [← hwa]; exact b9.drewN nq
        have Ta : Tch (ow R g (.slice A X.length c)) w wa := by rw [← hwa]; exact T9.drewN nq
        have ra : wa.ownsRow 0 9 1 (.slice (some ⟨g7, 0, none⟩) N c7) X7.length (X7.map Value.string) := by rw [← hwa]; exact ows_tch own11 ((Tch.refl (fun _ => False) _).drewN nq) (fun _ _ h => h)
        rw [hwa]
        clear hwa T9 own11 s9 b9 x4 x5 d1 d2 d3
        obtain ⟨A8, c8, e8, hAc8, hcm8, hX8, hlt8⟩ := ows_rd ra
        have e9 : A8 = some ⟨g7, 0, none⟩ ∧ c8 = c7 := by injection e8 with h1 h2 h3; exact ⟨h1.symm, h3.symm⟩
        obtain ⟨rfl, rfl⟩ := e9
        have hg7R : g7 ≠ R := row_ne ra ba (by decide) g7 rfl
        have HRA := Lib.hid ra
        have cg := HG R g most size seed mask (some ⟨g7, 0, none⟩) c8 (M + 1) X7 wa (by rw [HL7.out]; exact ba) hX8 (fun ad e _ => by injection e with e; rw [← e]; exact hg7R) htw (by rw [HL7.out]; have := HHALF.out; rw [HM1.out] at this; have := HN2.out; have := HBIG.out; rw [HM1.out] at this; omega) HA.out.nd hsd hmk (by rw [HL7.out]; omega) HK7.out
        clear ra ba hX8 hlt8 e8 hAc8 hcm8 htw
        go_wp2_with fail
        (with_reducible refine cg.mono ?_)
        clear cg
        rintro e wb ⟨rfl, Tb, gb, slb, hgb, hlb, hIb, bb, sb⟩
        have Rb : wb.ownsRow 0 9 1 (.slice (some ⟨g7, 0, none⟩) N c8) X7.length (X7.map Value.string) := ows_tch HRA.out Tb (fun k hk e => hg7R (by injection hk with hk; exact hk.trans e))
        rw [HL7.out] at bb
        have x4 := bb.cell 4
        simp only [List.getElem?_toArray, List.getElem?_cons_zero, List.getElem?_cons_succ] at x4
        have HT2 : Hid (Tch (ow R g (.slice A X.length c)) w wb) := Lib.hid (Ta.trans (Tb.more (fun k hk => .inl hk)))
        have HSB : Hid (St wb R most size seed mask (.slice (some ⟨g7, 0, none⟩) N c8) gb X7 slb) := Lib.hid (by
          refine ⟨by rw [hlb]; exact bb, Rb, sb, hIb, ?_, ?_, ?_⟩
          · rw [hlb]
            obtain ⟨k, hk, e⟩ := HTWO.out
            rw [HM1.out] at e
            refine ⟨k + 1, ?_, by rw [e, Nat.pow_succ]; omega⟩
            by_cases h13 : k < 13
            · omega
            · exfalso
              have : 2 ^ 13 ≤ 2 ^ k := Nat.pow_le_pow_right (by decide) (by omega)
              omega
          · rw [hlb, HL7.out]; have := HHALF.out; rw [HM1.out] at this; have := HN2.out; omega
          · rw [hlb]; have := HBIG.out; rw [HM1.out] at this; omega)
        have HGB : Hid (w.heap.size ≤ gb) := Lib.hid (Nat.le_trans Ta.size hgb)
        clear Ta Tb Rb hgb hlb hIb bb sb
        go_wp2_with fail
        go_returns
        refine ⟨X.length, true, 0, X7, _, gb, _, HN.out, ?_, HSB.out, HT2.out, ?_⟩
        · rw [← HNI.out]; rfl
        · rintro k (h | h | h)
          · exact .inl (.inl h)
          · rw [h]; exact .inr HGB.out
          · rcases hfr.out k h with h | h
            · exact .inl (.inr (.inr h))
            · exact .inr h
theorem res_ex {h : Bs → Nat} {X : List Bs} {sl : List Nat} {key : Bs} (hz : 0 < sl.count 0) (hok : ∀ p v : Nat, sl[p]? = some (v + 1) → v < X.length) : ∃ p, Res h X sl key p := by
  have hm : 0 < sl.length := by
    obtain ⟨z, hz1, _⟩ := List.getElem_of_mem (List.count_pos_iff.1 hz); omega
  suffices hs : ∀ (f d : Nat), Wy h X sl key d → sl.length ≤ d + f → ∃ p, Res h X sl key p from hs sl.length 0 Wy.zero (by omega)
  intro f
  induction f with
  | zero => intro d hw hd; have := hw.lt hz; omega
  | succ f ih =>
    intro d hw hd
    have hl : (h key + d) % sl.length < sl.length := Nat.mod_lt _ hm
    have he := List.getElem?_eq_getElem hl
    generalize sl[(h key + d) % sl.length] = v at he
    cases v with
    | zero => exact ⟨_, d, rfl, hw, .inl he⟩
    | succ v =>
      by_cases hx : X[v]? = some key
      · exact ⟨_, d, rfl, hw, .inr ⟨v, he, hx⟩⟩
      · exact ih (d + 1) (hw.succ he hx) (by omega)
theorem res_one {h : Bs → Nat} {X : List Bs} {sl : List Nat} {key : Bs} {p q : Nat} (hp : Res h X sl key p) (hq : Res h X sl key q) : p = q := by
  obtain ⟨d, rfl, hw, h0⟩ := hp
  obtain ⟨d', rfl, hw', h0'⟩ := hq
  have no : ∀ {a b : Nat}, Wy h X sl key b → (sl[(h key + a) % sl.length]? = some 0 ∨ ∃ v, sl[(h key + a) % sl.length]? = some (v + 1) ∧ X[v]? = some key) → ¬ a < b := by
    intro a b hb ha hlt
    obtain ⟨v, hv, hx⟩ := hb a hlt
    rcases ha with ha | ⟨u, hu, hy⟩
    · rw [ha] at hv; cases hv
    · rw [hu] at hv; injection hv with hv
      have : u = v := by omega
      rw [this] at hy; exact hx hy
  have h1 := no hw h0'
  have h2 := no hw' h0
  rw [show d = d' by omega]
/-- What Find answers. -/
def FindPost (X : List ByteArray) (key : ByteArray) (w : World) (e : Ending) (w' : World) : Prop :=
  e = .returned (.tuple #[.int .i64 (max (findI (X.map bs) (bs key)) 0), .bool (decide (0 ≤ findI (X.map bs) (bs key)))]) ∧ ∃ n, w' = w.drewN n
set_option maxRecDepth 100000 in
set_option maxHeartbeats 4000000 in
theorem find_c (R g : Nat) (most size : Int) (seed mask : Nat) (T : Value) (X : List ByteArray) (sl : List Nat) (key : ByteArray) (w : World) (h : St w R most size seed mask T g X sl)
    (hsd : seed < 18446744073709551616) (hmk : mask < 18446744073709551616) (hk : key.size ≤ 4611686018427387904) (hXl : X.length ≤ 4000) :
    Calls Try.prog 9 #[.pointer (some ⟨R, 0, none⟩), .string key] w (FindPost X key w) := by
  obtain ⟨A, c, rfl, hAc, hcm, hX, hlt⟩ := ows_rd h.row
  obtain ⟨M, hM1⟩ : ∃ M, sl.length = M + 1 := ⟨sl.length - 1, by have := h.big; omega⟩
  have hb := h.blk
  rw [hM1] at hb
  obtain ⟨p, hr⟩ := res_ex (h := hM seed mask) (X := X.map bs) (key := bs key) h.inv.zeros h.inv.ok
  have cs := fun n => (slot_c R g most size seed mask A c M X sl key (w.drewN n) hb hX h.slo hM1 (by rw [← hM1]; exact h.two) h.inv.zeros (fun p v hp => by have := h.inv.ok p v hp; simpa using this) hsd hmk hk (by omega)).mono (R' := fun e w' => e = .returned (.int .i64 (p : Nat)) ∧ ∃ m, w' = (w.drewN n).drewN m) (by
    rintro e w' ⟨q, rfl, hq, hn⟩
    rw [res_one hr hq]
    exact ⟨rfl, hn⟩)
  have hpl : p < M + 1 := by have := hr.lt (by omega); rw [hM1] at this; exact this
  obtain ⟨v, hv, hfv, hv4⟩ : ∃ v : Nat, sl[p]? = some v ∧ findI (X.map bs) (bs key) = (v : Int) - 1 ∧ v ≤ 4000 := by
    obtain ⟨d, e, hw, h0 | ⟨u, hu, hx⟩⟩ := id hr
    · exact ⟨0, h0, by rw [findI_no (Res.free h.inv (fun _ _ e => e) hr h0)]; rfl, by omega⟩
    · refine ⟨u + 1, hu, by rw [findI_at h.inv.nd hx]; omega, ?_⟩
      have := (List.getElem?_eq_some_iff.1 hx).1
      rw [List.length_map] at this; omega
  have u5 := hb.cell 5
  simp only [List.getElem?_toArray, List.getElem?_cons_zero, List.getElem?_cons_succ] at u5
  have c0 := h.slo.cell p
  rw [List.getElem?_toArray, List.getElem?_map, hv, Option.map_some] at c0
  have HF := Lib.hid hfv
  clear hfv hv hr h hX hlt hAc hcm hM1
  go_enter Try.func9, Try.ntmps9
  go_wp2_with fail
  go_quiet (with_reducible exact Calls.quiet_of (cs _))
  have l0 : (v : Int) - 1 < 0 ∨ 0 ≤ (v : Int) - 1 := by omega
  go_wp2_with fail
  · go_ret2
    refine ⟨?_, nq, rfl⟩
    have e1 : max ((v : Int) - 1) 0 = 0 := by omega
    have e2 : decide (0 < v) = decide (0 ≤ (v : Int) - 1) := decide_eq_decide.2 (by omega)
    rw [HF.out, e1, ← e2]; rfl
  · go_ret2
    refine ⟨?_, nq, rfl⟩
    have e1 : max ((v : Int) - 1) 0 = (v : Int) - 1 := by omega
    have e2 : decide (0 < v) = decide (0 ≤ (v : Int) - 1) := decide_eq_decide.2 (by omega)
    rw [HF.out, e1, ← e2]; rfl
end StoW
end Go.Proofs.Ytcmpgiahjbopnaa
