/- The law CalcRules. Conditions: arguments that fit; the tables of strconv. -/
import Derived.Test.YtledgkplddeghaaDoorCalI
import Derived.Test.YtledgkplddeghaaDoorCalC
import Derived.Deep.RegionHeld3
namespace Go.Proofs.YtledgkplddeghaaDoor
set_option linter.unusedVariables false
set_option linter.unusedSimpArgs false
open Go.RowKit
namespace CalW
open CalP QuoP QuoW MemP MemW
theorem cell_bel {w w' : World} {a : Addr} {v : Value} (h : w.cell? a = some v) (hb : Below w.heap.size w w') : w'.cell? a = some v := by
  have hl := World.block_lt_of_cell? w _ h
  rw [← h]
  unfold World.cell?
  rw [hb.block _ hl]
theorem one_p {w0 W : World} (k : Int) (hk : I64 k) (r : Ex) (cs : List Value) (hb : Below w0.heap.size w0 W) (h : Et W Any r cs) :
    Calls Tryd.prog 18 #[.int .i64 k, .agg cs.toArray] W fun x w' => ∃ g c, x = .returned (.agg (exC k 0 ByteArray.empty ByteArray.empty (some ⟨g, 0, none⟩) 1 c).toArray) ∧ Et w' Any (one k r) (exC k 0 ByteArray.empty ByteArray.empty (some ⟨g, 0, none⟩) 1 c) ∧ Below w0.heap.size w0 w' ∧ Below W.heap.size W w' :=
  (one_c k hk r cs W h).mono fun x w' ⟨g, c, e, h1, h2⟩ => ⟨g, c, e, h1, via h2 hb, h2⟩
theorem two_p {w0 W : World} (op : ByteArray) (hop : op.size ≤ maxLen) (r s : Ex) (cs ds : List Value) (hb : Below w0.heap.size w0 W) (h : Et W Any r cs) (h2 : Et W Any s ds) :
    Calls Tryd.prog 17 #[.string op, .agg cs.toArray, .agg ds.toArray] W fun x w' => ∃ g c, x = .returned (.agg (exC 4 0 ByteArray.empty op (some ⟨g, 0, none⟩) 2 c).toArray) ∧ Et w' Any (two op r s) (exC 4 0 ByteArray.empty op (some ⟨g, 0, none⟩) 2 c) ∧ Below w0.heap.size w0 w' ∧ Below W.heap.size W w' :=
  (two_c op hop r s cs ds W h h2).mono fun x w' ⟨g, c, e, h1, h2⟩ => ⟨g, c, e, h1, via h2 hb, h2⟩
theorem of_p {w0 W : World} {A : Option Addr} {n c : Nat} {l : List Vr} {bl bc : Nat} (r : Ex) (cs : List Value) (he : Env A n l qz w0) (XL : Blk w0 bl 25 #[.slice A n c]) (XC : Blk w0 bc 34 E10z.toArray) (hb : Below w0.heap.size w0 W) (h : Et W Any r cs) (hs : shortE r) {p : Int × Int} (hp : valE l qz r = p) :
    Calls Tryd.prog 16 #[.agg cs.toArray, .pointer (some ⟨bl, 0, none⟩), .pointer (some ⟨bc, 0, none⟩)] W fun x w' => x = .returned (tup p) ∧ Below w0.heap.size w0 w' ∧ Below W.heap.size W w' :=
  (of_c A n c l bl bc r cs W (he.bel hb) (XL.next hb) (XC.next hb) h hs).mono fun x w' ⟨e, h2⟩ => ⟨by rw [e, hp], via h2 hb, h2⟩
theorem short_one {k : Int} {r : Ex} (h : shortE r) : shortE (one k r) := by
  rw [one, shortE]; exact ⟨by decide, by decide, h, trivial⟩
theorem short_two {op : ByteArray} (hop : op.size ≤ 60) {r s : Ex} (h : shortE r) (h2 : shortE s) : shortE (two op r s) := by
  rw [two, shortE]; exact ⟨by decide, hop, h, h2, trivial⟩
theorem i64_3 : I64 3 := by unfold I64; omega
theorem i64_2 : I64 2 := by unfold I64; omega
set_option maxHeartbeats 12800000 in
set_option maxRecDepth 100000 in
theorem rules_c {K K2 : Nat → Prop} (a b : Ex) (ca cb : List Value) (A : Option Addr) (n c : Nat) (l : List Vr) (w : World) (hw : NumW.Rdy w) (h : Et w K a ca) (h2 : Et w K2 b cb) (hr : Vrs w w.heap.size A n l) (hn : n ≤ 9223372036854775807) (hf : FitW l) :
    Calls Tryd.prog 5 #[.agg ca.toArray, .agg cb.toArray, .slice A n c] w fun x w' => x = .returned (.bool true) ∧ Below w.heap.size w w' := by
  replace h := h.any
  replace h2 := h2.any
  obtain ⟨E, m0, rfl⟩ := h.shape
  obtain ⟨E2, m2, rfl⟩ := h2.shape
  obtain ⟨wa, hwa⟩ : ∃ z : World, z = ((w.alloc (.cells (exC a.kind a.n a.name a.op E a.kids.length m0).toArray 24)).alloc (.cells (exC b.kind b.n b.name b.op E2 b.kids.length m2).toArray 24)).alloc (.cells #[.slice A n c] 25) := ⟨_, rfl⟩
  have BA : Below w.heap.size w wa := by rw [hwa]; go_grown
  obtain ⟨D, hD⟩ : ∃ D, w.heap.size = D := ⟨_, rfl⟩
  have XA : Blk wa D 24 (exC a.kind a.n a.name a.op E a.kids.length m0).toArray := by rw [hwa, ← hD]; exact ((Blk.new _ _ _).alloc _).alloc _
  have XB : Blk wa (D + 1) 24 (exC b.kind b.n b.name b.op E2 b.kids.length m2).toArray := by rw [hwa, ← hD]; exact (Blk.new1 _ _ _ _).alloc _
  have XL : Blk wa (D + 1 + 1) 25 #[.slice A n c] := by rw [hwa, ← hD]; exact blk_2 _ _ _ _ _
  rw [← hD] at XA XB XL
  have hln := Vrs.len hr
  have caw := awake_c wa (hw.below BA)
  have csa := fun W (hb : Below w.heap.size w W) => small9_c a W _ 30 (by omega) (by omega) (h.up hb)
  have csb := fun W (hb : Below w.heap.size w W) => small9_c b W _ 30 (by omega) (by omega) (h2.up hb)
  have csv := fun W (hb : Below w.heap.size w W) => MemW.small_c A n c l W ((hr.below hb).more hb.size) hn hf
  have hsa := fun hh => (small_ok (x := a) (most := 30) hh).2
  have hsb := fun hh => (small_ok (x := b) (most := 30) hh).2
  have hsv := fun hh => smallV_ok (l := l) hh
  have eta := Lib.hid (fun W (hb : Below w.heap.size w W) => h.up hb)
  have etb := Lib.hid (fun W (hb : Below w.heap.size w W) => h2.up hb)
  have env := Lib.hid (fun (h20 : l.length ≤ 20 ∧ ∀ p ∈ l, p.1.size ≤ 60 ∧ p.2.size ≤ 60) W (hb : Below w.heap.size w W) => (⟨(hr.below hb).more hb.size, by have := h20.1; omega, hw.below hb, fun p hp => (h20.2 p hp).2, by decide⟩ : Env A n l qz W))
  clear h h2 hr hw hf hln
  obtain ⟨S1, hS1⟩ : ∃ S, smallE a 30 = S := ⟨_, rfl⟩
  obtain ⟨S2, hS2⟩ : ∃ S, smallE b 30 = S := ⟨_, rfl⟩
  obtain ⟨S3, hS3⟩ : ∃ S, smallV l = S := ⟨_, rfl⟩
  simp only [hS1] at csa hsa
  simp only [hS2] at csb hsb
  simp only [hS3] at csv hsv
  have CSA := Lib.hid csa
  have CSB := Lib.hid csb
  have CSV := Lib.hid csv
  have HSA := Lib.hid hsa
  have HSB := Lib.hid hsb
  have HSV := Lib.hid hsv
  clear csa csb csv hsa hsb hsv hS1 hS2 hS3 hD
  generalize a.kind = a0 at *
  generalize b.kind = b0 at *
  generalize a.n = a1 at *
  generalize b.n = b1 at *
  generalize a.name = a2 at *
  generalize b.name = b2 at *
  generalize a.op = a3 at *
  generalize b.op = b3 at *
  generalize a.kids.length = a4 at *
  generalize b.kids.length = b4 at *
  go_enter Tryd.func5, Tryd.ntmps5
  go_wp2_with fail
  rw [← hwa]
  clear hwa
  (with_reducible refine caw.mono ?_)
  rintro _ w1 ⟨rfl, b1⟩
  have B1 := via b1 BA
  have X1 := XA.next b1
  have Y1 := XB.next b1
  have Z1 := XL.next b1
  clear caw b1 BA XA XB XL
  have p0 := X1.cell 0
  have p1 := X1.cell 1
  have p2 := X1.cell 2
  have p3 := X1.cell 3
  have p4 := X1.cell 4
  simp only [List.getElem?_toArray, List.getElem?_cons_zero, List.getElem?_cons_succ] at p0 p1 p2 p3 p4
  have r0 := Y1.cell 0
  have r1 := Y1.cell 1
  have r2 := Y1.cell 2
  have r3 := Y1.cell 3
  have r4 := Y1.cell 4
  simp only [List.getElem?_toArray, List.getElem?_cons_zero, List.getElem?_cons_succ] at r0 r1 r2 r3 r4
  have z0 := Z1.cell 0
  simp only [List.getElem?_toArray, List.getElem?_cons_zero, List.getElem?_cons_succ] at z0
  have c1 := CSA.out w1 B1
  cases S1
  · go_wp2_with fail
    (with_reducible refine c1.mono ?_)
    rintro _ w2 ⟨rfl, b2⟩
    have B2 := via b2 B1
    go_wp2
    go_ret
    exact ⟨rfl, B2⟩
  go_wp2_with fail
  (with_reducible refine c1.mono ?_)
  rintro _ w2 ⟨rfl, b2⟩
  have B2 := via b2 B1
  have X2 := X1.next b2
  have Y2 := Y1.next b2
  have Z2 := Z1.next b2
  clear c1 b2 B1 X1 Y1 Z1 p0 p1 p2 p3 p4 r0 r1 r2 r3 r4 z0
  have p0 := X2.cell 0
  have p1 := X2.cell 1
  have p2 := X2.cell 2
  have p3 := X2.cell 3
  have p4 := X2.cell 4
  simp only [List.getElem?_toArray, List.getElem?_cons_zero, List.getElem?_cons_succ] at p0 p1 p2 p3 p4
  have r0 := Y2.cell 0
  have r1 := Y2.cell 1
  have r2 := Y2.cell 2
  have r3 := Y2.cell 3
  have r4 := Y2.cell 4
  simp only [List.getElem?_toArray, List.getElem?_cons_zero, List.getElem?_cons_succ] at r0 r1 r2 r3 r4
  have z0 := Z2.cell 0
  simp only [List.getElem?_toArray, List.getElem?_cons_zero, List.getElem?_cons_succ] at z0
  have c1 := CSB.out w2 B2
  cases S2
  · go_wp2_with fail
    (with_reducible refine c1.mono ?_)
    rintro _ w3 ⟨rfl, b3⟩
    have B3 := via b3 B2
    go_wp2
    go_ret
    exact ⟨rfl, B3⟩
  go_wp2_with fail
  (with_reducible refine c1.mono ?_)
  rintro _ w3 ⟨rfl, b3⟩
  have B3 := via b3 B2
  have X3 := X2.next b3
  have Y3 := Y2.next b3
  have Z3 := Z2.next b3
  clear c1 b3 B2 X2 Y2 Z2 p0 p1 p2 p3 p4 r0 r1 r2 r3 r4 z0
  have p0 := X3.cell 0
  have p1 := X3.cell 1
  have p2 := X3.cell 2
  have p3 := X3.cell 3
  have p4 := X3.cell 4
  simp only [List.getElem?_toArray, List.getElem?_cons_zero, List.getElem?_cons_succ] at p0 p1 p2 p3 p4
  have r0 := Y3.cell 0
  have r1 := Y3.cell 1
  have r2 := Y3.cell 2
  have r3 := Y3.cell 3
  have r4 := Y3.cell 4
  simp only [List.getElem?_toArray, List.getElem?_cons_zero, List.getElem?_cons_succ] at r0 r1 r2 r3 r4
  have z0 := Z3.cell 0
  simp only [List.getElem?_toArray, List.getElem?_cons_zero, List.getElem?_cons_succ] at z0
  have c1 := CSV.out w3 B3
  cases S3
  · go_wp2_with fail
    (with_reducible refine c1.mono ?_)
    rintro _ w4 ⟨rfl, b4⟩
    have B4 := via b4 B3
    go_wp2
    go_ret
    exact ⟨rfl, B4⟩
  go_wp2_with fail
  (with_reducible refine c1.mono ?_)
  rintro _ w4 ⟨rfl, b4⟩
  have B4 := via b4 B3
  have X4 := X3.next b4
  have Y4 := Y3.next b4
  have Z4 := Z3.next b4
  clear c1 b4 B3 X3 Y3 Z3 p0 p1 p2 p3 p4 r0 r1 r2 r3 r4 z0
  have p0 := X4.cell 0
  have p1 := X4.cell 1
  have p2 := X4.cell 2
  have p3 := X4.cell 3
  have p4 := X4.cell 4
  simp only [List.getElem?_toArray, List.getElem?_cons_zero, List.getElem?_cons_succ] at p0 p1 p2 p3 p4
  have r0 := Y4.cell 0
  have r1 := Y4.cell 1
  have r2 := Y4.cell 2
  have r3 := Y4.cell 3
  have r4 := Y4.cell 4
  simp only [List.getElem?_toArray, List.getElem?_cons_zero, List.getElem?_cons_succ] at r0 r1 r2 r3 r4
  have z0 := Z4.cell 0
  simp only [List.getElem?_toArray, List.getElem?_cons_zero, List.getElem?_cons_succ] at z0
  have sa := HSA.out (by first | rfl | trivial)
  have sb := HSB.out (by first | rfl | trivial)
  have sv := HSV.out (by first | rfl | trivial)
  clear HSA HSB HSV CSA CSB CSV p0 p1 p2 p3 p4 r0 r1 r2 r3 r4 z0
  obtain ⟨S, hS⟩ : ∃ S, w4.heap.size = S := ⟨_, rfl⟩
  obtain ⟨wc, hwc⟩ : ∃ z : World, z = w4.alloc (.cells #[.string ⟨#[]⟩, .string ⟨#[]⟩, .string ⟨#[]⟩, .string ⟨#[]⟩, .string ⟨#[]⟩, .string ⟨#[]⟩, .string ⟨#[]⟩, .string ⟨#[]⟩, .string ⟨#[]⟩, .string ⟨#[]⟩] 34) := ⟨_, rfl⟩
  have BC : Below w4.heap.size w4 wc := by rw [hwc]; go_grown
  have XC : Blk wc S 34 (E10z : List Value).toArray := by rw [hwc, ← hS]; exact Blk.new _ _ _
  have B5 := via BC B4
  have XA := Lib.hid (X4.next BC)
  have XB := Lib.hid (Y4.next BC)
  have XL := Z4.next BC
  have EN := env.out sv wc B5
  clear X4 Y4 Z4 env
  have ETA := Lib.hid (fun W (hb : Below wc.heap.size wc W) => eta.out W (B5.trans (hb.mono B5.size)))
  have ETB := Lib.hid (fun W (hb : Below wc.heap.size wc W) => etb.out W (B5.trans (hb.mono B5.size)))
  clear eta etb
  have OF := Lib.hid (fun W r cs (hb : Below wc.heap.size wc W) (h : Et W Any r cs) (hs : shortE r) (p : Int × Int) (hp : valE l qz r = p) => of_p r cs EN XL XC hb h hs hp)
  clear EN XL XC
  have BF := Lib.hid (fun W (hb : Below wc.heap.size wc W) => B5.trans (hb.mono B5.size))
  have p0 := XA.out.cell 0
  have p1 := XA.out.cell 1
  have p2 := XA.out.cell 2
  have p3 := XA.out.cell 3
  have p4 := XA.out.cell 4
  simp only [List.getElem?_toArray, List.getElem?_cons_zero, List.getElem?_cons_succ] at p0 p1 p2 p3 p4
  have r0 := XB.out.cell 0
  have r1 := XB.out.cell 1
  have r2 := XB.out.cell 2
  have r3 := XB.out.cell 3
  have r4 := XB.out.cell 4
  simp only [List.getElem?_toArray, List.getElem?_cons_zero, List.getElem?_cons_succ] at r0 r1 r2 r3 r4
  obtain ⟨⟨x, ex⟩, hva⟩ : ∃ p, valE l qz a = p := ⟨_, rfl⟩
  obtain ⟨⟨y, ey⟩, hvb⟩ : ∃ p, valE l qz b = p := ⟨_, rfl⟩
  have HVA := Lib.hid hva
  have HVB := Lib.hid hvb
  have c1 := OF.out wc a _ (Below.refl _ _) (ETA.out wc (Below.refl _ _)) sa _ hva
  have c2 := Lib.hid (fun W hb => OF.out W b _ hb (ETB.out W hb) sb _ hvb)
  clear hva hvb B5 B4 BC
  have SA := Lib.hid sa
  have SB := Lib.hid sb
  clear sa sb sv
  rw [hwc] at p0 p1 p2 p3 p4 r0 r1 r2 r3 r4
  go_wp2_with fail
  rw [← hwc]
  clear hwc hS
  (with_reducible refine c1.mono ?_)
  rintro _ w5 ⟨rfl, B5, _⟩
  clear c1
  clear p0 p1 p2 p3 p4 r0 r1 r2 r3 r4
  have X1 := XA.out.next B5
  have Y1 := XB.out.next B5
  have p0 := X1.cell 0
  have p1 := X1.cell 1
  have p2 := X1.cell 2
  have p3 := X1.cell 3
  have p4 := X1.cell 4
  simp only [List.getElem?_toArray, List.getElem?_cons_zero, List.getElem?_cons_succ] at p0 p1 p2 p3 p4
  have r0 := Y1.cell 0
  have r1 := Y1.cell 1
  have r2 := Y1.cell 2
  have r3 := Y1.cell 3
  have r4 := Y1.cell 4
  simp only [List.getElem?_toArray, List.getElem?_cons_zero, List.getElem?_cons_succ] at r0 r1 r2 r3 r4
  clear X1 Y1
  have c3 := c2.out w5 B5
  by_cases hex : ex = 0
  case neg =>
    have hex1 : (ex != 0) = true := by simp [hex]
    go_wp2_with fail
    (with_reducible refine c3.mono ?_)
    rintro _ w6 ⟨rfl, B6, _⟩
    go_wp2
    go_ret
    exact ⟨rfl, BF.out _ B6⟩
  subst hex
  by_cases hey : ey = 0
  case neg =>
    have hey1 : (ey != 0) = true := by simp [hey]
    go_wp2_with fail
    (with_reducible refine c3.mono ?_)
    rintro _ w6 ⟨rfl, B6, _⟩
    go_wp2
    go_ret
    exact ⟨rfl, BF.out _ B6⟩
  subst hey
  go_wp2_with fail
  (with_reducible refine c3.mono ?_)
  rintro _ w6 ⟨rfl, B6, _⟩
  clear c2 c3
  clear p0 p1 p2 p3 p4 r0 r1 r2 r3 r4
  have X1 := XA.out.next B6
  have Y1 := XB.out.next B6
  have p0 := X1.cell 0
  have p1 := X1.cell 1
  have p2 := X1.cell 2
  have p3 := X1.cell 3
  have p4 := X1.cell 4
  simp only [List.getElem?_toArray, List.getElem?_cons_zero, List.getElem?_cons_succ] at p0 p1 p2 p3 p4
  have r0 := Y1.cell 0
  have r1 := Y1.cell 1
  have r2 := Y1.cell 2
  have r3 := Y1.cell 3
  have r4 := Y1.cell 4
  simp only [List.getElem?_toArray, List.getElem?_cons_zero, List.getElem?_cons_succ] at r0 r1 r2 r3 r4
  clear X1 Y1
  obtain ⟨⟨nn, g⟩, hvn⟩ : ∃ p, valE l qz (one 3 (one 3 a)) = p := ⟨_, rfl⟩
  obtain ⟨⟨bb, hh⟩, hvo⟩ : ∃ p, valE l qz (one 3 (two oAnd a b)) = p := ⟨_, rfl⟩
  have hve := (rule_both HVA.out HVB.out).symm.trans hvo
  have HN := Lib.hid (show notR x nn g by have := rule_not HVA.out; rw [hvn] at this; exact this)
  have HVN := Lib.hid hvn
  have HVO := Lib.hid hvo
  have HVE := Lib.hid hve
  clear hvn hvo hve
  have c1 := one_p 3 i64_3 a _ B6 (ETA.out w6 B6)
  go_wp2_with fail
  (with_reducible refine (c1).mono ?_)
  rintro _ w7 ⟨g1, k1, rfl, T1, B7, _⟩
  clear p0 p1 p2 p3 p4 r0 r1 r2 r3 r4
  have X1 := XA.out.next B7
  have Y1 := XB.out.next B7
  have p0 := X1.cell 0
  have p1 := X1.cell 1
  have p2 := X1.cell 2
  have p3 := X1.cell 3
  have p4 := X1.cell 4
  simp only [List.getElem?_toArray, List.getElem?_cons_zero, List.getElem?_cons_succ] at p0 p1 p2 p3 p4
  have r0 := Y1.cell 0
  have r1 := Y1.cell 1
  have r2 := Y1.cell 2
  have r3 := Y1.cell 3
  have r4 := Y1.cell 4
  simp only [List.getElem?_toArray, List.getElem?_cons_zero, List.getElem?_cons_succ] at r0 r1 r2 r3 r4
  clear X1 Y1
  clear c1
  have c1 := one_p 3 i64_3 _ _ B7 T1
  go_wp2_with fail
  (with_reducible refine (c1).mono ?_)
  rintro _ w8 ⟨g2, k2, rfl, T2, B8, _⟩
  clear p0 p1 p2 p3 p4 r0 r1 r2 r3 r4
  have X1 := XA.out.next B8
  have Y1 := XB.out.next B8
  have p0 := X1.cell 0
  have p1 := X1.cell 1
  have p2 := X1.cell 2
  have p3 := X1.cell 3
  have p4 := X1.cell 4
  simp only [List.getElem?_toArray, List.getElem?_cons_zero, List.getElem?_cons_succ] at p0 p1 p2 p3 p4
  have r0 := Y1.cell 0
  have r1 := Y1.cell 1
  have r2 := Y1.cell 2
  have r3 := Y1.cell 3
  have r4 := Y1.cell 4
  simp only [List.getElem?_toArray, List.getElem?_cons_zero, List.getElem?_cons_succ] at r0 r1 r2 r3 r4
  clear X1 Y1
  clear c1 T1
  have c1 := OF.out w8 _ _ B8 T2 (short_one (short_one SA.out)) _ HVN.out
  go_wp2_with fail
  (with_reducible refine (c1).mono ?_)
  rintro _ w9 ⟨rfl, B9, _⟩
  clear p0 p1 p2 p3 p4 r0 r1 r2 r3 r4
  have X1 := XA.out.next B9
  have Y1 := XB.out.next B9
  have p0 := X1.cell 0
  have p1 := X1.cell 1
  have p2 := X1.cell 2
  have p3 := X1.cell 3
  have p4 := X1.cell 4
  simp only [List.getElem?_toArray, List.getElem?_cons_zero, List.getElem?_cons_succ] at p0 p1 p2 p3 p4
  have r0 := Y1.cell 0
  have r1 := Y1.cell 1
  have r2 := Y1.cell 2
  have r3 := Y1.cell 3
  have r4 := Y1.cell 4
  simp only [List.getElem?_toArray, List.getElem?_cons_zero, List.getElem?_cons_succ] at r0 r1 r2 r3 r4
  clear X1 Y1
  clear c1 T2
  have c1 := two_p oAnd (by decide) a b _ _ B9 (ETA.out w9 B9) (ETB.out w9 B9)
  go_wp2_with fail
  (with_reducible refine (c1).mono ?_)
  rintro _ w10 ⟨g1, k1, rfl, T1, B10, _⟩
  clear p0 p1 p2 p3 p4 r0 r1 r2 r3 r4
  have X1 := XA.out.next B10
  have Y1 := XB.out.next B10
  have p0 := X1.cell 0
  have p1 := X1.cell 1
  have p2 := X1.cell 2
  have p3 := X1.cell 3
  have p4 := X1.cell 4
  simp only [List.getElem?_toArray, List.getElem?_cons_zero, List.getElem?_cons_succ] at p0 p1 p2 p3 p4
  have r0 := Y1.cell 0
  have r1 := Y1.cell 1
  have r2 := Y1.cell 2
  have r3 := Y1.cell 3
  have r4 := Y1.cell 4
  simp only [List.getElem?_toArray, List.getElem?_cons_zero, List.getElem?_cons_succ] at r0 r1 r2 r3 r4
  clear X1 Y1
  clear c1
  have c1 := one_p 3 i64_3 _ _ B10 T1
  go_wp2_with fail
  (with_reducible refine (c1).mono ?_)
  rintro _ w11 ⟨g2, k2, rfl, T2, B11, _⟩
  clear p0 p1 p2 p3 p4 r0 r1 r2 r3 r4
  have X1 := XA.out.next B11
  have Y1 := XB.out.next B11
  have p0 := X1.cell 0
  have p1 := X1.cell 1
  have p2 := X1.cell 2
  have p3 := X1.cell 3
  have p4 := X1.cell 4
  simp only [List.getElem?_toArray, List.getElem?_cons_zero, List.getElem?_cons_succ] at p0 p1 p2 p3 p4
  have r0 := Y1.cell 0
  have r1 := Y1.cell 1
  have r2 := Y1.cell 2
  have r3 := Y1.cell 3
  have r4 := Y1.cell 4
  simp only [List.getElem?_toArray, List.getElem?_cons_zero, List.getElem?_cons_succ] at r0 r1 r2 r3 r4
  clear X1 Y1
  clear c1 T1
  have c1 := OF.out w11 _ _ B11 T2 (short_one (short_two (by decide) SA.out SB.out)) _ HVO.out
  go_wp2_with fail
  (with_reducible refine (c1).mono ?_)
  rintro _ w12 ⟨rfl, B12, _⟩
  clear p0 p1 p2 p3 p4 r0 r1 r2 r3 r4
  have X1 := XA.out.next B12
  have Y1 := XB.out.next B12
  have p0 := X1.cell 0
  have p1 := X1.cell 1
  have p2 := X1.cell 2
  have p3 := X1.cell 3
  have p4 := X1.cell 4
  simp only [List.getElem?_toArray, List.getElem?_cons_zero, List.getElem?_cons_succ] at p0 p1 p2 p3 p4
  have r0 := Y1.cell 0
  have r1 := Y1.cell 1
  have r2 := Y1.cell 2
  have r3 := Y1.cell 3
  have r4 := Y1.cell 4
  simp only [List.getElem?_toArray, List.getElem?_cons_zero, List.getElem?_cons_succ] at r0 r1 r2 r3 r4
  clear X1 Y1
  clear c1 T2 B6 B7 B8 B9 B10 B11
  go_wp2_with fail
  go_region_held3 (fun w' => w'.cell? ⟨w.heap.size, 0, none⟩ = some (.int .i64 a0) ∧ w'.cell? ⟨w.heap.size, 1, none⟩ = some (.int .i64 a1) ∧ w'.cell? ⟨w.heap.size, 2, none⟩ = some (.string a2) ∧ w'.cell? ⟨w.heap.size, 3, none⟩ = some (.string a3) ∧ w'.cell? ⟨w.heap.size, 4, none⟩ = some (.slice E a4 m0) ∧ w'.cell? ⟨w.heap.size + 1, 0, none⟩ = some (.int .i64 b0) ∧ w'.cell? ⟨w.heap.size + 1, 1, none⟩ = some (.int .i64 b1) ∧ w'.cell? ⟨w.heap.size + 1, 2, none⟩ = some (.string b2) ∧ w'.cell? ⟨w.heap.size + 1, 3, none⟩ = some (.string b3) ∧ w'.cell? ⟨w.heap.size + 1, 4, none⟩ = some (.slice E2 b4 m2) ∧ Below wc.heap.size wc w')
    (first | (go_split_ands; refine ⟨?_, ?_, ?_, ?_, ?_, ?_, ?_, ?_, ?_, ?_, ?_⟩ <;> first | exact cell_bel (by first | assumption | (show w12.cell? _ = _; assumption)) b13 | exact cell_bel (by first | assumption | (show w12.cell? _ = _; assumption)) bT | exact cell_bel (by first | assumption | (show w12.cell? _ = _; assumption)) bA1 | exact cell_bel (by first | assumption | (show w12.cell? _ = _; assumption)) bB1 | assumption | exact B12.drew | exact Below.drew B12) | go_keep)
    (first
      | (go_simp; go_at_call 18 ; first | ((with_reducible refine (one_p (w0 := wc) 3 i64_3 a _ (by first | assumption | go_grown) (ETA.out _ (by first | assumption | go_grown))).mono ?_); rintro _ _ ⟨ga, ka, rfl, TA, BA1, bA1⟩) | ((with_reducible refine (one_p (w0 := wc) 3 i64_3 b _ (by first | assumption | go_grown) (ETB.out _ (by first | assumption | go_grown))).mono ?_); rintro _ _ ⟨gb, kb, rfl, TB, BB1, bB1⟩))
      | (go_simp; go_at_call 17 ; first | ((with_reducible refine (two_p (w0 := wc) oOr (by decide) _ _ _ _ (by first | assumption | go_grown) (TA.up bB1) TB).mono ?_); rintro _ _ ⟨gt, kt, rfl, TT, BT, bT⟩) | ((with_reducible refine (two_p (w0 := wc) oOr (by decide) _ _ _ _ (by first | assumption | go_grown) TA (TB.up bA1)).mono ?_); rintro _ _ ⟨gt, kt, rfl, TT, BT, bT⟩))
      | (go_simp; go_at_call 16 ; (with_reducible refine (OF.out _ _ _ (by first | assumption | go_grown) TT (short_two (by decide) (short_one SA.out) (short_one SB.out)) _ HVE.out).mono ?_); rintro _ _ ⟨rfl, B13, b13⟩))
  all_goals (
    obtain ⟨⟨s, j⟩, hvs⟩ : ∃ p, valE l qz (two oSub a b) = p := ⟨_, rfl⟩
    obtain ⟨⟨m, k⟩, hvm⟩ : ∃ p, valE l qz (two oAdd a (one 2 b)) = p := ⟨_, rfl⟩
    have HVS := Lib.hid hvs
    have HVM := Lib.hid hvm
    clear hvs hvm
    have hc := rule_not3 HN.out
    clear TA TB TT bA1 bB1 BA1 BB1 BT bT b13
    clear p0 p1 p2 p3 p4 r0 r1 r2 r3 r4
    have X1 := XA.out.next B13
    have Y1 := XB.out.next B13
    have p0 := X1.cell 0
    have p1 := X1.cell 1
    have p2 := X1.cell 2
    have p3 := X1.cell 3
    have p4 := X1.cell 4
    simp only [List.getElem?_toArray, List.getElem?_cons_zero, List.getElem?_cons_succ] at p0 p1 p2 p3 p4
    have r0 := Y1.cell 0
    have r1 := Y1.cell 1
    have r2 := Y1.cell 2
    have r3 := Y1.cell 3
    have r4 := Y1.cell 4
    simp only [List.getElem?_toArray, List.getElem?_cons_zero, List.getElem?_cons_succ] at r0 r1 r2 r3 r4
    clear X1 Y1
    clear HN
    rcases hc with ⟨rfl, rfl, hx⟩ | ⟨rfl, rfl, hx⟩ | hg
    all_goals by_cases hh0 : hh = 0
    all_goals first | subst hh0 | (have hh1 : (hh == 0) = false := by simp [hh0])
    all_goals first
      | (have hg1 : (g == 0) = false := by simp [hg])
      | (have hx1 : (x != 0) = false := by simp [hx]
         have hx2 : (x == 0) = true := by simp [hx]
         have hx3 := Lib.hid hx
         clear hx)
      | (have hx1 : (x != 0) = true := by simp [hx]
         have hx2 : (x == 0) = false := by simp [hx]
         have hx3 := Lib.hid hx
         clear hx)
    all_goals (
      have c1 := two_p (w0 := wc) oSub (by decide) a b _ _ B13 (ETA.out _ B13) (ETB.out _ B13)
      go_wp2_with fail
      (with_reducible refine (c1).mono ?_)
      rintro _ w14 ⟨g1, k1, rfl, T1, B14, _⟩
      clear p0 p1 p2 p3 p4 r0 r1 r2 r3 r4
      have X1 := XA.out.next B14
      have Y1 := XB.out.next B14
      have p0 := X1.cell 0
      have p1 := X1.cell 1
      have p2 := X1.cell 2
      have p3 := X1.cell 3
      have p4 := X1.cell 4
      simp only [List.getElem?_toArray, List.getElem?_cons_zero, List.getElem?_cons_succ] at p0 p1 p2 p3 p4
      have r0 := Y1.cell 0
      have r1 := Y1.cell 1
      have r2 := Y1.cell 2
      have r3 := Y1.cell 3
      have r4 := Y1.cell 4
      simp only [List.getElem?_toArray, List.getElem?_cons_zero, List.getElem?_cons_succ] at r0 r1 r2 r3 r4
      clear X1 Y1
      clear c1
      have c1 := OF.out w14 _ _ B14 T1 (short_two (by decide) SA.out SB.out) _ HVS.out
      go_wp2_with fail
      (with_reducible refine (c1).mono ?_)
      rintro _ w15 ⟨rfl, B15, _⟩
      clear p0 p1 p2 p3 p4 r0 r1 r2 r3 r4
      have X1 := XA.out.next B15
      have Y1 := XB.out.next B15
      have p0 := X1.cell 0
      have p1 := X1.cell 1
      have p2 := X1.cell 2
      have p3 := X1.cell 3
      have p4 := X1.cell 4
      simp only [List.getElem?_toArray, List.getElem?_cons_zero, List.getElem?_cons_succ] at p0 p1 p2 p3 p4
      have r0 := Y1.cell 0
      have r1 := Y1.cell 1
      have r2 := Y1.cell 2
      have r3 := Y1.cell 3
      have r4 := Y1.cell 4
      simp only [List.getElem?_toArray, List.getElem?_cons_zero, List.getElem?_cons_succ] at r0 r1 r2 r3 r4
      clear X1 Y1
      clear c1 T1 B13 B14
      go_wp2_with fail
      go_region_held3 (fun w' => w'.cell? ⟨w.heap.size, 0, none⟩ = some (.int .i64 a0) ∧ w'.cell? ⟨w.heap.size, 1, none⟩ = some (.int .i64 a1) ∧ w'.cell? ⟨w.heap.size, 2, none⟩ = some (.string a2) ∧ w'.cell? ⟨w.heap.size, 3, none⟩ = some (.string a3) ∧ w'.cell? ⟨w.heap.size, 4, none⟩ = some (.slice E a4 m0) ∧ w'.cell? ⟨w.heap.size + 1, 0, none⟩ = some (.int .i64 b0) ∧ w'.cell? ⟨w.heap.size + 1, 1, none⟩ = some (.int .i64 b1) ∧ w'.cell? ⟨w.heap.size + 1, 2, none⟩ = some (.string b2) ∧ w'.cell? ⟨w.heap.size + 1, 3, none⟩ = some (.string b3) ∧ w'.cell? ⟨w.heap.size + 1, 4, none⟩ = some (.slice E2 b4 m2) ∧ Below wc.heap.size wc w')
        (first | (go_split_ands; refine ⟨?_, ?_, ?_, ?_, ?_, ?_, ?_, ?_, ?_, ?_, ?_⟩ <;> first | exact cell_bel (by first | assumption | (show w15.cell? _ = _; assumption)) b16 | exact cell_bel (by first | assumption | (show w15.cell? _ = _; assumption)) bT2 | exact cell_bel (by first | assumption | (show w15.cell? _ = _; assumption)) bB2 | assumption | exact B15.drew | exact Below.drew B15) | go_keep)
        (first
          | (go_simp; go_at_call 18 ; (with_reducible refine (one_p (w0 := wc) 2 i64_2 b _ (by first | assumption | go_grown) (ETB.out _ (by first | assumption | go_grown))).mono ?_); rintro _ _ ⟨gb2, kb2, rfl, TB2, BB2, bB2⟩)
          | (go_simp; go_at_call 17 ; (with_reducible refine (two_p (w0 := wc) oAdd (by decide) _ _ _ _ (by first | assumption | go_grown) (ETA.out _ (by first | assumption | go_grown)) TB2).mono ?_); rintro _ _ ⟨gt2, kt2, rfl, TT2, BT2, bT2⟩)
          | (go_simp; go_at_call 16 ; (with_reducible refine (OF.out _ _ _ (by first | assumption | go_grown) TT2 (short_two (by decide) SA.out (short_one SB.out)) _ HVM.out).mono ?_); rintro _ _ ⟨rfl, B16, b16⟩))
      all_goals clear TB2 TT2 bB2 BB2 BT2 bT2 b16 p0 p1 p2 p3 p4 r0 r1 r2 r3 r4
      all_goals by_cases hj : j = 0
      all_goals first
        | (have hj1 : (j != 0) = true := by simp [hj]
           go_wp2
           go_ret
           exact ⟨by first | rfl | simp, BF.out _ B16⟩)
        | subst hj
      all_goals by_cases hk : k = 0
      all_goals first
        | (have hk1 : (k != 0) = true := by simp [hk]
           go_wp2
           go_ret
           exact ⟨by first | rfl | simp, BF.out _ B16⟩)
        | subst hk
      all_goals (
        have hl := rule_less HVA.out HVB.out (by rw [HVS.out]) (by rw [HVM.out])
        rw [HVS.out, HVM.out] at hl
        obtain ⟨l1, l2, l3, l4⟩ := hl
        simp only at l1 l2
        subst l1 l2
        go_wp2
        go_ret
        exact ⟨by first | rfl | simp, BF.out _ B16⟩)))
end CalW
end Go.Proofs.YtledgkplddeghaaDoor
