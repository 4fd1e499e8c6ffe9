/- The walk of the law StoreAlike. Conditions: none. -/
import Derived.Test.YtcmpgiahjbopnaaStoH
import Derived.Deep.DeepCutAuto
import Derived.Laws.BytesArg
namespace Go.Proofs.Ytcmpgiahjbopnaa
set_option linter.unusedVariables false
set_option linter.unusedSimpArgs false
open Go.RowKit Go.Shelf
namespace StoW
open StoP
abbrev tbC (most : Int) (seed mask : Nat) (size : Int) : Array Value := #[.int .i64 most, .int .u64 (seed : Nat), .int .u64 (mask : Nat), .int .i64 size]
theorem ow_lt {w : World} {R g : Nat} {most size : Int} {seed mask : Nat} {T : Value} {X : List ByteArray} {sl : List Nat} (h : St w R most size seed mask T g X sl) : ∀ k, ow R g T k → k < w.heap.size := by
  rintro k (e | e | e)
  · rw [e]; exact h.blk.lt
  · rw [e]; exact h.slo.lt
  · exact (h.row.lt k e).2
@[local go_sem] theorem conv_two (W : World) (y z : Int) : (convert 49 9 (.slice (some ⟨W.heap.size, 0, none⟩) 2 2)).run Try.prog (W.alloc (.cells #[.int .u8 y, .int .u8 z] 5)) = .ok (.string ⟨#[UInt8.ofNat y.toNat, UInt8.ofNat z.toNat]⟩) (W.alloc (.cells #[.int .u8 y, .int .u8 z] 5)) := by
  have := run_convert_bytes_arg (P := Try.prog) (W.alloc (.cells #[.int .u8 y, .int .u8 z] 5)) 49 5 (by kernel_rfl) (by kernel_rfl) W.heap.size 0 2 2 [y, z] rfl (fun i hi => by
    rw [cell_of_row _ _ _ _ _ _ (heap_alloc_new W _)]
    match i, hi with
    | 0, _ => rfl
    | 1, _ => rfl) 9 (by kernel_rfl)
  rw [this]; rfl
/-- Two stores with the same texts, apart from one another. -/
structure Two2 (N : Nat) (V sx sy : Int) (dx kx dy ky R R' : Nat) (X : List ByteArray) (wr : World) (T : Value) (g : Nat) (sl : List Nat) (T' : Value) (g' : Nat) (sl' : List Nat) : Prop where
  x : St wr R V sx dx kx T g X sl
  y : St wr R' V sy dy ky T' g' X sl'
  apart : ∀ k, ow R g T k → ¬ ow R' g' T' k
  ox : ∀ k, ow R g T k → N ≤ k
  oy : ∀ k, ow R' g' T' k → N ≤ k
theorem Two2.addx {N : Nat} {V sx sy : Int} {dx kx dy ky R R' : Nat} {X X2 : List ByteArray} {wr w' : World} {T T2 : Value} {g g2 : Nat} {sl sl2 : List Nat} {T' : Value} {g' : Nat} {sl' : List Nat} (h : Two2 N V sx sy dx kx dy ky R R' X wr T g sl T' g' sl')
    (hN : N ≤ wr.heap.size) (hS : St w' R V sx dx kx T2 g2 X2 sl2) (hT : Tch (ow R g T) wr w') (hO : ∀ k, ow R g2 T2 k → ow R g T k ∨ wr.heap.size ≤ k) :
    St w' R' V sy dy ky T' g' X sl' ∧ (∀ k, ow R g2 T2 k → ¬ ow R' g' T' k) ∧ ∀ k, ow R g2 T2 k → N ≤ k := by
  refine ⟨h.y.tch hT (fun b hb hx => h.apart b hx hb), ?_, ?_⟩
  · intro k hk hy
    rcases hO k hk with h1 | h1
    · exact h.apart k h1 hy
    · have := ow_lt h.y k hy; omega
  · intro k hk
    rcases hO k hk with h1 | h1
    · exact h.ox k h1
    · omega
theorem addS_er {X : List ByteArray} {most : Int} {key : ByteArray} {i er : Int} {f : Bool} {X' : List ByteArray} (h : addS X most key = (i, f, er, X')) : (er = 0 ∨ er = 9) ∧ X'.length ≤ X.length + 1 ∧ ∀ x ∈ X', x ∈ X ∨ x = key := by
  unfold addS at h
  split at h
  · injection h with h1 h2; injection h2 with h2 h3; injection h3 with h3 h4; subst h3 h4
    exact ⟨.inl rfl, by omega, fun x hx => .inl hx⟩
  split at h
  · injection h with h1 h2; injection h2 with h2 h3; injection h3 with h3 h4; subst h3 h4
    exact ⟨.inr rfl, by omega, fun x hx => .inl hx⟩
  · injection h with h1 h2; injection h2 with h2 h3; injection h3 with h3 h4; subst h3 h4
    refine ⟨.inl rfl, by simp, fun x hx => ?_⟩
    rcases List.mem_append.1 hx with h | h
    · exact .inl h
    · simp at h; exact .inr h
/-- A range over a function that gives nothing. -/
theorem range_none {P : Program} {gf : Nat} {lb : Array Value} {encs : Nat × ByteArray → Array Value} {g : Operand} {ps : Array Tmp} {body : Code} {Q : Exit → Act → World → Prop} {a : Act} {w : World} (hg : a.eval g = .func (.func gf) #[] lb)
    (eg : ∀ args w, (callFunc gf args).run P w = .ok (.enter gf args) w) (hps : ∀ x, (encs x).size = ps.size)
    (hseq : SeqStopsK Fence.wide 8 P gf lb encs (Tch (fun k => w.heap.size ≤ k)) (fun ys => ys = []) (fun _ => False) 0 w)
    (hdone : ∀ (D : Nat) (W : World), w.heap.size ≤ D → Tch (fun k => w.heap.size ≤ k) w W → W.heap[D]? = some (.deferred (some [])) → Q .normal { a with defers := { target := .collected D, args := #[] } :: a.defers } W) :
    (Code.rangeFunc g ps .skip body).wp P Q a w := by
  refine (wpIn_wide (n := 9)).1 ?_
  exact wpIn_rangeFunc_ownF (α := Nat × ByteArray) rfl (by omega) hg trivial eg hseq
    (fun h k => Tch.trans h k) (fun W l o o' hl _ _ _ => tch_putObj W l o' hl) (Below.refl _ _) hps
    (fun pre W => Tch (fun k => w.heap.size ≤ k) w W) (fun _ _ _ => False) (fun s W W' row hs hg hr => Tch.trans hs (Tch.of_grown hg (fun k e => (hr k e).1))) (fun _ _ _ _ _ hs _ _ => hs)
    (Tch.refl _ _) (fun x => { tmps := (ps.zip (encs x)).foldl (fun t (p, v) => t.setIfInBounds p v) a.tmps, defers := [] })
    (fun l x W K hK => wpIn_skip hK) (fun l pre x W _ hpl => absurd hpl (Nat.not_lt_zero _)) (fun D ys W hD _ hT hK => hdone D W hD hT hK) (fun D c pre W _ _ h _ => h.elim)
set_option maxRecDepth 100000 in
set_option maxHeartbeats 4000000 in
theorem alike_c (ma sa mb sb : Int) (da ka db kb : Nat) (A : Option Addr) (n c : Nat) (l : List Int) (w : World) (hda : da < 18446744073709551616) (hka : ka < 18446744073709551616) (hdb : db < 18446744073709551616) (hkb : kb < 18446744073709551616)
    (hl : Rd w w.heap.size 1 A n (l.map (Value.int .u16))) (hn : n ≤ 9223372036854775807) (hlv : ∀ x ∈ l, 0 ≤ x ∧ x < 65536) :
    Calls Try.prog 4 #[.agg (tbC ma da ka sa), .agg (tbC mb db kb sb), .slice A n c] w fun e w' => e = .returned (.bool true) ∧ Below w.heap.size w w' := by
  obtain ⟨w3, hw3⟩ : ∃ q, ((w.alloc (.cells (tbC ma da ka sa) 24)).alloc (.cells (tbC mb db kb sb) 24)).alloc (.cells #[.bool false] 4) = q := ⟨_, rfl⟩
  have xa : Blk w3 w.heap.size 24 (tbC ma da ka sa) := by rw [← hw3]; exact ((Blk.new _ _ _).alloc _).alloc _
  have xb : Blk w3 (w.heap.size + 1) 24 (tbC mb db kb sb) := by rw [← hw3]; exact (Blk.new1 _ _ _ _).alloc _
  have xr : Blk w3 (w.heap.size + 2) 4 #[.bool false] := by rw [← hw3]; exact Blk.new2 _ _ _ _ _
  have B3 : Below w.heap.size w w3 := by rw [← hw3]; go_grown
  have hz3 : w3.heap.size = w.heap.size + 3 := by rw [← hw3]; simp
  have ca := awake_c w3
  refine calls_of_wp_marks Try.func4 rfl ?_
  simp only [Try.ntmps4, List.size_toArray, List.length_cons, List.length_nil, Nat.reduceAdd, Nat.reduceSub, Array.replicate_succ, Array.replicate_zero, List.push_toArray, List.append_toArray, List.nil_append, List.cons_append]
  go_wp2_with fail
  (with_reducible refine ca.mono ?_)
  clear ca
  rintro e w4 ⟨rfl, b4⟩
  have xa4 := xa.next b4
  have xb4 := xb.next b4
  have xr4 := xr.next b4
  have B4 := via b4 B3
  have hz4 : w.heap.size + 3 ≤ w4.heap.size := by have := b4.size; omega
  clear xa xb xr B3 b4 hz3
  clear hw3
  have r0 := xr4.cell 0
  have rl := xr4.loose 0
  simp only [List.getElem?_toArray, List.getElem?_cons_zero, List.getElem?_cons_succ] at r0
  by_cases hbig : 200 < n
  · have d1 : decide ((200 : Int) < (n : Int)) = true := decide_eq_true (by omega)
    have d2 : decide ((n : Int) > 200) = true := decide_eq_true (by omega)
    have hc := World.cell?_setCell_same' w4 ⟨w.heap.size + 2, 0, none⟩ (.bool true) (by rw [r0]; rfl)
    go_wp2_with fail
    refine ⟨.bool true, ?_, rfl, B4.setCell (p := ⟨w.heap.size + 2, 0, none⟩) (by simp) _⟩
    simp [results, Try.f4, go_sem, hc]
  have d1 : decide ((200 : Int) < (n : Int)) = false := decide_eq_false (by omega)
  have d2 : decide ((n : Int) > 200) = false := decide_eq_false (by omega)
  have p0 := xa4.cell 0
  have q0 := xb4.cell 0
  have q0l := xb4.loose 0
  simp only [List.getElem?_toArray, List.getElem?_cons_zero, List.getElem?_cons_succ] at p0 q0
  go_wp2_with fail
  obtain ⟨w5, hw5⟩ : ∃ q, w4.setCell ⟨w.heap.size + 1, 0, none⟩ (.int .i64 ma) = q := ⟨_, rfl⟩
  have xa5 : Blk w5 w.heap.size 24 (tbC ma da ka sa) := by rw [← hw5]; exact xa4.far (by simp) _
  have xb5 : Blk w5 (w.heap.size + 1) 24 (tbC ma db kb sb) := by rw [← hw5]; exact xb4.set_ 0 (.int .i64 ma)
  have xr5 : Blk w5 (w.heap.size + 2) 4 #[.bool false] := by rw [← hw5]; exact xr4.far (by simp) _
  have B5 : Below w.heap.size w w5 := by rw [← hw5]; exact B4.setCell (p := ⟨w.heap.size + 1, 0, none⟩) (by simp) _
  have hz5 : w.heap.size + 3 ≤ w5.heap.size := by rw [← hw5, World.size_setCell]; exact hz4
  rw [hw5]
  clear hw5 xa4 xb4 xr4 B4 hz4 r0 rl p0 q0 q0l d1 d2
  have pa := fun j => xa5.cell j
  have pb := fun j => xb5.cell j
  go_cut [7, 8] from 34 to 38 (fun v7 v8 wx => ∃ (R g m R' g' m' : Nat), v7 = .pointer (some ⟨R, 0, none⟩) ∧ v8 = .pointer (some ⟨R', 0, none⟩) ∧
    St wx R (mostI ma) sa da ka (.slice none 0 0) g [] (List.replicate m 0) ∧ St wx R' (mostI ma) sb db kb (.slice none 0 0) g' [] (List.replicate m' 0) ∧ Below w5.heap.size w5 wx ∧ w5.heap.size ≤ R ∧ w5.heap.size ≤ g ∧ w5.heap.size ≤ R' ∧ w5.heap.size ≤ g' ∧ R ≠ R' ∧ g ≠ g')
  case first =>
    have HK : ∀ W, Below w5.heap.size w5 W → ((W.cell? ⟨w.heap.size, 0, none⟩ = some (.int .i64 ma) ∧ W.cell? ⟨w.heap.size, 1, none⟩ = some (.int .u64 (da : Nat)) ∧ W.cell? ⟨w.heap.size, 2, none⟩ = some (.int .u64 (ka : Nat)) ∧ W.cell? ⟨w.heap.size, 3, none⟩ = some (.int .i64 sa)) ∧
      (W.cell? ⟨w.heap.size + 1, 0, none⟩ = some (.int .i64 ma) ∧ W.cell? ⟨w.heap.size + 1, 1, none⟩ = some (.int .u64 (db : Nat)) ∧ W.cell? ⟨w.heap.size + 1, 2, none⟩ = some (.int .u64 (kb : Nat)) ∧ W.cell? ⟨w.heap.size + 1, 3, none⟩ = some (.int .i64 sb)) ∧ Below w5.heap.size w5 W) := fun W h =>
      ⟨⟨(xa5.next h).cell 0, (xa5.next h).cell 1, (xa5.next h).cell 2, (xa5.next h).cell 3⟩, ⟨(xb5.next h).cell 0, (xb5.next h).cell 1, (xb5.next h).cell 2, (xb5.next h).cell 3⟩, h⟩
    have cn : ∀ (m' s' : Int) (d' k' : Nat) (W : World), Below w5.heap.size w5 W → Calls Try.prog 6 #[.agg #[.int .i64 m', .int .u64 (d' : Nat), .int .u64 (k' : Nat), .int .i64 s']] W fun e w' => NewPost (mostI m') s' d' k' W e w' ∧ Below w5.heap.size w5 w' := fun m' s' d' k' W h => (new_c m' s' d' k' W).mono (fun e w' hp => ⟨hp, by obtain ⟨_, _, _, _, _, hb, _⟩ := hp; exact via hb h⟩)
    have HK2 := Lib.hid HK
    have h0 : Below w5.heap.size w5 w5.drew := below_dn (Below.refl _ _) 1
    clear HK pa pb xa5 xb5 xr5
    go_region_held3 (fun W => (W.cell? ⟨w.heap.size, 0, none⟩ = some (.int .i64 ma) ∧ W.cell? ⟨w.heap.size, 1, none⟩ = some (.int .u64 (da : Nat)) ∧ W.cell? ⟨w.heap.size, 2, none⟩ = some (.int .u64 (ka : Nat)) ∧ W.cell? ⟨w.heap.size, 3, none⟩ = some (.int .i64 sa)) ∧
      (W.cell? ⟨w.heap.size + 1, 0, none⟩ = some (.int .i64 ma) ∧ W.cell? ⟨w.heap.size + 1, 1, none⟩ = some (.int .u64 (db : Nat)) ∧ W.cell? ⟨w.heap.size + 1, 2, none⟩ = some (.int .u64 (kb : Nat)) ∧ W.cell? ⟨w.heap.size + 1, 3, none⟩ = some (.int .i64 sb)) ∧ Below w5.heap.size w5 W)
      (exact HK2.out _ (by assumption))
      ((go_simp; go_at_call 6; (first
        | ((with_reducible refine (cn ma sa da ka _ (by go_split_ands; assumption)).mono ?_); rintro _ z1 ⟨⟨R1, g1, m1, rfl, hS1, hB1, hR1, hg1⟩, b1⟩)
        | ((with_reducible refine (cn ma sb db kb _ (by go_split_ands; assumption)).mono ?_); rintro _ z2 ⟨⟨R2, g2, m2, rfl, hS2, hB2, hR2, hg2⟩, b2⟩))))
    all_goals
      go_wp2_with fail
      go_meet
      case rel =>
        have hd : w5.drew.heap.size = w5.heap.size := rfl
        first
        | (have hS1' := hS1.tch (S := fun _ => False) (Tch.of_below hB2) (fun _ _ h => h)
           have e1 := hS1.blk.lt
           have e2 := hS1.slo.lt
           exact ⟨R1, g1, m1, R2, g2, m2, rfl, rfl, hS1', hS2, b2, by omega, by omega, by have := hB1.size; omega, by have := hB1.size; omega, by omega, by omega⟩)
        | (have hS2' := hS2.tch (S := fun _ => False) (Tch.of_below hB1) (fun _ _ h => h)
           have e1 := hS2.blk.lt
           have e2 := hS2.slo.lt
           exact ⟨R1, g1, m1, R2, g2, m2, rfl, rfl, hS1, hS2', b1, by have := hB2.size; omega, by have := hB2.size; omega, by omega, by omega, by omega, by omega⟩)
  obtain ⟨R, g, m, R', g', m', rfl, rfl, hS, hS', hB, h1, h2, h3, h4, h5, h6⟩ := hcut
  have xr6 := xr5.next hB
  have B6 := via hB B5
  have hzc : w5.heap.size ≤ wc.heap.size := hB.size
  have H0 : Hid (Two2 w5.heap.size (mostI ma) sa sb da ka db kb R R' [] wc (.slice none 0 0) g (List.replicate m 0) (.slice none 0 0) g' (List.replicate m' 0)) := Lib.hid (by
    have hRg := hS'.blk.lt
    refine ⟨hS, hS', ?_, ?_, ?_⟩
    · rintro k (e | e | e) (e' | e' | e')
      · omega
      · subst e; exact blk_ne hS.blk hS'.slo (by decide) e'
      · cases e'
      · subst e; exact blk_ne hS'.blk hS.slo (by decide) e'.symm
      · omega
      · cases e'
      · cases e
      · cases e
      · cases e
    · rintro k (e | e | e)
      · omega
      · omega
      · cases e
    · rintro k (e | e | e)
      · omega
      · omega
      · cases e)
  clear hS hS' h1 h2 h3 h4 h5 h6 B6 xa5 xb5 pa pb xr6
  obtain ⟨N5, hN5⟩ : ∃ N5, w5.heap.size = N5 := ⟨_, rfl⟩
  rw [hN5] at hB H0 hz5 hzc
  have HN5 := Lib.hid hN5
  clear hN5
  obtain ⟨V, hV⟩ : ∃ V, mostI ma = V := ⟨_, rfl⟩
  rw [hV] at H0
  clear hV
  have HL := Lib.hid hl
  clear hl
  go_wp2_with fail
  go_loopw [40] (fun iv wr => ∃ (i : Nat) (X : List ByteArray) (T : Value) (g : Nat) (sl : List Nat) (T' : Value) (g' : Nat) (sl' : List Nat), iv = .int .i64 i ∧ i ≤ n ∧ Hid (Two2 N5 V sa sb da ka db kb R R' X wr T g sl T' g' sl') ∧ X.length ≤ i ∧ Hid (∀ x ∈ X, x.size ≤ 2) ∧ Below N5 w5 wr) (fun iv _ => n - (intOf iv).toNat)
  case atStart => exact ⟨0, [], _, g, _, _, g', _, rfl, by omega, H0, by simp, Lib.hid (by simp), hB⟩
  case round =>
    clear H0 hB
    obtain ⟨i, X, T, g, sl, T', g', sl', rfl, hi, H, hXi, HX2, hB⟩ := hrel
    by_cases hlt : i < n
    · have Bw : Below w.heap.size w wr := B5.trans (hB.mono (by omega))
      obtain ⟨ad, u, rfl, hadb, hu, cu⟩ := (HL.out.below Bw).one hlt
      rw [List.getElem?_map] at hu
      obtain ⟨x, hx, rfl⟩ : ∃ x, l[i]? = some x ∧ Value.int .u16 x = u := by
        cases e : l[i]? with
        | none => rw [e] at hu; cases hu
        | some x => rw [e] at hu; injection hu with hu; exact ⟨x, rfl, hu⟩
      obtain ⟨hx0, hx1⟩ := hlv x (List.mem_of_getElem? hx)
      clear hu hx
      obtain ⟨key, hkey⟩ : ∃ key : ByteArray, (⟨#[UInt8.ofNat (x / 256).toNat, UInt8.ofNat (x % 256).toNat]⟩ : ByteArray) = key := ⟨_, rfl⟩
      have hks : key.size ≤ 2 := by rw [← hkey]; exact Nat.le_refl 2
      have HKS := Lib.hid hks
      clear hks
      have hz2 : w.heap.size ≤ wr.heap.size := Bw.size
      have hzN : N5 ≤ wr.heap.size := by have := hB.size; have := HN5.out; omega
      have Ha : Hid (Two2 N5 V sa sb da ka db kb R R' X (wr.alloc (.cells #[.int .u8 (x / 256), .int .u8 (x % 256)] 5)) T g sl T' g' sl') := Lib.hid (by
        have h := H.out
        have ht : Tch (fun _ => False) wr (wr.alloc (.cells #[.int .u8 (x / 256), .int .u8 (x % 256)] 5)) := (Tch.refl _ _).alloc _
        exact ⟨h.x.tch ht (fun _ _ h => h), h.y.tch ht (fun _ _ h => h), h.apart, h.ox, h.oy⟩)
      have hBa : Below N5 w5 (wr.alloc (.cells #[.int .u8 (x / 256), .int .u8 (x % 256)] 5)) := hB.alloc hzN _
      obtain ⟨⟨ai, af, aer, X'⟩, hA⟩ : ∃ r, addS X V key = r := ⟨_, rfl⟩
      have HA := Lib.hid hA
      obtain ⟨haer, hXl', hXm'⟩ := addS_er hA
      have HX3 : Hid (∀ x ∈ X', x.size ≤ 2) := Lib.hid (fun x hx => by
        rcases hXm' x hx with h | h
        · exact HX2.out x h
        · rw [h]; exact HKS.out)
      have cx := add_at Ha.out.x hA hda hka (by have := HKS.out; omega) (by omega) (fun x hx => by have := HX2.out x hx; omega)
      clear hA hXm' H hB
      go_wp2_with fail
      obtain ⟨wz, hwz⟩ : ∃ q, wr.alloc (.cells #[.int .u8 (x / 256), .int .u8 (x % 256)] 5) = q := ⟨_, rfl⟩
      have hzz : N5 ≤ wz.heap.size := by rw [← hwz]; simp; omega
      rw [hwz] at cx Ha hBa ⊢
      (with_reducible refine cx.mono ?_)
      clear cx
      rintro e z1 ⟨rfl, T1, g1, sl1, hS1, hT1, hO1⟩
      obtain ⟨hy1, hap1, hox1⟩ := Ha.out.addx hzz hS1 hT1 hO1
      have hB1 : Below N5 w5 z1 := hT1.below hBa Ha.out.ox hzz
      have hlt1 := ow_lt hS1
      have hz1 : N5 ≤ z1.heap.size := Nat.le_trans hzz hT1.size
      have hoy := Ha.out.oy
      have cy := add_at hy1 HA.out hdb hkb (by have := HKS.out; omega) (by omega) (fun x hx => by have := HX2.out x hx; omega)
      have HS1 := Lib.hid hS1
      have HAP1 := Lib.hid hap1
      have HOX1 := Lib.hid hox1
      have HOY := Lib.hid hoy
      have HLT := Lib.hid hlt1
      clear hS1 hT1 hO1 hy1 hap1 hox1 hlt1 hoy Ha hBa hwz
      go_wp2_with fail
      (with_reducible refine cy.mono ?_)
      clear cy
      rintro e z2 ⟨rfl, T2, g2, sl2, hS2, hT2, hO2⟩
      have hB2 : Below N5 w5 z2 := hT2.below hB1 HOY.out hz1
      have H2 : Hid (Two2 N5 V sa sb da ka db kb R R' X' z2 T1 g1 sl1 T2 g2 sl2) := Lib.hid (by
        refine ⟨HS1.out.tch hT2 (fun b hb hx => HAP1.out b hb hx), hS2, ?_, HOX1.out, ?_⟩
        · intro k hk hy
          rcases hO2 k hy with h | h
          · exact HAP1.out k hk h
          · have := HLT.out k hk; omega
        · intro k hk
          rcases hO2 k hk with h | h
          · exact HOY.out k h
          · omega)
      clear HS1 HAP1 HOX1 HOY HLT hS2 hT2 hO2 hB1 HA
      rcases haer with rfl | rfl
      all_goals
        go_wp2_with fail
        go_roundw
        case rel => exact ⟨i + 1, X', T1, g1, sl1, T2, g2, sl2, by go_num, by omega, H2, by omega, HX3, hB2⟩
        case measure => simp [intOf]; omega
    · have hin : i = n := by omega
      have di : decide ((i : Int) < (n : Int)) = false := decide_eq_false (by omega)
      have hXn : X.length ≤ n := by omega
      clear hin hXi hi
      have c1 := add0_c ⟨#[]⟩ wr
      have c2 := find0_c ⟨#[]⟩ wr
      have c3 := get0_c 0 wr
      have c4 := all_c none wr
      go_wp2_with fail
      (with_reducible refine c1.mono ?_)
      rintro e w' ⟨rfl, rfl⟩
      go_wp2_with fail
      (with_reducible refine c2.mono ?_)
      rintro e w' ⟨rfl, rfl⟩
      go_wp2_with fail
      (with_reducible refine c3.mono ?_)
      rintro e w' ⟨rfl, rfl⟩
      go_wp2_with fail
      (with_reducible refine c4.mono ?_)
      rintro e w8 ⟨rfl, rfl⟩
      clear c1 c2 c3 c4
      go_wp2_with fail
      obtain ⟨wl, hwl⟩ : ∃ q, wr.alloc (.cells #[.pointer none] 29) = q := ⟨_, rfl⟩
      have kl := Blk.new wr 29 #[.pointer none]
      have vl := kl.cell 0
      simp only [List.getElem?_toArray, List.getElem?_cons_zero, List.getElem?_cons_succ] at vl
      have HTl : Hid (Tch (fun _ => False) wr wl) := Lib.hid (by rw [← hwl]; exact (Tch.refl _ _).alloc _)
      rw [hwl] at vl ⊢
      clear hwl kl
      refine range_none (gf := 17) (lb := #[.pointer (some ⟨wr.heap.size, 0, none⟩)]) rfl (enters_of Try.func17 (by kernel_rfl) rfl) (fun _ => rfl)
        (none_stops 8 (by omega) wr.heap.size (Tch (fun k => wl.heap.size ≤ k)) wl vl) ?_
      rintro D W hD hT hK
      have HTW : Hid (Tch (fun k => wl.heap.size ≤ k) wr W) := Lib.hid ((HTl.out.more (fun _ h => h.elim)).trans hT)
      have hwl := HTl.out.size
      have ht : ∀ k, k < wr.heap.size → ¬ wl.heap.size ≤ k := fun k hk => by omega
      have hSx : St W R V sa da ka T g X sl := H.out.x.tch HTW.out (fun b hb => ht b (ow_lt H.out.x b hb))
      have hSy : St W R' V sb db kb T' g' X sl' := H.out.y.tch HTW.out (fun b hb => ht b (ow_lt H.out.y b hb))
      obtain ⟨A1, e1, rfl, _, _, _, _⟩ := ows_rd hSx.row
      obtain ⟨A2, e2, rfl, _, _, _, _⟩ := ows_rd hSy.row
      have cx := len_c R _ A1 X.length e1 W hSx.blk rfl
      have cy := len_c R' _ A2 X.length e2 W hSy.blk rfl
      have c0 := len0_c W
      have d9 : decide ((X.length : Int) ≤ (n : Int)) = true := decide_eq_true (by omega)
      have xr7 : Blk W (w.heap.size + 2) 4 #[.bool false] := by
        have h1 := xr5.below hB (by omega)
        exact h1.tch HTW.out (ht _ h1.lt)
      have q0 := xr7.cell 0
      have q1 := xr7.loose 0
      simp only [List.getElem?_toArray, List.getElem?_cons_zero, List.getElem?_cons_succ] at q0
      clear hSx hSy ht
      go_wp2_with fail
      (with_reducible refine cx.mono ?_)
      rintro e w' ⟨rfl, rfl⟩
      go_wp2_with fail
      (with_reducible refine cy.mono ?_)
      rintro e w' ⟨rfl, rfl⟩
      go_wp2_with fail
      (with_reducible refine cx.mono ?_)
      rintro e w' ⟨rfl, rfl⟩
      go_wp2_with fail
      (with_reducible refine c0.mono ?_)
      rintro e w' ⟨rfl, rfl⟩
      go_wp2_with fail
      have Bw : Below w.heap.size w wr := B5.trans (hB.mono (by omega))
      have hwz := Bw.size
      have BW : Below w.heap.size w W := HTW.out.below Bw (fun k hk => by omega) hwz
      have BX := BW.setCell (p := ⟨w.heap.size + 2, 0, none⟩) (by simp) (.bool true)
      have hK' := (KeepsOthers.setCell W ⟨w.heap.size + 2, 0, none⟩ (.bool true)).same D _ hK rfl
      have hc := cell_kept (World.cell?_setCell_same' W ⟨w.heap.size + 2, 0, none⟩ (.bool true) (by rw [q0]; rfl)) (grownBy_putObj' _ D (.deferred none)) (fun r e => by cases e; exact ⟨_, hK', rfl⟩)
      refine ⟨by simp, .inl ⟨_, _, rfl, run_takeDeferred hK', ?_⟩⟩
      refine ⟨.bool true, ?_, rfl, BX.grown (grownBy_putObj' _ D (.deferred none)) BX.size (fun k e => by cases e; omega)⟩
      simp [results, Try.f4, go_sem, hc]
end StoW
end Go.Proofs.Ytcmpgiahjbopnaa
