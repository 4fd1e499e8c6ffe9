/- The walk of state's writer.side. Conditions: texts and lists that fit. -/
import Derived.Test.YtfkjogkpdebepaaStaS
import Derived.Test.YtfkjogkpdebepaaStaU
namespace Go.Proofs.Ytfkjogkpdebepaa
open Go.RowKit
namespace StaX
open StaP StaB StaW StaG StaL
theorem isb_blk {B b : Nat} {t : Bs} {w : World} (h : IsB B b t w) : ∃ c, w.heap[b]? = some (Obj.cells c BT (0, 0)) := by
  rcases h with ⟨_, v, h, _⟩ | ⟨_, v, h, _⟩ <;> exact ⟨_, h⟩
theorem isb_keep {B b : Nat} {t : Bs} {w w' : World} (h : IsB B b t w) (hg : ∀ (g : Nat) (c : Array Value) (e : TypeId) (f : Nat × Nat), (e = BT ∨ e = 5) → w.heap[g]? = some (Obj.cells c e f) → w'.heap[g]? = some (Obj.cells c e f)) : IsB B b t w' := by
  have key : ∀ p, Lib.BuilderAtF BT 5 B b p (Lib.byteCells t) w → Lib.BuilderAtF BT 5 B b p (Lib.byteCells t) w' := by
    rintro p ⟨hB, v, hb, hown, hne⟩
    refine ⟨hB, v, hg _ _ _ _ (Or.inl rfl) hb, ⟨hown.1, ?_⟩, hne⟩
    rcases hown.2 with hn | ⟨g, cap, cur, fz, rfl, h1, hgg, rest⟩
    · exact .inl hn
    · exact .inr ⟨g, cap, cur, fz, rfl, h1, hg _ _ _ _ (Or.inr rfl) hgg, rest⟩
  rcases h with h | h
  · exact Or.inl (key _ h)
  · exact Or.inr (key _ h)
theorem isb_below {B b : Nat} {t : Bs} {w w' : World} (h : IsB B b t w) (hb : Below w.heap.size w w') : IsB B b t w' :=
  isb_keep h fun g _ _ _ _ hg => (hb.block g (Array.getElem?_eq_some_iff.1 hg).1).trans hg
theorem wr_keep {B b : Nat} {t : Bs} {w w' : World} (h : IsB B b t w) (k : Wr B b w w') (g : Nat) (c : Array Value) (e : TypeId) (f : Nat × Nat) (h1 : e ≠ BT) (h2 : e ≠ 5) (hg : w.heap[g]? = some (Obj.cells c e f)) : w'.heap[g]? = some (Obj.cells c e f) := by
  obtain ⟨c', hbb⟩ := isb_blk h
  exact k.kept g _ hg (by intro e; injection e with e; exact blk_ne hg hbb h1 e) (by rintro c' f' hx; injection hx with _ h3 _; exact h2 h3)
theorem wr_blk {B b : Nat} {t : Bs} {w w' : World} {g : Nat} {c : Array Value} {e : TypeId} (h : IsB B b t w) (k : Wr B b w w') (hg : Blk w g e c) (h1 : e ≠ BT) (h2 : e ≠ 5) : Blk w' g e c := wr_keep h k g c e (0, 0) h1 h2 hg
theorem wr_rows {B b : Nat} {t : Bs} {w w' : World} {e : TypeId} (h : IsB B b t w) (k : Wr B b w w') (h1 : e ≠ BT) (h2 : e ≠ 5) : StaL.Rows e w w' := fun g c hg => wr_keep h k g c e _ h1 h2 hg
theorem kept_below {b : Nat} {w w' : World} (h : Below w.heap.size w w') : Lib.OthersKept 5 (some b) w w' := fun g _ hg _ _ => (h.block g (Array.getElem?_eq_some_iff.1 hg).1).trans hg
theorem wr_below {B b : Nat} {a w w' : World} (h : Wr B b a w) (hB : B ≤ w.heap.size) (k : Below w.heap.size w w') : Wr B b a w' := h.trans ⟨k.mono hB, kept_below k⟩
theorem text_len (t : Bs) (h : t.length ≤ 1000000000000) : (textB t).length ≤ 10 + t.length := by
  have := num_len (n := (t.length : Int)) (by omega) (by omega)
  rw [textB, List.length_append]; omega
theorem texts_len : ∀ xs : List Bs, (∀ x ∈ xs, x.length ≤ 65536) → (xs.flatMap textB).length ≤ 65546 * xs.length := by
  intro xs
  induction xs with
  | nil => intro _; simp
  | cons x xs ih =>
    intro h
    have h1 := text_len x (by have := h x (List.mem_cons_self ..); omega)
    have h2 := h x (List.mem_cons_self ..)
    have h3 := ih (fun y hy => h y (List.mem_cons_of_mem _ hy))
    rw [List.flatMap_cons, List.length_append, List.length_cons]; omega
theorem take_texts (xs : List Bs) (k : Nat) (x : Bs) (h : xs[k]? = some x) : (xs.take (k + 1)).flatMap textB = (xs.take k).flatMap textB ++ textB x := by
  rw [List.take_add_one, h, List.flatMap_append]; simp
theorem take_runs (xs : List Rn) (k : Nat) (x : Rn) (h : xs[k]? = some x) : (xs.take (k + 1)).flatMap runB = (xs.take k).flatMap runB ++ runB x := by
  rw [List.take_add_one, h, List.flatMap_append]; simp
/-- A side's bytes. -/
def sideB (m : MSd) : Bs := [m.1] ++ (numB m.2.1 ++ (numB m.2.2.1 ++ (textB m.2.2.2.1 ++ (listB textB m.2.2.2.2.1 ++ (textB m.2.2.2.2.2.1 ++ (agesB m.2.2.2.2.2.2.1 ++ (textB m.2.2.2.2.2.2.2.1 ++ textB m.2.2.2.2.2.2.2.2)))))))
/-- What fits into a side and is read again. -/
def OkS (m : MSd) : Prop := m.1.toNat ≤ 7 ∧ I64 m.2.1 ∧ I64 m.2.2.1 ∧ m.2.2.2.1.length ≤ 65536 ∧ (m.2.2.2.2.1.length ≤ 65536 ∧ ∀ b ∈ m.2.2.2.2.1, b.length ≤ 65536) ∧ m.2.2.2.2.2.1.length ≤ 65536 ∧ (m.2.2.2.2.2.2.1.length ≤ 65536 ∧ ∀ x ∈ m.2.2.2.2.2.2.1, I64 x) ∧ m.2.2.2.2.2.2.2.1.length ≤ 65536 ∧ m.2.2.2.2.2.2.2.2.length ≤ 65536
theorem fl_back (c : UInt8) (h : c.toNat ≤ 7) : flN (b0 c) (b1 c) (b2 c) = c := by
  have : ∀ c : Fin 8, flN (b0 (UInt8.ofNat c.val)) (b1 (UInt8.ofNat c.val)) (b2 (UInt8.ofNat c.val)) = UInt8.ofNat c.val := by decide +kernel
  have := this ⟨c.toNat, by omega⟩
  rwa [UInt8.ofNat_toNat] at this
theorem runs_fit {l : List Int} (hl : ∀ x ∈ l, I64 x) : ∀ r ∈ runs l, r.1 ≤ l.length ∧ I64 r.2 := by
  intro r hr
  obtain ⟨h1, h2⟩ := runs_ok l
  have hm := mem_expand h1 hr
  rw [h2] at hm
  refine ⟨?_, hl _ hm⟩
  have : r.1 ≤ (expand (runs l)).length := by
    obtain ⟨a, b, e⟩ := List.append_of_mem hr
    rw [e, expand, List.flatMap_append, List.flatMap_cons, List.length_append, List.length_append, List.length_replicate]; omega
  rwa [h2] at this
theorem runs_count (l : List Int) : (runs l).length ≤ l.length := by
  obtain ⟨h1, h2⟩ := runs_ok l
  have := runs_len _ ⟨_, h1⟩
  rwa [h2] at this
theorem runB_len {r : Rn} (h1 : r.1 ≤ 65536) (h2 : I64 r.2) : (runB r).length ≤ 20 := by
  have a := num_len (n := (r.1 : Int)) (by omega) (by omega)
  have b := num_len h2.1 h2.2
  rw [runB, List.length_append]; omega
theorem runsB_len : ∀ xs : List Rn, (∀ x ∈ xs, x.1 ≤ 65536 ∧ I64 x.2) → (xs.flatMap runB).length ≤ 20 * xs.length := by
  intro xs
  induction xs with
  | nil => intro _; simp
  | cons x xs ih =>
    intro h
    have h1 := h x (List.mem_cons_self ..)
    have h2 := runB_len h1.1 h1.2
    have h3 := ih (fun y hy => h y (List.mem_cons_of_mem _ hy))
    rw [List.flatMap_cons, List.length_append, List.length_cons]; omega
theorem rd_txt {w : World} {B n k : Nat} {A : Option Addr} {ls : List Bs} (h : Rd w B 1 A n (strs ls)) (hk : k < n) : ∃ ad x, A = some ad ∧ ls[k]? = some x ∧ w.cell? (ad.add k) = some (.string (bz x)) := by
  obtain ⟨ad, u, e, _, hx, hc⟩ := h.one hk
  rw [List.getElem?_map] at hx
  cases hl : ls[k]? with
  | none => rw [hl] at hx; cases hx
  | some x => rw [hl] at hx; cases hx; exact ⟨ad, x, e, rfl, hc⟩
theorem rcells_at : ∀ (l : List Rn) (k : Nat) (r : Rn), l[k]? = some r → (StaU.rcells l)[k * 2]? = some (.int .i64 (r.1 : Int)) ∧ (StaU.rcells l)[k * 2 + 1]? = some (.int .i64 r.2) := by
  intro l
  induction l with
  | nil => intro k r h; cases h
  | cons q l ih =>
    intro k r h
    cases k with
    | zero => simp at h; subst h; exact ⟨rfl, rfl⟩
    | succ k =>
      rw [List.getElem?_cons_succ] at h
      obtain ⟨h1, h2⟩ := ih k r h
      have e : StaU.rcells (q :: l) = .int .i64 (q.1 : Int) :: .int .i64 q.2 :: StaU.rcells l := rfl
      rw [e, show (k + 1) * 2 = k * 2 + 1 + 1 by omega]
      exact ⟨by simpa using h1, by simpa using h2⟩
/-- A side as it can be read. -/
def SdR (w : World) (B : Nat) (sd : Sd) (m : MSd) : Prop := ∃ la lc ga gc, sd = mkSd m la lc ga gc ∧ Rd w B 1 la m.2.2.2.2.1.length (strs m.2.2.2.2.1) ∧ Rd w B 1 ga m.2.2.2.2.2.2.1.length (StaU.ints m.2.2.2.2.2.2.1) ∧ m.2.2.2.2.2.2.1.length ≤ gc ∧ OkS m
theorem Rd.below' {w w' : World} {B size n : Nat} {A : Option Addr} {xs : List Value} (h : Rd w B size A n xs) (hb : Below B w w') : Rd w' B size A n xs := h.below hb
set_option maxHeartbeats 12800000 in
set_option maxRecDepth 100000 in
theorem wside_c (B b : Nat) (l : List UInt8) (sd : Sd) (m : MSd) (w : World) (h : IsB B b l w) (hl : l.length ≤ 50000000000000) (hsd : SdR w B sd m) (hBw : B ≤ w.heap.size) :
    Calls Try.prog 32 #[.pointer (some ⟨b, 0, none⟩), sd.v] w fun e w' => e = .returned (.tuple #[]) ∧ IsB B b (l ++ sideB m) w' ∧ Wr B b w w' := by
  obtain ⟨la, lc, ga, gc, rfl, hla, hga, hgc, m7, mp, mk, mt, ⟨ml, mls⟩, mf, ⟨ma, mas⟩, mr, mu⟩ := hsd
  obtain ⟨fl, p, q, ty, ls, fy, ag, re, bu⟩ := m
  simp only at m7 mp mk mt ml mls mf ma mas mr mu hla hga hgc
  have hfl := (fl_back fl m7).symm
  have MLS := Lib.hid mls
  have MAS := Lib.hid mas
  clear mls mas
  obtain ⟨w0, hw0⟩ : ∃ x, w.alloc (.cells #[.bool (b0 fl), .bool (b1 fl), .bool (b2 fl), .int .i64 p, .int .i64 q, .string (bz ty), .slice la ls.length lc, .string (bz fy), .slice ga ag.length gc, .string (bz re), .string (bz bu)] 48) = x := ⟨_, rfl⟩
  have hS : Blk w0 w.heap.size 48 #[.bool (b0 fl), .bool (b1 fl), .bool (b2 fl), .int .i64 p, .int .i64 q, .string (bz ty), .slice la ls.length lc, .string (bz fy), .slice ga ag.length gc, .string (bz re), .string (bz bu)] := by rw [← hw0]; exact Blk.new _ _ _
  have hbel0 : Below w.heap.size w w0.drew := by rw [← hw0]; exact ((Below.refl _ w).alloc (Nat.le_refl _) _).drew
  have cf := flags_c (mkSd (fl, p, q, ty, ls, fy, ag, re, bu) la lc ga gc) w0.drew
  simp only [mkSd, Sd.v] at cf
  rw [← hfl] at cf
  have hI0 : IsB B b l w0.drew := isb_below h hbel0
  have hW0 : Wr B b w w0.drew := wr_below (Wr.refl B b w) hBw hbel0
  have hz0 : B ≤ w0.drew.heap.size := by have := hW0.below.size; omega
  obtain ⟨S, hSe⟩ : ∃ x, w.heap.size = x := ⟨_, rfl⟩
  rw [hSe] at hS
  simp only [mkSd, Sd.v]
  have kk := hS
  have k0 := hS.cell 0
  have k1 := hS.cell 1
  have k2 := hS.cell 2
  have k3 := hS.cell 3
  have k4 := hS.cell 4
  have k5 := hS.cell 5
  have k6 := hS.cell 6
  have k7 := hS.cell 7
  have k8 := hS.cell 8
  have k9 := hS.cell 9
  have k10 := hS.cell 10
  simp only [List.getElem?_toArray, List.getElem?_cons_zero, List.getElem?_cons_succ] at k0 k1 k2 k3 k4 k5 k6 k7 k8 k9 k10
  clear hbel0 kk hfl
  go_enter Try.func32, Try.ntmps32
  go_wp2_with fail
  go_region_law (first
    | (go_simp; go_at_call 46; (with_reducible refine cf.mono ?_); rintro e w1 ⟨rfl, hb1⟩; have hI1 := isb_below hI0 hb1; have cw := wbyte_c B b l fl w1 hI1 (by omega) (by have := hb1.size; omega))
    | (go_simp; go_at_call 44; (with_reducible refine cw.mono ?_); rintro e w2 ⟨rfl, hI2, hW2⟩))
  all_goals
    have hS0 : Blk w0.drew S 48 #[.bool (b0 fl), .bool (b1 fl), .bool (b2 fl), .int .i64 p, .int .i64 q, .string (bz ty), .slice la ls.length lc, .string (bz fy), .slice ga ag.length gc, .string (bz re), .string (bz bu)] := hS
    have hS1 := hS0.next hb1
    have hS2 : Blk w2 S 48 #[.bool (b0 fl), .bool (b1 fl), .bool (b2 fl), .int .i64 p, .int .i64 q, .string (bz ty), .slice la ls.length lc, .string (bz fy), .slice ga ag.length gc, .string (bz re), .string (bz bu)] := wr_keep hI1 hW2 _ _ _ _ (by decide) (by decide) hS1
    have W2 := (wr_below hW0 hz0 hb1).trans hW2
    have z2 : B ≤ w2.heap.size := by have := W2.below.size; omega
    clear hS0 hS1 hS hW2 hI1 cw cf hb1 hI0 hW0 hz0 k0 k1 k2 k3 k4 k5 k6 k7 k8 k9 k10
    obtain ⟨L, hL⟩ : ∃ x, l ++ [fl] = x := ⟨_, rfl⟩
    have zL : L.length ≤ 50000000000001 := by rw [← hL, List.length_append, List.length_singleton]; omega
    rw [hL] at hI2
    have HL0 := Lib.hid hL
    clear hL
    have hI := hI2
    have hS := hS2
    have W := W2
    clear hI2 hS2 W2
    have k3 := hS.cell 3
    simp only [List.getElem?_toArray, List.getElem?_cons_zero, List.getElem?_cons_succ] at k3
    have c3 := wnum_c B b L (p) w2 hI (by omega) (mp.1) (mp.2) z2
    go_wp2_with fail
    (with_reducible refine c3.mono ?_)
    rintro e w3 ⟨rfl, hI3, hW3⟩
    clear k3
    replace hS := wr_blk hI hW3 hS (by decide) (by decide)
    replace W := W.trans hW3
    have z3 : B ≤ w3.heap.size := by have := W.below.size; omega
    obtain ⟨L3, hL⟩ : ∃ x, L ++ numB p = x := ⟨_, rfl⟩
    rw [hL] at hI3
    have zL3 : L3.length ≤ 50000000000011 := by rw [← hL, List.length_append]; have := num_len (n := p) (mp.1) (mp.2); omega
    have HL3 := Lib.hid hL
    clear hL hI hW3 c3
    have hI := hI3
    clear hI3
    have k4 := hS.cell 4
    simp only [List.getElem?_toArray, List.getElem?_cons_zero, List.getElem?_cons_succ] at k4
    have c4 := wnum_c B b L3 (q) w3 hI (by omega) (mk.1) (mk.2) z3
    go_wp2_with fail
    (with_reducible refine c4.mono ?_)
    rintro e w4 ⟨rfl, hI4, hW4⟩
    clear k4
    replace hS := wr_blk hI hW4 hS (by decide) (by decide)
    replace W := W.trans hW4
    have z4 : B ≤ w4.heap.size := by have := W.below.size; omega
    obtain ⟨L4, hL⟩ : ∃ x, L3 ++ numB q = x := ⟨_, rfl⟩
    rw [hL] at hI4
    have zL4 : L4.length ≤ 50000000000021 := by rw [← hL, List.length_append]; have := num_len (n := q) (mk.1) (mk.2); omega
    have HL4 := Lib.hid hL
    clear hL hI hW4 c4
    have hI := hI4
    clear hI4
    have k5 := hS.cell 5
    simp only [List.getElem?_toArray, List.getElem?_cons_zero, List.getElem?_cons_succ] at k5
    have c5 := wtext_c B b L4 (bz ty) w4 hI (by omega) (by rw [bz_size]; omega) z4
    rw [bz_list] at c5
    go_wp2_with fail
    (with_reducible refine c5.mono ?_)
    rintro e w5 ⟨rfl, hI5, hW5⟩
    clear k5
    replace hS := wr_blk hI hW5 hS (by decide) (by decide)
    replace W := W.trans hW5
    have z5 : B ≤ w5.heap.size := by have := W.below.size; omega
    obtain ⟨L5, hL⟩ : ∃ x, L4 ++ textB ty = x := ⟨_, rfl⟩
    rw [hL] at hI5
    have zL5 : L5.length ≤ 50000000065567 := by rw [← hL, List.length_append]; have := text_len ty (by omega); omega
    have HL5 := Lib.hid hL
    clear hL hI hW5 c5
    have hI := hI5
    clear hI5
    have k6 := hS.cell 6
    simp only [List.getElem?_toArray, List.getElem?_cons_zero, List.getElem?_cons_succ] at k6
    have c6 := wnum_c B b L5 ((ls.length : Int)) w5 hI (by omega) (by omega) (by omega) z5
    go_wp2_with fail
    (with_reducible refine c6.mono ?_)
    rintro e w6 ⟨rfl, hI6, hW6⟩
    clear k6
    replace hS := wr_blk hI hW6 hS (by decide) (by decide)
    replace W := W.trans hW6
    have z6 : B ≤ w6.heap.size := by have := W.below.size; omega
    obtain ⟨L6, hL⟩ : ∃ x, L5 ++ numB ls.length = x := ⟨_, rfl⟩
    rw [hL] at hI6
    have zL6 : L6.length ≤ 50000000065577 := by rw [← hL, List.length_append]; have := num_len (n := (ls.length : Int)) (by omega) (by omega); omega
    have HL6 := Lib.hid hL
    clear hL hI hW6 c6
    have hI := hI6
    clear hI6
    have k6 := hS.cell 6
    simp only [List.getElem?_toArray, List.getElem?_cons_zero, List.getElem?_cons_succ] at k6
    go_wp2_with fail
    go_loopw [35] (fun v wr => ∃ k : Nat, v = .int .i64 k ∧ k ≤ ls.length ∧ IsB B b (L6 ++ (ls.take k).flatMap textB) wr ∧ Wr B b w wr ∧ Blk wr S 48 #[.bool (b0 fl), .bool (b1 fl), .bool (b2 fl), .int .i64 p, .int .i64 q, .string (bz ty), .slice la ls.length lc, .string (bz fy), .slice ga ag.length gc, .string (bz re), .string (bz bu)]) (fun v _ => ls.length - (intOf v).toNat)
    case atStart => exact ⟨0, rfl, by omega, by simpa using hI, W, hS⟩
    case round =>
      clear k6 hI W hS
      obtain ⟨k, rfl, hk, hI, W, hS⟩ := hrel
      have hz := W.below.size
      by_cases hlt : k < ls.length
      · have dk : decide ((k : Int) < (ls.length : Int)) = true := by simp; omega
        obtain ⟨ad, x, rfl, hxk, hc⟩ := rd_txt (hla.below W.below) hlt
        have hxl := MLS.out x (List.mem_of_getElem? hxk)
        have hlen := texts_len (ls.take k) (fun y hy => MLS.out y (List.mem_of_mem_take hy))
        rw [List.length_take] at hlen
        have TK := Lib.hid (take_texts ls k x hxk)
        have ct := wtext_c B b _ (bz x) wr hI (by rw [List.length_append]; omega) (by rw [bz_size]; omega) (by omega)
        rw [bz_list] at ct
        clear hxk
        go_wp2_with fail
        (with_reducible refine ct.mono ?_)
        rintro e w5 ⟨rfl, hI5, hW5⟩
        have hS5 := wr_blk hI hW5 hS (by decide) (by decide)
        go_wp2
        go_roundw
        case rel => exact ⟨k + 1, by go_num, by omega, by rw [TK.out, ← List.append_assoc]; exact hI5, W.trans hW5, hS5⟩
        case measure => simp [intOf] <;> omega
      have dk : decide ((k : Int) < (ls.length : Int)) = false := by simp; omega
      obtain rfl : k = ls.length := by omega
      rw [List.take_of_length_le (Nat.le_refl _)] at hI
      have hlen := texts_len ls (fun y hy => MLS.out y hy)
      obtain ⟨L7, hL⟩ : ∃ x, L6 ++ ls.flatMap textB = x := ⟨_, rfl⟩
      rw [hL] at hI
      have zL7 : L7.length ≤ 50010000000000 := by rw [← hL, List.length_append]; omega
      have HL7 := Lib.hid hL
      clear hL
      have z7 : B ≤ wr.heap.size := by omega
      have k7 := hS.cell 7
      simp only [List.getElem?_toArray, List.getElem?_cons_zero, List.getElem?_cons_succ] at k7
      have c8 := wtext_c B b L7 (bz fy) wr hI (by omega) (by rw [bz_size]; omega) z7
      rw [bz_list] at c8
      go_wp2_with fail
      (with_reducible refine c8.mono ?_)
      rintro e w8 ⟨rfl, hI8, hW8⟩
      clear k7
      replace hS := wr_blk hI hW8 hS (by decide) (by decide)
      replace W := W.trans hW8
      have z8 : B ≤ w8.heap.size := by have := W.below.size; omega
      obtain ⟨L8, hL⟩ : ∃ x, L7 ++ textB fy = x := ⟨_, rfl⟩
      rw [hL] at hI8
      have zL8 : L8.length ≤ 50010000065546 := by rw [← hL, List.length_append]; have := text_len fy (by omega); omega
      have HL8 := Lib.hid hL
      clear hL hI hW8 c8
      have hI := hI8
      clear hI8
      have k8 := hS.cell 8
      simp only [List.getElem?_toArray, List.getElem?_cons_zero, List.getElem?_cons_succ] at k8
      have cr := StaU.runs_c ga ag.length gc ag w8 ((hga.below W.below).more (by omega)) hgc (by omega)
      have HRN := Lib.hid (runs_fit MAS.out)
      have hrl := runs_count ag
      unfold StaU.UPost at cr
      obtain ⟨rs, hrs⟩ : ∃ x, runs ag = x := ⟨_, rfl⟩
      rw [hrs] at cr HRN hrl
      have HRS := Lib.hid hrs
      clear hrs
      go_wp2_with fail
      (with_reducible refine cr.mono ?_)
      rintro e w9 ⟨rv, rfl, hrow, hb9⟩
      obtain ⟨wq, hwq⟩ : ∃ x : World, x = w8 := ⟨_, rfl⟩
      rw [← hwq] at hrow
      obtain ⟨ra, rc, rfl⟩ := own_shape hrow
      clear k8 cr
      replace hI := isb_below hI hb9
      replace hS := hS.next hb9
      replace W := wr_below W z8 hb9
      have z9 : B ≤ w9.heap.size := by have := W.below.size; omega
      have c10 := wnum_c B b L8 ((rs.length : Int)) w9 hI (by omega) (by omega) (by omega) z9
      go_wp2_with fail
      (with_reducible refine c10.mono ?_)
      rintro e w10 ⟨rfl, hI10, hW10⟩
      replace hrow := own_keep hrow (wr_rows hI hW10 (by decide) (by decide))
      replace hS := wr_blk hI hW10 hS (by decide) (by decide)
      replace W := W.trans hW10
      have z10 : B ≤ w10.heap.size := by have := W.below.size; omega
      obtain ⟨L10, hL⟩ : ∃ x, L8 ++ numB rs.length = x := ⟨_, rfl⟩
      rw [hL] at hI10
      have zL10 : L10.length ≤ 50010000065556 := by rw [← hL, List.length_append]; have := num_len (n := (rs.length : Int)) (by omega) (by omega); omega
      have HL10 := Lib.hid hL
      clear hL hI hW10 c10
      have hI := hI10
      clear hI10
      go_wp2_with fail
      go_loopw [56] (fun v wr => ∃ k : Nat, v = .int .i64 k ∧ k ≤ rs.length ∧ IsB B b (L10 ++ (rs.take k).flatMap runB) wr ∧ Wr B b w wr ∧ Blk wr S 48 #[.bool (b0 fl), .bool (b1 fl), .bool (b2 fl), .int .i64 p, .int .i64 q, .string (bz ty), .slice la ls.length lc, .string (bz fy), .slice ga ag.length gc, .string (bz re), .string (bz bu)] ∧ wr.ownsRow wq.heap.size StaU.RnT 2 (.slice ra rs.length rc) rs.length (StaU.rcells rs)) (fun v _ => rs.length - (intOf v).toNat)
      case atStart => exact ⟨0, rfl, by omega, by simpa using hI, W, hS, hrow⟩
      case round =>
        clear hI W hS hrow
        obtain ⟨k, rfl, hk, hI, W, hS, hrow⟩ := hrel
        have hz := W.below.size
        by_cases hlt : k < rs.length
        · have dk : decide ((k : Int) < (rs.length : Int)) = true := by simp; omega
          obtain ⟨gr, cr, hrv, _, _⟩ := hrow.form (by omega)
          injection hrv with hra _ hrc
          subst hra hrc
          obtain ⟨r, hrk⟩ : ∃ r, rs[k]? = some r := ⟨_, List.getElem?_eq_getElem hlt⟩
          obtain ⟨a1, a2⟩ := rcells_at rs k r hrk
          have c1 := (hrow.cellAt (k * 2) (by omega)).trans a1
          have c2 := (hrow.cellAt (k * 2 + 1) (by omega)).trans a2
          obtain ⟨f1, f2⟩ := HRN.out r (List.mem_of_getElem? hrk)
          have hlen := runsB_len (rs.take k) (fun y hy => by have := HRN.out y (List.mem_of_mem_take hy); exact ⟨by omega, this.2⟩)
          rw [List.length_take] at hlen
          have TK := Lib.hid (take_runs rs k r hrk)
          obtain ⟨r1, r2⟩ := r
          simp only at c1 c2 f1 f2
          clear hrk a1 a2
          go_wp2_with fail
          obtain ⟨wa, hwa⟩ : ∃ x, wr.alloc (.cells #[.int .i64 (r1 : Int), .int .i64 r2] 42) = x := ⟨_, rfl⟩
          have ba : Below wr.heap.size wr wa := by rw [← hwa]; exact (Below.refl _ wr).alloc (Nat.le_refl _) _
          have bq : Blk wa wr.heap.size 42 #[.int .i64 (r1 : Int), .int .i64 r2] := by rw [← hwa]; exact Blk.new _ _ _
          rw [hwa]
          have hIa := isb_below hI ba
          have hSa := hS.next ba
          have hra := own_keep hrow (fun g c hg => (ba.block g (Array.getElem?_eq_some_iff.1 hg).1).trans hg)
          have Wa := wr_below W (by omega) ba
          have hza := Wa.below.size
          have n1 := num_len (n := (r1 : Int)) (by omega) (by omega)
          have ct := wnum_c B b _ (r1 : Int) wa hIa (by rw [List.length_append]; omega) (by omega) (by omega) (by omega)
          clear hwa
          (with_reducible refine ct.mono ?_)
          rintro e w5 ⟨rfl, hI5, hW5⟩
          have hS5 := wr_blk hIa hW5 hSa (by decide) (by decide)
          have hr5 := own_keep hra (wr_rows hIa hW5 (by decide) (by decide))
          have b5 := wr_blk hIa hW5 bq (by decide) (by decide)
          have W5 := Wa.trans hW5
          have hz5 := W5.below.size
          have d1 := b5.cell 1
          simp only [List.getElem?_toArray, List.getElem?_cons_zero, List.getElem?_cons_succ] at d1
          have cu := wnum_c B b _ r2 w5 hI5 (by rw [List.length_append, List.length_append]; omega) f2.1 f2.2 (by omega)
          clear c1 c2 ct
          go_wp2_with fail
          (with_reducible refine cu.mono ?_)
          rintro e w6 ⟨rfl, hI6, hW6⟩
          have hS6 := wr_blk hI5 hW6 hS5 (by decide) (by decide)
          have hr6 := own_keep hr5 (wr_rows hI5 hW6 (by decide) (by decide))
          go_wp2
          go_roundw
          case rel => exact ⟨k + 1, by go_num, by omega, by rw [TK.out, runB, ← List.append_assoc, ← List.append_assoc]; exact hI6, W5.trans hW6, hS6, hr6⟩
          case measure => simp [intOf] <;> omega
        have dk : decide ((k : Int) < (rs.length : Int)) = false := by simp; omega
        obtain rfl : k = rs.length := by omega
        rw [List.take_of_length_le (Nat.le_refl _)] at hI
        have hlen := runsB_len rs (fun y hy => by have := HRN.out y hy; exact ⟨by omega, this.2⟩)
        obtain ⟨L11, hL⟩ : ∃ x, L10 ++ rs.flatMap runB = x := ⟨_, rfl⟩
        rw [hL] at hI
        have zL11 : L11.length ≤ 50020000000000 := by rw [← hL, List.length_append]; omega
        have HL11 := Lib.hid hL
        clear hL
        have z11 : B ≤ wr.heap.size := by omega
        have k9 := hS.cell 9
        simp only [List.getElem?_toArray, List.getElem?_cons_zero, List.getElem?_cons_succ] at k9
        have c12 := wtext_c B b L11 (bz re) wr hI (by omega) (by rw [bz_size]; omega) z11
        rw [bz_list] at c12
        go_wp2_with fail
        (with_reducible refine c12.mono ?_)
        rintro e w12 ⟨rfl, hI12, hW12⟩
        clear k9
        replace hS := wr_blk hI hW12 hS (by decide) (by decide)
        replace W := W.trans hW12
        have z12 : B ≤ w12.heap.size := by have := W.below.size; omega
        obtain ⟨L12, hL⟩ : ∃ x, L11 ++ textB re = x := ⟨_, rfl⟩
        rw [hL] at hI12
        have zL12 : L12.length ≤ 50020000065546 := by rw [← hL, List.length_append]; have := text_len re (by omega); omega
        have HL12 := Lib.hid hL
        clear hL hI hW12 c12
        have hI := hI12
        clear hI12
        have k10 := hS.cell 10
        simp only [List.getElem?_toArray, List.getElem?_cons_zero, List.getElem?_cons_succ] at k10
        have c13 := wtext_c B b L12 (bz bu) w12 hI (by omega) (by rw [bz_size]; omega) z12
        rw [bz_list] at c13
        go_wp2_with fail
        (with_reducible refine c13.mono ?_)
        rintro e w13 ⟨rfl, hI13, hW13⟩
        clear k10
        replace hS := wr_blk hI hW13 hS (by decide) (by decide)
        replace W := W.trans hW13
        have z13 : B ≤ w13.heap.size := by have := W.below.size; omega
        obtain ⟨L13, hL⟩ : ∃ x, L12 ++ textB bu = x := ⟨_, rfl⟩
        rw [hL] at hI13
        have zL13 : L13.length ≤ 50020000131092 := by rw [← hL, List.length_append]; have := text_len bu (by omega); omega
        have HL13 := Lib.hid hL
        clear hL hI hW13 c13
        have hI := hI13
        clear hI13
        go_wp2
        go_end0
        refine ⟨rfl, ?_, W⟩
        have e : l ++ sideB (fl, p, q, ty, ls, fy, ag, re, bu) = L13 := by
          rw [← HL13.out, ← HL12.out, ← HL11.out, ← HL10.out, ← HL8.out, ← HL7.out, ← HL6.out, ← HL5.out, ← HL4.out, ← HL3.out, ← HL0.out]
          simp only [sideB, listB, agesB, List.append_assoc]
          rw [HRS.out]
        rw [e]; exact hI
end StaX
end Go.Proofs.Ytfkjogkpdebepaa
