/- The walk of state.Encode. Conditions: texts and lists that fit; fewer than 10^12 bytes. -/
import Derived.Test.YtfkjogkpdebepaaStaY
import Derived.Deep.MidRow
namespace Go.Proofs.Ytfkjogkpdebepaa
open Go.RowKit
namespace StaZ
open StaP StaB StaW StaG StaL StaX StaD Rowk
/-- A node's bytes. -/
def varB (p : MVr) : Bs := textB p.1 ++ textB p.2
def nodeB (m : MNd) : Bs := numB m.1 ++ (numB m.2.1 ++ (numB m.2.2.1 ++ (numB m.2.2.2.1 ++ (numB m.2.2.2.2.1 ++ (numB m.2.2.2.2.2.1 ++ (numB m.2.2.2.2.2.2.1 ++ (listB varB m.2.2.2.2.2.2.2.1 ++ (m.2.2.2.2.2.2.2.2.1.flatMap textB ++ (listB numB m.2.2.2.2.2.2.2.2.2.1 ++ (listB numB m.2.2.2.2.2.2.2.2.2.2.1 ++ (listB numB m.2.2.2.2.2.2.2.2.2.2.2.1 ++ listB sideB m.2.2.2.2.2.2.2.2.2.2.2.2)))))))))))
/-- What fits into a node and is read again. -/
def OkN (m : MNd) : Prop := I64 m.1 ∧ I64 m.2.1 ∧ I64 m.2.2.1 ∧ I64 m.2.2.2.1 ∧ I64 m.2.2.2.2.1 ∧ I64 m.2.2.2.2.2.1 ∧ I64 m.2.2.2.2.2.2.1 ∧ (m.2.2.2.2.2.2.2.1.length ≤ 65536 ∧ ∀ b ∈ m.2.2.2.2.2.2.2.1, VOk b) ∧ (m.2.2.2.2.2.2.2.2.1.length = 10 ∧ ∀ b ∈ m.2.2.2.2.2.2.2.2.1, b.length ≤ 65536) ∧
  (m.2.2.2.2.2.2.2.2.2.1.length ≤ 65536 ∧ ∀ b ∈ m.2.2.2.2.2.2.2.2.2.1, I64 b) ∧ (m.2.2.2.2.2.2.2.2.2.2.1.length ≤ 65536 ∧ ∀ b ∈ m.2.2.2.2.2.2.2.2.2.2.1, I64 b) ∧ (m.2.2.2.2.2.2.2.2.2.2.2.1.length ≤ 65536 ∧ ∀ b ∈ m.2.2.2.2.2.2.2.2.2.2.2.1, I64 b) ∧ (m.2.2.2.2.2.2.2.2.2.2.2.2.length ≤ 65536 ∧ ∀ b ∈ m.2.2.2.2.2.2.2.2.2.2.2.2, OkS b)
def SdsR (w : World) (B : Nat) (ds : List Sd) (l : List MSd) : Prop := ds.length = l.length ∧ ∀ (k : Nat) (d : Sd) (m : MSd), ds[k]? = some d → l[k]? = some m → SdR w B d m
/-- A node as it can be read. -/
def NdR (w : World) (B : Nat) (cs : Array Value) (m : MNd) : Prop := ∃ a1 c1 a2 c2 a3 c3 a4 c4 a5 c5 ds, cs = ndArr m a1 c1 a2 c2 a3 c3 a4 c4 a5 c5 ∧ OkN m ∧
  Rd w B 2 a1 m.2.2.2.2.2.2.2.1.length (vcells m.2.2.2.2.2.2.2.1) ∧ Rd w B 1 a2 m.2.2.2.2.2.2.2.2.2.1.length (ints m.2.2.2.2.2.2.2.2.2.1) ∧ Rd w B 1 a3 m.2.2.2.2.2.2.2.2.2.2.1.length (ints m.2.2.2.2.2.2.2.2.2.2.1) ∧
  Rd w B 1 a4 m.2.2.2.2.2.2.2.2.2.2.2.1.length (ints m.2.2.2.2.2.2.2.2.2.2.2.1) ∧ Rd w B 11 a5 m.2.2.2.2.2.2.2.2.2.2.2.2.length (scells ds) ∧ SdsR w B ds m.2.2.2.2.2.2.2.2.2.2.2.2
theorem SdR.below {w w' : World} {B : Nat} {d : Sd} {m : MSd} (h : SdR w B d m) (hb : Below B w w') : SdR w' B d m := by
  obtain ⟨la, lc, ga, gc, e, h1, h2, h3⟩ := h
  exact ⟨la, lc, ga, gc, e, h1.below hb, h2.below hb, h3⟩
theorem SdR.more {w : World} {B B' : Nat} {d : Sd} {m : MSd} (h : SdR w B d m) (hb : B ≤ B') : SdR w B' d m := by
  obtain ⟨la, lc, ga, gc, e, h1, h2, h3⟩ := h
  exact ⟨la, lc, ga, gc, e, h1.more hb, h2.more hb, h3⟩
theorem NdR.below {w w' : World} {B : Nat} {cs : Array Value} {m : MNd} (h : NdR w B cs m) (hb : Below B w w') : NdR w' B cs m := by
  obtain ⟨a1, c1, a2, c2, a3, c3, a4, c4, a5, c5, ds, e, ok, h1, h2, h3, h4, h5, h6, h7⟩ := h
  exact ⟨a1, c1, a2, c2, a3, c3, a4, c4, a5, c5, ds, e, ok, h1.below hb, h2.below hb, h3.below hb, h4.below hb, h5.below hb, h6, fun k d m hd hm => SdR.below (h7 k d m hd hm) hb⟩
theorem NdR.more {w : World} {B B' : Nat} {cs : Array Value} {m : MNd} (h : NdR w B cs m) (hb : B ≤ B') : NdR w B' cs m := by
  obtain ⟨a1, c1, a2, c2, a3, c3, a4, c4, a5, c5, ds, e, ok, h1, h2, h3, h4, h5, h6, h7⟩ := h
  exact ⟨a1, c1, a2, c2, a3, c3, a4, c4, a5, c5, ds, e, ok, h1.more hb, h2.more hb, h3.more hb, h4.more hb, h5.more hb, h6, fun k d m hd hm => SdR.more (h7 k d m hd hm) hb⟩
/-- What was read as its own can be read. -/
theorem own_rd {w : World} {B size n c : Nat} {A : Option Addr} {e : TypeId} {xs : List Value} (h : w.ownsRow B e size (.slice A n c) n xs) : Rd w w.heap.size size A n xs ∧ n ≤ c := by
  rcases h.2 with ⟨hv, hn⟩ | ⟨g, cap, cur, hv, hb, hg, hc, _⟩
  · injection hv with h1 h2 h3
    subst hn
    exact ⟨⟨h.1, fun hh => absurd hh (by omega)⟩, by omega⟩
  · have hv' := hv
    injection hv with h1 h2 h3
    subst h1 h3
    exact ⟨⟨h.1, fun _ => ⟨⟨g, 0, none⟩, rfl, (Array.getElem?_eq_some_iff.1 hg).1, h.cells rfl⟩⟩, hc⟩
theorem sd_rd {w : World} {B : Nat} {d : Sd} {m : MSd} (h : SdO w B d m) (ok : OkS m) : SdR w w.heap.size d m := by
  obtain ⟨la, lc, ga, gc, e, h1, h2, _⟩ := h
  exact ⟨la, lc, ga, gc, e, (own_rd h1).1, (own_rd h2).1, (own_rd h2).2, ok⟩
theorem nd_rd {w : World} {B : Nat} {cs : Array Value} {m : MNd} (h : NdO w B cs m) (ok : OkN m) : NdR w w.heap.size cs m := by
  obtain ⟨a1, c1, a2, c2, a3, c3, a4, c4, a5, c5, ds, e, _, h1, h2, h3, h4, h5, h6, h7⟩ := h
  exact ⟨a1, c1, a2, c2, a3, c3, a4, c4, a5, c5, ds, e, ok, (own_rd h1).1, (own_rd h2).1, (own_rd h3).1, (own_rd h4).1, (own_rd h5).1, h6, fun k d m hd hm => sd_rd (h7 k d m hd hm) (ok.2.2.2.2.2.2.2.2.2.2.2.2.2 m (List.mem_of_getElem? hm))⟩
theorem rng_of {w : World} {g : Nat} {t : TypeId} {l r : List Value} (h : Blk w g t (l ++ r).toArray) : w.rangeAt g 0 l := fun j v hj => by
  have hl : j < l.length := (List.getElem?_eq_some_iff.1 hj).1
  rw [Nat.zero_add, h.cell j, List.getElem?_toArray, List.getElem?_append_left hl]; exact hj
theorem vcells_at : ∀ (l : List MVr) (k : Nat) (p : MVr), l[k]? = some p → (vcells l)[k * 2]? = some (.string (bz p.1)) ∧ (vcells l)[k * 2 + 1]? = some (.string (bz p.2)) := by
  intro l
  induction l with
  | nil => intro k p h; cases h
  | cons q l ih =>
    intro k p h
    cases k with
    | zero => simp at h; subst h; exact ⟨rfl, rfl⟩
    | succ k =>
      rw [List.getElem?_cons_succ] at h
      obtain ⟨h1, h2⟩ := ih k p h
      have e : vcells (q :: l) = .string (bz q.1) :: .string (bz q.2) :: vcells l := rfl
      rw [e, show (k + 1) * 2 = k * 2 + 1 + 1 by omega]
      exact ⟨by simpa using h1, by simpa using h2⟩
theorem scells_at : ∀ (l : List Sd) (k j : Nat) (d : Sd), l[k]? = some d → j < 11 → (scells l)[k * 11 + j]? = (Sd.cs d)[j]? := by
  intro l
  induction l with
  | nil => intro k j d h; cases h
  | cons q l ih =>
    intro k j d h hj
    have e : scells (q :: l) = Sd.cs q ++ scells l := rfl
    have hq : (Sd.cs q).length = 11 := rfl
    cases k with
    | zero => simp at h; subst h; rw [e, Nat.zero_mul, Nat.zero_add, List.getElem?_append_left (by omega)]
    | succ k =>
      rw [List.getElem?_cons_succ] at h
      rw [e, List.getElem?_append_right (by omega), hq, show (k + 1) * 11 + j - 11 = k * 11 + j by omega]
      exact ih k j d h hj
theorem vars_len : ∀ xs : List MVr, (∀ x ∈ xs, VOk x) → (xs.flatMap varB).length ≤ 131092 * xs.length := by
  intro xs
  induction xs with
  | nil => intro _; simp
  | cons x xs ih =>
    intro h
    obtain ⟨v1, v2⟩ := h x (List.mem_cons_self ..)
    have h1 := text_len x.1 (by omega)
    have h2 := text_len x.2 (by omega)
    have h3 := ih (fun y hy => h y (List.mem_cons_of_mem _ hy))
    rw [List.flatMap_cons, List.length_append, List.length_cons, varB, List.length_append]; omega
theorem take_any {α : Type} (f : α → Bs) (xs : List α) (k : Nat) (x : α) (h : xs[k]? = some x) : (xs.take (k + 1)).flatMap f = (xs.take k).flatMap f ++ f x := by
  rw [List.take_add_one, h, List.flatMap_append]; simp
theorem rng_mid {w : World} {g : Nat} {t : TypeId} {l m r : List Value} (h : Blk w g t (l ++ (m ++ r)).toArray) : w.rangeAt g l.length m := fun j v hj => by
  have hl : j < m.length := (List.getElem?_eq_some_iff.1 hj).1
  rw [h.cell, List.getElem?_toArray, List.getElem?_append_right (by omega), List.getElem?_append_left (by omega), Nat.add_sub_cancel_left]; exact hj
theorem idx_ten (W : World) (cs : Array Value) (i : Nat) (v : Value) (hs : cs.size = 10) (h : cs[i]? = some v) : (Instr.index 24 (.agg cs) (.int .i64 (i : Int))).run Try.prog W = .ok v W := by
  simp [Instr.index, run_underlying Try.underlying24, asIntOf, h, go_sem]
  intro h10
  have := (Array.getElem?_eq_some_iff.1 h).1
  omega
theorem list_len (xs : List Int) (h : ∀ x ∈ xs, I64 x) (hl : xs.length ≤ 65536) : (listB numB xs).length ≤ 1000000 := by
  have h1 := nums_len xs h
  have h2 := num_len (n := (xs.length : Int)) (by omega) (by omega)
  rw [listB, List.length_append]; omega
theorem node_ne (m : MNd) : nodeB m ≠ [] := by
  rw [nodeB, numB]; split <;> simp
/-- What Encode answers. -/
def EPost (m : MNd) (w : World) (x : Ending) (w' : World) : Prop := x = .returned (.string (bz (nodeB m))) ∧ Below w.heap.size w w'
set_option maxHeartbeats 25600000 in
set_option maxRecDepth 100000 in
theorem encode_c (cs : Array Value) (m : MNd) (w : World) (hnd : NdR w w.heap.size cs m) (hlen : (nodeB m).length ≤ 1000000000000) :
    Calls Try.prog 10 #[.agg cs] w (EPost m w) := by
  obtain ⟨a1, c1, a2, c2, a3, c3, a4, c4, a5, c5, ds, rfl, ok, h1, h2, h3, h4, h5, h6, h7⟩ := hnd
  obtain ⟨ta, pc, md, er, us, ti, el, vs, cu, st, bf, af, so⟩ := m
  obtain ⟨ota, opc, omd, oer, ous, oti, oel, ⟨ovl, ov⟩, ⟨ocl, oc⟩, ⟨osl, os⟩, ⟨obl, ob⟩, ⟨oal, oa⟩, ⟨odl, od⟩⟩ := ok
  simp only at ota opc omd oer ous oti oel ovl ov ocl oc osl os obl ob oal oa odl od h1 h2 h3 h4 h5 h6 h7
  obtain ⟨x0, x1, x2, x3, x4, x5, x6, x7, x8, x9, rfl⟩ := ten cu ocl
  have OV := Lib.hid ov
  have OC := Lib.hid oc
  have OS := Lib.hid os
  have OB := Lib.hid ob
  have OA := Lib.hid oa
  have OD := Lib.hid od
  have HH := Lib.hid h7
  have HLEN := Lib.hid hlen
  clear ov oc os ob oa od ocl h7 hlen
  simp only [ndArr]
  rw [cut10]
  obtain ⟨w0, hw0⟩ : ∃ x, (w.alloc (.cells #[.int .i64 pc, .slice a1 vs.length c1, .string (bz x0), .string (bz x1), .string (bz x2), .string (bz x3), .string (bz x4), .string (bz x5), .string (bz x6), .string (bz x7), .string (bz x8), .string (bz x9), .slice a2 st.length c2, .int .i64 md, .int .i64 er, .int .i64 us, .int .i64 ti, .int .i64 el, .slice a3 bf.length c3, .slice a4 af.length c4, .slice a5 so.length c5, .int .i64 ta] NT)).alloc (.cells #[.pointer none, .slice none 0 0] BT) = x := ⟨_, rfl⟩
  have n0 : Blk w0 w.heap.size NT #[.int .i64 pc, .slice a1 vs.length c1, .string (bz x0), .string (bz x1), .string (bz x2), .string (bz x3), .string (bz x4), .string (bz x5), .string (bz x6), .string (bz x7), .string (bz x8), .string (bz x9), .slice a2 st.length c2, .int .i64 md, .int .i64 er, .int .i64 us, .int .i64 ti, .int .i64 el, .slice a3 bf.length c3, .slice a4 af.length c4, .slice a5 so.length c5, .int .i64 ta] := by rw [← hw0]; exact (Blk.new _ _ _).alloc _
  have bb : Blk w0 (w.heap.size + 1) BT #[.pointer none, .slice none 0 0] := by rw [← hw0]; exact Blk.new1 _ _ _ _
  have b0 : Below w.heap.size w w0 := by rw [← hw0]; go_grown
  have z0 : w0.heap.size = w.heap.size + 2 := by rw [← hw0, World.size_alloc, World.size_alloc]
  have hI0 : IsB w.heap.size (w.heap.size + 1) [] w0 := Or.inl ⟨by omega, .slice none 0 0, bb, World.ownsRowF_nil _ _ _ _, by simp [Value.ownBlock]⟩
  have hrng : w0.rangeAt w.heap.size 0 [.int .i64 pc, .slice a1 vs.length c1, .string (bz x0), .string (bz x1), .string (bz x2), .string (bz x3), .string (bz x4), .string (bz x5), .string (bz x6), .string (bz x7), .string (bz x8), .string (bz x9), .slice a2 st.length c2, .int .i64 md, .int .i64 er, .int .i64 us, .int .i64 ti, .int .i64 el, .slice a3 bf.length c3, .slice a4 af.length c4, .slice a5 so.length c5] := rng_of (l := [.int .i64 pc, .slice a1 vs.length c1, .string (bz x0), .string (bz x1), .string (bz x2), .string (bz x3), .string (bz x4), .string (bz x5), .string (bz x6), .string (bz x7), .string (bz x8), .string (bz x9), .slice a2 st.length c2, .int .i64 md, .int .i64 er, .int .i64 us, .int .i64 ti, .int .i64 el, .slice a3 bf.length c3, .slice a4 af.length c4, .slice a5 so.length c5]) (r := [.int .i64 ta]) n0
  have n1 : Blk ((w0.alloc (.cells #[.int .i64 0, .slice none 0 0, .string ⟨#[]⟩, .string ⟨#[]⟩, .string ⟨#[]⟩, .string ⟨#[]⟩, .string ⟨#[]⟩, .string ⟨#[]⟩, .string ⟨#[]⟩, .string ⟨#[]⟩, .string ⟨#[]⟩, .string ⟨#[]⟩, .slice none 0 0, .int .i64 0, .int .i64 0, .int .i64 0, .int .i64 0, .int .i64 0, .slice none 0 0, .slice none 0 0, .slice none 0 0] 29)).setRow (w.heap.size + 2) #[.int .i64 pc, .slice a1 vs.length c1, .string (bz x0), .string (bz x1), .string (bz x2), .string (bz x3), .string (bz x4), .string (bz x5), .string (bz x6), .string (bz x7), .string (bz x8), .string (bz x9), .slice a2 st.length c2, .int .i64 md, .int .i64 er, .int .i64 us, .int .i64 ti, .int .i64 el, .slice a3 bf.length c3, .slice a4 af.length c4, .slice a5 so.length c5]) w.heap.size NT #[.int .i64 pc, .slice a1 vs.length c1, .string (bz x0), .string (bz x1), .string (bz x2), .string (bz x3), .string (bz x4), .string (bz x5), .string (bz x6), .string (bz x7), .string (bz x8), .string (bz x9), .slice a2 st.length c2, .int .i64 md, .int .i64 er, .int .i64 us, .int .i64 ti, .int .i64 el, .slice a3 bf.length c3, .slice a4 af.length c4, .slice a5 so.length c5, .int .i64 ta] := far_row (n0.alloc _) (by omega) _
  have m1 : Blk (w0.alloc (.cells #[.int .i64 0, .slice none 0 0, .string ⟨#[]⟩, .string ⟨#[]⟩, .string ⟨#[]⟩, .string ⟨#[]⟩, .string ⟨#[]⟩, .string ⟨#[]⟩, .string ⟨#[]⟩, .string ⟨#[]⟩, .string ⟨#[]⟩, .string ⟨#[]⟩, .slice none 0 0, .int .i64 0, .int .i64 0, .int .i64 0, .int .i64 0, .int .i64 0, .slice none 0 0, .slice none 0 0, .slice none 0 0] 29)) (w.heap.size + 2) 29 #[.int .i64 0, .slice none 0 0, .string ⟨#[]⟩, .string ⟨#[]⟩, .string ⟨#[]⟩, .string ⟨#[]⟩, .string ⟨#[]⟩, .string ⟨#[]⟩, .string ⟨#[]⟩, .string ⟨#[]⟩, .string ⟨#[]⟩, .string ⟨#[]⟩, .slice none 0 0, .int .i64 0, .int .i64 0, .int .i64 0, .int .i64 0, .int .i64 0, .slice none 0 0, .slice none 0 0, .slice none 0 0] := by have := Blk.new w0 29 #[.int .i64 0, .slice none 0 0, .string ⟨#[]⟩, .string ⟨#[]⟩, .string ⟨#[]⟩, .string ⟨#[]⟩, .string ⟨#[]⟩, .string ⟨#[]⟩, .string ⟨#[]⟩, .string ⟨#[]⟩, .string ⟨#[]⟩, .string ⟨#[]⟩, .slice none 0 0, .int .i64 0, .int .i64 0, .int .i64 0, .int .i64 0, .int .i64 0, .slice none 0 0, .slice none 0 0, .slice none 0 0]; rwa [z0] at this
  have q1 : Blk ((w0.alloc (.cells #[.int .i64 0, .slice none 0 0, .string ⟨#[]⟩, .string ⟨#[]⟩, .string ⟨#[]⟩, .string ⟨#[]⟩, .string ⟨#[]⟩, .string ⟨#[]⟩, .string ⟨#[]⟩, .string ⟨#[]⟩, .string ⟨#[]⟩, .string ⟨#[]⟩, .slice none 0 0, .int .i64 0, .int .i64 0, .int .i64 0, .int .i64 0, .int .i64 0, .slice none 0 0, .slice none 0 0, .slice none 0 0] 29)).setRow (w.heap.size + 2) #[.int .i64 pc, .slice a1 vs.length c1, .string (bz x0), .string (bz x1), .string (bz x2), .string (bz x3), .string (bz x4), .string (bz x5), .string (bz x6), .string (bz x7), .string (bz x8), .string (bz x9), .slice a2 st.length c2, .int .i64 md, .int .i64 er, .int .i64 us, .int .i64 ti, .int .i64 el, .slice a3 bf.length c3, .slice a4 af.length c4, .slice a5 so.length c5]) (w.heap.size + 2) 29 #[.int .i64 pc, .slice a1 vs.length c1, .string (bz x0), .string (bz x1), .string (bz x2), .string (bz x3), .string (bz x4), .string (bz x5), .string (bz x6), .string (bz x7), .string (bz x8), .string (bz x9), .slice a2 st.length c2, .int .i64 md, .int .i64 er, .int .i64 us, .int .i64 ti, .int .i64 el, .slice a3 bf.length c3, .slice a4 af.length c4, .slice a5 so.length c5] := blk_row m1 _
  have kt := n1.cell 21
  have kq0 := q1.cell 0
  have kq1 := q1.cell 1
  have kq13 := q1.cell 13
  have kq14 := q1.cell 14
  have kq15 := q1.cell 15
  have kq16 := q1.cell 16
  have kq17 := q1.cell 17
  simp only [List.getElem?_toArray, List.getElem?_cons_zero, List.getElem?_cons_succ] at kt kq0 kq1 kq13 kq14 kq15 kq16 kq17
  go_enter Try.func10, Try.ntmps10
  go_wp2_with (first
    | (refine wpList_load_mid (by rfl) 29 (.tmp 15) (by rfl) w.heap.size 0 (by rfl) [.int .i64 pc, .slice a1 vs.length c1, .string (bz x0), .string (bz x1), .string (bz x2), .string (bz x3), .string (bz x4), .string (bz x5), .string (bz x6), .string (bz x7), .string (bz x8), .string (bz x9), .slice a2 st.length c2, .int .i64 md, .int .i64 er, .int .i64 us, .int .i64 ti, .int .i64 el, .slice a3 bf.length c3, .slice a4 af.length c4, .slice a5 so.length c5] _ (by exact hrng) Try.underlying29 (by rfl) (by as_aux_lemma => kernel_rfl) ?_)
    | (refine wpList_store_row (by rfl) 29 (.tmp 4) (.tmp 16) (by rfl) (w.heap.size + 2) #[.int .i64 pc, .slice a1 vs.length c1, .string (bz x0), .string (bz x1), .string (bz x2), .string (bz x3), .string (bz x4), .string (bz x5), .string (bz x6), .string (bz x7), .string (bz x8), .string (bz x9), .slice a2 st.length c2, .int .i64 md, .int .i64 er, .int .i64 us, .int .i64 ti, .int .i64 el, .slice a3 bf.length c3, .slice a4 af.length c4, .slice a5 so.length c5] (by rfl) (by rfl) 29 _ (by exact m1) (by as_aux_lemma => kernel_rfl) (by rfl) (by simp [Value.oneCell']) ?_))
  obtain ⟨N8, hN8⟩ : ∃ x : List Int, [ta, pc, md, er, us, ti, el, (vs.length : Int)] = x := ⟨_, rfl⟩
  obtain ⟨z, hz⟩ : ∃ x, ((w0.alloc (.cells #[.int .i64 0, .slice none 0 0, .string ⟨#[]⟩, .string ⟨#[]⟩, .string ⟨#[]⟩, .string ⟨#[]⟩, .string ⟨#[]⟩, .string ⟨#[]⟩, .string ⟨#[]⟩, .string ⟨#[]⟩, .string ⟨#[]⟩, .string ⟨#[]⟩, .slice none 0 0, .int .i64 0, .int .i64 0, .int .i64 0, .int .i64 0, .int .i64 0, .slice none 0 0, .slice none 0 0, .slice none 0 0] 29)).setRow (w.heap.size + 2) #[.int .i64 pc, .slice a1 vs.length c1, .string (bz x0), .string (bz x1), .string (bz x2), .string (bz x3), .string (bz x4), .string (bz x5), .string (bz x6), .string (bz x7), .string (bz x8), .string (bz x9), .slice a2 st.length c2, .int .i64 md, .int .i64 er, .int .i64 us, .int .i64 ti, .int .i64 el, .slice a3 bf.length c3, .slice a4 af.length c4, .slice a5 so.length c5]).alloc (.cells #[.int .i64 ta, .int .i64 pc, .int .i64 md, .int .i64 er, .int .i64 us, .int .i64 ti, .int .i64 el, .int .i64 (vs.length : Int)] 3) = x := ⟨_, rfl⟩
  have zs : z.heap.size = w.heap.size + 4 := by rw [← hz, World.size_alloc, setRow_size, World.size_alloc, z0]
  have hG : Blk z (w.heap.size + 2 + 1) 3 (N8.map (Value.int .i64)).toArray := by
    have := Blk.new ((w0.alloc (.cells #[.int .i64 0, .slice none 0 0, .string ⟨#[]⟩, .string ⟨#[]⟩, .string ⟨#[]⟩, .string ⟨#[]⟩, .string ⟨#[]⟩, .string ⟨#[]⟩, .string ⟨#[]⟩, .string ⟨#[]⟩, .string ⟨#[]⟩, .string ⟨#[]⟩, .slice none 0 0, .int .i64 0, .int .i64 0, .int .i64 0, .int .i64 0, .int .i64 0, .slice none 0 0, .slice none 0 0, .slice none 0 0] 29)).setRow (w.heap.size + 2) #[.int .i64 pc, .slice a1 vs.length c1, .string (bz x0), .string (bz x1), .string (bz x2), .string (bz x3), .string (bz x4), .string (bz x5), .string (bz x6), .string (bz x7), .string (bz x8), .string (bz x9), .slice a2 st.length c2, .int .i64 md, .int .i64 er, .int .i64 us, .int .i64 ti, .int .i64 el, .slice a3 bf.length c3, .slice a4 af.length c4, .slice a5 so.length c5]) 3 #[.int .i64 ta, .int .i64 pc, .int .i64 md, .int .i64 er, .int .i64 us, .int .i64 ti, .int .i64 el, .int .i64 (vs.length : Int)]
    rw [hz, setRow_size, World.size_alloc, z0] at this
    rw [← hN8]; exact this
  have hC : Blk z (w.heap.size + 2) 29 #[.int .i64 pc, .slice a1 vs.length c1, .string (bz x0), .string (bz x1), .string (bz x2), .string (bz x3), .string (bz x4), .string (bz x5), .string (bz x6), .string (bz x7), .string (bz x8), .string (bz x9), .slice a2 st.length c2, .int .i64 md, .int .i64 er, .int .i64 us, .int .i64 ti, .int .i64 el, .slice a3 bf.length c3, .slice a4 af.length c4, .slice a5 so.length c5] := by rw [← hz]; exact q1.alloc _
  have W : Below w.heap.size w z := by
    have e1 : Below w.heap.size w0 ((w0.alloc (.cells #[.int .i64 0, .slice none 0 0, .string ⟨#[]⟩, .string ⟨#[]⟩, .string ⟨#[]⟩, .string ⟨#[]⟩, .string ⟨#[]⟩, .string ⟨#[]⟩, .string ⟨#[]⟩, .string ⟨#[]⟩, .string ⟨#[]⟩, .string ⟨#[]⟩, .slice none 0 0, .int .i64 0, .int .i64 0, .int .i64 0, .int .i64 0, .int .i64 0, .slice none 0 0, .slice none 0 0, .slice none 0 0] 29)).setRow (w.heap.size + 2) #[.int .i64 pc, .slice a1 vs.length c1, .string (bz x0), .string (bz x1), .string (bz x2), .string (bz x3), .string (bz x4), .string (bz x5), .string (bz x6), .string (bz x7), .string (bz x8), .string (bz x9), .slice a2 st.length c2, .int .i64 md, .int .i64 er, .int .i64 us, .int .i64 ti, .int .i64 el, .slice a3 bf.length c3, .slice a4 af.length c4, .slice a5 so.length c5]) := ⟨rfl, rfl, rfl, by rw [setRow_size, World.size_alloc]; omega, fun k hk => by rw [heap_row (by omega)]; exact Below.heap_alloc w0 _ k (by omega)⟩
    rw [← hz]; exact (b0.trans e1).alloc (by rw [setRow_size, World.size_alloc]; omega) _
  have hI : IsB w.heap.size (w.heap.size + 1) [] z := isb_keep hI0 (fun g c e f he hg => by
    have hk : g < w0.heap.size := (Array.getElem?_eq_some_iff.1 hg).1
    rw [← hz]
    refine alloc_keep _ _ _ _ _ ?_
    exact (heap_row (by omega) _).trans ((Below.heap_alloc w0 _ g hk).trans hg))
  have h8 : Hid (∀ x ∈ N8, I64 x) := Lib.hid (by
    rw [← hN8]; intro x hx
    simp only [List.mem_cons, List.not_mem_nil, or_false] at hx
    rcases hx with rfl | rfl | rfl | rfl | rfl | rfl | rfl | rfl
    all_goals first | assumption | exact ⟨by omega, by omega⟩)
  have l8 : N8.length = 8 := by rw [← hN8]; rfl
  have HN8 := Lib.hid hN8
  rw [hz]
  clear hN8 hz n1 q1 m1 n0 bb hrng hI0 kt kq0 kq1 kq13 kq14 kq15 kq16 kq17 b0 z0 hw0
  have L8 := Lib.hid l8
  clear l8
  go_loopw [36] (fun v wr => ∃ k : Nat, v = .int .i64 k ∧ k ≤ 8 ∧ IsB w.heap.size (w.heap.size + 1) ((N8.take k).flatMap numB) wr ∧ Below w.heap.size w wr ∧ Blk wr (w.heap.size + 2) 29 #[.int .i64 pc, .slice a1 vs.length c1, .string (bz x0), .string (bz x1), .string (bz x2), .string (bz x3), .string (bz x4), .string (bz x5), .string (bz x6), .string (bz x7), .string (bz x8), .string (bz x9), .slice a2 st.length c2, .int .i64 md, .int .i64 er, .int .i64 us, .int .i64 ti, .int .i64 el, .slice a3 bf.length c3, .slice a4 af.length c4, .slice a5 so.length c5] ∧ Blk wr (w.heap.size + 2 + 1) 3 (N8.map (Value.int .i64)).toArray) (fun v _ => 8 - (intOf v).toNat)
  case atStart => exact ⟨0, rfl, by omega, by simpa using hI, W, hC, hG⟩
  case round =>
    clear hI W hC hG zs
    obtain ⟨k, rfl, hk, hI, W, hC, hG⟩ := hrel
    have hzz := W.size
    by_cases hlt : k < 8
    · have dk : decide ((k : Int) < 8) = true := by simp; omega
      have hki : (k : Int) < 8 := by omega
      obtain ⟨x, hx⟩ : ∃ x, N8[k]? = some x := ⟨_, List.getElem?_eq_getElem (by rw [L8.out]; exact hlt)⟩
      have hcx : wr.cell? ⟨w.heap.size + 2 + 1, k, none⟩ = some (.int .i64 x) := by rw [hG.cell k, List.getElem?_toArray, List.getElem?_map, hx]; rfl
      have hix := h8.out x (List.mem_of_getElem? hx)
      have hlen := nums_len (N8.take k) (fun y hy => h8.out y (List.mem_of_mem_take hy))
      rw [List.length_take] at hlen
      have TK := Lib.hid (take_nums N8 k x hx)
      have ct := wnum_c w.heap.size (w.heap.size + 1) _ x wr hI (by omega) hix.1 hix.2 hzz
      clear hx
      go_wp2_with fail
      (with_reducible refine ct.mono ?_)
      rintro e w5 ⟨rfl, hI5, hW5⟩
      go_wp2
      go_roundw
      case rel => exact ⟨k + 1, by go_num, by omega, by rw [TK.out]; exact hI5, W.trans hW5.below, wr_blk hI hW5 hC (by decide) (by decide), wr_blk hI hW5 hG (by decide) (by decide)⟩
      case measure => simp [intOf] <;> omega
    have dk : decide ((k : Int) < 8) = false := by simp; omega
    obtain rfl : k = 8 := by omega
    rw [List.take_of_length_le (by rw [L8.out]; omega)] at hI
    have hlen := nums_len N8 h8.out
    rw [L8.out] at hlen
    obtain ⟨L1, hL⟩ : ∃ x, N8.flatMap numB = x := ⟨_, rfl⟩
    rw [hL] at hI hlen
    have HL1 := Lib.hid hL
    clear hL hG
    obtain ⟨wA, rfl⟩ : ∃ wo : World, wo = wr := ⟨_, rfl⟩
    rw [show ((8 : Nat) : Int) = 8 from rfl]
    have kc := hC.cell 1
    simp only [List.getElem?_toArray, List.getElem?_cons_zero, List.getElem?_cons_succ] at kc
    go_wp2_with fail
    go_loopw [47] (fun v wr => ∃ k : Nat, v = .int .i64 k ∧ k ≤ vs.length ∧ IsB w.heap.size (w.heap.size + 1) (L1 ++ (vs.take k).flatMap varB) wr ∧ Below w.heap.size w wr ∧ Blk wr (w.heap.size + 2) 29 #[.int .i64 pc, .slice a1 vs.length c1, .string (bz x0), .string (bz x1), .string (bz x2), .string (bz x3), .string (bz x4), .string (bz x5), .string (bz x6), .string (bz x7), .string (bz x8), .string (bz x9), .slice a2 st.length c2, .int .i64 md, .int .i64 er, .int .i64 us, .int .i64 ti, .int .i64 el, .slice a3 bf.length c3, .slice a4 af.length c4, .slice a5 so.length c5]) (fun v _ => vs.length - (intOf v).toNat)
    case atStart => exact ⟨0, rfl, by omega, by simpa using hI, W, hC⟩
    case round =>
      clear hI W hC kc
      obtain ⟨k, rfl, hk, hI, W, hC⟩ := hrel
      have hzz := W.size
      by_cases hlt : k < vs.length
      · have dk : decide ((k : Int) < (vs.length : Int)) = true := by simp; omega
        obtain ⟨g, o, rfl, hg, hcell⟩ := Rd.flat (h1.below W) (by omega) (by omega)
        obtain ⟨x, hx⟩ : ∃ x, vs[k]? = some x := ⟨_, List.getElem?_eq_getElem hlt⟩
        obtain ⟨y1, y2⟩ := vcells_at vs k x hx
        have d1 := hcell _ _ y1
        have d2 : wr.cell? ⟨g, o + k * 2 + 1, none⟩ = some (.string (bz x.2)) := by rw [Nat.add_assoc]; exact hcell _ _ y2
        obtain ⟨v1, v2⟩ := OV.out x (List.mem_of_getElem? hx)
        have hlen2 := vars_len (vs.take k) (fun y hy => OV.out y (List.mem_of_mem_take hy))
        rw [List.length_take] at hlen2
        have TK := Lib.hid (take_any varB vs k x hx)
        obtain ⟨p1, p2⟩ := x
        simp only at d1 d2 v1 v2
        have t1 := text_len p1 (by omega)
        have t2 := text_len p2 (by omega)
        clear hx y1 y2 hcell
        go_wp2_with fail
        obtain ⟨wa, hwa⟩ : ∃ x, wr.alloc (.cells #[.string (bz p1), .string (bz p2)] 45) = x := ⟨_, rfl⟩
        have ba : Below wr.heap.size wr wa := by rw [← hwa]; exact (Below.refl _ wr).alloc (Nat.le_refl _) _
        have bq : Blk wa wr.heap.size 45 #[.string (bz p1), .string (bz p2)] := by rw [← hwa]; exact Blk.new _ _ _
        rw [hwa]
        have hIa := isb_below hI ba
        have hCa := hC.next ba
        have Wa : Below w.heap.size w wa := W.trans (ba.mono hzz)
        have hza := Wa.size
        have ct := wtext_c w.heap.size (w.heap.size + 1) _ (bz p1) wa hIa (by rw [List.length_append]; omega) (by rw [bz_size]; omega) hza
        rw [bz_list] at ct
        clear hwa
        (with_reducible refine ct.mono ?_)
        rintro e w5 ⟨rfl, hI5, hW5⟩
        have hC5 := wr_blk hIa hW5 hCa (by decide) (by decide)
        have b5 := wr_blk hIa hW5 bq (by decide) (by decide)
        have W5 := Wa.trans hW5.below
        have hz5 := W5.size
        have e1 := b5.cell 1
        simp only [List.getElem?_toArray, List.getElem?_cons_zero, List.getElem?_cons_succ] at e1
        have cu := wtext_c w.heap.size (w.heap.size + 1) _ (bz p2) w5 hI5 (by rw [List.length_append, List.length_append]; omega) (by rw [bz_size]; omega) hz5
        rw [bz_list] at cu
        clear d1 d2 ct
        go_wp2_with fail
        (with_reducible refine cu.mono ?_)
        rintro e w6 ⟨rfl, hI6, hW6⟩
        have hC6 := wr_blk hI5 hW6 hC5 (by decide) (by decide)
        go_wp2
        go_roundw
        case rel => exact ⟨k + 1, by go_num, by omega, by rw [TK.out, varB, ← List.append_assoc, ← List.append_assoc]; exact hI6, W5.trans hW6.below, hC6⟩
        case measure => simp [intOf] <;> omega
      have dk : decide ((k : Int) < (vs.length : Int)) = false := by simp; omega
      obtain rfl : k = vs.length := by omega
      rw [List.take_of_length_le (Nat.le_refl _)] at hI
      have hlen2 := vars_len vs (fun y hy => OV.out y hy)
      obtain ⟨L2, hL⟩ : ∃ x, L1 ++ vs.flatMap varB = x := ⟨_, rfl⟩
      rw [hL] at hI
      have zL : L2.length ≤ 10000000000 := by rw [← hL, List.length_append]; omega
      have HL2 := Lib.hid hL
      clear hL hlen2 hlen
      obtain ⟨wB, rfl⟩ : ∃ wo : World, wo = wr := ⟨_, rfl⟩
      have hcuts : wB.rangeAt (w.heap.size + 2) 2 [.string (bz x0), .string (bz x1), .string (bz x2), .string (bz x3), .string (bz x4), .string (bz x5), .string (bz x6), .string (bz x7), .string (bz x8), .string (bz x9)] := rng_mid (l := [.int .i64 pc, .slice a1 vs.length c1]) (m := [.string (bz x0), .string (bz x1), .string (bz x2), .string (bz x3), .string (bz x4), .string (bz x5), .string (bz x6), .string (bz x7), .string (bz x8), .string (bz x9)]) (r := [.slice a2 st.length c2, .int .i64 md, .int .i64 er, .int .i64 us, .int .i64 ti, .int .i64 el, .slice a3 bf.length c3, .slice a4 af.length c4, .slice a5 so.length c5]) hC
      go_wp2_with (refine wpList_load_mid (by rfl) 24 (.tmp 60) (by rfl) (w.heap.size + 2) 2 (by rfl) [.string (bz x0), .string (bz x1), .string (bz x2), .string (bz x3), .string (bz x4), .string (bz x5), .string (bz x6), .string (bz x7), .string (bz x8), .string (bz x9)] _ (by exact hcuts) Try.underlying24 (by rfl) (by as_aux_lemma => kernel_rfl) ?_)
      refine wp_loop_rounds 11 ?_
      rw [rounds_succ]
      have o0 := OC.out x0 (by simp)
      have hix : ∀ W, (Instr.index 24 (.agg #[.string (bz x0), .string (bz x1), .string (bz x2), .string (bz x3), .string (bz x4), .string (bz x5), .string (bz x6), .string (bz x7), .string (bz x8), .string (bz x9)]) (.int .i64 0)).run Try.prog W = .ok (.string (bz x0)) W := fun W => idx_ten W _ 0 _ rfl rfl
      have ct := wtext_c w.heap.size (w.heap.size + 1) L2 (bz x0) wB hI (by omega) (by rw [bz_size]; omega) hzz
      rw [bz_list] at ct
      go_wp2_with fail
      (with_reducible refine ct.mono ?_)
      rintro e u0 ⟨rfl, hI', hW'⟩
      replace hC := wr_blk hI hW' hC (by decide) (by decide)
      replace W := W.trans hW'.below
      replace hzz := W.size
      obtain ⟨M0, hL⟩ : ∃ x, L2 ++ textB x0 = x := ⟨_, rfl⟩
      rw [hL] at hI'
      have hI := hI'
      have zM0 : M0.length ≤ 10000100000 := by have := text_len x0 (by omega); rw [← hL, List.length_append]; omega
      have HM0 := Lib.hid hL
      clear hL ct hW' hI' o0 hix
      go_wp2
      rw [rounds_succ]
      have o1 := OC.out x1 (by simp)
      have hix : ∀ W, (Instr.index 24 (.agg #[.string (bz x0), .string (bz x1), .string (bz x2), .string (bz x3), .string (bz x4), .string (bz x5), .string (bz x6), .string (bz x7), .string (bz x8), .string (bz x9)]) (.int .i64 1)).run Try.prog W = .ok (.string (bz x1)) W := fun W => idx_ten W _ 1 _ rfl rfl
      have ct := wtext_c w.heap.size (w.heap.size + 1) M0 (bz x1) u0 hI (by omega) (by rw [bz_size]; omega) hzz
      rw [bz_list] at ct
      go_wp2_with fail
      (with_reducible refine ct.mono ?_)
      rintro e u1 ⟨rfl, hI', hW'⟩
      replace hC := wr_blk hI hW' hC (by decide) (by decide)
      replace W := W.trans hW'.below
      replace hzz := W.size
      obtain ⟨M1, hL⟩ : ∃ x, M0 ++ textB x1 = x := ⟨_, rfl⟩
      rw [hL] at hI'
      have hI := hI'
      have zM1 : M1.length ≤ 10000200000 := by have := text_len x1 (by omega); rw [← hL, List.length_append]; omega
      have HM1 := Lib.hid hL
      clear hL ct hW' hI' o1 hix
      go_wp2
      rw [rounds_succ]
      have o2 := OC.out x2 (by simp)
      have hix : ∀ W, (Instr.index 24 (.agg #[.string (bz x0), .string (bz x1), .string (bz x2), .string (bz x3), .string (bz x4), .string (bz x5), .string (bz x6), .string (bz x7), .string (bz x8), .string (bz x9)]) (.int .i64 2)).run Try.prog W = .ok (.string (bz x2)) W := fun W => idx_ten W _ 2 _ rfl rfl
      have ct := wtext_c w.heap.size (w.heap.size + 1) M1 (bz x2) u1 hI (by omega) (by rw [bz_size]; omega) hzz
      rw [bz_list] at ct
      go_wp2_with fail
      (with_reducible refine ct.mono ?_)
      rintro e u2 ⟨rfl, hI', hW'⟩
      replace hC := wr_blk hI hW' hC (by decide) (by decide)
      replace W := W.trans hW'.below
      replace hzz := W.size
      obtain ⟨M2, hL⟩ : ∃ x, M1 ++ textB x2 = x := ⟨_, rfl⟩
      rw [hL] at hI'
      have hI := hI'
      have zM2 : M2.length ≤ 10000300000 := by have := text_len x2 (by omega); rw [← hL, List.length_append]; omega
      have HM2 := Lib.hid hL
      clear hL ct hW' hI' o2 hix
      go_wp2
      rw [rounds_succ]
      have o3 := OC.out x3 (by simp)
      have hix : ∀ W, (Instr.index 24 (.agg #[.string (bz x0), .string (bz x1), .string (bz x2), .string (bz x3), .string (bz x4), .string (bz x5), .string (bz x6), .string (bz x7), .string (bz x8), .string (bz x9)]) (.int .i64 3)).run Try.prog W = .ok (.string (bz x3)) W := fun W => idx_ten W _ 3 _ rfl rfl
      have ct := wtext_c w.heap.size (w.heap.size + 1) M2 (bz x3) u2 hI (by omega) (by rw [bz_size]; omega) hzz
      rw [bz_list] at ct
      go_wp2_with fail
      (with_reducible refine ct.mono ?_)
      rintro e u3 ⟨rfl, hI', hW'⟩
      replace hC := wr_blk hI hW' hC (by decide) (by decide)
      replace W := W.trans hW'.below
      replace hzz := W.size
      obtain ⟨M3, hL⟩ : ∃ x, M2 ++ textB x3 = x := ⟨_, rfl⟩
      rw [hL] at hI'
      have hI := hI'
      have zM3 : M3.length ≤ 10000400000 := by have := text_len x3 (by omega); rw [← hL, List.length_append]; omega
      have HM3 := Lib.hid hL
      clear hL ct hW' hI' o3 hix
      go_wp2
      rw [rounds_succ]
      have o4 := OC.out x4 (by simp)
      have hix : ∀ W, (Instr.index 24 (.agg #[.string (bz x0), .string (bz x1), .string (bz x2), .string (bz x3), .string (bz x4), .string (bz x5), .string (bz x6), .string (bz x7), .string (bz x8), .string (bz x9)]) (.int .i64 4)).run Try.prog W = .ok (.string (bz x4)) W := fun W => idx_ten W _ 4 _ rfl rfl
      have ct := wtext_c w.heap.size (w.heap.size + 1) M3 (bz x4) u3 hI (by omega) (by rw [bz_size]; omega) hzz
      rw [bz_list] at ct
      go_wp2_with fail
      (with_reducible refine ct.mono ?_)
      rintro e u4 ⟨rfl, hI', hW'⟩
      replace hC := wr_blk hI hW' hC (by decide) (by decide)
      replace W := W.trans hW'.below
      replace hzz := W.size
      obtain ⟨M4, hL⟩ : ∃ x, M3 ++ textB x4 = x := ⟨_, rfl⟩
      rw [hL] at hI'
      have hI := hI'
      have zM4 : M4.length ≤ 10000500000 := by have := text_len x4 (by omega); rw [← hL, List.length_append]; omega
      have HM4 := Lib.hid hL
      clear hL ct hW' hI' o4 hix
      go_wp2
      rw [rounds_succ]
      have o5 := OC.out x5 (by simp)
      have hix : ∀ W, (Instr.index 24 (.agg #[.string (bz x0), .string (bz x1), .string (bz x2), .string (bz x3), .string (bz x4), .string (bz x5), .string (bz x6), .string (bz x7), .string (bz x8), .string (bz x9)]) (.int .i64 5)).run Try.prog W = .ok (.string (bz x5)) W := fun W => idx_ten W _ 5 _ rfl rfl
      have ct := wtext_c w.heap.size (w.heap.size + 1) M4 (bz x5) u4 hI (by omega) (by rw [bz_size]; omega) hzz
      rw [bz_list] at ct
      go_wp2_with fail
      (with_reducible refine ct.mono ?_)
      rintro e u5 ⟨rfl, hI', hW'⟩
      replace hC := wr_blk hI hW' hC (by decide) (by decide)
      replace W := W.trans hW'.below
      replace hzz := W.size
      obtain ⟨M5, hL⟩ : ∃ x, M4 ++ textB x5 = x := ⟨_, rfl⟩
      rw [hL] at hI'
      have hI := hI'
      have zM5 : M5.length ≤ 10000600000 := by have := text_len x5 (by omega); rw [← hL, List.length_append]; omega
      have HM5 := Lib.hid hL
      clear hL ct hW' hI' o5 hix
      go_wp2
      rw [rounds_succ]
      have o6 := OC.out x6 (by simp)
      have hix : ∀ W, (Instr.index 24 (.agg #[.string (bz x0), .string (bz x1), .string (bz x2), .string (bz x3), .string (bz x4), .string (bz x5), .string (bz x6), .string (bz x7), .string (bz x8), .string (bz x9)]) (.int .i64 6)).run Try.prog W = .ok (.string (bz x6)) W := fun W => idx_ten W _ 6 _ rfl rfl
      have ct := wtext_c w.heap.size (w.heap.size + 1) M5 (bz x6) u5 hI (by omega) (by rw [bz_size]; omega) hzz
      rw [bz_list] at ct
      go_wp2_with fail
      (with_reducible refine ct.mono ?_)
      rintro e u6 ⟨rfl, hI', hW'⟩
      replace hC := wr_blk hI hW' hC (by decide) (by decide)
      replace W := W.trans hW'.below
      replace hzz := W.size
      obtain ⟨M6, hL⟩ : ∃ x, M5 ++ textB x6 = x := ⟨_, rfl⟩
      rw [hL] at hI'
      have hI := hI'
      have zM6 : M6.length ≤ 10000700000 := by have := text_len x6 (by omega); rw [← hL, List.length_append]; omega
      have HM6 := Lib.hid hL
      clear hL ct hW' hI' o6 hix
      go_wp2
      rw [rounds_succ]
      have o7 := OC.out x7 (by simp)
      have hix : ∀ W, (Instr.index 24 (.agg #[.string (bz x0), .string (bz x1), .string (bz x2), .string (bz x3), .string (bz x4), .string (bz x5), .string (bz x6), .string (bz x7), .string (bz x8), .string (bz x9)]) (.int .i64 7)).run Try.prog W = .ok (.string (bz x7)) W := fun W => idx_ten W _ 7 _ rfl rfl
      have ct := wtext_c w.heap.size (w.heap.size + 1) M6 (bz x7) u6 hI (by omega) (by rw [bz_size]; omega) hzz
      rw [bz_list] at ct
      go_wp2_with fail
      (with_reducible refine ct.mono ?_)
      rintro e u7 ⟨rfl, hI', hW'⟩
      replace hC := wr_blk hI hW' hC (by decide) (by decide)
      replace W := W.trans hW'.below
      replace hzz := W.size
      obtain ⟨M7, hL⟩ : ∃ x, M6 ++ textB x7 = x := ⟨_, rfl⟩
      rw [hL] at hI'
      have hI := hI'
      have zM7 : M7.length ≤ 10000800000 := by have := text_len x7 (by omega); rw [← hL, List.length_append]; omega
      have HM7 := Lib.hid hL
      clear hL ct hW' hI' o7 hix
      go_wp2
      rw [rounds_succ]
      have o8 := OC.out x8 (by simp)
      have hix : ∀ W, (Instr.index 24 (.agg #[.string (bz x0), .string (bz x1), .string (bz x2), .string (bz x3), .string (bz x4), .string (bz x5), .string (bz x6), .string (bz x7), .string (bz x8), .string (bz x9)]) (.int .i64 8)).run Try.prog W = .ok (.string (bz x8)) W := fun W => idx_ten W _ 8 _ rfl rfl
      have ct := wtext_c w.heap.size (w.heap.size + 1) M7 (bz x8) u7 hI (by omega) (by rw [bz_size]; omega) hzz
      rw [bz_list] at ct
      go_wp2_with fail
      (with_reducible refine ct.mono ?_)
      rintro e u8 ⟨rfl, hI', hW'⟩
      replace hC := wr_blk hI hW' hC (by decide) (by decide)
      replace W := W.trans hW'.below
      replace hzz := W.size
      obtain ⟨M8, hL⟩ : ∃ x, M7 ++ textB x8 = x := ⟨_, rfl⟩
      rw [hL] at hI'
      have hI := hI'
      have zM8 : M8.length ≤ 10000900000 := by have := text_len x8 (by omega); rw [← hL, List.length_append]; omega
      have HM8 := Lib.hid hL
      clear hL ct hW' hI' o8 hix
      go_wp2
      rw [rounds_succ]
      have o9 := OC.out x9 (by simp)
      have hix : ∀ W, (Instr.index 24 (.agg #[.string (bz x0), .string (bz x1), .string (bz x2), .string (bz x3), .string (bz x4), .string (bz x5), .string (bz x6), .string (bz x7), .string (bz x8), .string (bz x9)]) (.int .i64 9)).run Try.prog W = .ok (.string (bz x9)) W := fun W => idx_ten W _ 9 _ rfl rfl
      have ct := wtext_c w.heap.size (w.heap.size + 1) M8 (bz x9) u8 hI (by omega) (by rw [bz_size]; omega) hzz
      rw [bz_list] at ct
      go_wp2_with fail
      (with_reducible refine ct.mono ?_)
      rintro e u9 ⟨rfl, hI', hW'⟩
      replace hC := wr_blk hI hW' hC (by decide) (by decide)
      replace W := W.trans hW'.below
      replace hzz := W.size
      obtain ⟨M9, hL⟩ : ∃ x, M8 ++ textB x9 = x := ⟨_, rfl⟩
      rw [hL] at hI'
      have hI := hI'
      have zM9 : M9.length ≤ 10001000000 := by have := text_len x9 (by omega); rw [← hL, List.length_append]; omega
      have HM9 := Lib.hid hL
      clear hL ct hW' hI' o9 hix
      go_wp2
      rw [rounds_succ]
      have kf := hC.cell 12
      simp only [List.getElem?_toArray, List.getElem?_cons_zero, List.getElem?_cons_succ] at kf
      have ct := wints_c w.heap.size (w.heap.size + 1) M9 a2 st.length c2 st u9 hI (by omega) (h2.below W) (by omega) OS.out hzz
      go_wp2_with fail
      (with_reducible refine ct.mono ?_)
      rintro e vP1 ⟨rfl, hI', hW'⟩
      replace hC := wr_blk hI hW' hC (by decide) (by decide)
      replace W := W.trans hW'.below
      replace hzz := W.size
      obtain ⟨P1, hL⟩ : ∃ x, M9 ++ listB numB st = x := ⟨_, rfl⟩
      rw [hL] at hI'
      have hI := hI'
      have zP1 : P1.length ≤ 10003000000 := by have := list_len st OS.out osl; rw [← hL, List.length_append]; omega
      have HP1 := Lib.hid hL
      clear hL ct hW' hI' kf
      have kf := hC.cell 18
      simp only [List.getElem?_toArray, List.getElem?_cons_zero, List.getElem?_cons_succ] at kf
      have ct := wints_c w.heap.size (w.heap.size + 1) P1 a3 bf.length c3 bf vP1 hI (by omega) (h3.below W) (by omega) OB.out hzz
      go_wp2_with fail
      (with_reducible refine ct.mono ?_)
      rintro e vP2 ⟨rfl, hI', hW'⟩
      replace hC := wr_blk hI hW' hC (by decide) (by decide)
      replace W := W.trans hW'.below
      replace hzz := W.size
      obtain ⟨P2, hL⟩ : ∃ x, P1 ++ listB numB bf = x := ⟨_, rfl⟩
      rw [hL] at hI'
      have hI := hI'
      have zP2 : P2.length ≤ 10004000000 := by have := list_len bf OB.out obl; rw [← hL, List.length_append]; omega
      have HP2 := Lib.hid hL
      clear hL ct hW' hI' kf
      have kf := hC.cell 19
      simp only [List.getElem?_toArray, List.getElem?_cons_zero, List.getElem?_cons_succ] at kf
      have ct := wints_c w.heap.size (w.heap.size + 1) P2 a4 af.length c4 af vP2 hI (by omega) (h4.below W) (by omega) OA.out hzz
      go_wp2_with fail
      (with_reducible refine ct.mono ?_)
      rintro e vP3 ⟨rfl, hI', hW'⟩
      replace hC := wr_blk hI hW' hC (by decide) (by decide)
      replace W := W.trans hW'.below
      replace hzz := W.size
      obtain ⟨P3, hL⟩ : ∃ x, P2 ++ listB numB af = x := ⟨_, rfl⟩
      rw [hL] at hI'
      have hI := hI'
      have zP3 : P3.length ≤ 10005000000 := by have := list_len af OA.out oal; rw [← hL, List.length_append]; omega
      have HP3 := Lib.hid hL
      clear hL ct hW' hI' kf
      have kf := hC.cell 20
      simp only [List.getElem?_toArray, List.getElem?_cons_zero, List.getElem?_cons_succ] at kf
      have ct := wnum_c w.heap.size (w.heap.size + 1) P3 (so.length : Int) vP3 hI (by omega) (by omega) (by omega) hzz
      go_wp2_with fail
      (with_reducible refine ct.mono ?_)
      rintro e vP4 ⟨rfl, hI', hW'⟩
      replace hC := wr_blk hI hW' hC (by decide) (by decide)
      replace W := W.trans hW'.below
      replace hzz := W.size
      obtain ⟨P4, hL⟩ : ∃ x, P3 ++ numB so.length = x := ⟨_, rfl⟩
      rw [hL] at hI'
      have hI := hI'
      have HP4 := Lib.hid hL
      clear hL ct hW' hI' kf
      have HALL : Hid (nodeB (ta, pc, md, er, us, ti, el, vs, [x0, x1, x2, x3, x4, x5, x6, x7, x8, x9], st, bf, af, so) = P4 ++ so.flatMap sideB) := Lib.hid (by
        rw [← HP4.out, ← HP3.out, ← HP2.out, ← HP1.out, ← HM9.out, ← HM8.out, ← HM7.out, ← HM6.out, ← HM5.out, ← HM4.out, ← HM3.out, ← HM2.out, ← HM1.out, ← HM0.out, ← HL2.out, ← HL1.out, ← HN8.out]
        simp [nodeB, listB, List.append_assoc])
      have HTOT : Hid (P4.length + (so.flatMap sideB).length ≤ 1000000000000) := Lib.hid (by have := HLEN.out; rw [HALL.out, List.length_append] at this; exact this)
      have kf := hC.cell 20
      simp only [List.getElem?_toArray, List.getElem?_cons_zero, List.getElem?_cons_succ] at kf
      go_wp2_with fail
      go_loopw [89] (fun v wr => ∃ k : Nat, v = .int .i64 k ∧ k ≤ so.length ∧ IsB w.heap.size (w.heap.size + 1) (P4 ++ (so.take k).flatMap sideB) wr ∧ Below w.heap.size w wr) (fun v _ => so.length - (intOf v).toNat)
      case atStart => exact ⟨0, rfl, by omega, by simpa using hI, W⟩
      case round =>
        clear hI W hC kf
        obtain ⟨k, rfl, hk, hI, W⟩ := hrel
        have hzz := W.size
        by_cases hlt : k < so.length
        · have dk : decide ((k : Int) < (so.length : Int)) = true := by simp; omega
          obtain ⟨g, o, rfl, hg, hcell⟩ := Rd.flat (h5.below W) (by omega) (by omega)
          obtain ⟨x, hx⟩ : ∃ x, so[k]? = some x := ⟨_, List.getElem?_eq_getElem hlt⟩
          obtain ⟨d, hd⟩ : ∃ d, ds[k]? = some d := ⟨_, List.getElem?_eq_getElem (by omega)⟩
          have hsd := SdR.below (HH.out k d x hd hx) W
          have sc := fun j hj => scells_at ds k j d hd hj
          have hlen2 : (P4 ++ (so.take k).flatMap sideB).length ≤ 1000000000000 := by
            have := HTOT.out
            rw [← List.take_append_drop k so, List.flatMap_append, List.length_append] at this
            rw [List.length_append]; omega
          have TK := Lib.hid (take_any sideB so k x hx)
          obtain ⟨da, db, dc, dp, dk2, dty, dla, dln, dlc, dfl, dga, dgn, dgc, dre, dbu⟩ := d
          have s0 : wr.cell? ⟨g, o + k * 11, none⟩ = some (.bool da) := hcell _ _ (sc 0 (by omega))
          have s1 : wr.cell? ⟨g, o + k * 11 + 1, none⟩ = some (.bool db) := by rw [Nat.add_assoc]; exact hcell _ _ (sc 1 (by omega))
          have s2 : wr.cell? ⟨g, o + k * 11 + 2, none⟩ = some (.bool dc) := by rw [Nat.add_assoc]; exact hcell _ _ (sc 2 (by omega))
          have s3 : wr.cell? ⟨g, o + k * 11 + 3, none⟩ = some (.int .i64 dp) := by rw [Nat.add_assoc]; exact hcell _ _ (sc 3 (by omega))
          have s4 : wr.cell? ⟨g, o + k * 11 + 4, none⟩ = some (.int .i64 dk2) := by rw [Nat.add_assoc]; exact hcell _ _ (sc 4 (by omega))
          have s5 : wr.cell? ⟨g, o + k * 11 + 5, none⟩ = some (.string dty) := by rw [Nat.add_assoc]; exact hcell _ _ (sc 5 (by omega))
          have s6 : wr.cell? ⟨g, o + k * 11 + 6, none⟩ = some (.slice dla dln dlc) := by rw [Nat.add_assoc]; exact hcell _ _ (sc 6 (by omega))
          have s7 : wr.cell? ⟨g, o + k * 11 + 7, none⟩ = some (.string dfl) := by rw [Nat.add_assoc]; exact hcell _ _ (sc 7 (by omega))
          have s8 : wr.cell? ⟨g, o + k * 11 + 8, none⟩ = some (.slice dga dgn dgc) := by rw [Nat.add_assoc]; exact hcell _ _ (sc 8 (by omega))
          have s9 : wr.cell? ⟨g, o + k * 11 + 9, none⟩ = some (.string dre) := by rw [Nat.add_assoc]; exact hcell _ _ (sc 9 (by omega))
          have s10 : wr.cell? ⟨g, o + k * 11 + 10, none⟩ = some (.string dbu) := by rw [Nat.add_assoc]; exact hcell _ _ (sc 10 (by omega))
          clear hx hd sc hcell
          obtain ⟨wa, hwa⟩ : ∃ x, wr.alloc (.cells #[.bool da, .bool db, .bool dc, .int .i64 dp, .int .i64 dk2, .string dty, .slice dla dln dlc, .string dfl, .slice dga dgn dgc, .string dre, .string dbu] 48) = x := ⟨_, rfl⟩
          have ba : Below wr.heap.size wr wa := by rw [← hwa]; exact (Below.refl _ wr).alloc (Nat.le_refl _) _
          have hIa := isb_below hI ba
          have Wa : Below w.heap.size w wa := W.trans (ba.mono hzz)
          have ct := wside_c w.heap.size (w.heap.size + 1) _ _ x wa hIa (by omega) (SdR.below hsd (ba.mono hzz)) Wa.size
          simp only [Sd.v] at ct
          have HWA := Lib.hid hwa
          clear hwa
          go_wp2_with fail
          rw [HWA.out]
          (with_reducible refine ct.mono ?_)
          rintro e w5 ⟨rfl, hI5, hW5⟩
          go_wp2
          go_roundw
          case rel => exact ⟨k + 1, by go_num, by omega, by rw [TK.out, ← List.append_assoc]; exact hI5, Wa.trans hW5.below⟩
          case measure => simp [intOf] <;> omega
        have dk : decide ((k : Int) < (so.length : Int)) = false := by simp; omega
        obtain rfl : k = so.length := by omega
        rw [List.take_of_length_le (Nat.le_refl _), ← HALL.out] at hI
        have ct := string_c w.heap.size (w.heap.size + 1) _ wr hI (node_ne _)
        obtain ⟨NB, hNB⟩ : ∃ x, nodeB (ta, pc, md, er, us, ti, el, vs, [x0, x1, x2, x3, x4, x5, x6, x7, x8, x9], st, bf, af, so) = x := ⟨_, rfl⟩
        rw [hNB] at ct
        have HNB := Lib.hid hNB
        clear hNB
        go_wp2_with fail
        (with_reducible refine ct.mono ?_)
        rintro e w9 ⟨rfl, hb9⟩
        go_wp2
        go_ret
        exact ⟨by rw [HNB.out]; rfl, W.trans hb9⟩
end StaZ
end Go.Proofs.Ytfkjogkpdebepaa
