/- The walk of state's reader.ages; a side in plain words. Conditions: texts that fit. -/
import Derived.Test.YtfkjogkpdebepaaStaA
import Derived.Test.YtfkjogkpdebepaaStaLStr
namespace Go.Proofs.Ytfkjogkpdebepaa
open Go.RowKit
namespace StaG
open StaP StaR StaN StaL StaV StaA
theorem run_eq {α : Type} {p q : Pr α} (h : ∀ l, p l = q l) {a a' : St} {g : α → Prop} (k : Run p a a' g) : Run q a a' g := by
  rw [show p = q from funext h] at k; exact k
theorem tch_as {B0 R : Nat} {w w' : World} (h : Tch (AS B0 R) w w') (hB : w.heap.size = B0 + 2) {w0 : World} (h0 : Tch (On R) w0 w) (h0s : w0.heap.size = B0) : Tch (On R) w0 w' :=
  ⟨h.os.trans h0.os, h.tape.trans h0.tape, h.output.trans h0.output, Nat.le_trans h0.size h.size, fun k hk hs => (h.block k (by omega) (fun e => by rcases e with e | e; exact hs e; omega)).trans (h0.block k hk hs)⟩
/-- What 'ages' answers. -/
def APost (s : ByteArray) (R i e : Nat) (w : World) (x : Ending) (w' : World) : Prop :=
  ∃ (v : Value) (o : List Int) (i' e' : Nat), x = .returned v ∧ w'.ownsRow w.heap.size 3 1 v o.length (o.map (Value.int .i64)) ∧ o.length ≤ 65536 ∧ Rdr w' R s i' e' ∧ i' ≤ s.size ∧ Tch (On R) w w' ∧ Run agesP (ab s i e) (ab s i' e') (fun m => m = o)
set_option maxHeartbeats 3200000 in
set_option maxRecDepth 100000 in
theorem ages_c (R : Nat) (s : ByteArray) (i e : Nat) (w : World) (h : Rdr w R s i e) (his : i ≤ s.size) (hs : s.size ≤ 4611686018427387904) :
    Calls Try.prog 38 #[.pointer (some ⟨R, 0, none⟩)] w (APost s R i e w) := by
  have hlt := h.lt
  obtain ⟨w0, hw0⟩ : ∃ x, (w.alloc (.cells #[.pointer (some ⟨R, 0, none⟩)] 49)).alloc (.cells #[.slice none 0 0] 25) = x := ⟨_, rfl⟩
  have hX : Blk w0 w.heap.size 49 #[.pointer (some ⟨R, 0, none⟩)] := by rw [← hw0]; exact (Blk.new _ _ _).alloc _
  have hY : Blk w0 (w.heap.size + 1) 25 #[.slice none 0 0] := by rw [← hw0]; exact Blk.new1 _ _ _ _
  have h0 : Rdr w0 R s i e := by rw [← hw0]; exact (h.alloc _).alloc _
  have T0 : Tch (On R) w w0 := by rw [← hw0]; exact ((Tch.refl _ w).alloc _).alloc _
  have hz0 : w0.heap.size = w.heap.size + 2 := by rw [← hw0, World.size_alloc, World.size_alloc]
  have hJ : J w.heap.size R w.heap.size (w.heap.size + 1) w0 [] [] := ⟨⟨hX, _, hY, World.ownsRow_nil _ _ _ _⟩, by simp⟩
  have cl := list_Bool R s i e w.heap.size (w.heap.size + 1) ageS (J w.heap.size R w.heap.size (w.heap.size + 1)) (AS w.heap.size R) [] (j_stable _ _ _ _) (Or.inl rfl) w0 h0 his hs hJ
    (fun W j b cs hr hj hT hJ => clo_c w.heap.size R w.heap.size (w.heap.size + 1) s j b cs W hr hj hs (by have := hT.size; omega) (by omega) hJ)
  have x0 := hX.cell 0
  simp only [List.getElem?_toArray, List.getElem?_cons_zero] at x0
  clear hX hY hJ
  go_enter Try.func38, Try.ntmps38
  go_wp2_with fail
  (with_reducible refine cl.mono ?_)
  rintro x w1 ⟨v, n, cs, i1, e1, o, rfl, _, _, h1, hi1, T1, ⟨⟨_, vo, hY1, hown⟩, ho⟩, r1⟩
  have y0 := hY1.cell 0
  simp only [List.getElem?_toArray, List.getElem?_cons_zero] at y0
  go_wp2
  go_ret
  exact ⟨_, o, i1, e1, rfl, hown, ho, h1, hi1, tch_as T1 hz0 T0 rfl, run_eq age_list r1⟩
/-! Sides. -/
def flagP : Pr UInt8
  | [] => .error ([], 1)
  | c :: r => if 7 < c.toNat then .error (c :: r, 1) else .ok (c, r)
abbrev MSd := UInt8 × Int × Int × Bs × List Bs × Bs × List Int × Bs × Bs
abbrev sideP : Pr MSd := pairP flagP (pairP numP (pairP numP (pairP textP (pairP (listP textP) (pairP textP (pairP agesP (pairP textP textP)))))))
def bz (l : Bs) : ByteArray := ⟨l.toArray⟩
theorem bz_list (l : Bs) : (bz l).data.toList = l := by simp [bz]
theorem bz_of (x : ByteArray) : bz x.data.toList = x := bytes_ext (bz_list _)
theorem bz_size (l : Bs) : (bz l).size = l.length := by rw [Lib.size_eq, bz_list]
abbrev strs (l : List Bs) : List Value := l.map fun b => Value.string (bz b)
abbrev ints (l : List Int) : List Value := l.map (Value.int .i64)
def Js (_ : World) (l : List Bs) (cs : List Value) : Prop := cs = strs l ∧ ∀ b ∈ l, b.length ≤ 65536
def Ji (_ : World) (l : List Int) (cs : List Value) : Prop := cs = ints l ∧ ∀ b ∈ l, I64 b
/-- A list of texts. -/
def TPost (s : ByteArray) (R i e : Nat) (w : World) (x : Ending) (w' : World) : Prop :=
  ∃ (v : Value) (o : List Bs) (i' e' : Nat), x = .returned v ∧ w'.ownsRow w.heap.size 9 1 v o.length (strs o) ∧ o.length ≤ 65536 ∧ (∀ b ∈ o, b.length ≤ 65536) ∧ Rdr w' R s i' e' ∧ i' ≤ s.size ∧ Tch (On R) w w' ∧ Run (listP textP) (ab s i e) (ab s i' e') (fun m => m = o)
theorem onto_case {α : Type} {p : Pr α} {s : ByteArray} {j j' e' : Nat} {o : List α} {x : α} (h : Run p (ab s j 0) (ab s j' e') (fun m => m = x)) :
    (e' ≠ 0 ∧ onto p o (s.data.toList.drop j) = .error (s.data.toList.drop j', e')) ∨ (e' = 0 ∧ onto p o (s.data.toList.drop j) = .ok (o ++ [x], s.data.toList.drop j')) := by
  by_cases he : e' = 0
  · subst he
    obtain ⟨-, y, hp, rfl⟩ := h.inv
    exact Or.inr ⟨rfl, by rw [onto, hp]⟩
  · rw [ab_ok, ab_bad s j' he] at h
    simp only [Run] at h
    refine Or.inl ⟨he, ?_⟩
    rw [onto]
    cases hp : p (s.data.toList.drop j) with
    | error er => rw [hp] at h; injection h with h; rw [h]
    | ok v => rw [hp] at h; cases h.1
theorem own_len {w : World} {B n : Nat} {e : TypeId} {v : Value} {xs : List Value} (h : w.ownsRow B e 1 v n xs) : xs.length = n := by have := h.1; omega
theorem texts_c (R : Nat) (s : ByteArray) (i e : Nat) (w : World) (h : Rdr w R s i e) (his : i ≤ s.size) (hs : s.size ≤ 4611686018427387904) :
    Calls Try.prog 37 #[.pointer (some ⟨R, 0, none⟩), .func (.func 17) #[.pointer (some ⟨R, 0, none⟩)] #[]] w (TPost s R i e w) := by
  refine (list_Str R s i e (onto textP) Js (On R) [] (fun _ _ _ _ _ h => h) rfl w h his hs ⟨rfl, fun _ h => by cases h⟩ ?_).mono ?_
  · intro W j b cs hr hj _ hJ
    refine (text_c R s j 0 W hr hj hs).mono ?_
    rintro x w' ⟨t, j', e', rfl, ht, h', hj', T', r'⟩
    refine ⟨_, _, j', e', b ++ [t.data.toList], rfl, ⟨t, rfl, rfl⟩, h', hj', T', rdr_rows hr T' (by decide), ⟨?_, ?_⟩, onto_case r'⟩
    · rw [hJ.1, strs, strs, List.map_append]; simp [bz_of]
    · intro c hc
      rcases List.mem_append.1 hc with hc | hc
      · exact hJ.2 c hc
      · rw [List.mem_singleton] at hc; rw [hc, ← Lib.size_eq]; exact ht
  · rintro x w' ⟨v, n, cs, i', e', o, rfl, hown, hn, h', hi', T', ⟨rfl, hb⟩, r'⟩
    have hl := own_len hown
    rw [List.length_map] at hl
    subst hl
    exact ⟨v, o, i', e', rfl, hown, hn, hb, h', hi', T', run_eq (list_onto textP) r'⟩
end StaG
end Go.Proofs.Ytfkjogkpdebepaa
