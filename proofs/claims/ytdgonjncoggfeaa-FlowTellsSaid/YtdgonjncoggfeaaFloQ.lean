/- A queue of numbers that a function owns, taken from its front: its laws. No condition. -/
import Derived.Test.YtdgonjncoggfeaaFloI
import Derived.Test.YtdgonjncoggfeaaOwn
import Derived.ArgAppend
namespace Go.Proofs.Ytdgonjncoggfeaa
set_option linter.unusedVariables false
set_option linter.unusedSimpArgs false
open Go.RowKit
namespace FloW
open FloP
theorem put_len_new {x : Int} : ∀ {l : List Int}, x ∉ l → (putS x l).length = l.length + 1 := by
  intro l
  induction l with
  | nil => intro _; rfl
  | cons y l ih =>
    intro h
    rw [putS]
    split
    · rw [List.length_cons, ih (fun e => h (List.mem_cons_of_mem _ e)), List.length_cons]
    split
    · next e => exact absurd (by rw [e]; exact List.mem_cons_self ..) h
    · simp
/-- A queue in block g: some of the block's cells. -/
def TQ (w : World) (B : Nat) (v : Value) (L : List Int) (g : Nat) : Prop := ∃ o cap cur, v = .slice (some ⟨g, o, none⟩) L.length cap ∧ B ≤ g ∧ L.length ≤ cap ∧ cap ≤ maxLen ∧ Blk w g 3 cur ∧ o + cap ≤ cur.size ∧ ∀ j x, L[j]? = some x → cur[o + j]? = some (.int .i64 x)
/-- A list that is read and does not lie in block g. -/
def RdN (w : World) (v : Value) (L : List Int) (g : Nat) : Prop := ∃ A c, v = .slice A L.length c ∧ L.length ≤ c ∧ c ≤ maxLen ∧ Ils w w.heap.size A L.length L ∧ (A = none → c = 0) ∧ ∀ ad, A = some ad → L ≠ [] → ad.block ≠ g
theorem RdN.rd {w : World} {v : Value} {L : List Int} {g : Nat} (h : RdN w v L g) : RdL w v L := by
  obtain ⟨A, c, h1, h2, h3, h4, h5, _⟩ := h
  exact ⟨A, c, h1, h2, h3, h4, h5⟩
theorem RdN.next {w w' : World} {v : Value} {L : List Int} {g : Nat} (h : RdN w v L g) (b : Below w.heap.size w w') : RdN w' v L g := by
  obtain ⟨A, c, h1, h2, h3, h4, h5, h6⟩ := h
  exact ⟨A, c, h1, h2, h3, (h4.below b).more b.size, h5, h6⟩
theorem RdN.nil (w : World) (g : Nat) : RdN w (.slice none 0 0) [] g := ⟨none, 0, rfl, by simp, by simp, Rd.nil, fun _ => rfl, fun _ h => by cases h⟩
theorem RdN.of {w : World} {B : Nat} {v : Value} {L : List Int} {g : Nat} (h : OwnI w B v L) (hg : g < B) : RdN w v L g := by
  obtain ⟨A, c, h1, h2, h3, h4, h5⟩ := RdL.of h
  obtain ⟨_, _, e1, _, _, _, hlt⟩ := owi_rd h
  refine ⟨A, c, h1, h2, h3, h4, h5, fun ad e hne => ?_⟩
  rcases h.2 with ⟨e2, h0⟩ | ⟨g', cap, cur, e2, hb, _⟩
  · exact absurd (List.eq_nil_of_length_eq_zero h0) hne
  · rw [h1] at e2; injection e2 with e3 _ _
    rw [e] at e3; injection e3 with e3
    rw [e3]; simp only; omega
/-- What is put within a block leaves lists in other blocks as they were. -/
theorem RdN.tch {w w' : World} {v : Value} {L : List Int} {g : Nat} (h : RdN w v L g) (k : Tch (fun b => b = g) w w') : RdN w' v L g := by
  obtain ⟨A, c, h1, h2, h3, h4, h5, h6⟩ := h
  refine ⟨A, c, h1, h2, h3, ⟨h4.1, fun hn => ?_⟩, h5, h6⟩
  obtain ⟨ad, e, hb, hc⟩ := h4.2 hn
  have hne := h6 ad e (by intro e2; rw [e2] at hn; simp at hn)
  refine ⟨ad, e, Nat.lt_of_lt_of_le hb k.size, fun i u hu => ?_⟩
  have := hc i u hu
  rw [← this]
  unfold World.cell?
  rw [add_block, k.block ad.block hb hne]
theorem TQ.next {w w' : World} {B : Nat} {v : Value} {L : List Int} {g : Nat} (h : TQ w B v L g) (b : Below w.heap.size w w') : TQ w' B v L g := by
  obtain ⟨o, cap, cur, h1, h2, h3, h4, h5, h6, h7⟩ := h
  exact ⟨o, cap, cur, h1, h2, h3, h4, h5.next b, h6, h7⟩
/-- The front taken. -/
theorem TQ.front {w : World} {B o cap : Nat} {t : Int} {L : List Int} {g : Nat} {cur : Array Value} (hB : B ≤ g) (hl : L.length + 1 ≤ cap) (hm : cap ≤ maxLen) (hb : Blk w g 3 cur) (hs : o + cap ≤ cur.size) (hc : ∀ j x, (t :: L)[j]? = some x → cur[o + j]? = some (.int .i64 x)) :
    w.cell? ⟨g, o, none⟩ = some (.int .i64 t) ∧ TQ w B (.slice (some ⟨g, o + 1, none⟩) L.length (cap - 1)) L g ∧ (cap = 1 → TQ w B (.slice (some ⟨g, o, none⟩) L.length 0) L g) := by
  refine ⟨?_, ⟨o + 1, cap - 1, cur, rfl, hB, by omega, by omega, hb, by omega, fun j x hj => ?_⟩, fun h1 => ⟨o, 0, cur, rfl, hB, by omega, by simp, hb, by omega, fun j x hj => by have := (List.getElem?_eq_some_iff.1 hj).1; omega⟩⟩
  · rw [hb.cell]; exact hc 0 t rfl
  · rw [show o + 1 + j = o + (j + 1) by omega]; exact hc (j + 1) x (by simpa using hj)
/-- More put behind it where there is room. -/
theorem TQ.room {w : World} {B o cap : Nat} {L M : List Int} {g : Nat} {cur : Array Value} (hB : B ≤ g) (hl : L.length + M.length ≤ cap) (hm : cap ≤ maxLen) (hb : Blk w g 3 cur) (hs : o + cap ≤ cur.size) (hc : ∀ j x, L[j]? = some x → cur[o + j]? = some (.int .i64 x)) :
    TQ (w.setCells g (o + L.length) (M.map (Value.int .i64))) B (.slice (some ⟨g, o, none⟩) (L.length + M.length) cap) (L ++ M) g ∧ Tch (fun b => b = g) w (w.setCells g (o + L.length) (M.map (Value.int .i64))) := by
  obtain ⟨cs', h1, h2⟩ := Own.put (t := 3) (g := g) (M.map (Value.int .i64)) (o + L.length) w cur hb (by rw [List.length_map]; omega)
  have hcl : cur.toList.length = cur.size := Array.length_toList
  have hsz : cs'.size = cur.size := by
    have := congrArg List.length h2
    rw [Own.splice_len (by rw [List.length_map, hcl]; omega)] at this
    simpa using this
  refine ⟨⟨o, cap, cs', by rw [List.length_append], hB, by rw [List.length_append]; exact hl, hm, h1, by omega, fun j x hj => ?_⟩, Own.tch_cells (S := fun b => b = g) rfl _ _ _ (Tch.refl _ _)⟩
  have hjl := (List.getElem?_eq_some_iff.1 hj).1
  rw [List.length_append] at hjl
  rw [← Array.getElem?_toList, h2]
  unfold Own.splice
  by_cases h : j < L.length
  · rw [List.getElem?_append_left h] at hj
    rw [List.append_assoc, List.getElem?_append_left (by rw [List.length_take, hcl]; omega), List.getElem?_take_of_lt (by omega), Array.getElem?_toList]
    exact hc j x hj
  · rw [List.getElem?_append_right (by omega)] at hj
    have e1 : (cur.toList.take (o + L.length)).length = o + L.length := by rw [List.length_take, hcl]; omega
    rw [List.getElem?_append_left (by rw [List.length_append, e1, List.length_map]; omega), List.getElem?_append_right (by rw [e1]; omega), e1, List.getElem?_map, show o + j - (o + L.length) = j - L.length by omega, hj]
    rfl
/-- A row of the call's own is a queue. -/
theorem TQ.of {w : World} {B : Nat} {v : Value} {L : List Int} (h : OwnI w B v L) (hne : v ≠ .slice none 0 0) : ∃ g, TQ w B v L g := by
  rcases h.2 with ⟨e, _⟩ | ⟨g, cap, cur, e, h2, h3, h4, h5, h6, h7⟩
  · exact absurd e hne
  · refine ⟨g, 0, cap, cur, e, h2, h4, h5, h3, by omega, fun j x hj => ?_⟩
    have hjl := (List.getElem?_eq_some_iff.1 hj).1
    have h8 : (cur.toList.take (L.length * 1))[j]? = (L.map (Value.int .i64))[j]? := by rw [h7]
    rw [List.getElem?_take_of_lt (by omega), List.getElem?_map, hj, Array.getElem?_toList] at h8
    rw [Nat.zero_add]; exact h8
end FloW
end Go.Proofs.Ytdgonjncoggfeaa
