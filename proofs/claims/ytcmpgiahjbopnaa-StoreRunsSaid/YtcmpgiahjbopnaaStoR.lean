/- A store's plain questions: Len, Get, Find, All; the reference's Find, Most. Conditions: few texts, texts that fit. -/
import Derived.Test.YtcmpgiahjbopnaaStoW
namespace Go.Proofs.Ytcmpgiahjbopnaa
set_option linter.unusedVariables false
set_option linter.unusedSimpArgs false
open Go.RowKit
namespace StoW
open StoP
theorem ows_rd {w : World} {B : Nat} {v : Value} {X : List ByteArray} (h : w.ownsRow B 9 1 v X.length (X.map Value.string)) : ∃ A c, v = .slice A X.length c ∧ X.length ≤ c ∧ c ≤ maxLen ∧ Rd w w.heap.size 1 A X.length (X.map Value.string) ∧ (∀ g, v.ownBlock = some g → B ≤ g ∧ g < w.heap.size) := by
  have hlt := h.lt
  rcases h.2 with ⟨h1, h2⟩ | ⟨g, cap, cur, h1, h2, h3, h4, h5, h6, h7⟩
  · refine ⟨none, 0, by rw [h1, h2], by omega, by omega, ?_, hlt⟩
    have : X = [] := List.eq_nil_of_length_eq_zero h2
    subst this; exact Rd.nil
  · refine ⟨some ⟨g, 0, none⟩, cap, h1, h4, h5, ⟨by simp, fun _ => ⟨_, rfl, (Array.getElem?_eq_some_iff.1 h3).1, ?_⟩⟩, hlt⟩
    intro j u hu
    exact h.cells (by rw [h1]; rfl) j u hu
theorem ows_far {w : World} {B : Nat} {v : Value} {t : TypeId} {z n : Nat} {cs : List Value} (h : w.ownsRow B t z v n cs) (p : Addr) (hp : ∀ g, v.ownBlock = some g → g ≠ p.block) (u : Value) : (w.setCell p u).ownsRow B t z v n cs := by
  refine h.kept (row := some p.block) ⟨rfl, rfl, rfl, by simp [World.setCell], fun j hj hne => Below.heap_setCell w p u j (fun e => hne (by rw [e]))⟩ ?_
  cases e : v.ownBlock with
  | none => exact .inl rfl
  | some g => exact .inr (fun e2 => hp g e (Option.some.inj e2))
/-- The row lies as it lay where its block does. -/
theorem ows_tch {w w' : World} {S : Nat → Prop} {B : Nat} {v : Value} {t : TypeId} {z n : Nat} {cs : List Value} (h : w.ownsRow B t z v n cs) (k : Tch S w w') (hs : ∀ g, v.ownBlock = some g → ¬ S g) : w'.ownsRow B t z v n cs := by
  cases e : v.ownBlock with
  | none =>
    refine ⟨h.1, ?_⟩
    rcases h.2 with h2 | ⟨g, cap, cur, h1, _⟩
    · exact .inl h2
    · rw [h1] at e; cases e
  | some g =>
    refine ⟨h.1, ?_⟩
    rcases h.2 with h2 | ⟨g', cap, cur, h1, h2, h3, h4⟩
    · rw [h2.1] at e; cases e
    · have e2 : g' = g := by rw [h1] at e; injection e
      subst e2
      exact .inr ⟨g', cap, cur, h1, h2, (k.block g' (Array.getElem?_eq_some_iff.1 h3).1 (hs _ e)).trans h3, h4⟩
set_option maxHeartbeats 400000 in
theorem len_c (R : Nat) (cs : Array Value) (A : Option Addr) (n c : Nat) (w : World) (hb : Blk w R 53 cs) (h4 : cs[4]? = some (.slice A n c)) :
    Calls Try.prog 11 #[.pointer (some ⟨R, 0, none⟩)] w fun e w' => e = .returned (.int .i64 n) ∧ w = w' := by
  have u4 := hb.cell 4
  rw [h4] at u4
  go_enter Try.func11, Try.ntmps11
  go_wp2
  go_ret
  exact ⟨rfl, rfl⟩
theorem len0_c (w : World) : Calls Try.prog 11 #[.pointer none] w fun e w' => e = .returned (.int .i64 0) ∧ w = w' := by
  go_enter Try.func11, Try.ntmps11
  go_wp2
  go_ret
  exact ⟨rfl, rfl⟩
theorem get0_c (k : Int) (w : World) : Calls Try.prog 12 #[.pointer none, .int .i64 k] w fun e w' => e = .returned (.tuple #[.string ByteArray.empty, .bool false]) ∧ w = w' := by
  go_enter Try.func12, Try.ntmps12
  go_wp2
  go_ret2
  exact ⟨rfl, rfl⟩
theorem find0_c (key : ByteArray) (w : World) : Calls Try.prog 9 #[.pointer none, .string key] w fun e w' => e = .returned (.tuple #[.int .i64 0, .bool false]) ∧ w = w' := by
  go_enter Try.func9, Try.ntmps9
  go_wp2
  go_ret2
  exact ⟨rfl, rfl⟩
theorem add0_c (key : ByteArray) (w : World) : Calls Try.prog 7 #[.pointer none, .string key] w fun e w' => e = .returned (.tuple #[.int .i64 0, .bool false, .int .i64 5]) ∧ w = w' := by
  go_enter Try.func7, Try.ntmps7
  go_wp2
  go_returns
  exact ⟨rfl, rfl⟩
set_option maxHeartbeats 400000 in
theorem get_yes (R : Nat) (cs : Array Value) (A : Option Addr) (c k : Nat) (X : List ByteArray) (x : ByteArray) (w : World) (hb : Blk w R 53 cs) (h4 : cs[4]? = some (.slice A X.length c)) (hX : Rd w w.heap.size 1 A X.length (X.map Value.string)) (hk : X[k]? = some x) (hl : X.length ≤ 1000000) :
    Calls Try.prog 12 #[.pointer (some ⟨R, 0, none⟩), .int .i64 k] w fun e w' => e = .returned (.tuple #[.string x, .bool true]) ∧ w = w' := by
  have u4 := hb.cell 4
  rw [h4] at u4
  have hkl := (List.getElem?_eq_some_iff.1 hk).1
  obtain ⟨ad, y, rfl, hadb, hx, cx⟩ := hX.str hkl
  have : x = y := by rw [hk] at hx; injection hx
  subst this
  clear hx hk
  have d1 : decide ((k : Int) < 0) = false := by simp
  have d2 : decide (X.length ≤ k) = false := decide_eq_false (by omega)
  have d3 : decide ((k : Int) ≥ (X.length : Int)) = false := decide_eq_false (by omega)
  go_enter Try.func12, Try.ntmps12
  go_wp2
  go_ret2
  exact ⟨rfl, rfl⟩
set_option maxHeartbeats 400000 in
theorem get_no (R : Nat) (cs : Array Value) (A : Option Addr) (n c : Nat) (k : Int) (w : World) (hb : Blk w R 53 cs) (h4 : cs[4]? = some (.slice A n c)) (hk : k < 0 ∨ (n : Int) ≤ k) :
    Calls Try.prog 12 #[.pointer (some ⟨R, 0, none⟩), .int .i64 k] w fun e w' => e = .returned (.tuple #[.string ByteArray.empty, .bool false]) ∧ w = w' := by
  have u4 := hb.cell 4
  rw [h4] at u4
  rcases hk with hk | hk
  · have d1 : decide (k < 0) = true := decide_eq_true hk
    go_enter Try.func12, Try.ntmps12
    go_wp2
    go_ret2
    exact ⟨rfl, rfl⟩
  · have d1 : decide (k < 0) = false := decide_eq_false (by omega)
    have d2 : decide ((n : Int) ≤ k) = true := decide_eq_true hk
    have d3 : decide (k ≥ (n : Int)) = true := decide_eq_true hk
    go_enter Try.func12, Try.ntmps12
    go_wp2
    go_ret2
    exact ⟨rfl, rfl⟩
set_option maxHeartbeats 400000 in
theorem all_c (p : Option Addr) (w : World) : Calls Try.prog 13 #[.pointer p] w fun e w' => e = .returned (.func (.func 17) #[] #[.pointer (some ⟨w.heap.size, 0, none⟩)]) ∧ w' = w.alloc (.cells #[.pointer p] 29) := by
  go_enter Try.func13, Try.ntmps13
  go_wp2
  go_ret
  exact ⟨rfl, rfl⟩
def mostI (n : Int) : Int := if n < 1 then 1 else if n > 4000 then 4000 else n
theorem mostI_in (n : Int) : 1 ≤ mostI n ∧ mostI n ≤ 4000 := by
  unfold mostI; split
  · omega
  split <;> omega
set_option maxHeartbeats 400000 in
theorem rmost_c (n : Int) (w : World) : Calls Try.prog 16 #[.int .i64 n] w fun e w' => e = .returned (.int .i64 (mostI n)) ∧ w = w' := by
  unfold mostI
  by_cases h1 : n < 1
  · have d1 : decide (n < 1) = true := decide_eq_true h1
    rw [if_pos h1]
    clear h1
    go_enter Try.func16, Try.ntmps16
    go_wp2
    go_ret
    exact ⟨rfl, rfl⟩
  · have d1 : decide (n < 1) = false := decide_eq_false h1
    rw [if_neg h1]
    by_cases h2 : n > 4000
    · have d2 : decide (n > 4000) = true := decide_eq_true h2
      have d3 : decide (4000 < n) = true := decide_eq_true h2
      rw [if_pos h2]
      clear h1 h2
      go_enter Try.func16, Try.ntmps16
      go_wp2
      go_ret
      exact ⟨rfl, rfl⟩
    · have d2 : decide (n > 4000) = false := decide_eq_false h2
      have d3 : decide (4000 < n) = false := decide_eq_false h2
      rw [if_neg h2]
      clear h1 h2
      go_enter Try.func16, Try.ntmps16
      go_wp2
      go_ret
      exact ⟨rfl, rfl⟩
theorem findI_first {X : List Bs} {key : Bs} {i : Nat} (h : X[i]? = some key) (hb : ∀ j, j < i → X[j]? ≠ some key) : findI X key = i := by
  have hm := List.mem_of_getElem? h
  unfold findI
  rw [if_pos hm]
  have h1 : X.idxOf key < X.length := List.idxOf_lt_length_iff.2 hm
  have h2 : X[X.idxOf key]? = some key := by rw [List.getElem?_eq_getElem h1, List.getElem_idxOf h1]
  have h3 : ¬ X.idxOf key < i := fun hl => hb _ hl h2
  have h4 : X.idxOf key ≤ i := by
    by_cases hl : X.idxOf key ≤ i
    · exact hl
    · exfalso
      have hil : i < X.idxOf key := by omega
      obtain ⟨hi, e⟩ := List.getElem?_eq_some_iff.1 h
      have := List.not_of_lt_findIdx (p := (· == key)) (xs := X) hil
      simp [e] at this
  omega
set_option maxHeartbeats 800000 in
theorem rfind_c (A : Option Addr) (B c : Nat) (X : List ByteArray) (key : ByteArray) (w : World) (hX : Rd w B 1 A X.length (X.map Value.string)) (hl : X.length ≤ 9223372036854775807) :
    Calls Try.prog 10 #[.slice A X.length c, .string key] w fun e w' => e = .returned (.int .i64 (findI (X.map bs) (bs key))) ∧ w = w' := by
  obtain ⟨F, hF⟩ : ∃ F, findI (X.map bs) (bs key) = F := ⟨_, rfl⟩
  rw [hF]
  have HF := Lib.hid hF
  clear hF
  obtain ⟨n, hn⟩ : ∃ n, X.length = n := ⟨_, rfl⟩
  rw [hn] at hX hl ⊢
  have HN := Lib.hid hn
  clear hn
  go_enter Try.func10, Try.ntmps10
  go_wp2
  go_loop [5] (fun iv => ∃ i : Nat, iv = .int .i64 i ∧ i ≤ n ∧ Hid (∀ j, j < i → (X.map bs)[j]? ≠ some (bs key))) (fun iv => n - (intOf iv).toNat)
  case atStart => exact ⟨0, rfl, by omega, Lib.hid (fun _ h => absurd h (Nat.not_lt_zero _))⟩
  case round =>
    obtain ⟨i, rfl, hi, hno⟩ := hrel
    by_cases hlt : i < n
    · obtain ⟨ad, x, rfl, hadb, hx, cx⟩ := hX.str hlt
      have HX2 := Lib.hid hx
      clear hx
      by_cases hk2 : bs x = bs key
      · have tk : (x.toList == key.toList) = true := by rw [str_eq_bool, decide_eq_true hk2]
        have hr : F = i := by rw [← HF.out]; exact findI_first (by rw [List.getElem?_map, HX2.out, Option.map_some, hk2]) hno.out
        clear hk2 HF
        subst hr
        go_wp2
        go_ret
        exact ⟨rfl, rfl⟩
      · have tk : (x.toList == key.toList) = false := by rw [str_eq_bool, decide_eq_false hk2]
        have hno2 : Hid (∀ j, j < i + 1 → (X.map bs)[j]? ≠ some (bs key)) := Lib.hid (fun j hj => by
          by_cases e : j = i
          · subst e; rw [List.getElem?_map, HX2.out, Option.map_some]; exact fun e => hk2 (Option.some.inj e)
          · exact hno.out j (by omega))
        clear hk2
        go_wp2
        go_round
        case rel => exact ⟨i + 1, by go_num, by omega, hno2⟩
        case measure => simp [intOf]; omega
    · have hin : i = n := by omega
      have hr : F = -1 := by
        rw [← HF.out]
        apply findI_no
        intro hm
        obtain ⟨j, hj, e⟩ := List.getElem_of_mem hm
        rw [List.length_map, HN.out] at hj
        exact hno.out j (by omega) (by rw [List.getElem?_eq_getElem (by rw [List.length_map, HN.out]; exact hj), e])
      clear HF
      subst hr
      have d : decide ((i : Int) < (n : Int)) = false := decide_eq_false (by omega)
      clear hin
      go_wp2
      go_ret
      exact ⟨rfl, rfl⟩
end StoW
end Go.Proofs.Ytcmpgiahjbopnaa
