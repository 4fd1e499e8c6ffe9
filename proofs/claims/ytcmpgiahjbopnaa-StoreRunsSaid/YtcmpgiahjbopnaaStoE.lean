/- The reference adds a text: the walk of its Add. Conditions: few texts, texts that fit. -/
import Derived.Test.YtcmpgiahjbopnaaStoD
namespace Go.Proofs.Ytcmpgiahjbopnaa
set_option linter.unusedVariables false
set_option linter.unusedSimpArgs false
open Go.RowKit
namespace StoW
open StoP
theorem new2_first (w : World) (o o' : Obj) (t : TypeId) (u : Value) (r : Array Value) : ((((w.alloc o).alloc o').alloc (.cells (#[u] ++ r) t)).drew).cell? ((⟨w.heap.size + 1 + 1, 0, none⟩ : Addr).add 0) = some u := by
  have h := ((Blk.new2 w o o' t (#[u] ++ r)).drewN 1).cell 0
  rw [Array.getElem?_append_left (Nat.zero_lt_one)] at h
  exact h
def RAddPost (A : Option Addr) (X : List ByteArray) (most : Int) (key : ByteArray) (w : World) (e : Ending) (w' : World) : Prop :=
  ∃ (i : Int) (f : Bool) (er : Int) (X' : List ByteArray) (A' : Option Addr) (c' : Nat), addS X (mostI most) key = (i, f, er, X') ∧ e = .returned (.tuple #[.slice A' X'.length c', .int .i64 i, .bool f, .int .i64 er]) ∧
    Rd w' w'.heap.size 1 A' X'.length (X'.map Value.string) ∧ Below w.heap.size w w' ∧ (A' = A ∧ X' = X ∨ ∀ ad, A' = some ad → w.heap.size ≤ ad.block)
set_option maxRecDepth 100000 in
set_option maxHeartbeats 4000000 in
theorem radd_c (A : Option Addr) (c : Nat) (X : List ByteArray) (most : Int) (key : ByteArray) (w : World) (hX : Rd w w.heap.size 1 A X.length (X.map Value.string)) (hl : X.length ≤ 4000) :
    Calls Try.prog 8 #[.slice A X.length c, .int .i64 most, .string key] w (RAddPost A X most key w) := by
  have cf := rfind_c A w.heap.size c X key w hX (by omega)
  have cm := rmost_c most
  have HADD : Hid (∀ i, findI (X.map bs) (bs key) = i → (0 ≤ i ∧ addS X (mostI most) key = (i, false, 0, X)) ∨ (i = -1 ∧ mostI most ≤ X.length ∧ addS X (mostI most) key = (0, false, 9, X)) ∨ (i = -1 ∧ ¬ mostI most ≤ X.length ∧ addS X (mostI most) key = ((X.length : Int), true, 0, X ++ [key]))) := Lib.hid (by
    intro i hi
    by_cases hm : bs key ∈ X.map bs
    · left
      have : 0 ≤ i := by rw [← hi]; unfold findI; rw [if_pos hm]; omega
      exact ⟨this, addS_old hi this⟩
    · right
      have : i = -1 := by rw [← hi, findI_no hm]
      by_cases hf : mostI most ≤ X.length
      · exact .inl ⟨this, hf, addS_full hm hf⟩
      · exact .inr ⟨this, hf, addS_new hm hf⟩)
  obtain ⟨i, hi⟩ : ∃ i, findI (X.map bs) (bs key) = i := ⟨_, rfl⟩
  rw [hi] at cf
  have hc := HADD.out i hi
  clear HADD hi
  obtain ⟨K, hK⟩ : ∃ K, mostI most = K := ⟨_, rfl⟩
  rw [hK] at hc cm
  have HK := Lib.hid hK
  clear hK
  obtain ⟨i0, hi0, hz0, hz1, hz2⟩ := info_parts info_Str
  have HX := Lib.hid hX
  have HXA : A = none → X.length = 0 := fun e => by
    by_cases h : 0 < X.length
    · obtain ⟨ad, e2, _⟩ := hX.2 h; rw [e] at e2; cases e2
    · omega
  have HXA2 := Lib.hid HXA
  clear hX HXA
  rcases hc with ⟨h0, ha⟩ | ⟨rfl, hf, ha⟩ | ⟨rfl, hf, ha⟩
  · have HA := Lib.hid ha
    clear ha
    have d1 : decide (i ≥ 0) = true := decide_eq_true h0
    have d2 : decide (0 ≤ i) = true := decide_eq_true h0
    go_enter Try.func8, Try.ntmps8
    go_wp2_with fail
    (with_reducible refine cf.mono ?_)
    rintro e w' ⟨rfl, rfl⟩
    clear cf
    go_wp2_with fail
    go_returns
    exact ⟨i, false, 0, X, A, c, by rw [HK.out]; exact HA.out, rfl, HX.out, Below.refl _ _, .inl ⟨rfl, rfl⟩⟩
  · have HA := Lib.hid ha
    clear ha
    have d1 : decide (K ≤ (X.length : Int)) = true := decide_eq_true hf
    have d2 : decide ((X.length : Int) ≥ K) = true := decide_eq_true hf
    go_enter Try.func8, Try.ntmps8
    go_wp2_with fail
    (with_reducible refine cf.mono ?_)
    rintro e w' ⟨rfl, rfl⟩
    clear cf
    have cm := cm w
    go_wp2_with fail
    (with_reducible refine cm.mono ?_)
    rintro e w' ⟨rfl, rfl⟩
    clear cm
    go_wp2_with fail
    go_returns
    exact ⟨0, false, 9, X, A, c, by rw [HK.out]; exact HA.out, rfl, HX.out, Below.refl _ _, .inl ⟨rfl, rfl⟩⟩
  · have HA := Lib.hid ha
    clear ha
    have d1 : decide (K ≤ (X.length : Int)) = false := decide_eq_false hf
    have d2 : decide ((X.length : Int) ≥ K) = false := decide_eq_false hf
    go_enter Try.func8, Try.ntmps8
    go_wp2_with fail
    (with_reducible refine cf.mono ?_)
    rintro e w' ⟨rfl, rfl⟩
    clear cf
    have cm := cm w
    go_wp2_with fail
    (with_reducible refine cm.mono ?_)
    rintro e w' ⟨rfl, rfl⟩
    clear cm
    have own0 : (w.alloc (.cells #[] 9)).ownsRow w.heap.size 9 1 (.slice (some ⟨w.heap.size, 0, none⟩) 0 0) 0 [] := World.ownsRow_made w #[] 0 (Nat.le_refl _) (Nat.zero_le _) (by simp)
    have X1 := HX.out.alloc (Nat.le_refl _) (.cells #[] 9)
    have B1 : Below w.heap.size w (w.alloc (.cells #[] 9)) := by go_grown
    have hnews : ∀ (w2 : World), ∀ (i : Nat) (u : Value), ([.string key] : List Value)[i]? = some u → (w2.alloc (.cells #[.string key] 9)).cell? ((⟨w2.heap.size, 0, none⟩ : Addr).add i) = some u := by
      intro w2 i u hu
      have k1 := Blk.new w2 9 #[.string key]
      cases i with
      | zero => have := k1.cell 0; simpa [Addr.add] using this.trans hu
      | succ i => simp at hu
    have HNW := Lib.hid hnews
    clear hnews
    cases A with
    | none =>
      have hx0 := HXA2.out rfl
      have hx1 : X = [] := List.eq_nil_of_length_eq_zero hx0
      subst hx1
      simp only [List.length_nil] at hx0 d1 d2 hf ⊢
      clear own0 B1 X1
      go_wp2_with fail
      go_returns
      refine ⟨0, true, 0, [key], some ⟨w.heap.size + 1 + 1, 0, none⟩, _, by rw [HK.out]; exact HA.out, rfl, ⟨by simp, fun _ => ⟨_, rfl, by show _ < (World.alloc _ _).heap.size; simp, ?_⟩⟩, below_dn (by go_grown) 1, .inr (fun ad e => by injection e with e; rw [← e]; simp; omega)⟩
      intro j u hu
      cases j with
      | succ j => simp at hu
      | zero =>
        simp at hu
        subst hu
        exact new2_first _ _ _ _ _ _
    | some ad =>
      have hcells : ∀ (j : Nat) (u : Value), (X.map Value.string)[j]? = some u → (w.alloc (.cells #[] 9)).cell? (ad.add j) = some u := by
        intro j u hu
        have hn : 0 < X.length := by
          have := (List.getElem?_eq_some_iff.1 hu).1
          rw [List.length_map] at this; omega
        obtain ⟨ad2, e2, _, hc⟩ := X1.2 hn
        injection e2 with e2
        rw [e2]; exact hc j u hu
      go_wp2_with (at_builtin; refine wpList_append_own _ rfl (.tmp 24) (.tmp 25) 25 rfl w.heap.size 9 i0 (.string ⟨#[]⟩) 1 16 Try.underlying25 hi0 hz0 hz1 hz2 rfl (by decide) _ 0 [] rfl own0 ad X.length c (X.map Value.string) rfl (by simp) hcells (by intro u hu; obtain ⟨x, _, rfl⟩ := List.mem_map.1 hu; rfl) (by unfold maxLen; omega) (by omega) (by simp) ?_)
      intro v2 w2 own2 hgrow2 _
      have B2 : Below w.heap.size w w2 := B1.grown hgrow2 B1.size (fun k hk => by have := (own0.lt k hk).1; omega)
      clear own0 hgrow2 B1 X1 hcells
      have hnews := HNW.out w2
      have own3 : (w2.alloc (.cells #[.string key] 9)).ownsRow w.heap.size 9 1 v2 X.length (X.map Value.string) := ows_tch own2 ((Tch.refl (fun _ => False) w2).alloc _) (fun _ _ h => h)
      have B3 := B2.alloc B2.size (.cells #[.string key] 9)
      go_wp2_with (at_builtin; refine wpList_append_own _ rfl (.tmp 26) (.tmp 28) 25 rfl w.heap.size 9 i0 (.string ⟨#[]⟩) 1 16 Try.underlying25 hi0 hz0 hz1 hz2 rfl (by decide) _ X.length (X.map Value.string) rfl own3 ⟨w2.heap.size, 0, none⟩ 1 1 [.string key] rfl rfl hnews (by intro u hu; simp at hu; subst hu; rfl) (by unfold maxLen; omega) (by omega) (by have := B3.size; exact this) ?_)
      intro v4 w4 own4 hgrow4 _
      have B4 : Below w.heap.size w w4 := B3.grown hgrow4 B3.size (fun k hk => by have := (own3.lt k hk).1; omega)
      have own5 : w4.ownsRow w.heap.size 9 1 v4 (X ++ [key]).length ((X ++ [key]).map Value.string) := by
        rw [List.length_append, List.map_append]; exact own4
      obtain ⟨A5, c5, rfl, _, _, X5, hl5⟩ := ows_rd own5
      have hfr : A5 = some ad ∧ X ++ [key] = X ∨ ∀ a, A5 = some a → w.heap.size ≤ a.block := .inr (fun a e => by
        subst e
        rcases own5.2 with ⟨e1, _⟩ | ⟨g1, cap1, cur1, e1, hb1, _⟩
        · cases e1
        · injection e1 with e1; injection e1 with e1; rw [e1]; exact hb1)
      clear own2 own3 own4 own5 hgrow4 B2 B3 hnews
      go_wp2_with fail
      go_returns
      exact ⟨X.length, true, 0, X ++ [key], A5, c5, by rw [HK.out]; exact HA.out, by rw [List.length_append]; rfl, X5, B4, hfr⟩
end StoW
end Go.Proofs.Ytcmpgiahjbopnaa
