/- The walks of state's lists of numbers, of variables and of sides. Conditions: texts that fit. -/
import Derived.Test.YtfkjogkpdebepaaStaS
import Derived.Test.YtfkjogkpdebepaaStaLInt
import Derived.Test.YtfkjogkpdebepaaStaLVar
import Derived.Test.YtfkjogkpdebepaaStaLSide
namespace Go.Proofs.Ytfkjogkpdebepaa
open Go.RowKit
namespace StaG
open StaP StaR StaN StaL StaV StaA
/-- A list of numbers. -/
def IPost (s : ByteArray) (R i e : Nat) (w : World) (x : Ending) (w' : World) : Prop :=
  ∃ (v : Value) (o : List Int) (i' e' : Nat), x = .returned v ∧ w'.ownsRow w.heap.size 3 1 v o.length (ints o) ∧ o.length ≤ 65536 ∧ (∀ b ∈ o, I64 b) ∧ Rdr w' R s i' e' ∧ i' ≤ s.size ∧ Tch (On R) w w' ∧ Run (listP numP) (ab s i e) (ab s i' e') (fun m => m = o)
theorem ints_c (R : Nat) (s : ByteArray) (i e : Nat) (w : World) (h : Rdr w R s i e) (his : i ≤ s.size) (hs : s.size ≤ 4611686018427387904) :
    Calls Try.prog 18 #[.pointer (some ⟨R, 0, none⟩), .func (.func 14) #[.pointer (some ⟨R, 0, none⟩)] #[]] w (IPost s R i e w) := by
  refine (list_Int R s i e (onto numP) Ji (On R) [] (fun _ _ _ _ _ h => h) rfl w h his hs ⟨rfl, fun _ h => by cases h⟩ ?_).mono ?_
  · intro W j b cs hr hj _ hJ
    refine (num_c R s j 0 W hr hj hs).mono ?_
    rintro x w' ⟨t, j', e', rfl, ht, h', hj', T', r'⟩
    refine ⟨_, _, j', e', b ++ [t], rfl, ⟨t, rfl, rfl⟩, h', hj', T', rdr_rows hr T' (by decide), ⟨?_, ?_⟩, onto_case r'⟩
    · rw [hJ.1, ints, ints, List.map_append]; rfl
    · intro c hc
      rcases List.mem_append.1 hc with hc | hc
      · exact hJ.2 c hc
      · rw [List.mem_singleton] at hc; rw [hc]; exact ht
  · rintro x w' ⟨v, n, cs, i', e', o, rfl, hown, hn, h', hi', T', ⟨rfl, hb⟩, r'⟩
    have hl := own_len hown
    rw [List.length_map] at hl
    subst hl
    exact ⟨v, o, i', e', rfl, hown, hn, hb, h', hi', T', run_eq (list_onto numP) r'⟩
abbrev MVr := Bs × Bs
def vcells (l : List MVr) : List Value := l.flatMap fun p => [.string (bz p.1), .string (bz p.2)]
theorem vcells_len (l : List MVr) : (vcells l).length = l.length * 2 := by
  induction l with
  | nil => rfl
  | cons p l ih => rw [vcells, List.flatMap_cons, List.length_append]; rw [vcells] at ih; rw [ih]; simp; omega
def VOk (p : MVr) : Prop := p.1.length ≤ 65536 ∧ p.2.length ≤ 65536
def Jv (_ : World) (l : List MVr) (cs : List Value) : Prop := cs = vcells l ∧ ∀ b ∈ l, VOk b
/-- A list of variables. -/
def WPost (s : ByteArray) (R i e : Nat) (w : World) (x : Ending) (w' : World) : Prop :=
  ∃ (v : Value) (o : List MVr) (i' e' : Nat), x = .returned v ∧ w'.ownsRow w.heap.size 45 2 v o.length (vcells o) ∧ o.length ≤ 65536 ∧ (∀ b ∈ o, VOk b) ∧ Rdr w' R s i' e' ∧ i' ≤ s.size ∧ Tch (On R) w w' ∧ Run (listP varP) (ab s i e) (ab s i' e') (fun m => m = o)
theorem vars_c (R : Nat) (s : ByteArray) (i e : Nat) (w : World) (h : Rdr w R s i e) (his : i ≤ s.size) (hs : s.size ≤ 4611686018427387904) :
    Calls Try.prog 15 #[.pointer (some ⟨R, 0, none⟩), .func (.func 16) #[.pointer (some ⟨R, 0, none⟩)] #[]] w (WPost s R i e w) := by
  refine (list_Var R s i e (onto varP) Jv (On R) [] (fun _ _ _ _ _ h => h) rfl w h his hs ⟨rfl, fun _ h => by cases h⟩ ?_).mono ?_
  · intro W j b cs hr hj _ hJ
    refine (variable_c R s j 0 W hr hj hs).mono ?_
    rintro x w' ⟨t, u, j', e', rfl, ht, hu, h', hj', T', r'⟩
    refine ⟨_, _, j', e', b ++ [(t.data.toList, u.data.toList)], rfl, ⟨t, u, rfl, rfl⟩, h', hj', T', rdr_rows hr T' (by decide), ⟨?_, ?_⟩, onto_case r'⟩
    · rw [hJ.1, vcells, vcells, List.flatMap_append]; simp [bz_of]
    · intro c hc
      rcases List.mem_append.1 hc with hc | hc
      · exact hJ.2 c hc
      · rw [List.mem_singleton] at hc; rw [hc]; exact ⟨by rw [← Lib.size_eq]; exact ht, by rw [← Lib.size_eq]; exact hu⟩
  · rintro x w' ⟨v, n, cs, i', e', o, rfl, hown, hn, h', hi', T', ⟨rfl, hb⟩, r'⟩
    have hl := hown.1
    rw [vcells_len] at hl
    have hl : n = o.length := by omega
    subst hl
    exact ⟨v, o, i', e', rfl, hown, hn, hb, h', hi', T', run_eq (list_onto varP) r'⟩
def Sd.cs (s : Sd) : List Value := [.bool s.a, .bool s.b, .bool s.c, .int .i64 s.p, .int .i64 s.k, .string s.ty, .slice s.la s.ln s.lc, .string s.fl, .slice s.ga s.gn s.gc, .string s.re, .string s.bu]
def scells (l : List Sd) : List Value := l.flatMap Sd.cs
theorem scells_len (l : List Sd) : (scells l).length = l.length * 11 := by
  induction l with
  | nil => rfl
  | cons p l ih => rw [scells, List.flatMap_cons, List.length_append]; rw [scells] at ih; rw [ih]; simp [Sd.cs]; omega
/-- Sides that were read. -/
def SdsO (w : World) (B : Nat) (ds : List Sd) (l : List MSd) : Prop := ds.length = l.length ∧ ∀ (k : Nat) (d : Sd) (m : MSd), ds[k]? = some d → l[k]? = some m → SdO w B d m
theorem SdO.keep {w w' : World} {B : Nat} {d : Sd} {m : MSd} (h : SdO w B d m) (hk : ∀ (g : Nat) (c : Array Value) (t : TypeId), t = 9 ∨ t = 3 → w.heap[g]? = some (.cells c t (0, 0)) → w'.heap[g]? = some (.cells c t (0, 0))) : SdO w' B d m := by
  obtain ⟨la, lc, ga, gc, e, h1, h2, h3⟩ := h
  exact ⟨la, lc, ga, gc, e, own_keep h1 fun g c hg => hk g c _ (Or.inl rfl) hg, own_keep h2 fun g c hg => hk g c _ (Or.inr rfl) hg, h3⟩
theorem SdO.mono {w : World} {B B' : Nat} {d : Sd} {m : MSd} (h : SdO w B d m) (hb : B' ≤ B) : SdO w B' d m := by
  obtain ⟨la, lc, ga, gc, e, h1, h2, h3⟩ := h
  exact ⟨la, lc, ga, gc, e, own_mono h1 hb, own_mono h2 hb, h3⟩
theorem SdsO.keep {w w' : World} {B : Nat} {ds : List Sd} {l : List MSd} (h : SdsO w B ds l) (hk : ∀ (g : Nat) (c : Array Value) (t : TypeId), t = 9 ∨ t = 3 → w.heap[g]? = some (.cells c t (0, 0)) → w'.heap[g]? = some (.cells c t (0, 0))) : SdsO w' B ds l :=
  ⟨h.1, fun k d m hd hm => (h.2 k d m hd hm).keep hk⟩
theorem SdsO.snoc {w : World} {B : Nat} {ds : List Sd} {l : List MSd} {d : Sd} {m : MSd} (h : SdsO w B ds l) (hd : SdO w B d m) : SdsO w B (ds ++ [d]) (l ++ [m]) := by
  refine ⟨by simp [h.1], fun k d' m' h1 h2 => ?_⟩
  by_cases hk : k < ds.length
  · rw [List.getElem?_append_left hk] at h1
    rw [List.getElem?_append_left (by rw [← h.1]; exact hk)] at h2
    exact h.2 k d' m' h1 h2
  · rw [List.getElem?_append_right (by omega)] at h1
    rw [List.getElem?_append_right (by rw [← h.1]; omega)] at h2
    rw [← h.1] at h2
    cases hj : k - ds.length with
    | zero => rw [hj] at h1 h2; simp at h1 h2; rw [← h1, ← h2]; exact hd
    | succ j => rw [hj] at h1; simp at h1
def Jd (B : Nat) (w : World) (l : List MSd) (cs : List Value) : Prop := ∃ ds, cs = scells ds ∧ SdsO w B ds l
/-- A list of sides. -/
def DsPost (s : ByteArray) (R i e : Nat) (w : World) (x : Ending) (w' : World) : Prop :=
  ∃ (v : Value) (ds : List Sd) (o : List MSd) (i' e' : Nat), x = .returned v ∧ w'.ownsRow w.heap.size 48 11 v o.length (scells ds) ∧ o.length ≤ 65536 ∧ SdsO w' w.heap.size ds o ∧ Rdr w' R s i' e' ∧ i' ≤ s.size ∧ Tch (On R) w w' ∧ Run (listP sideP) (ab s i e) (ab s i' e') (fun m => m = o)
theorem sides_c (R : Nat) (s : ByteArray) (i e : Nat) (w : World) (h : Rdr w R s i e) (his : i ≤ s.size) (hs : s.size ≤ 4611686018427387904) :
    Calls Try.prog 19 #[.pointer (some ⟨R, 0, none⟩), .func (.func 20) #[.pointer (some ⟨R, 0, none⟩)] #[]] w (DsPost s R i e w) := by
  refine (list_Side R s i e (onto sideP) (Jd w.heap.size) (On R) [] ?_ rfl w h his hs ⟨[], rfl, rfl, fun _ _ _ h => by cases h⟩ ?_).mono ?_
  · rintro W W' a cs hk ⟨ds, hd, hS⟩
    exact ⟨ds, hd, hS.keep fun g c t ht hg => hk g c t _ (by rcases ht with rfl | rfl <;> decide) (by rcases ht with rfl | rfl <;> decide) hg⟩
  · rintro W j b cs hr hj hT ⟨ds, rfl, hS⟩
    refine (side_c R s j 0 W hr hj hs).mono ?_
    rintro x w' ⟨d, m, j', e', rfl, hd, h', hj', T', r'⟩
    have keep : ∀ (g : Nat) (c : Array Value) (t : TypeId), t = 9 ∨ t = 3 → W.heap[g]? = some (.cells c t (0, 0)) → w'.heap[g]? = some (.cells c t (0, 0)) := fun g c t ht hg => rdr_keeps hr T' g c t _ (by rcases ht with rfl | rfl <;> decide) hg
    refine ⟨d.v, Sd.cs d, j', e', b ++ [m], rfl, ⟨_, _, _, _, _, _, _, _, _, _, _, _, _, _, _, rfl, rfl⟩, h', hj', T', rdr_rows hr T' (by decide), ⟨ds ++ [d], ?_, (hS.keep keep).snoc (hd.mono hT.size)⟩, onto_case r'⟩
    rw [scells, scells, List.flatMap_append]; simp
  · rintro x w' ⟨v, n, cs, i', e', o, rfl, hown, hn, h', hi', T', ⟨ds, rfl, hS⟩, r'⟩
    have hl := hown.1
    rw [scells_len, hS.1] at hl
    have hl : n = o.length := by omega
    subst hl
    exact ⟨v, ds, o, i', e', rfl, hown, hn, hS, h', hi', T', run_eq (list_onto sideP) r'⟩
end StaG
end Go.Proofs.Ytfkjogkpdebepaa
