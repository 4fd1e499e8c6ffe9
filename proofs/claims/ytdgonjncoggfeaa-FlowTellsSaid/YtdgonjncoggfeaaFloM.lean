/- A code in memory: instructions and watches. No condition. -/
import Derived.Test.YtdgonjncoggfeaaMem
import Derived.Test.YtdgonjncoggfeaaFloP
namespace Go.Proofs.Ytdgonjncoggfeaa
set_option linter.unusedVariables false
set_option linter.unusedSimpArgs false
open Go.RowKit
namespace FloW
open FloP
theorem fm_len {α β : Type} (f : α → List β) (sz : Nat) (h : ∀ x, (f x).length = sz) : ∀ xs : List α, (xs.flatMap f).length = xs.length * sz := by
  intro xs
  induction xs with
  | nil => simp
  | cons x xs ih => rw [List.flatMap_cons, List.length_append, ih, h, List.length_cons, Nat.succ_mul]; omega
theorem fm_at {α β : Type} (f : α → List β) (sz : Nat) (h : ∀ x, (f x).length = sz) : ∀ (xs : List α) (k j : Nat) (x : α), xs[k]? = some x → j < sz → (xs.flatMap f)[k * sz + j]? = (f x)[j]? := by
  intro xs
  induction xs with
  | nil => intro k j x hx; cases hx
  | cons y xs ih =>
    intro k j x hx hj
    cases k with
    | zero =>
      simp at hx; subst hx
      rw [List.flatMap_cons, Nat.zero_mul, Nat.zero_add, List.getElem?_append_left (by rw [h]; exact hj)]
    | succ k =>
      rw [List.getElem?_cons_succ] at hx
      rw [List.flatMap_cons, List.getElem?_append_right (by rw [h, Nat.succ_mul]; omega), h, Nat.succ_mul, show k * sz + sz + j - sz = k * sz + j by omega]
      exact ih k j x hx hj
/-- An instruction as it lies in memory. -/
structure Ix where
  op : Int
  a : Int
  nm : ByteArray
  num : Int
  pA : Option Addr
  pn : Nat
  pc : Nat
  ck : Int
  cN : Int
  cn : ByteArray
  co : ByteArray
  kA : Option Addr
  kn : Nat
  kc : Nat
  lA : Option Addr
  ln : Nat
  lc : Nat
  ks : List Int
/-- A watch as it lies in memory. -/
structure Wx where
  kd : Int
  pr : Int
  pk : Int
  pt : ByteArray
  to : Int
  own : Bool
  at_ : Int
abbrev ixc (x : Ix) : List Value := [.int .i64 x.op, .int .i64 x.a, .string x.nm, .int .i64 x.num, .slice x.pA x.pn x.pc, .int .i64 x.ck, .int .i64 x.cN, .string x.cn, .string x.co, .slice x.kA x.kn x.kc, .slice x.lA x.ln x.lc]
abbrev ixv (x : Ix) : Value := .agg #[.int .i64 x.op, .int .i64 x.a, .string x.nm, .int .i64 x.num, .slice x.pA x.pn x.pc, .int .i64 x.ck, .int .i64 x.cN, .string x.cn, .string x.co, .slice x.kA x.kn x.kc, .slice x.lA x.ln x.lc]
abbrev wxc (x : Wx) : List Value := [.int .i64 x.kd, .int .i64 x.pr, .int .i64 x.pk, .string x.pt, .int .i64 x.to, .bool x.own, .int .i64 x.at_]
abbrev cdv (A : Option Addr) (n c : Nat) (A' : Option Addr) (n' c' : Nat) : Value := .agg #[.slice A n c, .slice A' n' c']
abbrev Ils (w : World) (B : Nat) (A : Option Addr) (n : Nat) (l : List Int) : Prop := Rd w B 1 A n (l.map (Value.int .i64))
abbrev inOf (x : Ix) : In := (x.op, x.a, x.ks)
abbrev wtOf (x : Wx) : Wt := (x.to, x.own)
/-- A code that is read. -/
structure Cd (w : World) (B : Nat) (A : Option Addr) (n : Nat) (A' : Option Addr) (n' : Nat) (xs : List Ix) (ws : List Wx) : Prop where
  ins : Rd w B 11 A n (xs.flatMap ixc)
  wts : Rd w B 7 A' n' (ws.flatMap wxc)
  ils : ∀ x ∈ xs, Ils w B x.lA x.ln x.ks
  fit : n ≤ 9223372036854775807 ∧ n' ≤ 9223372036854775807
  fits : ∀ x ∈ xs, x.ln ≤ 9223372036854775807
theorem Cd.below {w w' : World} {B n n' : Nat} {A A' : Option Addr} {xs : List Ix} {ws : List Wx} (h : Cd w B A n A' n' xs ws) (hb : Below B w w') : Cd w' B A n A' n' xs ws :=
  ⟨h.ins.below hb, h.wts.below hb, fun x hx => (h.ils x hx).below hb, h.fit, h.fits⟩
theorem Cd.more {w : World} {B B' n n' : Nat} {A A' : Option Addr} {xs : List Ix} {ws : List Wx} (h : Cd w B A n A' n' xs ws) (hb : B ≤ B') : Cd w B' A n A' n' xs ws :=
  ⟨h.ins.more hb, h.wts.more hb, fun x hx => (h.ils x hx).more hb, h.fit, h.fits⟩
theorem Cd.next {w w' : World} {B n n' : Nat} {A A' : Option Addr} {xs : List Ix} {ws : List Wx} (h : Cd w B A n A' n' xs ws) (hb : Below B w w') (hB : B ≤ w'.heap.size) : Cd w' w'.heap.size A n A' n' xs ws := (h.below hb).more hB
theorem Cd.len {w : World} {B n n' : Nat} {A A' : Option Addr} {xs : List Ix} {ws : List Wx} (h : Cd w B A n A' n' xs ws) : xs.length = n ∧ ws.length = n' := by
  have h1 := h.ins.1
  have h2 := h.wts.1
  rw [fm_len ixc 11 (fun _ => rfl)] at h1
  rw [fm_len wxc 7 (fun _ => rfl)] at h2
  omega
theorem Cd.instr {w : World} {B n n' k : Nat} {A A' : Option Addr} {xs : List Ix} {ws : List Wx} (h : Cd w B A n A' n' xs ws) (hk : k < n) : ∃ g o x, A = some ⟨g, o, none⟩ ∧ g < B ∧ xs[k]? = some x ∧
    w.cell? ⟨g, o + k * 11, none⟩ = some (.int .i64 x.op) ∧ w.cell? ⟨g, o + k * 11 + 1, none⟩ = some (.int .i64 x.a) ∧ w.cell? ⟨g, o + k * 11 + 2, none⟩ = some (.string x.nm) ∧ w.cell? ⟨g, o + k * 11 + 3, none⟩ = some (.int .i64 x.num) ∧ w.cell? ⟨g, o + k * 11 + 4, none⟩ = some (.slice x.pA x.pn x.pc) ∧
    w.cell? ⟨g, o + k * 11 + 5, none⟩ = some (.int .i64 x.ck) ∧ w.cell? ⟨g, o + k * 11 + 6, none⟩ = some (.int .i64 x.cN) ∧ w.cell? ⟨g, o + k * 11 + 7, none⟩ = some (.string x.cn) ∧ w.cell? ⟨g, o + k * 11 + 8, none⟩ = some (.string x.co) ∧ w.cell? ⟨g, o + k * 11 + 9, none⟩ = some (.slice x.kA x.kn x.kc) ∧ w.cell? ⟨g, o + k * 11 + 10, none⟩ = some (.slice x.lA x.ln x.lc) := by
  obtain ⟨g, o, e, hb, hc⟩ := Rd.flat h.ins (by omega) (by omega)
  have hl := h.len.1
  have hp : xs[k]? = some (xs[k]'(by omega)) := List.getElem?_eq_getElem (by omega)
  refine ⟨g, o, _, e, hb, hp, ?_⟩
  have cell : ∀ j v, j < 11 → (ixc (xs[k]'(by omega)))[j]? = some v → w.cell? ⟨g, o + k * 11 + j, none⟩ = some v := by
    intro j v hj hv
    rw [Nat.add_assoc]
    exact hc _ _ ((fm_at ixc 11 (fun _ => rfl) xs k j _ hp hj).trans hv)
  exact ⟨cell 0 _ (by omega) rfl, cell 1 _ (by omega) rfl, cell 2 _ (by omega) rfl, cell 3 _ (by omega) rfl, cell 4 _ (by omega) rfl, cell 5 _ (by omega) rfl, cell 6 _ (by omega) rfl, cell 7 _ (by omega) rfl, cell 8 _ (by omega) rfl, cell 9 _ (by omega) rfl, cell 10 _ (by omega) rfl⟩
theorem Cd.watch {w : World} {B n n' k : Nat} {A A' : Option Addr} {xs : List Ix} {ws : List Wx} (h : Cd w B A n A' n' xs ws) (hk : k < n') : ∃ g o x, A' = some ⟨g, o, none⟩ ∧ g < B ∧ ws[k]? = some x ∧
    w.cell? ⟨g, o + k * 7, none⟩ = some (.int .i64 x.kd) ∧ w.cell? ⟨g, o + k * 7 + 1, none⟩ = some (.int .i64 x.pr) ∧ w.cell? ⟨g, o + k * 7 + 2, none⟩ = some (.int .i64 x.pk) ∧ w.cell? ⟨g, o + k * 7 + 3, none⟩ = some (.string x.pt) ∧ w.cell? ⟨g, o + k * 7 + 4, none⟩ = some (.int .i64 x.to) ∧ w.cell? ⟨g, o + k * 7 + 5, none⟩ = some (.bool x.own) ∧ w.cell? ⟨g, o + k * 7 + 6, none⟩ = some (.int .i64 x.at_) := by
  obtain ⟨g, o, e, hb, hc⟩ := Rd.flat h.wts (by omega) (by omega)
  have hl := h.len.2
  have hp : ws[k]? = some (ws[k]'(by omega)) := List.getElem?_eq_getElem (by omega)
  refine ⟨g, o, _, e, hb, hp, ?_⟩
  have cell : ∀ j v, j < 7 → (wxc (ws[k]'(by omega)))[j]? = some v → w.cell? ⟨g, o + k * 7 + j, none⟩ = some v := by
    intro j v hj hv
    rw [Nat.add_assoc]
    exact hc _ _ ((fm_at wxc 7 (fun _ => rfl) ws k j _ hp hj).trans hv)
  exact ⟨cell 0 _ (by omega) rfl, cell 1 _ (by omega) rfl, cell 2 _ (by omega) rfl, cell 3 _ (by omega) rfl, cell 4 _ (by omega) rfl, cell 5 _ (by omega) rfl, cell 6 _ (by omega) rfl⟩
/-- Rows of numbers that a function owns. -/
abbrev OwnI (w : World) (B : Nat) (v : Value) (l : List Int) : Prop := w.ownsRow B 3 1 v l.length (l.map (Value.int .i64))
theorem owi_rd {w : World} {B : Nat} {v : Value} {l : List Int} (h : OwnI w B v l) : ∃ A c, v = .slice A l.length c ∧ l.length ≤ c ∧ c ≤ maxLen ∧ Ils w w.heap.size A l.length l ∧ (∀ g, v.ownBlock = some g → B ≤ g ∧ g < w.heap.size) := by
  have hlt := h.lt
  rcases h.2 with ⟨h1, h2⟩ | ⟨g, cap, cur, h1, h2, h3, h4, h5, h6, h7⟩
  · refine ⟨none, 0, by rw [h1, h2], by omega, by omega, ?_, hlt⟩
    have : l = [] := List.eq_nil_of_length_eq_zero h2
    subst this; exact Rd.nil
  · refine ⟨some ⟨g, 0, none⟩, cap, h1, h4, h5, ⟨by simp, fun _ => ⟨_, rfl, (Array.getElem?_eq_some_iff.1 h3).1, ?_⟩⟩, hlt⟩
    subst h1
    exact h.cells rfl
theorem owi_far {w : World} {B : Nat} {v : Value} {t : TypeId} {z n : Nat} {cs : List Value} (h : w.ownsRow B t z v n cs) (p : Addr) (hp : ∀ g, v.ownBlock = some g → g ≠ p.block) (u : Value) : (w.setCell p u).ownsRow B t z v n cs := by
  refine h.kept (row := some p.block) ⟨rfl, rfl, rfl, by simp [World.setCell], fun j hj hne => Below.heap_setCell w p u j (fun e => hne (by rw [e]))⟩ ?_
  cases e : v.ownBlock with
  | none => exact .inl rfl
  | some g => exact .inr (fun e2 => hp g e (Option.some.inj e2))
theorem owi_next {w w' : World} {B : Nat} {v : Value} {t : TypeId} {z n : Nat} {cs : List Value} (h : w.ownsRow B t z v n cs) (b : Below w.heap.size w w') : w'.ownsRow B t z v n cs := by
  refine h.kept (row := none) ⟨b.os, b.tape, b.output, b.size, fun j hj _ => b.block j hj⟩ ?_
  cases e : v.ownBlock with
  | none => exact .inl rfl
  | some g => exact .inr (by simp)
theorem owi_snoc {w : World} {B : Nat} {v : Value} {l : List Int} {a : Int} (h : w.ownsRow B 3 1 v (l.length + 1) (l.map (Value.int .i64) ++ [.int .i64 a])) : OwnI w B v (l ++ [a]) := by
  show w.ownsRow B 3 1 v _ _
  rw [List.map_append, List.length_append]
  exact h
theorem ils_len {w : World} {B n : Nat} {A : Option Addr} {l : List Int} (h : Ils w B A n l) : l.length = n := by have := h.1; simpa using this
theorem ils_get {w : World} {B n k : Nat} {A : Option Addr} {l : List Int} (h : Ils w B A n l) (hk : k < n) : ∃ g o x, A = some ⟨g, o, none⟩ ∧ g < B ∧ l[k]? = some x ∧ w.cell? ⟨g, o + k, none⟩ = some (.int .i64 x) := by
  obtain ⟨g, o, e, hb, hc⟩ := Rd.flat h (by omega) (by omega)
  have hl := ils_len h
  have hp : l[k]? = some (l[k]'(by omega)) := List.getElem?_eq_getElem (by omega)
  exact ⟨g, o, _, e, hb, hp, hc _ _ (by rw [List.getElem?_map, hp]; rfl)⟩
end FloW
end Go.Proofs.Ytdgonjncoggfeaa
