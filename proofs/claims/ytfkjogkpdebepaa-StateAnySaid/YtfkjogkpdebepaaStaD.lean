/- The walk of state.Decode. Conditions: texts that fit. -/
import Derived.Test.YtfkjogkpdebepaaStaI
import Derived.Test.YtfkjogkpdebepaaRow
namespace Go.Proofs.Ytfkjogkpdebepaa
open Go.RowKit
namespace StaD
open StaP StaR StaN StaL StaV StaA StaG Rowk
abbrev NT : TypeId := 31
theorem rep_snoc {α : Type} (p : Pr α) : ∀ (k : Nat) (l : Bs), repP p (k + 1) l = match repP p k l with
    | .error e => .error e
    | .ok (xs, r) => match p r with
      | .error e => .error e
      | .ok (x, r') => .ok (xs ++ [x], r') := by
  intro k
  induction k with
  | zero =>
    intro l
    rw [repP_succ]
    show _ = match p l with
      | .error e => Except.error e
      | .ok (x, r') => Except.ok ([] ++ [x], r')
    cases p l with
    | error e => rfl
    | ok v => rfl
  | succ k ih =>
    intro l
    rw [repP_succ, repP_succ]
    cases p l with
    | error e => rfl
    | ok v =>
      obtain ⟨x, r⟩ := v
      simp only
      rw [ih]
      cases repP p k r with
      | error e => rfl
      | ok v =>
        obtain ⟨xs, r'⟩ := v
        simp only
        cases p r' with
        | error e => rfl
        | ok v => rfl
theorem Run.snoc {α : Type} {p : Pr α} {k : Nat} {a a1 a2 : St} {xs : List α} {x : α} (h : Run (repP p k) a a1 (fun m => m = xs)) (h2 : Run p a1 a2 (fun m => m = x)) : Run (repP p (k + 1)) a a2 (fun m => m = xs ++ [x]) := by
  cases a with
  | error er => have : a1 = .error er := h; subst this; exact h2
  | ok l =>
    simp only [Run] at h ⊢
    rw [rep_snoc]
    cases hp : repP p k l with
    | error er => rw [hp] at h; simp only at h ⊢; subst h; exact h2
    | ok v =>
      obtain ⟨y, r⟩ := v
      rw [hp] at h
      obtain ⟨h1, h3⟩ := h
      subst h1 h3
      simp only [Run] at h2 ⊢
      cases hq : p r with
      | error er => rw [hq] at h2; exact h2
      | ok v => obtain ⟨y', r'⟩ := v; rw [hq] at h2; obtain ⟨h4, h5⟩ := h2; subst h5; exact ⟨h4, rfl⟩
abbrev MNd := Int × Int × Int × Int × Int × Int × Int × List MVr × List Bs × List Int × List Int × List Int × List MSd
abbrev nodeP : Pr MNd := pairP numP (pairP numP (pairP numP (pairP numP (pairP numP (pairP numP (pairP numP (pairP (listP varP) (pairP (repP textP 10) (pairP (listP numP) (pairP (listP numP) (pairP (listP numP) (listP sideP))))))))))))
def decP (l : Bs) : Except Er MNd := match nodeP l with
  | .error e => .error e
  | .ok (m, []) => .ok m
  | .ok (_, c :: r) => .error (c :: r, 1)
theorem ten {α : Type} (l : List α) (h : l.length = 10) : ∃ a b c d e f g i j k, l = [a, b, c, d, e, f, g, i, j, k] := by
  match l, h with
  | [a, b, c, d, e, f, g, i, j, k], _ => exact ⟨a, b, c, d, e, f, g, i, j, k, rfl⟩
/-- A node's cells while its cuts are read. -/
def cutArr (pre post : List Value) (cu : List Bs) : Array Value := (pre ++ (strs cu ++ List.replicate (10 - cu.length) (Value.string ⟨#[]⟩)) ++ post).toArray
theorem cut0 (a b r0 r1 r2 r3 r4 r5 r6 r7 r8 r9 : Value) : cutArr [a, b] [r0, r1, r2, r3, r4, r5, r6, r7, r8, r9] [] = #[a, b, .string ⟨#[]⟩, .string ⟨#[]⟩, .string ⟨#[]⟩, .string ⟨#[]⟩, .string ⟨#[]⟩, .string ⟨#[]⟩, .string ⟨#[]⟩, .string ⟨#[]⟩, .string ⟨#[]⟩, .string ⟨#[]⟩, r0, r1, r2, r3, r4, r5, r6, r7, r8, r9] := by simp [cutArr, List.replicate]
theorem cut10 (a b r0 r1 r2 r3 r4 r5 r6 r7 r8 r9 : Value) (x0 x1 x2 x3 x4 x5 x6 x7 x8 x9 : Bs) : cutArr [a, b] [r0, r1, r2, r3, r4, r5, r6, r7, r8, r9] [x0, x1, x2, x3, x4, x5, x6, x7, x8, x9] = #[a, b, .string (bz x0), .string (bz x1), .string (bz x2), .string (bz x3), .string (bz x4), .string (bz x5), .string (bz x6), .string (bz x7), .string (bz x8), .string (bz x9), r0, r1, r2, r3, r4, r5, r6, r7, r8, r9] := by simp [cutArr]
theorem cut_get {a b : Value} {post : List Value} {cu : List Bs} {k : Nat} (hc : cu.length = k) (hk : k < 10) : (cutArr [a, b] post cu)[2 + k]? = some (.string ⟨#[]⟩) := by
  subst hc
  rw [cutArr, List.getElem?_toArray, List.append_assoc, List.append_assoc, List.getElem?_append_right (by simp), List.getElem?_append_right (by simp), List.getElem?_append_left (by simp; omega)]
  rw [List.getElem?_replicate, if_pos (by simp; omega)]
theorem cut_set {a b : Value} {post : List Value} {cu : List Bs} {k : Nat} (t : ByteArray) (hc : cu.length = k) (hk : k < 10) : (cutArr [a, b] post cu).setIfInBounds (2 + k) (.string t) = cutArr [a, b] post (cu ++ [t.data.toList]) := by
  subst hc
  obtain ⟨n, hn⟩ : ∃ n, 10 - cu.length = n + 1 := ⟨9 - cu.length, by omega⟩
  have e1 : 10 - (cu ++ [t.data.toList]).length = n := by simp; omega
  rw [cutArr, cutArr, hn, e1, List.setIfInBounds_toArray, List.append_assoc, List.append_assoc, List.set_append_right _ _ (by simp), List.set_append_right _ _ (by simp)]
  simp [strs, bz_of, List.replicate_succ]
theorem dec_err {s : ByteArray} {i e : Nat} {m : MNd} (h : Run nodeP (ab s 0 0) (ab s i e) (fun x => x = m)) (he : e ≠ 0) : decP s.data.toList = .error (s.data.toList.drop i, e) := by
  rw [ab_ok, ab_bad s i he, List.drop_zero] at h
  simp only [Run] at h
  rw [decP]
  cases hp : nodeP s.data.toList with
  | error er => rw [hp] at h; injection h with h; rw [h]
  | ok v => rw [hp] at h; cases h.1
theorem dec_more {s : ByteArray} {i : Nat} {m : MNd} (h : Run nodeP (ab s 0 0) (ab s i 0) (fun x => x = m)) (hi : i < s.size) : decP s.data.toList = .error (s.data.toList.drop i, 1) := by
  obtain ⟨-, x, hp, -⟩ := h.inv
  rw [List.drop_zero] at hp
  rw [decP, hp, drop_cons s i hi]
theorem dec_ok {s : ByteArray} {i : Nat} {m : MNd} (h : Run nodeP (ab s 0 0) (ab s i 0) (fun x => x = m)) (hi : s.size ≤ i) : decP s.data.toList = .ok m := by
  obtain ⟨-, x, hp, rfl⟩ := h.inv
  rw [List.drop_zero, List.drop_eq_nil_of_le (by rw [← Lib.size_eq]; exact hi)] at hp
  rw [decP, hp]
/-- A node's cells. -/
def ndArr (m : MNd) (a1 : Option Addr) (c1 : Nat) (a2 : Option Addr) (c2 : Nat) (a3 : Option Addr) (c3 : Nat) (a4 : Option Addr) (c4 : Nat) (a5 : Option Addr) (c5 : Nat) : Array Value :=
  cutArr [.int .i64 m.2.1, .slice a1 m.2.2.2.2.2.2.2.1.length c1] [.slice a2 m.2.2.2.2.2.2.2.2.2.1.length c2, .int .i64 m.2.2.1, .int .i64 m.2.2.2.1, .int .i64 m.2.2.2.2.1, .int .i64 m.2.2.2.2.2.1, .int .i64 m.2.2.2.2.2.2.1, .slice a3 m.2.2.2.2.2.2.2.2.2.2.1.length c3, .slice a4 m.2.2.2.2.2.2.2.2.2.2.2.1.length c4, .slice a5 m.2.2.2.2.2.2.2.2.2.2.2.2.length c5, .int .i64 m.1] m.2.2.2.2.2.2.2.2.1
/-- What fits into a node. -/
def NOk (m : MNd) : Prop := I64 m.1 ∧ I64 m.2.1 ∧ I64 m.2.2.1 ∧ I64 m.2.2.2.1 ∧ I64 m.2.2.2.2.1 ∧ I64 m.2.2.2.2.2.1 ∧ I64 m.2.2.2.2.2.2.1 ∧ (m.2.2.2.2.2.2.2.1.length ≤ 65536 ∧ ∀ b ∈ m.2.2.2.2.2.2.2.1, VOk b) ∧ (m.2.2.2.2.2.2.2.2.1.length = 10 ∧ ∀ b ∈ m.2.2.2.2.2.2.2.2.1, b.length ≤ 65536) ∧
  (m.2.2.2.2.2.2.2.2.2.1.length ≤ 65536 ∧ ∀ b ∈ m.2.2.2.2.2.2.2.2.2.1, I64 b) ∧ (m.2.2.2.2.2.2.2.2.2.2.1.length ≤ 65536 ∧ ∀ b ∈ m.2.2.2.2.2.2.2.2.2.2.1, I64 b) ∧ (m.2.2.2.2.2.2.2.2.2.2.2.1.length ≤ 65536 ∧ ∀ b ∈ m.2.2.2.2.2.2.2.2.2.2.2.1, I64 b) ∧ m.2.2.2.2.2.2.2.2.2.2.2.2.length ≤ 65536
/-- A node that was read: its rows are its own. -/
def NdO (w : World) (B : Nat) (cs : Array Value) (m : MNd) : Prop := ∃ a1 c1 a2 c2 a3 c3 a4 c4 a5 c5 ds, cs = ndArr m a1 c1 a2 c2 a3 c3 a4 c4 a5 c5 ∧ NOk m ∧
  w.ownsRow B 45 2 (.slice a1 m.2.2.2.2.2.2.2.1.length c1) m.2.2.2.2.2.2.2.1.length (vcells m.2.2.2.2.2.2.2.1) ∧
  w.ownsRow B 3 1 (.slice a2 m.2.2.2.2.2.2.2.2.2.1.length c2) m.2.2.2.2.2.2.2.2.2.1.length (ints m.2.2.2.2.2.2.2.2.2.1) ∧
  w.ownsRow B 3 1 (.slice a3 m.2.2.2.2.2.2.2.2.2.2.1.length c3) m.2.2.2.2.2.2.2.2.2.2.1.length (ints m.2.2.2.2.2.2.2.2.2.2.1) ∧
  w.ownsRow B 3 1 (.slice a4 m.2.2.2.2.2.2.2.2.2.2.2.1.length c4) m.2.2.2.2.2.2.2.2.2.2.2.1.length (ints m.2.2.2.2.2.2.2.2.2.2.2.1) ∧
  w.ownsRow B 48 11 (.slice a5 m.2.2.2.2.2.2.2.2.2.2.2.2.length c5) m.2.2.2.2.2.2.2.2.2.2.2.2.length (scells ds) ∧ SdsO w B ds m.2.2.2.2.2.2.2.2.2.2.2.2
theorem cell_row {w : World} {g h : Nat} {t : TypeId} {cs : Array Value} (b : Blk w h t cs) (hg : h ≠ g) (c : Array Value) (i : Nat) : (w.setRow g c).cell? ⟨h, i, none⟩ = cs[i]? := (far_row b hg c).cell i
def storeRow (a : Addr) (l : List Value) : Sem Unit := storeCells a l 0
def rowIs (w : World) (g : Nat) (t : TypeId) (n : Nat) : Prop := ∃ c, Blk w g t c ∧ c.size = n
theorem cells22 (a : Addr) (a0 a1 a2 a3 a4 a5 a6 a7 a8 a9 a10 a11 a12 a13 a14 a15 a16 a17 a18 a19 a20 a21 : Value) : storeCells a [a0, a1, a2, a3, a4, a5, a6, a7, a8, a9, a10, a11, a12, a13, a14, a15, a16, a17, a18, a19, a20, a21] 0 = storeRow a [a0, a1, a2, a3, a4, a5, a6, a7, a8, a9, a10, a11, a12, a13, a14, a15, a16, a17, a18, a19, a20, a21] := rfl
theorem run_row22 {P : Program} (w : World) (g : Nat) (a0 : Int) (a1 : Option Addr) (n1 c1 : Nat) (a2 : ByteArray) (a3 : ByteArray) (a4 : ByteArray) (a5 : ByteArray) (a6 : ByteArray) (a7 : ByteArray) (a8 : ByteArray) (a9 : ByteArray) (a10 : ByteArray) (a11 : ByteArray) (a12 : Option Addr) (n12 c12 : Nat) (a13 : Int) (a14 : Int) (a15 : Int) (a16 : Int) (a17 : Int) (a18 : Option Addr) (n18 c18 : Nat) (a19 : Option Addr) (n19 c19 : Nat) (a20 : Option Addr) (n20 c20 : Nat) (a21 : Int) (h : rowIs w g NT 22) : (storeRow ⟨g, 0, none⟩ [.int .i64 a0, .slice a1 n1 c1, .string a2, .string a3, .string a4, .string a5, .string a6, .string a7, .string a8, .string a9, .string a10, .string a11, .slice a12 n12 c12, .int .i64 a13, .int .i64 a14, .int .i64 a15, .int .i64 a16, .int .i64 a17, .slice a18 n18 c18, .slice a19 n19 c19, .slice a20 n20 c20, .int .i64 a21]).run P w = .ok () (w.setRow g #[.int .i64 a0, .slice a1 n1 c1, .string a2, .string a3, .string a4, .string a5, .string a6, .string a7, .string a8, .string a9, .string a10, .string a11, .slice a12 n12 c12, .int .i64 a13, .int .i64 a14, .int .i64 a15, .int .i64 a16, .int .i64 a17, .slice a18 n18 c18, .slice a19 n19 c19, .slice a20 n20 c20, .int .i64 a21]) := by
  obtain ⟨c, hb, hc⟩ := h
  have := run_storeCells_from (P := P) g NT [.int .i64 a0, .slice a1 n1 c1, .string a2, .string a3, .string a4, .string a5, .string a6, .string a7, .string a8, .string a9, .string a10, .string a11, .slice a12 n12 c12, .int .i64 a13, .int .i64 a14, .int .i64 a15, .int .i64 a16, .int .i64 a17, .slice a18 n18 c18, .slice a19 n19 c19, .slice a20 n20 c20, .int .i64 a21] 0 c w hb (by rw [hc]; rfl) (by simp [Value.oneCell'])
  simpa [storeRow] using this
@[irreducible] def loadRow22 (a : Addr) : Sem (Array Value) := loadCellsFrom a 0 22 #[]
theorem loads22 (a : Addr) : loadCellsFrom a 0 22 #[] = loadRow22 a := by unfold loadRow22; rfl
attribute [local go_sem high] cells22 loads22
attribute [local go_sem] run_row22
def znode : Array Value := #[.int .i64 0, .slice none 0 0, .string ⟨#[]⟩, .string ⟨#[]⟩, .string ⟨#[]⟩, .string ⟨#[]⟩, .string ⟨#[]⟩, .string ⟨#[]⟩, .string ⟨#[]⟩, .string ⟨#[]⟩, .string ⟨#[]⟩, .string ⟨#[]⟩, .slice none 0 0, .int .i64 0, .int .i64 0, .int .i64 0, .int .i64 0, .int .i64 0, .slice none 0 0, .slice none 0 0, .slice none 0 0, .int .i64 0]
/-- What Decode answers. -/
def DPost (s : ByteArray) (w : World) (x : Ending) (w' : World) : Prop := Below w.heap.size w w' ∧
  ((∃ cs m, decP s.data.toList = .ok m ∧ x = .returned (.tuple #[.agg cs, .int .i64 0, .int .i64 0]) ∧ NdO w' w.heap.size cs m) ∨
  (∃ i k : Nat, decP s.data.toList = .error (s.data.toList.drop i, k) ∧ i ≤ s.size ∧ x = .returned (.tuple #[.agg znode, .int .i64 i, .int .i64 k])))
theorem tch_below {R : Nat} {w w' : World} (h : Tch (On R) w w') (hR : w.heap.size ≤ R) : Below w.heap.size w w' := ⟨h.os, h.tape, h.output, h.size, fun k hk => h.block k hk (fun e => by have : k = R := e; omega)⟩
theorem SdsO.base {w : World} {B B' : Nat} {ds : List Sd} {l : List MSd} (h : SdsO w B ds l) (hb : B' ≤ B) : SdsO w B' ds l := ⟨h.1, fun k d m hd hm => (h.2 k d m hd hm).mono hb⟩
set_option maxHeartbeats 25600000 in
set_option maxRecDepth 100000 in
theorem decode_c (s : ByteArray) (w : World) (hs : s.size ≤ 4611686018427387904) :
    Calls Try.prog 7 #[.string s] w (DPost s w) := by
  obtain ⟨V0, hV0⟩ : ∃ x, w.heap.size = x := ⟨_, rfl⟩
  obtain ⟨R, hR⟩ : ∃ R, V0 + 1 = R := ⟨_, rfl⟩
  obtain ⟨w0, hw0⟩ : ∃ x, (w.alloc (.cells #[.int .i64 0, .slice none 0 0, .string ⟨#[]⟩, .string ⟨#[]⟩, .string ⟨#[]⟩, .string ⟨#[]⟩, .string ⟨#[]⟩, .string ⟨#[]⟩, .string ⟨#[]⟩, .string ⟨#[]⟩, .string ⟨#[]⟩, .string ⟨#[]⟩, .slice none 0 0, .int .i64 0, .int .i64 0, .int .i64 0, .int .i64 0, .int .i64 0, .slice none 0 0, .slice none 0 0, .slice none 0 0, .int .i64 0] NT)).alloc (.cells #[.string s, .int .i64 0, .int .i64 0] RT) = x := ⟨_, rfl⟩
  have V : Blk w0 V0 NT #[.int .i64 0, .slice none 0 0, .string ⟨#[]⟩, .string ⟨#[]⟩, .string ⟨#[]⟩, .string ⟨#[]⟩, .string ⟨#[]⟩, .string ⟨#[]⟩, .string ⟨#[]⟩, .string ⟨#[]⟩, .string ⟨#[]⟩, .string ⟨#[]⟩, .slice none 0 0, .int .i64 0, .int .i64 0, .int .i64 0, .int .i64 0, .int .i64 0, .slice none 0 0, .slice none 0 0, .slice none 0 0, .int .i64 0] := by rw [← hw0, ← hV0]; exact (Blk.new _ _ _).alloc _
  have h0 : Rdr w0 R s (0 : Nat) (0 : Nat) := by rw [← hw0, ← hR, ← hV0]; exact Blk.new1 _ _ _ _
  have T : Tch (On R) w w0 := by rw [← hw0]; exact ((Tch.refl _ w).alloc _).alloc _
  have hRV : R ≠ V0 := by omega
  have hVR : ¬ On R V0 := fun e => hRV e.symm
  have c1 := num_c R s 0 0 w0 h0 (Nat.zero_le _) hs
  go_enter Try.func7, Try.ntmps7
  go_wp2_with fail
  try rw [hR]
  (with_reducible refine c1.mono ?_)
  rintro x w1 ⟨ta, i1, e1, rfl, bta, h1, hi1, t1, r1⟩
  have hV1 := V.tch t1 hVR
  have hVS : V0 ≠ w1.heap.size := by have := hV1.lt; omega
  have hRS : R ≠ w1.heap.size := by have := h1.lt; omega
  have hwS : w.heap.size ≤ w1.heap.size := (T.trans t1).size
  have hSR : ¬ On R w1.heap.size := fun e => hRS e.symm
  clear c1 hw0
  go_wp2_with (refine wpList_store_row rfl 31 (.tmp 6) (.tmp 14) rfl w1.heap.size #[.int .i64 0, .slice none 0 0, .string ⟨#[]⟩, .string ⟨#[]⟩, .string ⟨#[]⟩, .string ⟨#[]⟩, .string ⟨#[]⟩, .string ⟨#[]⟩, .string ⟨#[]⟩, .string ⟨#[]⟩, .string ⟨#[]⟩, .string ⟨#[]⟩, .slice none 0 0, .int .i64 0, .int .i64 0, .int .i64 0, .int .i64 0, .int .i64 0, .slice none 0 0, .slice none 0 0, .slice none 0 0, .int .i64 ta] rfl rfl 31 _ (Blk.new w1 31 #[.int .i64 0, .slice none 0 0, .string ⟨#[]⟩, .string ⟨#[]⟩, .string ⟨#[]⟩, .string ⟨#[]⟩, .string ⟨#[]⟩, .string ⟨#[]⟩, .string ⟨#[]⟩, .string ⟨#[]⟩, .string ⟨#[]⟩, .string ⟨#[]⟩, .slice none 0 0, .int .i64 0, .int .i64 0, .int .i64 0, .int .i64 0, .int .i64 0, .slice none 0 0, .slice none 0 0, .slice none 0 0, .int .i64 0]) (by as_aux_lemma => kernel_rfl) rfl (by simp [Value.oneCell']) ?_)
  obtain ⟨z, hz⟩ : ∃ x, (w1.alloc (.cells #[.int .i64 0, .slice none 0 0, .string ⟨#[]⟩, .string ⟨#[]⟩, .string ⟨#[]⟩, .string ⟨#[]⟩, .string ⟨#[]⟩, .string ⟨#[]⟩, .string ⟨#[]⟩, .string ⟨#[]⟩, .string ⟨#[]⟩, .string ⟨#[]⟩, .slice none 0 0, .int .i64 0, .int .i64 0, .int .i64 0, .int .i64 0, .int .i64 0, .slice none 0 0, .slice none 0 0, .slice none 0 0, .int .i64 0] 31)).setRow w1.heap.size #[.int .i64 0, .slice none 0 0, .string ⟨#[]⟩, .string ⟨#[]⟩, .string ⟨#[]⟩, .string ⟨#[]⟩, .string ⟨#[]⟩, .string ⟨#[]⟩, .string ⟨#[]⟩, .string ⟨#[]⟩, .string ⟨#[]⟩, .string ⟨#[]⟩, .slice none 0 0, .int .i64 0, .int .i64 0, .int .i64 0, .int .i64 0, .int .i64 0, .slice none 0 0, .slice none 0 0, .slice none 0 0, .int .i64 ta] = x := ⟨_, rfl⟩
  have B : Blk z w1.heap.size NT #[.int .i64 0, .slice none 0 0, .string ⟨#[]⟩, .string ⟨#[]⟩, .string ⟨#[]⟩, .string ⟨#[]⟩, .string ⟨#[]⟩, .string ⟨#[]⟩, .string ⟨#[]⟩, .string ⟨#[]⟩, .string ⟨#[]⟩, .string ⟨#[]⟩, .slice none 0 0, .int .i64 0, .int .i64 0, .int .i64 0, .int .i64 0, .int .i64 0, .slice none 0 0, .slice none 0 0, .slice none 0 0, .int .i64 ta] := by rw [← hz]; exact blk_row (Blk.new _ _ _) _
  have V1 : Blk z V0 NT #[.int .i64 0, .slice none 0 0, .string ⟨#[]⟩, .string ⟨#[]⟩, .string ⟨#[]⟩, .string ⟨#[]⟩, .string ⟨#[]⟩, .string ⟨#[]⟩, .string ⟨#[]⟩, .string ⟨#[]⟩, .string ⟨#[]⟩, .string ⟨#[]⟩, .slice none 0 0, .int .i64 0, .int .i64 0, .int .i64 0, .int .i64 0, .int .i64 0, .slice none 0 0, .slice none 0 0, .slice none 0 0, .int .i64 0] := by rw [← hz]; exact far_row (hV1.alloc _) hVS _
  have h0 : Rdr z R s i1 e1 := by rw [← hz]; exact far_row (h1.alloc _) hRS _
  have T0 : Tch (On R) w z := by rw [← hz]; exact tch_row ((T.trans t1).alloc _) hwS _
  clear V T h1 t1 hV1
  generalize w1.heap.size = N at *
  have V := V1
  have T := T0
  clear V1 T0
  have c2 := num_c R s i1 e1 z h0 hi1 hs
  rw [hz]
  (with_reducible refine c2.mono ?_)
  rintro x w2 ⟨pc, i2, e2, rfl, bpc, h2, hi2, t2, r2⟩
  clear c2 hz
  replace B := B.tch t2 hSR
  replace V := V.tch t2 hVR
  replace T := T.trans t2
  have k0 := B.cell 0
  have l0 := B.loose 0
  simp only [List.getElem?_toArray, List.getElem?_cons_zero] at k0
  go_wp2_with fail
  obtain ⟨z, hz⟩ : ∃ x, w2.setCell ⟨N, 0, none⟩ (.int .i64 pc) = x := ⟨_, rfl⟩
  replace B := B.set_ 0 (.int .i64 pc)
  replace V := V.far (p := ⟨N, 0, none⟩) hVS (.int .i64 pc)
  replace h2 := h2.far (p := ⟨N, 0, none⟩) hRS (.int .i64 pc)
  replace T := tch_new (o := 0) T hwS (.int .i64 pc)
  rw [hz] at B V h2 T
  replace B : Blk z N NT #[.int .i64 pc, .slice none 0 0, .string ⟨#[]⟩, .string ⟨#[]⟩, .string ⟨#[]⟩, .string ⟨#[]⟩, .string ⟨#[]⟩, .string ⟨#[]⟩, .string ⟨#[]⟩, .string ⟨#[]⟩, .string ⟨#[]⟩, .string ⟨#[]⟩, .slice none 0 0, .int .i64 0, .int .i64 0, .int .i64 0, .int .i64 0, .int .i64 0, .slice none 0 0, .slice none 0 0, .slice none 0 0, .int .i64 ta] := B
  have c3 := num_c R s i2 e2 z h2 hi2 hs
  rw [hz]
  (with_reducible refine c3.mono ?_)
  rintro x w3 ⟨md, i3, e3, rfl, bmd, h3, hi3, t3, r3⟩
  clear c3 hz
  replace B := B.tch t3 hSR
  replace V := V.tch t3 hVR
  replace T := T.trans t3
  have k13 := B.cell 13
  have l13 := B.loose 13
  simp only [List.getElem?_toArray, List.getElem?_cons_zero, List.getElem?_cons_succ] at k13
  go_wp2_with fail
  obtain ⟨z, hz⟩ : ∃ x, w3.setCell ⟨N, 13, none⟩ (.int .i64 md) = x := ⟨_, rfl⟩
  replace B := B.set_ 13 (.int .i64 md)
  replace V := V.far (p := ⟨N, 13, none⟩) hVS (.int .i64 md)
  replace h3 := h3.far (p := ⟨N, 13, none⟩) hRS (.int .i64 md)
  replace T := tch_new (o := 13) T hwS (.int .i64 md)
  rw [hz] at B V h3 T
  replace B : Blk z N NT #[.int .i64 pc, .slice none 0 0, .string ⟨#[]⟩, .string ⟨#[]⟩, .string ⟨#[]⟩, .string ⟨#[]⟩, .string ⟨#[]⟩, .string ⟨#[]⟩, .string ⟨#[]⟩, .string ⟨#[]⟩, .string ⟨#[]⟩, .string ⟨#[]⟩, .slice none 0 0, .int .i64 md, .int .i64 0, .int .i64 0, .int .i64 0, .int .i64 0, .slice none 0 0, .slice none 0 0, .slice none 0 0, .int .i64 ta] := B
  have c4 := num_c R s i3 e3 z h3 hi3 hs
  rw [hz]
  (with_reducible refine c4.mono ?_)
  rintro x w4 ⟨er, i4, e4, rfl, ber, h4, hi4, t4, r4⟩
  clear c4 hz
  replace B := B.tch t4 hSR
  replace V := V.tch t4 hVR
  replace T := T.trans t4
  have k14 := B.cell 14
  have l14 := B.loose 14
  simp only [List.getElem?_toArray, List.getElem?_cons_zero, List.getElem?_cons_succ] at k14
  go_wp2_with fail
  obtain ⟨z, hz⟩ : ∃ x, w4.setCell ⟨N, 14, none⟩ (.int .i64 er) = x := ⟨_, rfl⟩
  replace B := B.set_ 14 (.int .i64 er)
  replace V := V.far (p := ⟨N, 14, none⟩) hVS (.int .i64 er)
  replace h4 := h4.far (p := ⟨N, 14, none⟩) hRS (.int .i64 er)
  replace T := tch_new (o := 14) T hwS (.int .i64 er)
  rw [hz] at B V h4 T
  replace B : Blk z N NT #[.int .i64 pc, .slice none 0 0, .string ⟨#[]⟩, .string ⟨#[]⟩, .string ⟨#[]⟩, .string ⟨#[]⟩, .string ⟨#[]⟩, .string ⟨#[]⟩, .string ⟨#[]⟩, .string ⟨#[]⟩, .string ⟨#[]⟩, .string ⟨#[]⟩, .slice none 0 0, .int .i64 md, .int .i64 er, .int .i64 0, .int .i64 0, .int .i64 0, .slice none 0 0, .slice none 0 0, .slice none 0 0, .int .i64 ta] := B
  have c5 := num_c R s i4 e4 z h4 hi4 hs
  rw [hz]
  (with_reducible refine c5.mono ?_)
  rintro x w5 ⟨us, i5, e5, rfl, bus, h5, hi5, t5, r5⟩
  clear c5 hz
  replace B := B.tch t5 hSR
  replace V := V.tch t5 hVR
  replace T := T.trans t5
  have k15 := B.cell 15
  have l15 := B.loose 15
  simp only [List.getElem?_toArray, List.getElem?_cons_zero, List.getElem?_cons_succ] at k15
  go_wp2_with fail
  obtain ⟨z, hz⟩ : ∃ x, w5.setCell ⟨N, 15, none⟩ (.int .i64 us) = x := ⟨_, rfl⟩
  replace B := B.set_ 15 (.int .i64 us)
  replace V := V.far (p := ⟨N, 15, none⟩) hVS (.int .i64 us)
  replace h5 := h5.far (p := ⟨N, 15, none⟩) hRS (.int .i64 us)
  replace T := tch_new (o := 15) T hwS (.int .i64 us)
  rw [hz] at B V h5 T
  replace B : Blk z N NT #[.int .i64 pc, .slice none 0 0, .string ⟨#[]⟩, .string ⟨#[]⟩, .string ⟨#[]⟩, .string ⟨#[]⟩, .string ⟨#[]⟩, .string ⟨#[]⟩, .string ⟨#[]⟩, .string ⟨#[]⟩, .string ⟨#[]⟩, .string ⟨#[]⟩, .slice none 0 0, .int .i64 md, .int .i64 er, .int .i64 us, .int .i64 0, .int .i64 0, .slice none 0 0, .slice none 0 0, .slice none 0 0, .int .i64 ta] := B
  have c6 := num_c R s i5 e5 z h5 hi5 hs
  rw [hz]
  (with_reducible refine c6.mono ?_)
  rintro x w6 ⟨ti, i6, e6, rfl, bti, h6, hi6, t6, r6⟩
  clear c6 hz
  replace B := B.tch t6 hSR
  replace V := V.tch t6 hVR
  replace T := T.trans t6
  have k16 := B.cell 16
  have l16 := B.loose 16
  simp only [List.getElem?_toArray, List.getElem?_cons_zero, List.getElem?_cons_succ] at k16
  go_wp2_with fail
  obtain ⟨z, hz⟩ : ∃ x, w6.setCell ⟨N, 16, none⟩ (.int .i64 ti) = x := ⟨_, rfl⟩
  replace B := B.set_ 16 (.int .i64 ti)
  replace V := V.far (p := ⟨N, 16, none⟩) hVS (.int .i64 ti)
  replace h6 := h6.far (p := ⟨N, 16, none⟩) hRS (.int .i64 ti)
  replace T := tch_new (o := 16) T hwS (.int .i64 ti)
  rw [hz] at B V h6 T
  replace B : Blk z N NT #[.int .i64 pc, .slice none 0 0, .string ⟨#[]⟩, .string ⟨#[]⟩, .string ⟨#[]⟩, .string ⟨#[]⟩, .string ⟨#[]⟩, .string ⟨#[]⟩, .string ⟨#[]⟩, .string ⟨#[]⟩, .string ⟨#[]⟩, .string ⟨#[]⟩, .slice none 0 0, .int .i64 md, .int .i64 er, .int .i64 us, .int .i64 ti, .int .i64 0, .slice none 0 0, .slice none 0 0, .slice none 0 0, .int .i64 ta] := B
  have c7 := num_c R s i6 e6 z h6 hi6 hs
  rw [hz]
  (with_reducible refine c7.mono ?_)
  rintro x w7 ⟨el, i7, e7, rfl, bel, h7, hi7, t7, r7⟩
  clear c7 hz
  replace B := B.tch t7 hSR
  replace V := V.tch t7 hVR
  replace T := T.trans t7
  have k17 := B.cell 17
  have l17 := B.loose 17
  simp only [List.getElem?_toArray, List.getElem?_cons_zero, List.getElem?_cons_succ] at k17
  go_wp2_with fail
  obtain ⟨z, hz⟩ : ∃ x, w7.setCell ⟨N, 17, none⟩ (.int .i64 el) = x := ⟨_, rfl⟩
  replace B := B.set_ 17 (.int .i64 el)
  replace V := V.far (p := ⟨N, 17, none⟩) hVS (.int .i64 el)
  replace h7 := h7.far (p := ⟨N, 17, none⟩) hRS (.int .i64 el)
  replace T := tch_new (o := 17) T hwS (.int .i64 el)
  rw [hz] at B V h7 T
  replace B : Blk z N NT #[.int .i64 pc, .slice none 0 0, .string ⟨#[]⟩, .string ⟨#[]⟩, .string ⟨#[]⟩, .string ⟨#[]⟩, .string ⟨#[]⟩, .string ⟨#[]⟩, .string ⟨#[]⟩, .string ⟨#[]⟩, .string ⟨#[]⟩, .string ⟨#[]⟩, .slice none 0 0, .int .i64 md, .int .i64 er, .int .i64 us, .int .i64 ti, .int .i64 el, .slice none 0 0, .slice none 0 0, .slice none 0 0, .int .i64 ta] := B
  have c8 := vars_c R s i7 e7 z h7 hi7 hs
  rw [hz]
  (with_reducible refine c8.mono ?_)
  rintro x w8 ⟨vvs, vs, i8, e8, rfl, ovs, bvs, dvs, h8, hi8, t8, r8⟩
  clear c8 hz
  obtain ⟨Avs, Cvs, rfl⟩ := own_shape ovs
  replace ovs := own_mono ovs T.size
  replace B := B.tch t8 hSR
  replace V := V.tch t8 hVR
  replace T := T.trans t8
  have k1 := B.cell 1
  have l1 := B.loose 1
  simp only [List.getElem?_toArray, List.getElem?_cons_zero, List.getElem?_cons_succ] at k1
  go_wp2_with fail
  obtain ⟨z, hz⟩ : ∃ x, w8.setCell ⟨N, 1, none⟩ (.slice Avs vs.length Cvs) = x := ⟨_, rfl⟩
  replace ovs := own_keep ovs (set_rows B (by decide) (.slice Avs vs.length Cvs) (o := 1))
  replace B := B.set_ 1 (.slice Avs vs.length Cvs)
  replace V := V.far (p := ⟨N, 1, none⟩) hVS (.slice Avs vs.length Cvs)
  replace h8 := h8.far (p := ⟨N, 1, none⟩) hRS (.slice Avs vs.length Cvs)
  replace T := tch_new (o := 1) T hwS (.slice Avs vs.length Cvs)
  rw [hz] at B V h8 T ovs
  replace B : Blk z N NT #[.int .i64 pc, .slice Avs vs.length Cvs, .string ⟨#[]⟩, .string ⟨#[]⟩, .string ⟨#[]⟩, .string ⟨#[]⟩, .string ⟨#[]⟩, .string ⟨#[]⟩, .string ⟨#[]⟩, .string ⟨#[]⟩, .string ⟨#[]⟩, .string ⟨#[]⟩, .slice none 0 0, .int .i64 md, .int .i64 er, .int .i64 us, .int .i64 ti, .int .i64 el, .slice none 0 0, .slice none 0 0, .slice none 0 0, .int .i64 ta] := B
  rw [hz]
  clear hz
  go_wp2_with fail
  go_loopw [53] (fun v wr => ∃ (k : Nat) (cu : List Bs) (j e' : Nat), v = .int .i64 k ∧ cu.length = k ∧ k ≤ 10 ∧ (∀ b ∈ cu, b.length ≤ 65536) ∧ Blk wr N NT (cutArr [.int .i64 pc, .slice Avs vs.length Cvs] [.slice none 0 0, .int .i64 md, .int .i64 er, .int .i64 us, .int .i64 ti, .int .i64 el, .slice none 0 0, .slice none 0 0, .slice none 0 0, .int .i64 ta] cu) ∧ Blk wr V0 NT #[.int .i64 0, .slice none 0 0, .string ⟨#[]⟩, .string ⟨#[]⟩, .string ⟨#[]⟩, .string ⟨#[]⟩, .string ⟨#[]⟩, .string ⟨#[]⟩, .string ⟨#[]⟩, .string ⟨#[]⟩, .string ⟨#[]⟩, .string ⟨#[]⟩, .slice none 0 0, .int .i64 0, .int .i64 0, .int .i64 0, .int .i64 0, .int .i64 0, .slice none 0 0, .slice none 0 0, .slice none 0 0, .int .i64 0] ∧ Rdr wr R s j e' ∧ j ≤ s.size ∧ Tch (On R) w wr ∧
    wr.ownsRow w.heap.size 45 2 (.slice Avs vs.length Cvs) vs.length (vcells vs) ∧ Run (repP textP k) (ab s i8 e8) (ab s j e') (fun m => m = cu)) (fun v _ => 10 - (intOf v).toNat)
  case atStart => exact ⟨0, [], i8, e8, rfl, rfl, by omega, fun _ h => (by cases h), by rw [cut0]; exact B, V, h8, hi8, T, ovs, by cases hab : ab s i8 e8 <;> simp [Run, repP]⟩
  case round =>
    clear B V h8 hi8 T ovs
    obtain ⟨k, cu, j, e', rfl, hcu, hk, hcl, B, V, hr, hj, T, ovs, hrun⟩ := hrel
    by_cases hlt : k < 10
    · have dk : decide ((k : Int) < 10) = true := by simp; omega
      have hki : (k : Int) < 10 := by omega
      have hrd : Rdr wr.drew R s j e' := hr
      have ct := text_c R s j e' wr.drew hrd hj hs
      go_wp2_with fail
      go_region_law (go_simp; go_at_call 17; (with_reducible refine ct.mono ?_); rintro x w2 ⟨t, j2, e2, rfl, bt, h2, hj2, t2, r2⟩; have B0 : Blk wr.drew N NT (cutArr [.int .i64 pc, .slice Avs vs.length Cvs] [.slice none 0 0, .int .i64 md, .int .i64 er, .int .i64 us, .int .i64 ti, .int .i64 el, .slice none 0 0, .slice none 0 0, .slice none 0 0, .int .i64 ta] cu) := B; have B2 := B0.tch t2 hSR; have k2 := (B2.cell (2 + k)).trans (cut_get hcu hlt); have l2 := B2.loose (2 + k))
      all_goals
        have V2 := V.tch (w' := wr.drew) (tch_drew (Tch.refl _ _)) hVR
        replace V2 := (V2.tch t2 hVR).far (p := ⟨N, 2 + k, none⟩) hVS (.string t)
        have h3 := h2.far (p := ⟨N, 2 + k, none⟩) hRS (.string t)
        have T3 := tch_new (o := 2 + k) ((tch_drew T).trans t2) hwS (.string t)
        have o3 := own_keep (own_keep (show wr.drew.ownsRow w.heap.size 45 2 (.slice Avs vs.length Cvs) vs.length (vcells vs) from ovs) (rdr_rows hrd t2 (by decide))) (set_rows B2 (by decide) (.string t) (o := 2 + k))
        have B3 := B2.set_ (2 + k) (.string t)
        rw [cut_set t hcu hlt] at B3
        go_wp2
        go_roundw
        case rel => exact ⟨k + 1, cu ++ [t.data.toList], j2, e2, by go_num, by simp [hcu], by omega, fun b hb => (by
          rcases List.mem_append.1 hb with hb | hb
          · exact hcl b hb
          · rw [List.mem_singleton] at hb; rw [hb, ← Lib.size_eq]; exact bt), B3, V2, h3, hj2, T3, o3, Run.snoc hrun r2⟩
        case measure => simp [intOf] <;> omega
    have dk : decide ((k : Int) < 10) = false := by simp; omega
    obtain rfl : k = 10 := by omega
    obtain ⟨x0, x1, x2, x3, x4, x5, x6, x7, x8, x9, rfl⟩ := ten cu hcu
    rw [cut10] at B
    go_wp2_with fail
    have c10 := ints_c R s j e' wr hr hj hs
    skip
    (with_reducible refine c10.mono ?_)
    rintro x w10 ⟨vst, st, i10, e10, rfl, ost, bst, dst, h10, hi10, t10, r10⟩
    clear c10 
    obtain ⟨Ast, Cst, rfl⟩ := own_shape ost
    replace ost := own_mono ost T.size
    replace ovs := own_keep ovs (rdr_rows hr t10 (by decide))
    replace B := B.tch t10 hSR
    replace V := V.tch t10 hVR
    replace T := T.trans t10
    have k12 := B.cell 12
    have l12 := B.loose 12
    simp only [List.getElem?_toArray, List.getElem?_cons_zero, List.getElem?_cons_succ] at k12
    go_wp2_with fail
    obtain ⟨z, hz⟩ : ∃ x, w10.setCell ⟨N, 12, none⟩ (.slice Ast st.length Cst) = x := ⟨_, rfl⟩
    replace ovs := own_keep ovs (set_rows B (by decide) (.slice Ast st.length Cst) (o := 12))
    replace ost := own_keep ost (set_rows B (by decide) (.slice Ast st.length Cst) (o := 12))
    replace B := B.set_ 12 (.slice Ast st.length Cst)
    replace V := V.far (p := ⟨N, 12, none⟩) hVS (.slice Ast st.length Cst)
    replace h10 := h10.far (p := ⟨N, 12, none⟩) hRS (.slice Ast st.length Cst)
    replace T := tch_new (o := 12) T hwS (.slice Ast st.length Cst)
    rw [hz] at B V h10 T ovs ost
    replace B : Blk z N NT #[.int .i64 pc, .slice Avs vs.length Cvs, .string (bz x0), .string (bz x1), .string (bz x2), .string (bz x3), .string (bz x4), .string (bz x5), .string (bz x6), .string (bz x7), .string (bz x8), .string (bz x9), .slice Ast st.length Cst, .int .i64 md, .int .i64 er, .int .i64 us, .int .i64 ti, .int .i64 el, .slice none 0 0, .slice none 0 0, .slice none 0 0, .int .i64 ta] := B
    have c11 := ints_c R s i10 e10 z h10 hi10 hs
    rw [hz]
    (with_reducible refine c11.mono ?_)
    rintro x w11 ⟨vbf, bf, i11, e11, rfl, obf, bbf, dbf, h11, hi11, t11, r11⟩
    clear c11 hz
    obtain ⟨Abf, Cbf, rfl⟩ := own_shape obf
    replace obf := own_mono obf T.size
    replace ovs := own_keep ovs (rdr_rows h10 t11 (by decide))
    replace ost := own_keep ost (rdr_rows h10 t11 (by decide))
    replace B := B.tch t11 hSR
    replace V := V.tch t11 hVR
    replace T := T.trans t11
    have k18 := B.cell 18
    have l18 := B.loose 18
    simp only [List.getElem?_toArray, List.getElem?_cons_zero, List.getElem?_cons_succ] at k18
    go_wp2_with fail
    obtain ⟨z, hz⟩ : ∃ x, w11.setCell ⟨N, 18, none⟩ (.slice Abf bf.length Cbf) = x := ⟨_, rfl⟩
    replace ovs := own_keep ovs (set_rows B (by decide) (.slice Abf bf.length Cbf) (o := 18))
    replace ost := own_keep ost (set_rows B (by decide) (.slice Abf bf.length Cbf) (o := 18))
    replace obf := own_keep obf (set_rows B (by decide) (.slice Abf bf.length Cbf) (o := 18))
    replace B := B.set_ 18 (.slice Abf bf.length Cbf)
    replace V := V.far (p := ⟨N, 18, none⟩) hVS (.slice Abf bf.length Cbf)
    replace h11 := h11.far (p := ⟨N, 18, none⟩) hRS (.slice Abf bf.length Cbf)
    replace T := tch_new (o := 18) T hwS (.slice Abf bf.length Cbf)
    rw [hz] at B V h11 T ovs ost obf
    replace B : Blk z N NT #[.int .i64 pc, .slice Avs vs.length Cvs, .string (bz x0), .string (bz x1), .string (bz x2), .string (bz x3), .string (bz x4), .string (bz x5), .string (bz x6), .string (bz x7), .string (bz x8), .string (bz x9), .slice Ast st.length Cst, .int .i64 md, .int .i64 er, .int .i64 us, .int .i64 ti, .int .i64 el, .slice Abf bf.length Cbf, .slice none 0 0, .slice none 0 0, .int .i64 ta] := B
    have c12 := ints_c R s i11 e11 z h11 hi11 hs
    rw [hz]
    (with_reducible refine c12.mono ?_)
    rintro x w12 ⟨vaf, af, i12, e12, rfl, oaf, baf, daf, h12, hi12, t12, r12⟩
    clear c12 hz
    obtain ⟨Aaf, Caf, rfl⟩ := own_shape oaf
    replace oaf := own_mono oaf T.size
    replace ovs := own_keep ovs (rdr_rows h11 t12 (by decide))
    replace ost := own_keep ost (rdr_rows h11 t12 (by decide))
    replace obf := own_keep obf (rdr_rows h11 t12 (by decide))
    replace B := B.tch t12 hSR
    replace V := V.tch t12 hVR
    replace T := T.trans t12
    have k19 := B.cell 19
    have l19 := B.loose 19
    simp only [List.getElem?_toArray, List.getElem?_cons_zero, List.getElem?_cons_succ] at k19
    go_wp2_with fail
    obtain ⟨z, hz⟩ : ∃ x, w12.setCell ⟨N, 19, none⟩ (.slice Aaf af.length Caf) = x := ⟨_, rfl⟩
    replace ovs := own_keep ovs (set_rows B (by decide) (.slice Aaf af.length Caf) (o := 19))
    replace ost := own_keep ost (set_rows B (by decide) (.slice Aaf af.length Caf) (o := 19))
    replace obf := own_keep obf (set_rows B (by decide) (.slice Aaf af.length Caf) (o := 19))
    replace oaf := own_keep oaf (set_rows B (by decide) (.slice Aaf af.length Caf) (o := 19))
    replace B := B.set_ 19 (.slice Aaf af.length Caf)
    replace V := V.far (p := ⟨N, 19, none⟩) hVS (.slice Aaf af.length Caf)
    replace h12 := h12.far (p := ⟨N, 19, none⟩) hRS (.slice Aaf af.length Caf)
    replace T := tch_new (o := 19) T hwS (.slice Aaf af.length Caf)
    rw [hz] at B V h12 T ovs ost obf oaf
    replace B : Blk z N NT #[.int .i64 pc, .slice Avs vs.length Cvs, .string (bz x0), .string (bz x1), .string (bz x2), .string (bz x3), .string (bz x4), .string (bz x5), .string (bz x6), .string (bz x7), .string (bz x8), .string (bz x9), .slice Ast st.length Cst, .int .i64 md, .int .i64 er, .int .i64 us, .int .i64 ti, .int .i64 el, .slice Abf bf.length Cbf, .slice Aaf af.length Caf, .slice none 0 0, .int .i64 ta] := B
    have c13 := sides_c R s i12 e12 z h12 hi12 hs
    rw [hz]
    (with_reducible refine c13.mono ?_)
    rintro x w13 ⟨vso, ds, so, i13, e13, rfl, oso, bso, dso, h13, hi13, t13, r13⟩
    clear c13 hz
    obtain ⟨Aso, Cso, rfl⟩ := own_shape oso
    replace oso := own_mono oso T.size
    replace dso := SdsO.base dso T.size
    replace ovs := own_keep ovs (rdr_rows h12 t13 (by decide))
    replace ost := own_keep ost (rdr_rows h12 t13 (by decide))
    replace obf := own_keep obf (rdr_rows h12 t13 (by decide))
    replace oaf := own_keep oaf (rdr_rows h12 t13 (by decide))
    replace B := B.tch t13 hSR
    replace V := V.tch t13 hVR
    replace T := T.trans t13
    have k20 := B.cell 20
    have l20 := B.loose 20
    simp only [List.getElem?_toArray, List.getElem?_cons_zero, List.getElem?_cons_succ] at k20
    have g1 := h13.cell 1
    have g2 := h13.cell 2
    simp only [List.getElem?_toArray, List.getElem?_cons_zero, List.getElem?_cons_succ] at g1 g2
    replace dso := SdsO.keep dso (w' := (w13.setCell ⟨N, 20, none⟩ (.slice Aso so.length Cso))) (fun g c t ht hg => set_rows (e := t) B (by rcases ht with rfl | rfl <;> decide) (.slice Aso so.length Cso) (o := 20) g c hg)
    replace ovs := own_keep ovs (set_rows B (by decide) (.slice Aso so.length Cso) (o := 20))
    replace ost := own_keep ost (set_rows B (by decide) (.slice Aso so.length Cso) (o := 20))
    replace obf := own_keep obf (set_rows B (by decide) (.slice Aso so.length Cso) (o := 20))
    replace oaf := own_keep oaf (set_rows B (by decide) (.slice Aso so.length Cso) (o := 20))
    replace oso := own_keep oso (set_rows B (by decide) (.slice Aso so.length Cso) (o := 20))
    replace B := B.set_ 20 (.slice Aso so.length Cso)
    replace V := V.far (p := ⟨N, 20, none⟩) hVS (.slice Aso so.length Cso)
    replace h13 := h13.far (p := ⟨N, 20, none⟩) hRS (.slice Aso so.length Cso)
    replace T := tch_new (o := 20) T hwS (.slice Aso so.length Cso)
    replace B : Blk (w13.setCell ⟨N, 20, none⟩ (.slice Aso so.length Cso)) N NT #[.int .i64 pc, .slice Avs vs.length Cvs, .string (bz x0), .string (bz x1), .string (bz x2), .string (bz x3), .string (bz x4), .string (bz x5), .string (bz x6), .string (bz x7), .string (bz x8), .string (bz x9), .slice Ast st.length Cst, .int .i64 md, .int .i64 er, .int .i64 us, .int .i64 ti, .int .i64 el, .slice Abf bf.length Cbf, .slice Aaf af.length Caf, .slice Aso so.length Cso, .int .i64 ta] := B
    have RUN := Run.pair r1 (Run.pair r2 (Run.pair r3 (Run.pair r4 (Run.pair r5 (Run.pair r6 (Run.pair r7 (Run.pair r8 (Run.pair hrun (Run.pair r10 (Run.pair r11 (Run.pair r12 r13)))))))))))
    have f1 := h13.cell 1
    have f2 := h13.cell 2
    simp only [List.getElem?_toArray, List.getElem?_cons_zero, List.getElem?_cons_succ] at f1 f2
    replace RUN : Run nodeP (ab s 0 0) (ab s i13 e13) (fun x => x = (ta, pc, md, er, us, ti, el, vs, [x0, x1, x2, x3, x4, x5, x6, x7, x8, x9], st, bf, af, so)) := RUN.mono fun x hx => by
      obtain ⟨y1, y2, y3, y4, y5, y6, y7, y8, y9, y10, y11, y12, y13⟩ := x
      obtain ⟨rfl, rfl, rfl, rfl, rfl, rfl, rfl, rfl, rfl, rfl, rfl, rfl, rfl⟩ := hx
      rfl
    generalize hQ : bodyPost Try.prog Try.f7 (DPost s w) = Q at *
    by_cases hlt : i13 < s.size
    · have da : decide ((i13 : Int) < (s.size : Int)) = true := by simp; omega
      by_cases he : e13 = 0
      · subst he
        have cf := fail_yes R s i13 i13 1 (w13.setCell ⟨N, 20, none⟩ (.slice Aso so.length Cso)) h13
        go_wp2_with fail
        (with_reducible refine cf.mono ?_)
        rintro x wf ⟨rfl, hf, tf⟩
        have VV := V.tch tf hVR
        have TT := T.trans tf
        have q1 := hf.cell 1
        have q2 := hf.cell 2
        simp only [List.getElem?_toArray, List.getElem?_cons_zero, List.getElem?_cons_succ] at q1 q2
        have DEC := dec_more RUN hlt
        have II := hi13
        have RI : rowIs wf.drew V0 NT 22 := ⟨_, VV, rfl⟩
        have y1 := cell_row (show Rdr wf.drew R s i13 1 from hf) hRV #[.int .i64 0, .slice none 0 0, .string ⟨#[]⟩, .string ⟨#[]⟩, .string ⟨#[]⟩, .string ⟨#[]⟩, .string ⟨#[]⟩, .string ⟨#[]⟩, .string ⟨#[]⟩, .string ⟨#[]⟩, .string ⟨#[]⟩, .string ⟨#[]⟩, .slice none 0 0, .int .i64 0, .int .i64 0, .int .i64 0, .int .i64 0, .int .i64 0, .slice none 0 0, .slice none 0 0, .slice none 0 0, .int .i64 0] 1
        have y2 := cell_row (show Rdr wf.drew R s i13 1 from hf) hRV #[.int .i64 0, .slice none 0 0, .string ⟨#[]⟩, .string ⟨#[]⟩, .string ⟨#[]⟩, .string ⟨#[]⟩, .string ⟨#[]⟩, .string ⟨#[]⟩, .string ⟨#[]⟩, .string ⟨#[]⟩, .string ⟨#[]⟩, .string ⟨#[]⟩, .slice none 0 0, .int .i64 0, .int .i64 0, .int .i64 0, .int .i64 0, .int .i64 0, .slice none 0 0, .slice none 0 0, .slice none 0 0, .int .i64 0] 2
        simp only [List.getElem?_toArray, List.getElem?_cons_zero, List.getElem?_cons_succ] at y1 y2
        go_wp2
        go_region
        all_goals
          go_wp2
          subst hQ
          refine bodyPost_ret (results_three (P := Try.prog) (p := 2) (a := 3) (b := 4) rfl _ _ V0 31 #[.int .i64 0, .slice none 0 0, .string ⟨#[]⟩, .string ⟨#[]⟩, .string ⟨#[]⟩, .string ⟨#[]⟩, .string ⟨#[]⟩, .string ⟨#[]⟩, .string ⟨#[]⟩, .string ⟨#[]⟩, .string ⟨#[]⟩, .string ⟨#[]⟩, .slice none 0 0, .int .i64 0, .int .i64 0, .int .i64 0, .int .i64 0, .int .i64 0, .slice none 0 0, .slice none 0 0, .slice none 0 0, .int .i64 0] (0, 0) _ _ _ rfl rfl rfl (blk_row VV _) Try.underlying31 rfl (by as_aux_lemma => kernel_rfl)) rfl ?_
          refine ⟨tch_below (tch_row (tch_drew TT) (by omega) _) (by omega), Or.inr ⟨_, _, DEC, II, rfl⟩⟩
      · have d0 : ((e13 : Int) == 0) = false := by rw [beq_eq_false_iff_ne]; omega
        have d1 : ((e13 : Int) != 0) = true := by rw [bne_iff_ne]; omega
        have cf := fail_no R s i13 i13 e13 1 (w13.setCell ⟨N, 20, none⟩ (.slice Aso so.length Cso)) h13 (by omega)
        go_wp2_with fail
        (with_reducible refine cf.mono ?_)
        rintro x wf ⟨rfl, rfl⟩
        have VV := V
        have TT := T
        have DEC := dec_err RUN he
        have II := hi13
        have RI : rowIs (w13.setCell ⟨N, 20, none⟩ (.slice Aso so.length Cso)).drew V0 NT 22 := ⟨_, VV, rfl⟩
        have y1 := cell_row (show Rdr (w13.setCell ⟨N, 20, none⟩ (.slice Aso so.length Cso)).drew R s i13 e13 from h13) hRV #[.int .i64 0, .slice none 0 0, .string ⟨#[]⟩, .string ⟨#[]⟩, .string ⟨#[]⟩, .string ⟨#[]⟩, .string ⟨#[]⟩, .string ⟨#[]⟩, .string ⟨#[]⟩, .string ⟨#[]⟩, .string ⟨#[]⟩, .string ⟨#[]⟩, .slice none 0 0, .int .i64 0, .int .i64 0, .int .i64 0, .int .i64 0, .int .i64 0, .slice none 0 0, .slice none 0 0, .slice none 0 0, .int .i64 0] 1
        have y2 := cell_row (show Rdr (w13.setCell ⟨N, 20, none⟩ (.slice Aso so.length Cso)).drew R s i13 e13 from h13) hRV #[.int .i64 0, .slice none 0 0, .string ⟨#[]⟩, .string ⟨#[]⟩, .string ⟨#[]⟩, .string ⟨#[]⟩, .string ⟨#[]⟩, .string ⟨#[]⟩, .string ⟨#[]⟩, .string ⟨#[]⟩, .string ⟨#[]⟩, .string ⟨#[]⟩, .slice none 0 0, .int .i64 0, .int .i64 0, .int .i64 0, .int .i64 0, .int .i64 0, .slice none 0 0, .slice none 0 0, .slice none 0 0, .int .i64 0] 2
        simp only [List.getElem?_toArray, List.getElem?_cons_zero, List.getElem?_cons_succ] at y1 y2
        go_wp2
        go_region
        all_goals
          go_wp2
          subst hQ
          refine bodyPost_ret (results_three (P := Try.prog) (p := 2) (a := 3) (b := 4) rfl _ _ V0 31 #[.int .i64 0, .slice none 0 0, .string ⟨#[]⟩, .string ⟨#[]⟩, .string ⟨#[]⟩, .string ⟨#[]⟩, .string ⟨#[]⟩, .string ⟨#[]⟩, .string ⟨#[]⟩, .string ⟨#[]⟩, .string ⟨#[]⟩, .string ⟨#[]⟩, .slice none 0 0, .int .i64 0, .int .i64 0, .int .i64 0, .int .i64 0, .int .i64 0, .slice none 0 0, .slice none 0 0, .slice none 0 0, .int .i64 0] (0, 0) _ _ _ rfl rfl rfl (blk_row VV _) Try.underlying31 rfl (by as_aux_lemma => kernel_rfl)) rfl ?_
          refine ⟨tch_below (tch_row (tch_drew TT) (by omega) _) (by omega), Or.inr ⟨_, _, DEC, II, rfl⟩⟩
    · have da : decide ((i13 : Int) < (s.size : Int)) = false := by simp; omega
      by_cases he : e13 = 0
      · subst he
        have d1 : (((0 : Nat) : Int) != 0) = false := by simp
        have RI : rowIs (w13.setCell ⟨N, 20, none⟩ (.slice Aso so.length Cso)) V0 NT 22 := ⟨_, V, rfl⟩
        go_wp2_with (refine wpList_load_row (by rfl) 31 (.tmp 6) (by rfl) N (by rfl) 31 _ (0, 0) _ (by exact B) Try.underlying31 (by rfl) (by as_aux_lemma => kernel_rfl) ?_)
        subst hQ
        refine bodyPost_ret (results_three (P := Try.prog) (p := 2) (a := 3) (b := 4) rfl _ _ V0 31 #[.int .i64 pc, .slice Avs vs.length Cvs, .string (bz x0), .string (bz x1), .string (bz x2), .string (bz x3), .string (bz x4), .string (bz x5), .string (bz x6), .string (bz x7), .string (bz x8), .string (bz x9), .slice Ast st.length Cst, .int .i64 md, .int .i64 er, .int .i64 us, .int .i64 ti, .int .i64 el, .slice Abf bf.length Cbf, .slice Aaf af.length Caf, .slice Aso so.length Cso, .int .i64 ta] (0, 0) _ _ _ rfl rfl rfl (blk_row V _) Try.underlying31 rfl (by as_aux_lemma => kernel_rfl)) rfl ?_
        have kr : ∀ (e : TypeId), NT ≠ e → StaL.Rows e (w13.setCell ⟨N, 20, none⟩ (.slice Aso so.length Cso)) ((w13.setCell ⟨N, 20, none⟩ (.slice Aso so.length Cso)).setRow V0 #[.int .i64 pc, .slice Avs vs.length Cvs, .string (bz x0), .string (bz x1), .string (bz x2), .string (bz x3), .string (bz x4), .string (bz x5), .string (bz x6), .string (bz x7), .string (bz x8), .string (bz x9), .slice Ast st.length Cst, .int .i64 md, .int .i64 er, .int .i64 us, .int .i64 ti, .int .i64 el, .slice Abf bf.length Cbf, .slice Aaf af.length Caf, .slice Aso so.length Cso, .int .i64 ta]) := fun e he g c hg => other_row V _ g c e (0, 0) he hg
        exact ⟨tch_below (tch_row T (by omega) _) (by omega), Or.inl ⟨_, _, dec_ok RUN (by omega), rfl, Avs, Cvs, Ast, Cst, Abf, Cbf, Aaf, Caf, Aso, Cso, ds, by simp only [ndArr]; rw [cut10],
          ⟨bta, bpc, bmd, ber, bus, bti, bel, ⟨bvs, dvs⟩, ⟨rfl, hcl⟩, ⟨bst, dst⟩, ⟨bbf, dbf⟩, ⟨baf, daf⟩, bso⟩, own_keep ovs (kr _ (by decide)), own_keep ost (kr _ (by decide)), own_keep obf (kr _ (by decide)), own_keep oaf (kr _ (by decide)), own_keep oso (kr _ (by decide)),
          SdsO.keep dso (fun g c t ht hg => kr t (by rcases ht with rfl | rfl <;> decide) g c hg)⟩⟩
      · have d1 : ((e13 : Int) != 0) = true := by rw [bne_iff_ne]; omega
        have VV := V
        have TT := T
        have DEC := dec_err RUN he
        have II := hi13
        have RI : rowIs (w13.setCell ⟨N, 20, none⟩ (.slice Aso so.length Cso)).drew V0 NT 22 := ⟨_, VV, rfl⟩
        have y1 := cell_row (show Rdr (w13.setCell ⟨N, 20, none⟩ (.slice Aso so.length Cso)).drew R s i13 e13 from h13) hRV #[.int .i64 0, .slice none 0 0, .string ⟨#[]⟩, .string ⟨#[]⟩, .string ⟨#[]⟩, .string ⟨#[]⟩, .string ⟨#[]⟩, .string ⟨#[]⟩, .string ⟨#[]⟩, .string ⟨#[]⟩, .string ⟨#[]⟩, .string ⟨#[]⟩, .slice none 0 0, .int .i64 0, .int .i64 0, .int .i64 0, .int .i64 0, .int .i64 0, .slice none 0 0, .slice none 0 0, .slice none 0 0, .int .i64 0] 1
        have y2 := cell_row (show Rdr (w13.setCell ⟨N, 20, none⟩ (.slice Aso so.length Cso)).drew R s i13 e13 from h13) hRV #[.int .i64 0, .slice none 0 0, .string ⟨#[]⟩, .string ⟨#[]⟩, .string ⟨#[]⟩, .string ⟨#[]⟩, .string ⟨#[]⟩, .string ⟨#[]⟩, .string ⟨#[]⟩, .string ⟨#[]⟩, .string ⟨#[]⟩, .string ⟨#[]⟩, .slice none 0 0, .int .i64 0, .int .i64 0, .int .i64 0, .int .i64 0, .int .i64 0, .slice none 0 0, .slice none 0 0, .slice none 0 0, .int .i64 0] 2
        simp only [List.getElem?_toArray, List.getElem?_cons_zero, List.getElem?_cons_succ] at y1 y2
        go_wp2
        go_region
        all_goals
          go_wp2
          subst hQ
          refine bodyPost_ret (results_three (P := Try.prog) (p := 2) (a := 3) (b := 4) rfl _ _ V0 31 #[.int .i64 0, .slice none 0 0, .string ⟨#[]⟩, .string ⟨#[]⟩, .string ⟨#[]⟩, .string ⟨#[]⟩, .string ⟨#[]⟩, .string ⟨#[]⟩, .string ⟨#[]⟩, .string ⟨#[]⟩, .string ⟨#[]⟩, .string ⟨#[]⟩, .slice none 0 0, .int .i64 0, .int .i64 0, .int .i64 0, .int .i64 0, .int .i64 0, .slice none 0 0, .slice none 0 0, .slice none 0 0, .int .i64 0] (0, 0) _ _ _ rfl rfl rfl (blk_row VV _) Try.underlying31 rfl (by as_aux_lemma => kernel_rfl)) rfl ?_
          refine ⟨tch_below (tch_row (tch_drew TT) (by omega) _) (by omega), Or.inr ⟨_, _, DEC, II, rfl⟩⟩
end StaD
end Go.Proofs.Ytfkjogkpdebepaa
