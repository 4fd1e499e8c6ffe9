/- The closures of CalcRules: one's tree, two's tree, what a tree comes to. Conditions: trees that fit. -/
import Derived.Test.YtledgkplddeghaaDoorCalF
namespace Go.Proofs.YtledgkplddeghaaDoor
set_option linter.unusedVariables false
set_option linter.unusedSimpArgs false
open Go.RowKit
namespace CalW
open CalP QuoP QuoW MemP MemW
abbrev Any : Nat → Prop := fun _ => True
def one (k : Int) (r : Ex) : Ex := .mk k 0 ByteArray.empty ByteArray.empty [r]
def two (op : ByteArray) (r s : Ex) : Ex := .mk 4 0 ByteArray.empty op [r, s]
theorem Et.any {K : Nat → Prop} {w : World} {r : Ex} {cs : List Value} (h : Et w K r cs) : Et w Any r cs := h.keep (fun _ _ => trivial) (fun _ _ _ => rfl)
theorem Et.up {w w' : World} {r : Ex} {cs : List Value} (h : Et w Any r cs) (hb : Below w.heap.size w w') : Et w' Any r cs := h.bel hb
theorem et_one {w w' : World} {r : Ex} {cs : List Value} (h : Et w Any r cs) (hb : Below w.heap.size w w') (k : Int) (hk : I64 k) (g c : Nat) (X : Blk w' g 24 cs.toArray) :
    Et w' Any (one k r) (exC k 0 ByteArray.empty ByteArray.empty (some ⟨g, 0, none⟩) 1 c) := by
  refine .mk k 0 ByteArray.empty ByteArray.empty [r] (some ⟨g, 0, none⟩) c (fun _ => cs) hk (by unfold I64; omega) (by decide) (by decide) (by simp [maxLen]) ?_ ?_
  · intro i hi
    obtain rfl : i = 0 := by simp at hi; omega
    exact h.up hb
  · intro _
    refine ⟨g, 0, rfl, trivial, fun i hi j u hu => ?_⟩
    obtain rfl : i = 0 := by simp at hi; omega
    rw [show 0 + 0 * 5 + j = j by omega, X.cell j]
    simpa using hu
theorem et_two {w w' : World} {r s : Ex} {cs ds : List Value} (h : Et w Any r cs) (h2 : Et w Any s ds) (hb : Below w.heap.size w w') (op : ByteArray) (hop : op.size ≤ maxLen) (g c : Nat) (X : Blk w' g 24 (cs ++ ds).toArray) :
    Et w' Any (two op r s) (exC 4 0 ByteArray.empty op (some ⟨g, 0, none⟩) 2 c) := by
  have hl := h.len
  refine .mk 4 0 ByteArray.empty op [r, s] (some ⟨g, 0, none⟩) c (fun i => if i = 0 then cs else ds) (by unfold I64; omega) (by unfold I64; omega) (by decide) hop (by simp [maxLen]) ?_ ?_
  · intro i hi
    match i, hi with
    | 0, _ => exact h.up hb
    | 1, _ => exact h2.up hb
  · intro _
    refine ⟨g, 0, rfl, trivial, fun i hi j u hu => ?_⟩
    match i, hi with
    | 0, _ =>
      simp only [if_true] at hu
      have := (List.getElem?_eq_some_iff.1 hu).1
      rw [show 0 + 0 * 5 + j = j by omega, X.cell j]
      simp only [List.getElem?_toArray]
      rw [List.getElem?_append_left (by omega)]
      exact hu
    | 1, _ =>
      rw [if_neg (by omega)] at hu
      rw [show 0 + 1 * 5 + j = 5 + j by omega, X.cell]
      simp only [List.getElem?_toArray]
      rw [List.getElem?_append_right (by omega), show 5 + j - cs.length = j by omega]
      exact hu
theorem blk_2 (w : World) (a b : Obj) (t : TypeId) (cs : Array Value) : Blk (((w.alloc a).alloc b).alloc (.cells cs t)) (w.heap.size + 2) t cs := by
  have := Blk.new ((w.alloc a).alloc b) t cs
  rwa [World.size_alloc, World.size_alloc] at this
theorem blk_3 (w : World) (a b d : Obj) (t : TypeId) (cs : Array Value) : Blk ((((w.alloc a).alloc b).alloc d).alloc (.cells cs t)) (w.heap.size + 3) t cs := by
  have := Blk.new (((w.alloc a).alloc b).alloc d) t cs
  rwa [World.size_alloc, World.size_alloc, World.size_alloc] at this
set_option maxHeartbeats 3200000 in
set_option maxRecDepth 100000 in
theorem one_c (k : Int) (hk : I64 k) (r : Ex) (cs : List Value) (w : World) (h : Et w Any r cs) :
    Calls Tryd.prog 18 #[.int .i64 k, .agg cs.toArray] w fun x w' => ∃ g c, x = .returned (.agg (exC k 0 ByteArray.empty ByteArray.empty (some ⟨g, 0, none⟩) 1 c).toArray) ∧ Et w' Any (one k r) (exC k 0 ByteArray.empty ByteArray.empty (some ⟨g, 0, none⟩) 1 c) ∧ Below w.heap.size w w' := by
  have H := Lib.hid (fun w' hb g c X => et_one (w' := w') h hb k hk g c X)
  obtain ⟨E, m0, rfl⟩ := h.shape
  clear h
  generalize r.kind = k0 at *
  generalize r.n = k1 at *
  generalize r.name = k2 at *
  generalize r.op = k3 at *
  generalize r.kids.length = k4 at *
  go_enter Tryd.func18, Tryd.ntmps18
  go_wp2
  go_returns
  refine ⟨w.heap.size + 2, _, rfl, H.out _ ?_ _ _ ?_, ?_⟩
  · go_grown
  · exact blk_2 _ _ _ _ _
  · go_grown
set_option maxHeartbeats 3200000 in
set_option maxRecDepth 100000 in
theorem two_c (op : ByteArray) (hop : op.size ≤ maxLen) (r s : Ex) (cs ds : List Value) (w : World) (h : Et w Any r cs) (h2 : Et w Any s ds) :
    Calls Tryd.prog 17 #[.string op, .agg cs.toArray, .agg ds.toArray] w fun x w' => ∃ g c, x = .returned (.agg (exC 4 0 ByteArray.empty op (some ⟨g, 0, none⟩) 2 c).toArray) ∧ Et w' Any (two op r s) (exC 4 0 ByteArray.empty op (some ⟨g, 0, none⟩) 2 c) ∧ Below w.heap.size w w' := by
  have H := Lib.hid (fun w' hb g c X => et_two (w' := w') h h2 hb op hop g c X)
  obtain ⟨E, m0, rfl⟩ := h.shape
  obtain ⟨E2, m2, rfl⟩ := h2.shape
  clear h h2
  generalize r.kind = k0 at *
  generalize r.n = k1 at *
  generalize r.name = k2 at *
  generalize r.op = k3 at *
  generalize r.kids.length = k4 at *
  generalize s.kind = l0 at *
  generalize s.n = l1 at *
  generalize s.name = l2 at *
  generalize s.op = l3 at *
  generalize s.kids.length = l4 at *
  go_enter Tryd.func17, Tryd.ntmps17
  go_wp2
  go_returns
  refine ⟨w.heap.size + 3, _, rfl, H.out _ ?_ _ _ ?_, ?_⟩
  · go_grown
  · exact blk_3 _ _ _ _ _ _
  · go_grown
def qz : Cu := ⟨ByteArray.empty, ByteArray.empty, ByteArray.empty, ByteArray.empty, ByteArray.empty, ByteArray.empty, ByteArray.empty, ByteArray.empty, ByteArray.empty, ByteArray.empty⟩
abbrev E10z : List Value := [.string ByteArray.empty, .string ByteArray.empty, .string ByteArray.empty, .string ByteArray.empty, .string ByteArray.empty, .string ByteArray.empty, .string ByteArray.empty, .string ByteArray.empty, .string ByteArray.empty, .string ByteArray.empty]
set_option maxHeartbeats 3200000 in
set_option maxRecDepth 100000 in
theorem of_c (A : Option Addr) (n c : Nat) (l : List Vr) (bl bc : Nat) (r : Ex) (cs : List Value) (w : World) (he : Env A n l qz w) (XL : Blk w bl 25 #[.slice A n c]) (XC : Blk w bc 34 E10z.toArray) (h : Et w Any r cs) (hs : shortE r) :
    Calls Tryd.prog 16 #[.agg cs.toArray, .pointer (some ⟨bl, 0, none⟩), .pointer (some ⟨bc, 0, none⟩)] w fun x w' => x = .returned (tup (valE l qz r)) ∧ Below w.heap.size w w' := by
  obtain ⟨PV, hPV⟩ : ∃ P, valE l qz r = P := ⟨_, rfl⟩
  have ce := fun W (hb : Below w.heap.size w W) => Eval_c A n c l qz r _ W (he.bel hb) (h.up hb) hs
  rw [hPV]
  simp only [hPV] at ce
  obtain ⟨E, m0, rfl⟩ := h.shape
  clear h hs hPV he
  obtain ⟨wa, hwa⟩ : ∃ z : World, z = w.alloc (.cells (exC r.kind r.n r.name r.op E r.kids.length m0).toArray 24) := ⟨_, rfl⟩
  have BA : Below w.heap.size w wa := by rw [hwa]; go_grown
  have XA : Blk wa w.heap.size 24 (exC r.kind r.n r.name r.op E r.kids.length m0).toArray := by rw [hwa]; exact Blk.new _ _ _
  have c1 : Calls Tryd.prog 10 #[.agg (exC r.kind r.n r.name r.op E r.kids.length m0).toArray, .slice A n c, .agg #[.string ByteArray.empty, .string ByteArray.empty, .string ByteArray.empty, .string ByteArray.empty, .string ByteArray.empty, .string ByteArray.empty, .string ByteArray.empty, .string ByteArray.empty, .string ByteArray.empty, .string ByteArray.empty]] wa fun x w' => x = .returned (tup PV) ∧ Below wa.heap.size wa w' := ce wa BA
  have YL := (XL.next BA).cell 0
  have YC := XC.next BA
  simp only [List.getElem?_toArray, List.getElem?_cons_zero, List.getElem?_cons_succ] at YL
  clear ce XL XC
  generalize r.kind = k0 at *
  generalize r.n = k1 at *
  generalize r.name = k2 at *
  generalize r.op = k3 at *
  generalize r.kids.length = k4 at *
  have p0 := XA.cell 0
  have p1 := XA.cell 1
  have p2 := XA.cell 2
  have p3 := XA.cell 3
  have p4 := XA.cell 4
  simp only [List.getElem?_toArray, List.getElem?_cons_zero, List.getElem?_cons_succ] at p0 p1 p2 p3 p4
  have s0 := YC.cell 0
  have s1 := YC.cell 1
  have s2 := YC.cell 2
  have s3 := YC.cell 3
  have s4 := YC.cell 4
  have s5 := YC.cell 5
  have s6 := YC.cell 6
  have s7 := YC.cell 7
  have s8 := YC.cell 8
  have s9 := YC.cell 9
  simp only [List.getElem?_toArray, List.getElem?_cons_zero, List.getElem?_cons_succ] at s0 s1 s2 s3 s4 s5 s6 s7 s8 s9
  clear XA YC
  rw [hwa] at YL s0 s1 s2 s3 s4 s5 s6 s7 s8 s9 p0 p1 p2 p3 p4
  go_enter Tryd.func16, Tryd.ntmps16
  go_wp2_with fail
  rw [← hwa]
  clear hwa
  (with_reducible refine c1.mono ?_)
  rintro e w2 ⟨rfl, b2⟩
  go_wp2
  first | go_ret2 | go_returns
  exact ⟨rfl, via b2 BA⟩
end CalW
end Go.Proofs.YtledgkplddeghaaDoor
