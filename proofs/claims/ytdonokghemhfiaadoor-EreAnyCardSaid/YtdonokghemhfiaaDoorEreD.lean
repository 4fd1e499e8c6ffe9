/- The walk of the expression reader's class. Conditions: texts that fit. -/
import Derived.Test.YtdonokghemhfiaaDoorEreC
import Derived.Test.YtdonokghemhfiaaDoorEreT
import Derived.Deep.LoopGhost
namespace Go.Proofs.YtdonokghemhfiaaDoor
set_option linter.unusedVariables false
set_option linter.unusedSimpArgs false
open Go.RowKit
namespace EreW
open EreP
theorem item_last {l r : Bs} {c : UInt8} (h : itemP l = .ok (c, r)) : ∃ pre, l = pre ++ c :: r := by
  cases l with
  | nil => cases h
  | cons d l =>
    rw [itemP.eq_def] at h
    simp only at h
    split at h
    · cases h
    · split at h
      · cases l with
        | nil => cases h
        | cons e l => simp only at h; injection h with h; injection h with h1 h2; subst h1; subst h2; exact ⟨[d], rfl⟩
      · injection h with h; injection h with h1 h2; subst h1; subst h2; exact ⟨[], rfl⟩
theorem rest_back {s : ByteArray} {i k : Nat} {pre : Bs} {c : UInt8} (h : rest s i = pre ++ c :: rest s k) (hi : i ≤ s.size) (hk : k ≤ s.size) : 0 < k ∧ k - 1 < s.size ∧ rest s (k - 1) = c :: rest s k := by
  have hl := congrArg List.length h
  rw [rest_len, List.length_append, List.length_cons, rest_len] at hl
  have h1 : 0 < k := by omega
  have e : i + pre.length = k - 1 := by omega
  refine ⟨h1, by omega, ?_⟩
  have h2 := congrArg (List.drop pre.length) h
  rw [List.drop_left] at h2
  rw [← h2, ← e]
  show List.drop (i + pre.length) _ = List.drop pre.length (List.drop i _)
  rw [List.drop_drop]
theorem span_err {l : Bs} {e : Bs × Nat} (h : itemP l = .error e) : spanP l = .error e := by unfold spanP; rw [h]
theorem span_one {l r : Bs} {a : UInt8} (h : itemP l = .ok (a, r)) (hr : r.head? ≠ some 45) : spanP l = .ok ((a, a), r) := by
  unfold spanP; rw [h]
  cases r with
  | nil => rfl
  | cons c r => simp at hr; simp [hr]
theorem span_err2 {l r : Bs} {a : UInt8} {e : Bs × Nat} (h : itemP l = .ok (a, 45 :: r)) (h2 : itemP r = .error e) : spanP l = .error e := by
  unfold spanP; rw [h]; simp [h2]
theorem span_bad {l r r2 : Bs} {a b : UInt8} (h : itemP l = .ok (a, 45 :: r)) (h2 : itemP r = .ok (b, r2)) (hlt : b < a) : spanP l = .error (b :: r2, 1) := by
  unfold spanP; rw [h]; simp [h2, hlt]
theorem span_two {l r r2 : Bs} {a b : UInt8} (h : itemP l = .ok (a, 45 :: r)) (h2 : itemP r = .ok (b, r2)) (hlt : ¬ b < a) : spanP l = .ok ((a, b), r2) := by
  unfold spanP; rw [h]; simp [h2, hlt]
/-- Items so far. -/
structure Items (s : ByteArray) (R g : Nat) (X Y : Nat) (w0 : World) (P : Except (Bs × Nat) (Nat × Bs)) (fb : Bool) (k acc e : Nat) (wr : World) : Prop where
  rdr : Rdr wr R s k g e
  le : k ≤ s.size
  set : Blk wr Y 25 (wcells acc)
  res : Blk wr X 28 zC
  lt : acc < 2 ^ 256
  tch : Tch (fun b => b = R ∨ b = Y) w0 wr
  spec : (e = 0 ∧ ∃ fuel, (rest s k).length < fuel ∧ P = itemsP fuel fb acc (rest s k)) ∨ (e = 1 ∧ P = .error (rest s k, 1))
theorem items_go {s : ByteArray} {R g X Y : Nat} {w0 wr w' : World} {P : Except (Bs × Nat) (Nat × Bs)} {fb : Bool} {k acc : Nat} (h : Items s R g X Y w0 P fb k acc 0 wr) (hno : (!fb && (rest s k).head? == some 93) = false)
    {k' acc' e' : Nat} (r' : Rdr w' R s k' g e') (l' : k' ≤ s.size) (b' : Blk w' Y 25 (wcells acc')) (z' : acc' < 2 ^ 256) (x' : Blk w' X 28 zC) (t' : Tch (fun b => b = R ∨ b = Y) w0 w')
    (hs : (e' = 0 ∧ ∃ a b : UInt8, spanP (rest s k) = .ok ((a, b), rest s k') ∧ acc' = acc ||| rangeS a.toNat b.toNat) ∨ (e' = 1 ∧ spanP (rest s k) = .error (rest s k', 1))) :
    Items s R g X Y w0 P false k' acc' e' w' := by
  refine ⟨r', l', b', x', z', t', ?_⟩
  rcases h.spec with ⟨_, fuel, hf, hP⟩ | ⟨h1, _⟩
  · obtain ⟨f, rfl⟩ : ∃ f, fuel = f + 1 := ⟨fuel - 1, by omega⟩
    rw [itemsP, hno] at hP
    simp only [Bool.false_eq_true, if_false] at hP
    rcases hs with ⟨h1, a, b, h2, h3⟩ | ⟨h1, h2⟩
    · left
      rw [h2] at hP
      have := span_len h2
      exact ⟨h1, f, by omega, by rw [hP, h3]⟩
    · right
      rw [h2] at hP
      exact ⟨h1, hP⟩
  · cases h1
theorem items_end {s : ByteArray} {R g X Y : Nat} {w0 wr : World} {P : Except (Bs × Nat) (Nat × Bs)} {k acc : Nat} (h : Items s R g X Y w0 P false k acc 0 wr) (hd : (rest s k).head? = some 93) : P = .ok (acc, rest s (k + 1)) := by
  rcases h.spec with ⟨_, fuel, hf, hP⟩ | ⟨h1, _⟩
  · obtain ⟨f, rfl⟩ : ∃ f, fuel = f + 1 := ⟨fuel - 1, by omega⟩
    rw [itemsP, hd] at hP
    rw [hP]
    have : (rest s k).tail = rest s (k + 1) := by unfold rest; rw [List.tail_drop]
    rw [← this]; rfl
  · cases h1
end EreW
end Go.Proofs.YtdonokghemhfiaaDoor
