/- The walk of the expression reader's piece. Conditions: texts that fit; a premise on groups. -/
import Derived.Test.YtpdmjegbjcefjaaDoorEreX
namespace Go.Proofs.YtpdmjegbjcefjaaDoor
set_option linter.unusedVariables false
set_option linter.unusedSimpArgs false
open Go.RowKit
namespace EreX
open EreP EreW
theorem one_kid {w : World} {K : Nat → Prop} {r : Re} {cs : List Value} {g : Nat} {t : TypeId} (h : Rt w K r cs) (hb : Blk w g t cs.toArray) (hg : K g) (k : Int) (lo hi nn : Int) (c : Nat) (hcap : 1 ≤ c := by decide) :
    Rt w K (.mk k 0 [r] lo hi nn) (reC k 0 (some ⟨g, 0, none⟩) 1 c lo hi nn) := by
  refine .mk k 0 [r] lo hi nn (some ⟨g, 0, none⟩) c (fun _ => cs) (by decide) (fun i hi => ?_) (fun _ => ⟨g, 0, rfl, hg, fun i hi j u hu => ?_⟩) hcap
  · have : i = 0 := by simpa using hi
    subst this; exact h
  · have : i = 0 := by simpa using hi
    subst this
    simp only [Nat.zero_mul, Nat.zero_add]
    rw [hb.cell]; simpa using hu
theorem piece_err {G : Grp} {l : Bs} {g : Nat} {e : Bs × Nat} (h : atomP G l g = .error e) : pieceP G l g = .error e := by unfold pieceP; rw [h]
theorem piece_no {G : Grp} {l r : Bs} {g g' : Nat} {x : Re} (h : atomP G l g = .ok (x, r, g')) (hr : ∀ c r', r = c :: r' → isRep c = false) : pieceP G l g = .ok (x, r, g') := by
  unfold pieceP; rw [h]
  cases r with
  | nil => rfl
  | cons c r' => simp [hr c r' rfl]
theorem piece_fix {G : Grp} {l r : Bs} {g g' : Nat} {x : Re} {c : UInt8} (h : atomP G l g = .ok (x, c :: r, g')) (hc : isRep c = true) (hk : x.kind = 2 ∨ x.kind = 3) : pieceP G l g = .error (c :: r, 1) := by
  unfold pieceP; rw [h]; simp [hc, hk]
theorem piece_plus {G : Grp} {l r : Bs} {g g' : Nat} {x : Re} (h : atomP G l g = .ok (x, 43 :: r, g')) (h2 : x.kind ≠ 2) (h3 : x.kind ≠ 3) : pieceP G l g = .ok (.mk 6 0 [x] 1 (-1) 0, r, g') := by
  unfold pieceP; rw [h]; simp [isRep, h2, h3]
theorem piece_opt {G : Grp} {l r : Bs} {g g' : Nat} {x : Re} (h : atomP G l g = .ok (x, 63 :: r, g')) (h2 : x.kind ≠ 2) (h3 : x.kind ≠ 3) : pieceP G l g = .ok (.mk 6 0 [x] 0 1 0, r, g') := by
  unfold pieceP; rw [h]; simp [isRep, h2, h3]
theorem piece_star {G : Grp} {l r : Bs} {g g' : Nat} {x : Re} (h : atomP G l g = .ok (x, 42 :: r, g')) (h2 : x.kind ≠ 2) (h3 : x.kind ≠ 3) : pieceP G l g = .ok (.mk 6 0 [x] 0 (-1) 0, r, g') := by
  unfold pieceP; rw [h]; simp [isRep, h2, h3]
theorem piece_times {G : Grp} {l r : Bs} {g g' : Nat} {x : Re} (h : atomP G l g = .ok (x, 123 :: r, g')) (h2 : x.kind ≠ 2) (h3 : x.kind ≠ 3) :
    pieceP G l g = match timesP r with | .error e => .error e | .ok ((a, b), r2) => .ok (.mk 6 0 [x] a b 0, r2, g') := by
  unfold pieceP; rw [h]; simp [isRep, h2, h3]
  rcases timesP r with e | ⟨⟨a, b⟩, r2⟩ <;> rfl
theorem tree_k {K : Nat → Prop} {S : Nat → Prop} {B : Nat} {w w' : World} {r : Re} {cs : List Value} (h : Rt w K r cs) (t : Tch S w w') (hS : ∀ b, K b → ¬ S b) (hB : ∀ b, K b → B ≤ b) : Rt w' (B ≤ ·) r cs := (h.tch t hS).keep hB (fun _ _ _ => rfl)
theorem rep_nil : peekB (⟨#[42, 43, 63, 123]⟩ : ByteArray).data.toList [] 0 = false := rfl
end EreX
end Go.Proofs.YtpdmjegbjcefjaaDoor
