/- The walk of the expression reader's group; alt at every depth. Conditions: texts that fit. -/
import Derived.Test.YtpdmjegbjcefjaaDoorEreA
namespace Go.Proofs.YtpdmjegbjcefjaaDoor
set_option linter.unusedVariables false
set_option linter.unusedSimpArgs false
open Go.RowKit
namespace EreX
open EreP EreW
theorem grpF_eq (d : Nat) (hd : d < 64) (l : Bs) (g : Nat) : grpF d l g = match altP (grpP (64 - (d + 1))) (l.length + 1) [] l (g + 1) with
    | .error e => .error e
    | .ok (x, r', g') => match r' with
      | [] => .error ([], 1)
      | c :: r2 => if c == 41 then .ok (.mk 7 0 [x] 0 0 (numG g), r2, g') else .error (c :: r2, 1) := by
  obtain ⟨D, hD⟩ : ∃ D, 64 - d = D + 1 := ⟨63 - d, by omega⟩
  have h2 : 64 - (d + 1) = D := by omega
  unfold grpF
  rw [hD, h2]; rfl
end EreX
end Go.Proofs.YtpdmjegbjcefjaaDoor
namespace Go.Proofs.YtpdmjegbjcefjaaDoor
set_option linter.unusedVariables false
set_option linter.unusedSimpArgs false
open Go.RowKit
namespace EreX
open EreP EreW
/-- What Parse comes to. -/
def ParsePost (s : ByteArray) (w : World) (x : Ending) (w' : World) : Prop := Below w.heap.size w w' ∧
  ((∃ r cs, parseP s.data.toList = .ok r ∧ x = .returned (.tuple #[.agg cs.toArray, .int .i64 0, .int .i64 0]) ∧ Rt w' (w.heap.size ≤ ·) r cs) ∨
   (∃ off e : Nat, e ≠ 0 ∧ parseP s.data.toList = .error (off, e) ∧ x = .returned (.tuple #[.agg ([.int .i64 0, .int .u64 0, .int .u64 0, .int .u64 0, .int .u64 0, .slice none 0 0, .int .i64 0, .int .i64 0, .int .i64 0] : List Value).toArray, .int .i64 off, .int .i64 e])))
theorem below_drew {B : Nat} {w w' : World} (h : Below B w w') : Below B w w'.drew := ⟨h.os, h.tape, h.output, h.size, h.block⟩
theorem parse_long {s : ByteArray} (h : 200 < s.size) : parseP s.data.toList = .error (200, 2) := by
  unfold parseP; rw [if_pos (by rw [← Lib.size_eq]; exact h)]
theorem parse_err {s : ByteArray} {k e : Nat} (h : s.size ≤ 200) (hk : k ≤ s.size) (hp : altP (grpP 64) ((rest s 0).length + 1) [] (rest s 0) 0 = .error (rest s k, e)) : parseP s.data.toList = .error (k, e) := by
  unfold parseP; rw [if_neg (by rw [← Lib.size_eq]; omega)]
  have hp2 : altP (grpP 64) (s.data.toList.length + 1) [] s.data.toList 0 = .error (rest s k, e) := hp
  rw [hp2]
  show Except.error (s.data.toList.length - (rest s k).length, e) = _
  rw [rest_len, ← Lib.size_eq, show s.size - (s.size - k) = k by omega]
theorem parse_end {s : ByteArray} {k g : Nat} {r : Re} (h : s.size ≤ 200) (hk : k ≤ s.size) (hp : altP (grpP 64) ((rest s 0).length + 1) [] (rest s 0) 0 = .ok (r, rest s k, g)) : parseP s.data.toList = if k < s.size then .error (k, 1) else .ok r := by
  unfold parseP; rw [if_neg (by rw [← Lib.size_eq]; omega)]
  have hp2 : altP (grpP 64) (s.data.toList.length + 1) [] s.data.toList 0 = .ok (r, rest s k, g) := hp
  rw [hp2]
  show (if (rest s k).isEmpty then Except.ok r else Except.error (s.data.toList.length - (rest s k).length, 1)) = _
  rw [rest_len, ← Lib.size_eq, show s.size - (s.size - k) = k by omega]
  by_cases hlt : k < s.size
  · rw [if_pos hlt, rest_cons s k hlt]; rfl
  · rw [if_neg hlt, rest_nil s k (by omega)]; rfl
end EreX
end Go.Proofs.YtpdmjegbjcefjaaDoor
