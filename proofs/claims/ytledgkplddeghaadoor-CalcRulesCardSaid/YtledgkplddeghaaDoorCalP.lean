/- Expressions in plain words: which may be, and what they come to. No program. No condition. -/
import Derived.Test.YtledgkplddeghaaDoorNumP
import Derived.Test.YtledgkplddeghaaDoorQuoP
import Derived.Test.YtledgkplddeghaaDoorMemP
import Derived.Test.YtledgkplddeghaaDoorNumG
namespace Go.Proofs.YtledgkplddeghaaDoor
set_option linter.unusedVariables false
set_option linter.unusedSimpArgs false
open Go.RowKit
namespace CalP
open QuoP MemP
/-- An expression: its kind, its number, its name, its op, its kids. -/
inductive Ex where
  | mk (kind n : Int) (name op : ByteArray) (kids : List Ex)
namespace Ex
def kind : Ex → Int | mk k _ _ _ _ => k
def n : Ex → Int | mk _ n _ _ _ => n
def name : Ex → ByteArray | mk _ _ s _ _ => s
def op : Ex → ByteArray | mk _ _ _ s _ => s
def kids : Ex → List Ex | mk _ _ _ _ l => l
end Ex
mutual
def nodesE : Ex → Nat | .mk _ _ _ _ kids => 1 + nodesL kids
def nodesL : List Ex → Nat | [] => 0 | x :: l => nodesE x + nodesL l
end
/-- How tightly an op binds; 0: it is none. -/
def strengthL (l : List UInt8) : Nat :=
  if l = [124, 124] then 1
  else if l = [38, 38] then 2
  else if l = [61, 61] ∨ l = [33, 61] then 3
  else if l = [60] ∨ l = [62] ∨ l = [60, 61] ∨ l = [62, 61] then 4
  else if l = [43] ∨ l = [45] then 5
  else if l = [42] ∨ l = [47] ∨ l = [37] then 6
  else 0
def strength (op : ByteArray) : Nat := strengthL op.data.toList
def bareE (k n : Int) (nm op : ByteArray) : Bool := (n == 0 || k == 0) && (nm.data.toList == [] || k == 1) && (op.data.toList == [] || k == 4)
/-- What is told of a kind, without its kids. -/
def okE (k n : Int) (nm op : ByteArray) (d : Nat) : Bool :=
  if k = 0 then decide (0 ≤ n)
  else if k = 1 then nameB nm.data.toList
  else if k = 2 ∨ k = 3 then decide (d < 64)
  else if k = 4 then decide (d < 64) && decide (0 < strength op)
  else false
def kidsE (k : Int) : Nat := if k = 2 ∨ k = 3 then 1 else if k = 4 then 2 else 0
mutual
/-- May it be, so deep? -/
def rightE : Ex → Nat → Bool
  | .mk k n nm op kids, d => (okE k n nm op d && bareE k n nm op && decide (kids.length = kidsE k)) && rightL kids (d + 1)
def rightL : List Ex → Nat → Bool
  | [], _ => true
  | x :: l, d => rightE x d && rightL l d
end
/-! What it comes to. -/
def resP (n : Int) : Int × Int := if -9223372036854775808 ≤ n ∧ n ≤ 9223372036854775807 then (n, 0) else (0, 3)
def bitP (b : Bool) : Int := if b then 1 else 0
/-- An op of two numbers. -/
def opP (op : List UInt8) (a b : Int) : Int × Int :=
  if op = [43] then resP (a + b)
  else if op = [45] then resP (a - b)
  else if op = [42] then resP (a * b)
  else if op = [47] then (if b = 0 then (0, 4) else resP (a.fdiv b))
  else if op = [37] then (if b = 0 then (0, 4) else (a.fmod b, 0))
  else if op = [61, 61] then (bitP (a == b), 0)
  else if op = [33, 61] then (bitP (a != b), 0)
  else if op = [60] then (bitP (decide (a < b)), 0)
  else if op = [62] then (bitP (decide (b < a)), 0)
  else if op = [60, 61] then (bitP (decide (a ≤ b)), 0)
  else (bitP (decide (b ≤ a)), 0)
/-- A name's value; or an error. -/
def nameV (l : List Vr) (cuts : List ByteArray) (nm : ByteArray) : Except Int ByteArray :=
  match nm.data.toList with
  | [c] => if digB c then .ok (cuts.getD (c.toNat - 48) ByteArray.empty) else (match getV l nm with | none => .error 6 | some v => .ok v)
  | _ => match getV l nm with | none => .error 6 | some v => .ok v
/-- A text's number, and 0 or an error. -/
def numP (l : List UInt8) : Int × Int := if NumP.formB l = true then resP (NumP.pv l) else (0, 1)
/-- A name's number. -/
def numV (l : List Vr) (cuts : List ByteArray) (nm : ByteArray) : Int × Int :=
  match nameV l cuts nm with
  | .error e => (0, e)
  | .ok v => if (numP v.data.toList).2 = 1 then (0, 7) else numP v.data.toList
def combP (V : ByteArray → Int × Int) (k n : Int) (nm op : ByteArray) (rs : List (Int × Int)) : Int × Int :=
  if k = 0 then (n, 0) else if k = 1 then V nm else
  match rs with
  | [] => (0, 0)
  | (a, f) :: rest =>
    if f ≠ 0 then (0, f) else if k = 2 then resP (-a) else if k = 3 then (bitP (a == 0), 0)
    else if op.data.toList = [38, 38] ∧ a = 0 then (0, 0) else if op.data.toList = [124, 124] ∧ a ≠ 0 then (1, 0)
    else match rest with
      | [] => (0, 0)
      | (b, g) :: _ => if g ≠ 0 then (0, g) else if op.data.toList = [38, 38] ∨ op.data.toList = [124, 124] then (bitP (b != 0), 0) else opP op.data.toList a b
mutual
def evalE (V : ByteArray → Int × Int) : Ex → Int × Int
  | .mk k n nm op kids => combP V k n nm op (evalL V kids)
def evalL (V : ByteArray → Int × Int) : List Ex → List (Int × Int)
  | [] => []
  | x :: l => evalE V x :: evalL V l
end
end CalP
end Go.Proofs.YtledgkplddeghaaDoor
