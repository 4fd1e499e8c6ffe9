/- Regular expressions in plain words: trees, sets of bytes, and the parser. No program. No condition. -/
import Derived.Test.YtpdmjegbjcefjaaDoorMem
namespace Go.Proofs.YtpdmjegbjcefjaaDoor
open Go.RowKit
namespace EreP
abbrev Bs := List UInt8
/-- An expression: its kind, its set's bits, its kids, two counts, a number. -/
inductive Re where
  | mk (kind : Int) (set : Nat) (kids : List Re) (lo hi n : Int)
namespace Re
def kind : Re → Int | mk k _ _ _ _ _ => k
def set : Re → Nat | mk _ s _ _ _ _ => s
def kids : Re → List Re | mk _ _ l _ _ _ => l
def lo : Re → Int | mk _ _ _ a _ _ => a
def hi : Re → Int | mk _ _ _ _ b _ => b
def n : Re → Int | mk _ _ _ _ _ n => n
end Re
/-- What is parsed, what is left, and how many groups; or what is left, and an error. -/
abbrev R3 (α : Type) := Except (Bs × Nat) (α × Bs × Nat)
def isRep (c : UInt8) : Bool := c == 42 || c == 43 || c == 63 || c == 123
/-! Sets of bytes. -/
def oneS (c : Nat) : Nat := 1 <<< c
def fromS (low c : Nat) : Nat := (List.range c).foldl (fun s k => if low ≤ k then s ||| oneS k else s) 0
def rangeS (low high : Nat) : Nat := fromS low (high + 1)
def allS : Nat := 2 ^ 256 - 1
def notS (s : Nat) : Nat := allS ^^^ s
def word (s k : Nat) : Nat := (s >>> (64 * k)) % 18446744073709551616
/-- A byte of an item. -/
def itemP : Bs → Except (Bs × Nat) (UInt8 × Bs)
  | [] => .error ([], 1)
  | c :: r => if c == 93 || c == 45 then .error (c :: r, 1) else if c == 92 then (match r with | [] => .error ([], 1) | d :: r' => .ok (d, r')) else .ok (c, r)
/-- A byte, or a range of them. -/
def spanP (l : Bs) : Except (Bs × Nat) ((UInt8 × UInt8) × Bs) :=
  match itemP l with
  | .error e => .error e
  | .ok (low, r) => match r with
    | [] => .ok ((low, low), [])
    | c :: r1 => if c == 45 then (match itemP r1 with
        | .error e => .error e
        | .ok (high, r2) => if high < low then .error (high :: r2, 1) else .ok ((low, high), r2)) else .ok ((low, low), c :: r1)
/-- Items up to ]; the bytes so far. -/
def itemsP : Nat → Bool → Nat → Bs → Except (Bs × Nat) (Nat × Bs)
  | 0, _, _, l => .error (l, 1)
  | fuel + 1, first, acc, l =>
    if !first && l.head? == some 93 then .ok (acc, l.tail)
    else match spanP l with
      | .error e => .error e
      | .ok ((a, b), r) => itemsP fuel false (acc ||| rangeS a.toNat b.toNat) r
/-- Behind [. -/
def classP (l : Bs) : Except (Bs × Nat) (Nat × Bs) :=
  if l.head? == some 94 then (match itemsP (l.tail.length + 1) true 0 l.tail with
    | .error e => .error e
    | .ok (s, r) => .ok (notS s, r)) else itemsP (l.length + 1) true 0 l
def digitP (least : Nat) : Bs → Except (Bs × Nat) (Nat × Bs)
  | [] => .error ([], 1)
  | c :: r => if 48 + least ≤ c.toNat ∧ c.toNat ≤ 56 then .ok (c.toNat - 48, r) else .error (c :: r, 1)
def needP (x : UInt8) {α : Type} (v : α) : Bs → Except (Bs × Nat) (α × Bs)
  | [] => .error ([], 1)
  | c :: r => if c == x then .ok (v, r) else .error (c :: r, 1)
/-- Behind {. -/
def timesP (l : Bs) : Except (Bs × Nat) ((Int × Int) × Bs) :=
  match digitP 0 l with
  | .error e => .error e
  | .ok (a, r) =>
    if r.head? == some 44 then
      (if r.tail.head? == some 125 then .ok (((a : Int), -1), r.tail.tail) else match digitP a r.tail with
        | .error e => .error e
        | .ok (b, r2) => needP 125 ((a : Int), (b : Int)) r2)
    else needP 125 ((a : Int), (a : Int)) r
abbrev Grp := Option (Bs → Nat → R3 Re)
/-- What isn't repeated. -/
def atomP (G : Grp) (l : Bs) (g : Nat) : R3 Re :=
  match l with
  | [] => .error ([], 1)
  | c :: r =>
    if isRep c then .error (c :: r, 1)
    else if c == 40 then (match G with | none => .error (c :: r, 8) | some f => f r g)
    else if c == 91 then (match classP r with | .error e => .error e | .ok (s, r') => .ok (.mk 1 s [] 0 0 0, r', g))
    else if c == 46 then .ok (.mk 1 allS [] 0 0 0, r, g)
    else if c == 94 then .ok (.mk 2 0 [] 0 0 0, r, g)
    else if c == 36 then .ok (.mk 3 0 [] 0 0 0, r, g)
    else if c == 92 then (match r with | [] => .error ([], 1) | d :: r' => .ok (.mk 1 (oneS d.toNat) [] 0 0 0, r', g))
    else .ok (.mk 1 (oneS c.toNat) [] 0 0 0, r, g)
/-- An atom, perhaps repeated. -/
def pieceP (G : Grp) (l : Bs) (g : Nat) : R3 Re :=
  match atomP G l g with
  | .error e => .error e
  | .ok (x, r, g') => match r with
    | [] => .ok (x, [], g')
    | c :: r' =>
      if !isRep c then .ok (x, c :: r', g')
      else if x.kind = 2 ∨ x.kind = 3 then .error (c :: r', 1)
      else if c == 43 then .ok (.mk 6 0 [x] 1 (-1) 0, r', g')
      else if c == 63 then .ok (.mk 6 0 [x] 0 1 0, r', g')
      else if c == 123 then (match timesP r' with | .error e => .error e | .ok ((a, b), r2) => .ok (.mk 6 0 [x] a b 0, r2, g'))
      else .ok (.mk 6 0 [x] 0 (-1) 0, r', g')
def several (kind : Int) : List Re → Re
  | [] => .mk 0 0 [] 0 0 0
  | [x] => x
  | l => .mk kind 0 l 0 0 0
def rowEnd (l : Bs) : Bool := l.head? == none || l.head? == some 124 || l.head? == some 41
/-- Pieces. -/
def rowP (G : Grp) : Nat → List Re → Bs → Nat → R3 Re
  | 0, _, l, _ => .error (l, 1)
  | fuel + 1, acc, l, g =>
    if rowEnd l then .ok (several 4 acc, l, g)
    else match pieceP G l g with
      | .error e => .error e
      | .ok (x, r, g') => rowP G fuel (acc ++ [x]) r g'
/-- Rows. -/
def altP (G : Grp) : Nat → List Re → Bs → Nat → R3 Re
  | 0, _, l, _ => .error (l, 1)
  | fuel + 1, acc, l, g =>
    match rowP G (l.length + 1) [] l g with
    | .error e => .error e
    | .ok (x, r, g') => if r.head? == some 124 then altP G fuel (acc ++ [x]) r.tail g' else .ok (several 5 (acc ++ [x]), r, g')
def numG (g : Nat) : Int := if 9 < g + 1 then 0 else ((g + 1 : Nat) : Int)
/-- Groups, so deep at most. -/
def grpP : Nat → Grp
  | 0 => none
  | D + 1 => some fun r g =>
    match altP (grpP D) (r.length + 1) [] r (g + 1) with
    | .error e => .error e
    | .ok (x, r', g') => match r' with
      | [] => .error ([], 1)
      | c :: r2 => if c == 41 then .ok (.mk 7 0 [x] 0 0 (numG g), r2, g') else .error (c :: r2, 1)
/-- The expression; or the place, and an error. -/
def parseP (s : Bs) : Except (Nat × Nat) Re :=
  if 200 < s.length then .error (200, 2)
  else match altP (grpP 64) (s.length + 1) [] s 0 with
    | .error (r, e) => .error (s.length - r.length, e)
    | .ok (x, r, _) => if r.isEmpty then .ok x else .error (s.length - r.length, 1)
end EreP
end Go.Proofs.YtpdmjegbjcefjaaDoor
