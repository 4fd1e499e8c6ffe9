/-
  No cell of these rows narrows 'for every input' (looked for: loops, veiled, ifaces, maps, wideKeys, modest, calm, conditions, laid).
  DERIVED. THE GIVEN ROWS OF THIS SEAT. 3 by the template 'for every input the law returns true; each argument reads behind the call as it read before'; 0 by the template 'total and deterministic' (their statements: YtfkjogkpdebepaaTotals.lean).
  GIVEN WITH THE SEED: the statements are not yours to turn. If you find one false, say at which input.
  Laid BY PROGRAM, IN A SANDBOX (cutbox-rows.mjs): the forced cells as the released guide's own fill.sh prints them over the translation d2c247cb6ee17466… (all of the seat's roots in one cut). By AI agents, Wed Nov 11 2026. No macro, syntax, notation, axiom, sorry.
-/
import Derived.Test.YtfkjogkpdebepaaChecked
import GoSem.Claim
import GoSem.ClaimJoined
import GoSem.ClaimMapViews
import Derived.JoinedTies
import Derived.KernelRfl
namespace Go.Proofs.Ytfkjogkpdebepaa
/- THE CELL 'sum', in the pinned program and in every row, IS THE sha256 OF THE DUMP (.gsa) THAT YtfkjogkpdebepaaProg.lean LOADS. Nothing in Lean hashes anything: it is a label: what it is worth is what the hold of that sum in a sandbox is worth. -/
noncomputable def Try.pinned : Pinned := { name := "ytfkjogkpdebepaa", sum := "d2c247cb6ee17466fdfd4da4c1ce43c2809c6c8a70097996a47ac83b28f7124d", checked := Try.checked }
namespace Rows
def none {H : Type} : Left H := { results := [], args := [] }

/-- 'souffleurlaw26.StateAny': WHATEVER THE INPUT: true; the input reads as it did. -/
def stateAnySpec : ChangeSpec := { name := "stateAny", fn := fun _ => fun
  | [d] => { results := [.lit (.bool true)], args := [d] }
  | _ => none }
def stateAnyRow : OpenClaim := { program := "ytfkjogkpdebepaa", sum := "d2c247cb6ee17466fdfd4da4c1ce43c2809c6c8a70097996a47ac83b28f7124d", func := "souffleur/souffleurlaw26.StateAny", spec := "stateAny", inPlace := ["internal/abi.NoEscape"], unfollowed := true, recurses := true, apart := false }
def StateAnySaid : Prop := stateAnyRow.holds Try.pinned (OpenSpec.ofChange stateAnySpec)

/-- ITS FALSE NEIGHBOUR: 'it returns false'. Refute it at one input. -/
def stateAnyWrong : ChangeSpec := { name := "stateAny", fn := fun _ => fun
  | [d] => { results := [.lit (.bool false)], args := [d] }
  | _ => none }
def StateAnyWrongFalsely : Prop := stateAnyRow.holds Try.pinned (OpenSpec.ofChange stateAnyWrong)

/-- 'souffleurlaw26.StateUnlike': WHATEVER THE INPUT: true; the input reads as it did. -/
def stateUnlikeSpec : ChangeSpec := { name := "stateUnlike", fn := fun _ => fun
  | [d1, d2] => { results := [.lit (.bool true)], args := [d1, d2] }
  | _ => none }
def stateUnlikeRow : OpenClaim := { program := "ytfkjogkpdebepaa", sum := "d2c247cb6ee17466fdfd4da4c1ce43c2809c6c8a70097996a47ac83b28f7124d", func := "souffleur/souffleurlaw26.StateUnlike", spec := "stateUnlike", inPlace := ["internal/abi.NoEscape"], unfollowed := true, recurses := true, apart := false }
def StateUnlikeSaid : Prop := stateUnlikeRow.holds Try.pinned (OpenSpec.ofChange stateUnlikeSpec)

/-- ITS FALSE NEIGHBOUR: 'it returns false'. Refute it at one input. -/
def stateUnlikeWrong : ChangeSpec := { name := "stateUnlike", fn := fun _ => fun
  | [d1, d2] => { results := [.lit (.bool false)], args := [d1, d2] }
  | _ => none }
def StateUnlikeWrongFalsely : Prop := stateUnlikeRow.holds Try.pinned (OpenSpec.ofChange stateUnlikeWrong)

/-- 'souffleurlaw26.StateRuns': WHATEVER THE INPUT: true; the input reads as it did. -/
def stateRunsSpec : ChangeSpec := { name := "stateRuns", fn := fun _ => fun
  | [d] => { results := [.lit (.bool true)], args := [d] }
  | _ => none }
def stateRunsRow : OpenClaim := { program := "ytfkjogkpdebepaa", sum := "d2c247cb6ee17466fdfd4da4c1ce43c2809c6c8a70097996a47ac83b28f7124d", func := "souffleur/souffleurlaw26.StateRuns", spec := "stateRuns", inPlace := ["internal/abi.NoEscape"], unfollowed := true, recurses := true, apart := false }
def StateRunsSaid : Prop := stateRunsRow.holds Try.pinned (OpenSpec.ofChange stateRunsSpec)

/-- ITS FALSE NEIGHBOUR: 'it returns false'. Refute it at one input. -/
def stateRunsWrong : ChangeSpec := { name := "stateRuns", fn := fun _ => fun
  | [d] => { results := [.lit (.bool false)], args := [d] }
  | _ => none }
def StateRunsWrongFalsely : Prop := stateRunsRow.holds Try.pinned (OpenSpec.ofChange stateRunsWrong)

/- THE SECOND FORM. 'bulk': how many values and letters a reading holds, each counted each time it is reached (what is shared counts as often as it is met; a slice's spare places count too). A statement '..UptoSaid' is the law's where the arguments, and the package variables that the reading takes, are together of bulk at most 1048576: NARROWER than '..Said'. Prove '..Said' where nothing that the law and all that it calls make is longer than what came in: it says more and counts as full. Else prove '..UptoSaid'. A law counts once. -/
mutual
def uptoBulk {H : Type} : DataW H → Nat
  | .lit (.string bytes) => bytes.length + 1
  | .lit _ => 1
  | .nil => 1
  | .ptr d => uptoBulk d + 1
  | .slice elems spare => uptoBulkAll elems + uptoBulkAll spare + 1
  | .agg parts => uptoBulkAll parts + 1
  | .iface _ d => uptoBulk d + 1
  | .map entries => uptoBulkEntries entries + 1
  | .held _ => 1
def uptoBulkAll {H : Type} : List (DataW H) → Nat
  | [] => 0
  | d :: r => uptoBulk d + uptoBulkAll r
def uptoBulkEntries {H : Type} : List (Lit × DataW H) → Nat
  | [] => 0
  | x :: r => uptoBulkEntry x + uptoBulkEntries r
def uptoBulkEntry {H : Type} : Lit × DataW H → Nat
  | (.string bytes, d) => bytes.length + uptoBulk d + 1
  | (_, d) => uptoBulk d + 1
 end
def uptoSmall : (H : Type) → List (DataW H) → Bool := fun _ ds => decide (uptoBulkAll ds ≤ 1048576)
def OpenSpec.upto (s : _root_.Go.ChangeSpec) : _root_.Go.OpenSpec := { _root_.Go.OpenSpec.ofChange s with cond := some uptoSmall }

/-- 'souffleurlaw26.StateAny', WHERE WHAT IT READS IS OF BULK AT MOST 1048576: true; the input reads as it did. -/
def stateAnyUptoRow : OpenClaim := { program := "ytfkjogkpdebepaa", sum := "d2c247cb6ee17466fdfd4da4c1ce43c2809c6c8a70097996a47ac83b28f7124d", func := "souffleur/souffleurlaw26.StateAny", spec := "stateAny", inPlace := ["internal/abi.NoEscape"], unfollowed := true, recurses := true, apart := false, narrowed := true }
def StateAnyUptoSaid : Prop := stateAnyUptoRow.holds Try.pinned (OpenSpec.upto stateAnySpec)

/-- 'souffleurlaw26.StateUnlike', WHERE WHAT IT READS IS OF BULK AT MOST 1048576: true; the input reads as it did. -/
def stateUnlikeUptoRow : OpenClaim := { program := "ytfkjogkpdebepaa", sum := "d2c247cb6ee17466fdfd4da4c1ce43c2809c6c8a70097996a47ac83b28f7124d", func := "souffleur/souffleurlaw26.StateUnlike", spec := "stateUnlike", inPlace := ["internal/abi.NoEscape"], unfollowed := true, recurses := true, apart := false, narrowed := true }
def StateUnlikeUptoSaid : Prop := stateUnlikeUptoRow.holds Try.pinned (OpenSpec.upto stateUnlikeSpec)

/-- 'souffleurlaw26.StateRuns', WHERE WHAT IT READS IS OF BULK AT MOST 1048576: true; the input reads as it did. -/
def stateRunsUptoRow : OpenClaim := { program := "ytfkjogkpdebepaa", sum := "d2c247cb6ee17466fdfd4da4c1ce43c2809c6c8a70097996a47ac83b28f7124d", func := "souffleur/souffleurlaw26.StateRuns", spec := "stateRuns", inPlace := ["internal/abi.NoEscape"], unfollowed := true, recurses := true, apart := false, narrowed := true }
def StateRunsUptoSaid : Prop := stateRunsUptoRow.holds Try.pinned (OpenSpec.upto stateRunsSpec)

end Rows
end Go.Proofs.Ytfkjogkpdebepaa
