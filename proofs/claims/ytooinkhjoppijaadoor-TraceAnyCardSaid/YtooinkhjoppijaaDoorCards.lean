/-
  DERIVED. GIVEN WITH THE SEED: THE CARDS: each row of YtooinkhjoppijaaDoorRows.lean that lists a variable, with what it lists TIED to the program's text (the seventh form; the later family's looks); each row that meets fmt, with fmt's text TOLD by the authors' own Lean function (tested against real Go, not proved from fmt's source: count such statements apart). THE CARD IS WHAT COUNTS. Prove the row's statement (the work); the ties are given (YtooinkhjoppijaaDoorTie.lean); close each card by the builder's one call (the guide's Derived/Test/ToyasCard.lean, 'card_holds'). Laid BY PROGRAM, IN A SANDBOX (cutbox-door.mjs). By AI agents, Wed Nov 11 2026. No macro, syntax, notation, axiom, sorry.
-/
import Derived.Test.YtooinkhjoppijaaDoorRows
import GoSem.ClaimSeven
namespace Go.Proofs.YtooinkhjoppijaaDoor
namespace Rows

/-- THE TIED CARD OF 'souffleurlaw23.TraceBack'. -/
def traceBackCard : Claim7 := { stood := { row := traceBackRow, standIns := [], harness := (true, "4b3b56b698f83bbafc0d546a8549a6142b28f2244409ea46d24b6b005ec7ea54"), looks := true }, kinds := [], alts := [], laidByText := true, laidKinds := [.data, .data, .data, .data, .sentinel, .sentinel, .pinned], laidTests := true, laidLooks := .later }
def TraceBackCardSaid : Prop := Claim7.holds Tryd.pinned (.plain (OpenSpec.ofChange traceBackSpec)) traceBackCard

/-- THE TIED CARD OF 'souffleurlaw23.TraceAny'. -/
def traceAnyCard : Claim7 := { stood := { row := traceAnyRow, standIns := [], harness := (true, "4b3b56b698f83bbafc0d546a8549a6142b28f2244409ea46d24b6b005ec7ea54"), looks := true }, kinds := [], alts := [], laidByText := true, laidKinds := [.data, .data, .data, .data, .sentinel, .sentinel, .pinned], laidTests := true, laidLooks := .later }
def TraceAnyCardSaid : Prop := Claim7.holds Tryd.pinned (.plain (OpenSpec.ofChange traceAnySpec)) traceAnyCard

/-- THE TIED CARD OF 'souffleurlaw23.TraceLines'. -/
def traceLinesCard : Claim7 := { stood := { row := traceLinesRow, standIns := [], harness := (true, "4b3b56b698f83bbafc0d546a8549a6142b28f2244409ea46d24b6b005ec7ea54"), looks := true }, kinds := [], alts := [], laidByText := true, laidKinds := [.data, .data, .data, .data, .sentinel, .sentinel, .pinned], laidTests := true, laidLooks := .later }
def TraceLinesCardSaid : Prop := Claim7.holds Tryd.pinned (.plain (OpenSpec.ofChange traceLinesSpec)) traceLinesCard

/-- THE SECOND FORM's CARD OF 'souffleurlaw23.TraceBack'. -/
def traceBackUptoCard : Claim7 := { stood := { row := traceBackUptoRow, standIns := [], harness := (true, "4b3b56b698f83bbafc0d546a8549a6142b28f2244409ea46d24b6b005ec7ea54"), looks := true }, kinds := [], alts := [], laidByText := true, laidKinds := [.data, .data, .data, .data, .sentinel, .sentinel, .pinned], laidTests := true, laidLooks := .later }
def TraceBackUptoCardSaid : Prop := Claim7.holds Tryd.pinned (.plain (OpenSpec.upto traceBackSpec)) traceBackUptoCard

/-- THE SECOND FORM's CARD OF 'souffleurlaw23.TraceAny'. -/
def traceAnyUptoCard : Claim7 := { stood := { row := traceAnyUptoRow, standIns := [], harness := (true, "4b3b56b698f83bbafc0d546a8549a6142b28f2244409ea46d24b6b005ec7ea54"), looks := true }, kinds := [], alts := [], laidByText := true, laidKinds := [.data, .data, .data, .data, .sentinel, .sentinel, .pinned], laidTests := true, laidLooks := .later }
def TraceAnyUptoCardSaid : Prop := Claim7.holds Tryd.pinned (.plain (OpenSpec.upto traceAnySpec)) traceAnyUptoCard

/-- THE SECOND FORM's CARD OF 'souffleurlaw23.TraceLines'. -/
def traceLinesUptoCard : Claim7 := { stood := { row := traceLinesUptoRow, standIns := [], harness := (true, "4b3b56b698f83bbafc0d546a8549a6142b28f2244409ea46d24b6b005ec7ea54"), looks := true }, kinds := [], alts := [], laidByText := true, laidKinds := [.data, .data, .data, .data, .sentinel, .sentinel, .pinned], laidTests := true, laidLooks := .later }
def TraceLinesUptoCardSaid : Prop := Claim7.holds Tryd.pinned (.plain (OpenSpec.upto traceLinesSpec)) traceLinesUptoCard
end Rows
end Go.Proofs.YtooinkhjoppijaaDoor
