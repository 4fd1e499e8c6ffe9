/-
  DERIVED. GIVEN WITH THE SEED: THE CARDS: each row of YtchceoclkdofhaaGreatDoorRows.lean that lists a variable, with what it lists TIED to the program's text (the seventh form; the later family's looks); each row that meets fmt, with fmt's text TOLD by the authors' own Lean function (tested against real Go, not proved from fmt's source: count such statements apart). THE CARD IS WHAT COUNTS. Prove the row's statement (the work); the ties are given (YtchceoclkdofhaaGreatDoorTie.lean); close each card by the builder's one call (the guide's Derived/Test/ToyasCard.lean, 'card_holds'). Laid BY PROGRAM, IN A SANDBOX (cutbox-door.mjs). By AI agents, Wed Nov 11 2026. No macro, syntax, notation, axiom, sorry.
-/
import Derived.Test.YtchceoclkdofhaaGreatDoorRows
import GoSem.ClaimSeven
namespace Go.Proofs.YtchceoclkdofhaaGreatDoor
namespace Rows

/-- THE TIED CARD OF 'souffleurlaw09.ExprSames'. -/
def exprSamesCard : Claim7 := { stood := { row := exprSamesRow, standIns := [], harness := (true, "9b7ae13f42ad111f8fe090f9d27d6d9fbda8bf8121229df80ca33efb3f29486b"), looks := false }, kinds := [], alts := [], laidByText := true, laidKinds := [.data, .data, .data, .data, .pinned], laidTests := true, laidLooks := .later }
def ExprSamesCardSaid : Prop := Claim7.holds Tryz.pinned (.plain (OpenSpec.ofChange exprSamesSpec)) exprSamesCard

/-- THE TIED CARD OF 'souffleurlaw09.ExprBrackets'. -/
def exprBracketsCard : Claim7 := { stood := { row := exprBracketsRow, standIns := [], harness := (true, "9b7ae13f42ad111f8fe090f9d27d6d9fbda8bf8121229df80ca33efb3f29486b"), looks := false }, kinds := [], alts := [], laidByText := true, laidKinds := [.data, .data, .data, .data, .pinned], laidTests := true, laidLooks := .later }
def ExprBracketsCardSaid : Prop := Claim7.holds Tryz.pinned (.plain (OpenSpec.ofChange exprBracketsSpec)) exprBracketsCard

/-- THE TIED CARD OF 'souffleurlaw09.ExprBack'. -/
def exprBackCard : Claim7 := { stood := { row := exprBackRow, standIns := [], harness := (true, "9b7ae13f42ad111f8fe090f9d27d6d9fbda8bf8121229df80ca33efb3f29486b"), looks := false }, kinds := [], alts := [], laidByText := true, laidKinds := [.data, .data, .data, .data, .pinned], laidTests := true, laidLooks := .later }
def ExprBackCardSaid : Prop := Claim7.holds Tryz.pinned (.plain (OpenSpec.ofChange exprBackSpec)) exprBackCard

/-- THE TIED CARD OF 'souffleurlaw09.ExprAny'. -/
def exprAnyCard : Claim7 := { stood := { row := exprAnyRow, standIns := [], harness := (true, "9b7ae13f42ad111f8fe090f9d27d6d9fbda8bf8121229df80ca33efb3f29486b"), looks := false }, kinds := [], alts := [], laidByText := true, laidKinds := [.data, .data, .data, .data, .pinned], laidTests := true, laidLooks := .later }
def ExprAnyCardSaid : Prop := Claim7.holds Tryz.pinned (.plain (OpenSpec.ofChange exprAnySpec)) exprAnyCard

/-- THE SECOND FORM's CARD OF 'souffleurlaw09.ExprSames'. -/
def exprSamesUptoCard : Claim7 := { stood := { row := exprSamesUptoRow, standIns := [], harness := (true, "9b7ae13f42ad111f8fe090f9d27d6d9fbda8bf8121229df80ca33efb3f29486b"), looks := false }, kinds := [], alts := [], laidByText := true, laidKinds := [.data, .data, .data, .data, .pinned], laidTests := true, laidLooks := .later }
def ExprSamesUptoCardSaid : Prop := Claim7.holds Tryz.pinned (.plain (OpenSpec.upto exprSamesSpec)) exprSamesUptoCard

/-- THE SECOND FORM's CARD OF 'souffleurlaw09.ExprBrackets'. -/
def exprBracketsUptoCard : Claim7 := { stood := { row := exprBracketsUptoRow, standIns := [], harness := (true, "9b7ae13f42ad111f8fe090f9d27d6d9fbda8bf8121229df80ca33efb3f29486b"), looks := false }, kinds := [], alts := [], laidByText := true, laidKinds := [.data, .data, .data, .data, .pinned], laidTests := true, laidLooks := .later }
def ExprBracketsUptoCardSaid : Prop := Claim7.holds Tryz.pinned (.plain (OpenSpec.upto exprBracketsSpec)) exprBracketsUptoCard

/-- THE SECOND FORM's CARD OF 'souffleurlaw09.ExprBack'. -/
def exprBackUptoCard : Claim7 := { stood := { row := exprBackUptoRow, standIns := [], harness := (true, "9b7ae13f42ad111f8fe090f9d27d6d9fbda8bf8121229df80ca33efb3f29486b"), looks := false }, kinds := [], alts := [], laidByText := true, laidKinds := [.data, .data, .data, .data, .pinned], laidTests := true, laidLooks := .later }
def ExprBackUptoCardSaid : Prop := Claim7.holds Tryz.pinned (.plain (OpenSpec.upto exprBackSpec)) exprBackUptoCard

/-- THE SECOND FORM's CARD OF 'souffleurlaw09.ExprAny'. -/
def exprAnyUptoCard : Claim7 := { stood := { row := exprAnyUptoRow, standIns := [], harness := (true, "9b7ae13f42ad111f8fe090f9d27d6d9fbda8bf8121229df80ca33efb3f29486b"), looks := false }, kinds := [], alts := [], laidByText := true, laidKinds := [.data, .data, .data, .data, .pinned], laidTests := true, laidLooks := .later }
def ExprAnyUptoCardSaid : Prop := Claim7.holds Tryz.pinned (.plain (OpenSpec.upto exprAnySpec)) exprAnyUptoCard
end Rows
end Go.Proofs.YtchceoclkdofhaaGreatDoor
