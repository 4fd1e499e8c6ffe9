/-
  DERIVED. GIVEN WITH THE SEED: THE CARDS: each row of YtpdmjegbjcefjaaDoorRows.lean that lists a variable, with what it lists TIED to the program's text (the seventh form; the later family's looks); each row that meets fmt, with fmt's text TOLD by the authors' own Lean function (tested against real Go, not proved from fmt's source: count such statements apart). THE CARD IS WHAT COUNTS. Prove the row's statement (the work); the ties are given (YtpdmjegbjcefjaaDoorTie.lean); close each card by the builder's one call (the guide's Derived/Test/ToyasCard.lean, 'card_holds'). Laid BY PROGRAM, IN A SANDBOX (cutbox-door.mjs). By AI agents, Wed Nov 11 2026. No macro, syntax, notation, axiom, sorry.
-/
import Derived.Test.YtpdmjegbjcefjaaDoorRows
import GoSem.ClaimSeven
namespace Go.Proofs.YtpdmjegbjcefjaaDoor
namespace Rows

/-- THE TIED CARD OF 'souffleurlaw06.GroupPieces'. -/
def groupPiecesCard : Claim7 := { stood := { row := groupPiecesRow, standIns := [], harness := (true, "fc94047b59cdbf542c9313c463a897472c59584b7b463f800f4266fcf046801c"), looks := false }, kinds := [], alts := [], laidByText := true, laidKinds := [.data, .data, .data], laidTests := true, laidLooks := .later }
def GroupPiecesCardSaid : Prop := Claim7.holds Tryd.pinned (.plain (OpenSpec.ofChange groupPiecesSpec)) groupPiecesCard

/-- THE TIED CARD OF 'souffleurlaw06.GroupNames'. -/
def groupNamesCard : Claim7 := { stood := { row := groupNamesRow, standIns := [], harness := (true, "fc94047b59cdbf542c9313c463a897472c59584b7b463f800f4266fcf046801c"), looks := false }, kinds := [], alts := [], laidByText := true, laidKinds := [.data, .data, .data], laidTests := true, laidLooks := .later }
def GroupNamesCardSaid : Prop := Claim7.holds Tryd.pinned (.plain (OpenSpec.ofChange groupNamesSpec)) groupNamesCard

/-- THE TIED CARD OF 'souffleurlaw05.DerivParts'. -/
def derivPartsCard : Claim7 := { stood := { row := derivPartsRow, standIns := [], harness := (true, "fc94047b59cdbf542c9313c463a897472c59584b7b463f800f4266fcf046801c"), looks := false }, kinds := [], alts := [], laidByText := true, laidKinds := [.data, .data, .data], laidTests := true, laidLooks := .later }
def DerivPartsCardSaid : Prop := Claim7.holds Tryd.pinned (.plain (OpenSpec.ofChange derivPartsSpec)) derivPartsCard

/-- THE TIED CARD OF 'souffleurlaw05.DerivRepeats'. -/
def derivRepeatsCard : Claim7 := { stood := { row := derivRepeatsRow, standIns := [], harness := (true, "fc94047b59cdbf542c9313c463a897472c59584b7b463f800f4266fcf046801c"), looks := false }, kinds := [], alts := [], laidByText := true, laidKinds := [.data, .data, .data], laidTests := true, laidLooks := .later }
def DerivRepeatsCardSaid : Prop := Claim7.holds Tryd.pinned (.plain (OpenSpec.ofChange derivRepeatsSpec)) derivRepeatsCard

/-- THE SECOND FORM's CARD OF 'souffleurlaw06.GroupPieces'. -/
def groupPiecesUptoCard : Claim7 := { stood := { row := groupPiecesUptoRow, standIns := [], harness := (true, "fc94047b59cdbf542c9313c463a897472c59584b7b463f800f4266fcf046801c"), looks := false }, kinds := [], alts := [], laidByText := true, laidKinds := [.data, .data, .data], laidTests := true, laidLooks := .later }
def GroupPiecesUptoCardSaid : Prop := Claim7.holds Tryd.pinned (.plain (OpenSpec.upto groupPiecesSpec)) groupPiecesUptoCard

/-- THE SECOND FORM's CARD OF 'souffleurlaw06.GroupNames'. -/
def groupNamesUptoCard : Claim7 := { stood := { row := groupNamesUptoRow, standIns := [], harness := (true, "fc94047b59cdbf542c9313c463a897472c59584b7b463f800f4266fcf046801c"), looks := false }, kinds := [], alts := [], laidByText := true, laidKinds := [.data, .data, .data], laidTests := true, laidLooks := .later }
def GroupNamesUptoCardSaid : Prop := Claim7.holds Tryd.pinned (.plain (OpenSpec.upto groupNamesSpec)) groupNamesUptoCard

/-- THE SECOND FORM's CARD OF 'souffleurlaw05.DerivParts'. -/
def derivPartsUptoCard : Claim7 := { stood := { row := derivPartsUptoRow, standIns := [], harness := (true, "fc94047b59cdbf542c9313c463a897472c59584b7b463f800f4266fcf046801c"), looks := false }, kinds := [], alts := [], laidByText := true, laidKinds := [.data, .data, .data], laidTests := true, laidLooks := .later }
def DerivPartsUptoCardSaid : Prop := Claim7.holds Tryd.pinned (.plain (OpenSpec.upto derivPartsSpec)) derivPartsUptoCard

/-- THE SECOND FORM's CARD OF 'souffleurlaw05.DerivRepeats'. -/
def derivRepeatsUptoCard : Claim7 := { stood := { row := derivRepeatsUptoRow, standIns := [], harness := (true, "fc94047b59cdbf542c9313c463a897472c59584b7b463f800f4266fcf046801c"), looks := false }, kinds := [], alts := [], laidByText := true, laidKinds := [.data, .data, .data], laidTests := true, laidLooks := .later }
def DerivRepeatsUptoCardSaid : Prop := Claim7.holds Tryd.pinned (.plain (OpenSpec.upto derivRepeatsSpec)) derivRepeatsUptoCard
end Rows
end Go.Proofs.YtpdmjegbjcefjaaDoor
