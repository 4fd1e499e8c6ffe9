/-
  DERIVED. GIVEN WITH THE SEED: THE CARDS: each row of YtledgkplddeghaaDoorRows.lean that lists a variable, with what it lists TIED to the program's text (the seventh form; the later family's looks); each row that meets fmt, with fmt's text TOLD by the authors' own Lean function (tested against real Go, not proved from fmt's source: count such statements apart). THE CARD IS WHAT COUNTS. Prove the row's statement (the work); the ties are given (YtledgkplddeghaaDoorTie.lean); close each card by the builder's one call (the guide's Derived/Test/ToyasCard.lean, 'card_holds'). Laid BY PROGRAM, IN A SANDBOX (cutbox-door.mjs). By AI agents, Wed Nov 11 2026. No macro, syntax, notation, axiom, sorry.
-/
import Derived.Test.YtledgkplddeghaaDoorRows
import GoSem.ClaimSeven
namespace Go.Proofs.YtledgkplddeghaaDoor
namespace Rows

/-- THE TIED CARD OF 'souffleurlaw15.CalcEvals'. -/
def calcEvalsCard : Claim7 := { stood := { row := calcEvalsRow, standIns := [], harness := (true, "73df12c6ef48e50e73dfca289c12d1478ab9a2facdf70e35236669e567bcf414"), looks := true }, kinds := [], alts := [], laidByText := true, laidKinds := [.data, .data, .data, .sentinel, .sentinel], laidTests := true, laidLooks := .later }
def CalcEvalsCardSaid : Prop := Claim7.holds Tryd.pinned (.plain (OpenSpec.ofChange calcEvalsSpec)) calcEvalsCard

/-- THE TIED CARD OF 'souffleurlaw15.CalcValues'. -/
def calcValuesCard : Claim7 := { stood := { row := calcValuesRow, standIns := [], harness := (true, "73df12c6ef48e50e73dfca289c12d1478ab9a2facdf70e35236669e567bcf414"), looks := true }, kinds := [], alts := [], laidByText := true, laidKinds := [.data, .data, .data, .sentinel, .sentinel], laidTests := true, laidLooks := .later }
def CalcValuesCardSaid : Prop := Claim7.holds Tryd.pinned (.plain (OpenSpec.ofChange calcValuesSpec)) calcValuesCard

/-- THE TIED CARD OF 'souffleurlaw15.CalcRules'. -/
def calcRulesCard : Claim7 := { stood := { row := calcRulesRow, standIns := [], harness := (true, "73df12c6ef48e50e73dfca289c12d1478ab9a2facdf70e35236669e567bcf414"), looks := true }, kinds := [], alts := [], laidByText := true, laidKinds := [.data, .data, .data, .sentinel, .sentinel], laidTests := true, laidLooks := .later }
def CalcRulesCardSaid : Prop := Claim7.holds Tryd.pinned (.plain (OpenSpec.ofChange calcRulesSpec)) calcRulesCard

/-- THE SECOND FORM's CARD OF 'souffleurlaw15.CalcEvals'. -/
def calcEvalsUptoCard : Claim7 := { stood := { row := calcEvalsUptoRow, standIns := [], harness := (true, "73df12c6ef48e50e73dfca289c12d1478ab9a2facdf70e35236669e567bcf414"), looks := true }, kinds := [], alts := [], laidByText := true, laidKinds := [.data, .data, .data, .sentinel, .sentinel], laidTests := true, laidLooks := .later }
def CalcEvalsUptoCardSaid : Prop := Claim7.holds Tryd.pinned (.plain (OpenSpec.upto calcEvalsSpec)) calcEvalsUptoCard

/-- THE SECOND FORM's CARD OF 'souffleurlaw15.CalcValues'. -/
def calcValuesUptoCard : Claim7 := { stood := { row := calcValuesUptoRow, standIns := [], harness := (true, "73df12c6ef48e50e73dfca289c12d1478ab9a2facdf70e35236669e567bcf414"), looks := true }, kinds := [], alts := [], laidByText := true, laidKinds := [.data, .data, .data, .sentinel, .sentinel], laidTests := true, laidLooks := .later }
def CalcValuesUptoCardSaid : Prop := Claim7.holds Tryd.pinned (.plain (OpenSpec.upto calcValuesSpec)) calcValuesUptoCard

/-- THE SECOND FORM's CARD OF 'souffleurlaw15.CalcRules'. -/
def calcRulesUptoCard : Claim7 := { stood := { row := calcRulesUptoRow, standIns := [], harness := (true, "73df12c6ef48e50e73dfca289c12d1478ab9a2facdf70e35236669e567bcf414"), looks := true }, kinds := [], alts := [], laidByText := true, laidKinds := [.data, .data, .data, .sentinel, .sentinel], laidTests := true, laidLooks := .later }
def CalcRulesUptoCardSaid : Prop := Claim7.holds Tryd.pinned (.plain (OpenSpec.upto calcRulesSpec)) calcRulesUptoCard
end Rows
end Go.Proofs.YtledgkplddeghaaDoor
