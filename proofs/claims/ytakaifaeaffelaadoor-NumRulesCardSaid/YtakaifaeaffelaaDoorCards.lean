/-
  DERIVED. GIVEN WITH THE SEED: THE CARDS: each row of YtakaifaeaffelaaDoorRows.lean that lists a variable, with what it lists TIED to the program's text (the seventh form; the later family's looks); each row that meets fmt, with fmt's text TOLD by the authors' own Lean function (tested against real Go, not proved from fmt's source: count such statements apart). THE CARD IS WHAT COUNTS. Prove the row's statement (the work); the ties are given (YtakaifaeaffelaaDoorTie.lean); close each card by the builder's one call (the guide's Derived/Test/ToyasCard.lean, 'card_holds'). Laid BY PROGRAM, IN A SANDBOX (cutbox-door.mjs). By AI agents, Wed Nov 11 2026. No macro, syntax, notation, axiom, sorry.
-/
import Derived.Test.YtakaifaeaffelaaDoorRows
import GoSem.ClaimSeven
namespace Go.Proofs.YtakaifaeaffelaaDoor
namespace Rows

/-- THE TIED CARD OF 'souffleurlaw01.NumTexts'. -/
def numTextsCard : Claim7 := { stood := { row := numTextsRow, standIns := [], harness := (true, "e13fab596b966873aad85afc823154ad293d9bb1ee87336462e70c9abfd52c8c"), looks := true }, kinds := [], alts := [], laidByText := true, laidKinds := [.data, .data, .data, .sentinel, .sentinel], laidTests := true, laidLooks := .later }
def NumTextsCardSaid : Prop := Claim7.holds Tryd.pinned (.plain (OpenSpec.ofChange numTextsSpec)) numTextsCard

/-- THE TIED CARD OF 'souffleurlaw01.NumSums'. -/
def numSumsCard : Claim7 := { stood := { row := numSumsRow, standIns := [], harness := (true, "e13fab596b966873aad85afc823154ad293d9bb1ee87336462e70c9abfd52c8c"), looks := true }, kinds := [], alts := [], laidByText := true, laidKinds := [.data, .data, .data, .sentinel, .sentinel], laidTests := true, laidLooks := .later }
def NumSumsCardSaid : Prop := Claim7.holds Tryd.pinned (.plain (OpenSpec.ofChange numSumsSpec)) numSumsCard

/-- THE TIED CARD OF 'souffleurlaw01.NumRules'. -/
def numRulesCard : Claim7 := { stood := { row := numRulesRow, standIns := [], harness := (true, "e13fab596b966873aad85afc823154ad293d9bb1ee87336462e70c9abfd52c8c"), looks := true }, kinds := [], alts := [], laidByText := true, laidKinds := [.data, .data, .data, .sentinel, .sentinel], laidTests := true, laidLooks := .later }
def NumRulesCardSaid : Prop := Claim7.holds Tryd.pinned (.plain (OpenSpec.ofChange numRulesSpec)) numRulesCard

/-- THE TIED CARD OF 'souffleurlaw01.NumTimes'. -/
def numTimesCard : Claim7 := { stood := { row := numTimesRow, standIns := [], harness := (true, "e13fab596b966873aad85afc823154ad293d9bb1ee87336462e70c9abfd52c8c"), looks := true }, kinds := [], alts := [], laidByText := true, laidKinds := [.data, .data, .data, .sentinel, .sentinel], laidTests := true, laidLooks := .later }
def NumTimesCardSaid : Prop := Claim7.holds Tryd.pinned (.plain (OpenSpec.ofChange numTimesSpec)) numTimesCard

/-- THE TIED CARD OF 'souffleurlaw01.NumCommutes'. -/
def numCommutesCard : Claim7 := { stood := { row := numCommutesRow, standIns := [], harness := (true, "e13fab596b966873aad85afc823154ad293d9bb1ee87336462e70c9abfd52c8c"), looks := true }, kinds := [], alts := [], laidByText := true, laidKinds := [.data, .data, .data, .sentinel, .sentinel], laidTests := true, laidLooks := .later }
def NumCommutesCardSaid : Prop := Claim7.holds Tryd.pinned (.plain (OpenSpec.ofChange numCommutesSpec)) numCommutesCard

/-- THE SECOND FORM's CARD OF 'souffleurlaw01.NumTexts'. -/
def numTextsUptoCard : Claim7 := { stood := { row := numTextsUptoRow, standIns := [], harness := (true, "e13fab596b966873aad85afc823154ad293d9bb1ee87336462e70c9abfd52c8c"), looks := true }, kinds := [], alts := [], laidByText := true, laidKinds := [.data, .data, .data, .sentinel, .sentinel], laidTests := true, laidLooks := .later }
def NumTextsUptoCardSaid : Prop := Claim7.holds Tryd.pinned (.plain (OpenSpec.upto numTextsSpec)) numTextsUptoCard

/-- THE SECOND FORM's CARD OF 'souffleurlaw01.NumSums'. -/
def numSumsUptoCard : Claim7 := { stood := { row := numSumsUptoRow, standIns := [], harness := (true, "e13fab596b966873aad85afc823154ad293d9bb1ee87336462e70c9abfd52c8c"), looks := true }, kinds := [], alts := [], laidByText := true, laidKinds := [.data, .data, .data, .sentinel, .sentinel], laidTests := true, laidLooks := .later }
def NumSumsUptoCardSaid : Prop := Claim7.holds Tryd.pinned (.plain (OpenSpec.upto numSumsSpec)) numSumsUptoCard

/-- THE SECOND FORM's CARD OF 'souffleurlaw01.NumRules'. -/
def numRulesUptoCard : Claim7 := { stood := { row := numRulesUptoRow, standIns := [], harness := (true, "e13fab596b966873aad85afc823154ad293d9bb1ee87336462e70c9abfd52c8c"), looks := true }, kinds := [], alts := [], laidByText := true, laidKinds := [.data, .data, .data, .sentinel, .sentinel], laidTests := true, laidLooks := .later }
def NumRulesUptoCardSaid : Prop := Claim7.holds Tryd.pinned (.plain (OpenSpec.upto numRulesSpec)) numRulesUptoCard

/-- THE SECOND FORM's CARD OF 'souffleurlaw01.NumTimes'. -/
def numTimesUptoCard : Claim7 := { stood := { row := numTimesUptoRow, standIns := [], harness := (true, "e13fab596b966873aad85afc823154ad293d9bb1ee87336462e70c9abfd52c8c"), looks := true }, kinds := [], alts := [], laidByText := true, laidKinds := [.data, .data, .data, .sentinel, .sentinel], laidTests := true, laidLooks := .later }
def NumTimesUptoCardSaid : Prop := Claim7.holds Tryd.pinned (.plain (OpenSpec.upto numTimesSpec)) numTimesUptoCard

/-- THE SECOND FORM's CARD OF 'souffleurlaw01.NumCommutes'. -/
def numCommutesUptoCard : Claim7 := { stood := { row := numCommutesUptoRow, standIns := [], harness := (true, "e13fab596b966873aad85afc823154ad293d9bb1ee87336462e70c9abfd52c8c"), looks := true }, kinds := [], alts := [], laidByText := true, laidKinds := [.data, .data, .data, .sentinel, .sentinel], laidTests := true, laidLooks := .later }
def NumCommutesUptoCardSaid : Prop := Claim7.holds Tryd.pinned (.plain (OpenSpec.upto numCommutesSpec)) numCommutesUptoCard
end Rows
end Go.Proofs.YtakaifaeaffelaaDoor
