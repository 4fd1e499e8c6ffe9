/-
  DERIVED. GIVEN WITH THE SEED: THE CARDS: each row of YtdonokghemhfiaaDoorRows.lean that lists a variable, with what it lists TIED to the program's text (the seventh form; the later family's looks); each row that meets fmt, with fmt's text TOLD by the authors' own Lean function (tested against real Go, not proved from fmt's source: count such statements apart). THE CARD IS WHAT COUNTS. Prove the row's statement (the work); the ties are given (YtdonokghemhfiaaDoorTie.lean); close each card by the builder's one call (the guide's Derived/Test/ToyasCard.lean, 'card_holds'). Laid BY PROGRAM, IN A SANDBOX (cutbox-door.mjs). By AI agents, Wed Nov 11 2026. No macro, syntax, notation, axiom, sorry.
-/
import Derived.Test.YtdonokghemhfiaaDoorRows
import GoSem.ClaimSeven
namespace Go.Proofs.YtdonokghemhfiaaDoor
namespace Rows

/-- THE TIED CARD OF 'souffleurlaw04.EreAny'. -/
def ereAnyCard : Claim7 := { stood := { row := ereAnyRow, standIns := [], harness := (true, "f2bf2b1fdf34dbda1f1f9c1b982293717b5336586fad7e21372662bf4f684d86"), looks := false }, kinds := [], alts := [], laidByText := true, laidKinds := [.data, .data, .data], laidTests := true, laidLooks := .later }
def EreAnyCardSaid : Prop := Claim7.holds Tryd.pinned (.plain (OpenSpec.ofChange ereAnySpec)) ereAnyCard

/-- THE TIED CARD OF 'souffleurlaw04.EreGoes'. -/
def ereGoesCard : Claim7 := { stood := { row := ereGoesRow, standIns := [], harness := (true, "f2bf2b1fdf34dbda1f1f9c1b982293717b5336586fad7e21372662bf4f684d86"), looks := false }, kinds := [], alts := [], laidByText := true, laidKinds := [.data, .data, .data], laidTests := true, laidLooks := .later }
def EreGoesCardSaid : Prop := Claim7.holds Tryd.pinned (.plain (OpenSpec.ofChange ereGoesSpec)) ereGoesCard

/-- THE TIED CARD OF 'souffleurlaw04.EreSames'. -/
def ereSamesCard : Claim7 := { stood := { row := ereSamesRow, standIns := [], harness := (true, "f2bf2b1fdf34dbda1f1f9c1b982293717b5336586fad7e21372662bf4f684d86"), looks := false }, kinds := [], alts := [], laidByText := true, laidKinds := [.data, .data, .data], laidTests := true, laidLooks := .later }
def EreSamesCardSaid : Prop := Claim7.holds Tryd.pinned (.plain (OpenSpec.ofChange ereSamesSpec)) ereSamesCard

/-- THE TIED CARD OF 'souffleurlaw04.EreBack'. -/
def ereBackCard : Claim7 := { stood := { row := ereBackRow, standIns := [], harness := (true, "f2bf2b1fdf34dbda1f1f9c1b982293717b5336586fad7e21372662bf4f684d86"), looks := false }, kinds := [], alts := [], laidByText := true, laidKinds := [.data, .data, .data], laidTests := true, laidLooks := .later }
def EreBackCardSaid : Prop := Claim7.holds Tryd.pinned (.plain (OpenSpec.ofChange ereBackSpec)) ereBackCard

/-- THE SECOND FORM's CARD OF 'souffleurlaw04.EreAny'. -/
def ereAnyUptoCard : Claim7 := { stood := { row := ereAnyUptoRow, standIns := [], harness := (true, "f2bf2b1fdf34dbda1f1f9c1b982293717b5336586fad7e21372662bf4f684d86"), looks := false }, kinds := [], alts := [], laidByText := true, laidKinds := [.data, .data, .data], laidTests := true, laidLooks := .later }
def EreAnyUptoCardSaid : Prop := Claim7.holds Tryd.pinned (.plain (OpenSpec.upto ereAnySpec)) ereAnyUptoCard

/-- THE SECOND FORM's CARD OF 'souffleurlaw04.EreGoes'. -/
def ereGoesUptoCard : Claim7 := { stood := { row := ereGoesUptoRow, standIns := [], harness := (true, "f2bf2b1fdf34dbda1f1f9c1b982293717b5336586fad7e21372662bf4f684d86"), looks := false }, kinds := [], alts := [], laidByText := true, laidKinds := [.data, .data, .data], laidTests := true, laidLooks := .later }
def EreGoesUptoCardSaid : Prop := Claim7.holds Tryd.pinned (.plain (OpenSpec.upto ereGoesSpec)) ereGoesUptoCard

/-- THE SECOND FORM's CARD OF 'souffleurlaw04.EreSames'. -/
def ereSamesUptoCard : Claim7 := { stood := { row := ereSamesUptoRow, standIns := [], harness := (true, "f2bf2b1fdf34dbda1f1f9c1b982293717b5336586fad7e21372662bf4f684d86"), looks := false }, kinds := [], alts := [], laidByText := true, laidKinds := [.data, .data, .data], laidTests := true, laidLooks := .later }
def EreSamesUptoCardSaid : Prop := Claim7.holds Tryd.pinned (.plain (OpenSpec.upto ereSamesSpec)) ereSamesUptoCard

/-- THE SECOND FORM's CARD OF 'souffleurlaw04.EreBack'. -/
def ereBackUptoCard : Claim7 := { stood := { row := ereBackUptoRow, standIns := [], harness := (true, "f2bf2b1fdf34dbda1f1f9c1b982293717b5336586fad7e21372662bf4f684d86"), looks := false }, kinds := [], alts := [], laidByText := true, laidKinds := [.data, .data, .data], laidTests := true, laidLooks := .later }
def EreBackUptoCardSaid : Prop := Claim7.holds Tryd.pinned (.plain (OpenSpec.upto ereBackSpec)) ereBackUptoCard
end Rows
end Go.Proofs.YtdonokghemhfiaaDoor
