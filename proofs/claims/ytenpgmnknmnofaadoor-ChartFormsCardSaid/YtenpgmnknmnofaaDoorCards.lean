/-
  DERIVED. GIVEN WITH THE SEED: THE CARDS: each row of YtenpgmnknmnofaaDoorRows.lean that lists a variable, with what it lists TIED to the program's text (the seventh form; the later family's looks); each row that meets fmt, with fmt's text TOLD by the authors' own Lean function (tested against real Go, not proved from fmt's source: count such statements apart). THE CARD IS WHAT COUNTS. Prove the row's statement (the work); the ties are given (YtenpgmnknmnofaaDoorTie.lean); close each card by the builder's one call (the guide's Derived/Test/ToyasCard.lean, 'card_holds'). Laid BY PROGRAM, IN A SANDBOX (cutbox-door.mjs). By AI agents, Wed Nov 11 2026. No macro, syntax, notation, axiom, sorry.
-/
import Derived.Test.YtenpgmnknmnofaaDoorRows
import GoSem.ClaimSeven
namespace Go.Proofs.YtenpgmnknmnofaaDoor
namespace Rows

/-- THE TIED CARD OF 'arrearslaw13.ChartTurns'. -/
def chartTurnsCard : Claim7 := { stood := { row := chartTurnsRow, standIns := [], harness := (true, "054c917d7d2d4d814bf66f8ada166aecf7ac34a9170a71dd03f90ee332534fb5"), looks := true }, kinds := [], alts := [], laidByText := true, laidKinds := [.handle], laidTests := true, laidLooks := .later }
def ChartTurnsCardSaid : Prop := Claim7.holds Tryd.pinned (.plain (OpenSpec.ofChange chartTurnsSpec)) chartTurnsCard

/-- THE TIED CARD OF 'arrearslaw13.ChartForms'. -/
def chartFormsCard : Claim7 := { stood := { row := chartFormsRow, standIns := [], harness := (true, "054c917d7d2d4d814bf66f8ada166aecf7ac34a9170a71dd03f90ee332534fb5"), looks := true }, kinds := [], alts := [], laidByText := true, laidKinds := [.handle], laidTests := true, laidLooks := .later }
def ChartFormsCardSaid : Prop := Claim7.holds Tryd.pinned (.plain (OpenSpec.ofChange chartFormsSpec)) chartFormsCard

/-- THE SECOND FORM's CARD OF 'arrearslaw13.ChartTurns'. -/
def chartTurnsUptoCard : Claim7 := { stood := { row := chartTurnsUptoRow, standIns := [], harness := (true, "054c917d7d2d4d814bf66f8ada166aecf7ac34a9170a71dd03f90ee332534fb5"), looks := true }, kinds := [], alts := [], laidByText := true, laidKinds := [.handle], laidTests := true, laidLooks := .later }
def ChartTurnsUptoCardSaid : Prop := Claim7.holds Tryd.pinned (.plain (OpenSpec.upto chartTurnsSpec)) chartTurnsUptoCard

/-- THE SECOND FORM's CARD OF 'arrearslaw13.ChartForms'. -/
def chartFormsUptoCard : Claim7 := { stood := { row := chartFormsUptoRow, standIns := [], harness := (true, "054c917d7d2d4d814bf66f8ada166aecf7ac34a9170a71dd03f90ee332534fb5"), looks := true }, kinds := [], alts := [], laidByText := true, laidKinds := [.handle], laidTests := true, laidLooks := .later }
def ChartFormsUptoCardSaid : Prop := Claim7.holds Tryd.pinned (.plain (OpenSpec.upto chartFormsSpec)) chartFormsUptoCard
end Rows
end Go.Proofs.YtenpgmnknmnofaaDoor
