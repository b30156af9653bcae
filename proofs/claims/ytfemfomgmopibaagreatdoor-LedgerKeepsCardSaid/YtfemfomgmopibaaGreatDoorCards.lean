/-
  DERIVED. GIVEN WITH THE SEED: THE CARDS: each row of YtfemfomgmopibaaGreatDoorRows.lean that lists a variable, with what it lists TIED to the program's text (the seventh form; the later family's looks); each row that meets fmt, with fmt's text TOLD by the authors' own Lean function (tested against real Go, not proved from fmt's source: count such statements apart). THE CARD IS WHAT COUNTS. Prove the row's statement (the work); the ties are given (YtfemfomgmopibaaGreatDoorTie.lean); close each card by the builder's one call (the guide's Derived/Test/ToyasCard.lean, 'card_holds'). Laid BY PROGRAM, IN A SANDBOX (cutbox-door.mjs). By AI agents, Wed Nov 11 2026. No macro, syntax, notation, axiom, sorry.
-/
import Derived.Test.YtfemfomgmopibaaGreatDoorRows
import GoSem.ClaimSeven
namespace Go.Proofs.YtfemfomgmopibaaGreatDoor
namespace Rows

/-- THE TIED CARD OF 'arrearslaw14.LedgerTurns'. -/
def ledgerTurnsCard : Claim7 := { stood := { row := ledgerTurnsRow, standIns := [], harness := (true, "28e776291f42e32cf4f3f1a5caf74a49b45530b61acf665046d6abe5f6c616a2"), looks := true }, kinds := [], alts := [], laidByText := true, laidKinds := [.handle], laidTests := true, laidLooks := .later }
def LedgerTurnsCardSaid : Prop := Claim7.holds Tryz.pinned (.plain (OpenSpec.ofChange ledgerTurnsSpec)) ledgerTurnsCard

/-- THE TIED CARD OF 'arrearslaw14.LedgerLoans'. -/
def ledgerLoansCard : Claim7 := { stood := { row := ledgerLoansRow, standIns := [], harness := (true, "28e776291f42e32cf4f3f1a5caf74a49b45530b61acf665046d6abe5f6c616a2"), looks := true }, kinds := [], alts := [], laidByText := true, laidKinds := [.handle], laidTests := true, laidLooks := .later }
def LedgerLoansCardSaid : Prop := Claim7.holds Tryz.pinned (.plain (OpenSpec.ofChange ledgerLoansSpec)) ledgerLoansCard

/-- THE TIED CARD OF 'arrearslaw14.LedgerKeeps'. -/
def ledgerKeepsCard : Claim7 := { stood := { row := ledgerKeepsRow, standIns := [], harness := (true, "28e776291f42e32cf4f3f1a5caf74a49b45530b61acf665046d6abe5f6c616a2"), looks := true }, kinds := [], alts := [], laidByText := true, laidKinds := [.handle], laidTests := true, laidLooks := .later }
def LedgerKeepsCardSaid : Prop := Claim7.holds Tryz.pinned (.plain (OpenSpec.ofChange ledgerKeepsSpec)) ledgerKeepsCard

/-- THE TIED CARD OF 'arrearslaw14.LedgerNil'. -/
def ledgerNilCard : Claim7 := { stood := { row := ledgerNilRow, standIns := [], harness := (true, "28e776291f42e32cf4f3f1a5caf74a49b45530b61acf665046d6abe5f6c616a2"), looks := true }, kinds := [], alts := [], laidByText := true, laidKinds := [.handle], laidTests := true, laidLooks := .later }
def LedgerNilCardSaid : Prop := Claim7.holds Tryz.pinned (.plain (OpenSpec.ofChange ledgerNilSpec)) ledgerNilCard

/-- THE SECOND FORM's CARD OF 'arrearslaw14.LedgerTurns'. -/
def ledgerTurnsUptoCard : Claim7 := { stood := { row := ledgerTurnsUptoRow, standIns := [], harness := (true, "28e776291f42e32cf4f3f1a5caf74a49b45530b61acf665046d6abe5f6c616a2"), looks := true }, kinds := [], alts := [], laidByText := true, laidKinds := [.handle], laidTests := true, laidLooks := .later }
def LedgerTurnsUptoCardSaid : Prop := Claim7.holds Tryz.pinned (.plain (OpenSpec.upto ledgerTurnsSpec)) ledgerTurnsUptoCard

/-- THE SECOND FORM's CARD OF 'arrearslaw14.LedgerLoans'. -/
def ledgerLoansUptoCard : Claim7 := { stood := { row := ledgerLoansUptoRow, standIns := [], harness := (true, "28e776291f42e32cf4f3f1a5caf74a49b45530b61acf665046d6abe5f6c616a2"), looks := true }, kinds := [], alts := [], laidByText := true, laidKinds := [.handle], laidTests := true, laidLooks := .later }
def LedgerLoansUptoCardSaid : Prop := Claim7.holds Tryz.pinned (.plain (OpenSpec.upto ledgerLoansSpec)) ledgerLoansUptoCard

/-- THE SECOND FORM's CARD OF 'arrearslaw14.LedgerKeeps'. -/
def ledgerKeepsUptoCard : Claim7 := { stood := { row := ledgerKeepsUptoRow, standIns := [], harness := (true, "28e776291f42e32cf4f3f1a5caf74a49b45530b61acf665046d6abe5f6c616a2"), looks := true }, kinds := [], alts := [], laidByText := true, laidKinds := [.handle], laidTests := true, laidLooks := .later }
def LedgerKeepsUptoCardSaid : Prop := Claim7.holds Tryz.pinned (.plain (OpenSpec.upto ledgerKeepsSpec)) ledgerKeepsUptoCard

/-- THE SECOND FORM's CARD OF 'arrearslaw14.LedgerNil'. -/
def ledgerNilUptoCard : Claim7 := { stood := { row := ledgerNilUptoRow, standIns := [], harness := (true, "28e776291f42e32cf4f3f1a5caf74a49b45530b61acf665046d6abe5f6c616a2"), looks := true }, kinds := [], alts := [], laidByText := true, laidKinds := [.handle], laidTests := true, laidLooks := .later }
def LedgerNilUptoCardSaid : Prop := Claim7.holds Tryz.pinned (.plain (OpenSpec.upto ledgerNilSpec)) ledgerNilUptoCard
end Rows
end Go.Proofs.YtfemfomgmopibaaGreatDoor
