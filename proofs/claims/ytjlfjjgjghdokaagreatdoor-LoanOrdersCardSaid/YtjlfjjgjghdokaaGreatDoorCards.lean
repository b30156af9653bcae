/-
  DERIVED. GIVEN WITH THE SEED: THE CARDS: each row of YtjlfjjgjghdokaaGreatDoorRows.lean that lists a variable, with what it lists TIED to the program's text (the seventh form; the later family's looks); each row that meets fmt, with fmt's text TOLD by the authors' own Lean function (tested against real Go, not proved from fmt's source: count such statements apart). THE CARD IS WHAT COUNTS. Prove the row's statement (the work); the ties are given (YtjlfjjgjghdokaaGreatDoorTie.lean); close each card by the builder's one call (the guide's Derived/Test/ToyasCard.lean, 'card_holds'). Laid BY PROGRAM, IN A SANDBOX (cutbox-door.mjs). By AI agents, Wed Nov 11 2026. No macro, syntax, notation, axiom, sorry.
-/
import Derived.Test.YtjlfjjgjghdokaaGreatDoorRows
import GoSem.ClaimSeven
namespace Go.Proofs.YtjlfjjgjghdokaaGreatDoor
namespace Rows

/-- THE TIED CARD OF 'arrearslaw17.StoryQuiet'. -/
def storyQuietCard : Claim7 := { stood := { row := storyQuietRow, standIns := [], harness := (true, "02d0dae99ee24cab7385dc92a88eaae90fbf691075a2d4a18f5175ad4b3074a6"), looks := true }, kinds := [], alts := [], laidByText := true, laidKinds := [.data, .data, .data, .data, .sentinel, .sentinel, .pinned], laidTests := true, laidLooks := .later }
def StoryQuietCardSaid : Prop := Claim7.holds Tryz.pinned (.plain (OpenSpec.ofChange storyQuietSpec)) storyQuietCard

/-- THE TIED CARD OF 'arrearslaw17.StoryOrders'. -/
def storyOrdersCard : Claim7 := { stood := { row := storyOrdersRow, standIns := [], harness := (true, "02d0dae99ee24cab7385dc92a88eaae90fbf691075a2d4a18f5175ad4b3074a6"), looks := true }, kinds := [], alts := [], laidByText := true, laidKinds := [.data, .data, .data, .data, .sentinel, .sentinel, .pinned], laidTests := true, laidLooks := .later }
def StoryOrdersCardSaid : Prop := Claim7.holds Tryz.pinned (.plain (OpenSpec.ofChange storyOrdersSpec)) storyOrdersCard

/-- THE TIED CARD OF 'arrearslaw17.StoryAdds'. -/
def storyAddsCard : Claim7 := { stood := { row := storyAddsRow, standIns := [], harness := (true, "02d0dae99ee24cab7385dc92a88eaae90fbf691075a2d4a18f5175ad4b3074a6"), looks := true }, kinds := [], alts := [], laidByText := true, laidKinds := [.data, .data, .data, .data, .sentinel, .sentinel, .pinned], laidTests := true, laidLooks := .later }
def StoryAddsCardSaid : Prop := Claim7.holds Tryz.pinned (.plain (OpenSpec.ofChange storyAddsSpec)) storyAddsCard

/-- THE TIED CARD OF 'arrearslaw18.LoanOrders'. -/
def loanOrdersCard : Claim7 := { stood := { row := loanOrdersRow, standIns := [], harness := (true, "02d0dae99ee24cab7385dc92a88eaae90fbf691075a2d4a18f5175ad4b3074a6"), looks := true }, kinds := [], alts := [], laidByText := true, laidKinds := [.data, .data, .data, .data, .sentinel, .sentinel, .pinned], laidTests := true, laidLooks := .later }
def LoanOrdersCardSaid : Prop := Claim7.holds Tryz.pinned (.plain (OpenSpec.ofChange loanOrdersSpec)) loanOrdersCard

/-- THE TIED CARD OF 'arrearslaw18.LoanLate'. -/
def loanLateCard : Claim7 := { stood := { row := loanLateRow, standIns := [], harness := (true, "02d0dae99ee24cab7385dc92a88eaae90fbf691075a2d4a18f5175ad4b3074a6"), looks := true }, kinds := [], alts := [], laidByText := true, laidKinds := [.data, .data, .data, .data, .sentinel, .sentinel, .pinned], laidTests := true, laidLooks := .later }
def LoanLateCardSaid : Prop := Claim7.holds Tryz.pinned (.plain (OpenSpec.ofChange loanLateSpec)) loanLateCard

/-- THE TIED CARD OF 'arrearslaw18.LoanWindows'. -/
def loanWindowsCard : Claim7 := { stood := { row := loanWindowsRow, standIns := [], harness := (true, "02d0dae99ee24cab7385dc92a88eaae90fbf691075a2d4a18f5175ad4b3074a6"), looks := true }, kinds := [], alts := [], laidByText := true, laidKinds := [.data, .data, .data, .data, .handle, .sentinel, .sentinel, .pinned], laidTests := true, laidLooks := .later }
def LoanWindowsCardSaid : Prop := Claim7.holds Tryz.pinned (.plain (OpenSpec.ofChange loanWindowsSpec)) loanWindowsCard

/-- THE TIED CARD OF 'arrearslaw18.LoanTwice'. -/
def loanTwiceCard : Claim7 := { stood := { row := loanTwiceRow, standIns := [], harness := (true, "02d0dae99ee24cab7385dc92a88eaae90fbf691075a2d4a18f5175ad4b3074a6"), looks := true }, kinds := [], alts := [], laidByText := true, laidKinds := [.data, .data, .data, .data, .handle, .sentinel, .sentinel, .pinned], laidTests := true, laidLooks := .later }
def LoanTwiceCardSaid : Prop := Claim7.holds Tryz.pinned (.plain (OpenSpec.ofChange loanTwiceSpec)) loanTwiceCard

/-- THE SECOND FORM's CARD OF 'arrearslaw17.StoryQuiet'. -/
def storyQuietUptoCard : Claim7 := { stood := { row := storyQuietUptoRow, standIns := [], harness := (true, "02d0dae99ee24cab7385dc92a88eaae90fbf691075a2d4a18f5175ad4b3074a6"), looks := true }, kinds := [], alts := [], laidByText := true, laidKinds := [.data, .data, .data, .data, .sentinel, .sentinel, .pinned], laidTests := true, laidLooks := .later }
def StoryQuietUptoCardSaid : Prop := Claim7.holds Tryz.pinned (.plain (OpenSpec.upto storyQuietSpec)) storyQuietUptoCard

/-- THE SECOND FORM's CARD OF 'arrearslaw17.StoryOrders'. -/
def storyOrdersUptoCard : Claim7 := { stood := { row := storyOrdersUptoRow, standIns := [], harness := (true, "02d0dae99ee24cab7385dc92a88eaae90fbf691075a2d4a18f5175ad4b3074a6"), looks := true }, kinds := [], alts := [], laidByText := true, laidKinds := [.data, .data, .data, .data, .sentinel, .sentinel, .pinned], laidTests := true, laidLooks := .later }
def StoryOrdersUptoCardSaid : Prop := Claim7.holds Tryz.pinned (.plain (OpenSpec.upto storyOrdersSpec)) storyOrdersUptoCard

/-- THE SECOND FORM's CARD OF 'arrearslaw17.StoryAdds'. -/
def storyAddsUptoCard : Claim7 := { stood := { row := storyAddsUptoRow, standIns := [], harness := (true, "02d0dae99ee24cab7385dc92a88eaae90fbf691075a2d4a18f5175ad4b3074a6"), looks := true }, kinds := [], alts := [], laidByText := true, laidKinds := [.data, .data, .data, .data, .sentinel, .sentinel, .pinned], laidTests := true, laidLooks := .later }
def StoryAddsUptoCardSaid : Prop := Claim7.holds Tryz.pinned (.plain (OpenSpec.upto storyAddsSpec)) storyAddsUptoCard

/-- THE SECOND FORM's CARD OF 'arrearslaw18.LoanOrders'. -/
def loanOrdersUptoCard : Claim7 := { stood := { row := loanOrdersUptoRow, standIns := [], harness := (true, "02d0dae99ee24cab7385dc92a88eaae90fbf691075a2d4a18f5175ad4b3074a6"), looks := true }, kinds := [], alts := [], laidByText := true, laidKinds := [.data, .data, .data, .data, .sentinel, .sentinel, .pinned], laidTests := true, laidLooks := .later }
def LoanOrdersUptoCardSaid : Prop := Claim7.holds Tryz.pinned (.plain (OpenSpec.upto loanOrdersSpec)) loanOrdersUptoCard

/-- THE SECOND FORM's CARD OF 'arrearslaw18.LoanLate'. -/
def loanLateUptoCard : Claim7 := { stood := { row := loanLateUptoRow, standIns := [], harness := (true, "02d0dae99ee24cab7385dc92a88eaae90fbf691075a2d4a18f5175ad4b3074a6"), looks := true }, kinds := [], alts := [], laidByText := true, laidKinds := [.data, .data, .data, .data, .sentinel, .sentinel, .pinned], laidTests := true, laidLooks := .later }
def LoanLateUptoCardSaid : Prop := Claim7.holds Tryz.pinned (.plain (OpenSpec.upto loanLateSpec)) loanLateUptoCard

/-- THE SECOND FORM's CARD OF 'arrearslaw18.LoanWindows'. -/
def loanWindowsUptoCard : Claim7 := { stood := { row := loanWindowsUptoRow, standIns := [], harness := (true, "02d0dae99ee24cab7385dc92a88eaae90fbf691075a2d4a18f5175ad4b3074a6"), looks := true }, kinds := [], alts := [], laidByText := true, laidKinds := [.data, .data, .data, .data, .handle, .sentinel, .sentinel, .pinned], laidTests := true, laidLooks := .later }
def LoanWindowsUptoCardSaid : Prop := Claim7.holds Tryz.pinned (.plain (OpenSpec.upto loanWindowsSpec)) loanWindowsUptoCard

/-- THE SECOND FORM's CARD OF 'arrearslaw18.LoanTwice'. -/
def loanTwiceUptoCard : Claim7 := { stood := { row := loanTwiceUptoRow, standIns := [], harness := (true, "02d0dae99ee24cab7385dc92a88eaae90fbf691075a2d4a18f5175ad4b3074a6"), looks := true }, kinds := [], alts := [], laidByText := true, laidKinds := [.data, .data, .data, .data, .handle, .sentinel, .sentinel, .pinned], laidTests := true, laidLooks := .later }
def LoanTwiceUptoCardSaid : Prop := Claim7.holds Tryz.pinned (.plain (OpenSpec.upto loanTwiceSpec)) loanTwiceUptoCard
end Rows
end Go.Proofs.YtjlfjjgjghdokaaGreatDoor
