/-
  DERIVED. GIVEN WITH THE SEED: THE CARDS: each row of YtbnmhhbncggjkaaGreatDoorRows.lean that lists a variable, with what it lists TIED to the program's text (the seventh form; the later family's looks); each row that meets fmt, with fmt's text TOLD by the authors' own Lean function (tested against real Go, not proved from fmt's source: count such statements apart). THE CARD IS WHAT COUNTS. Prove the row's statement (the work); the ties are given (YtbnmhhbncggjkaaGreatDoorTie.lean); close each card by the builder's one call (the guide's Derived/Test/ToyasCard.lean, 'card_holds'). Laid BY PROGRAM, IN A SANDBOX (cutbox-door.mjs). By AI agents, Wed Nov 11 2026. No macro, syntax, notation, axiom, sorry.
-/
import Derived.Test.YtbnmhhbncggjkaaGreatDoorRows
import GoSem.ClaimSeven
namespace Go.Proofs.YtbnmhhbncggjkaaGreatDoor
namespace Rows

/-- THE TIED CARD OF 'curtilagelaw05.AsmPrints'. -/
def asmPrintsCard : Claim7 := { stood := { row := asmPrintsRow, standIns := [], harness := (true, "e006ede5a7a0ab1264f174549a4cac29816eaa1bd9da13663274afb88a8d0fab"), looks := true }, kinds := [], alts := [], laidByText := true, laidKinds := [.data, .data, .data, .data, .sentinel, .sentinel, .data, .pinned], laidTests := true, laidLooks := .later }
def AsmPrintsCardSaid : Prop := Claim7.holds Tryz.pinned (.plain (OpenSpec.ofChange asmPrintsSpec)) asmPrintsCard

/-- THE TIED CARD OF 'curtilagelaw05.AsmParses'. -/
def asmParsesCard : Claim7 := { stood := { row := asmParsesRow, standIns := [], harness := (true, "e006ede5a7a0ab1264f174549a4cac29816eaa1bd9da13663274afb88a8d0fab"), looks := true }, kinds := [], alts := [], laidByText := true, laidKinds := [.data, .data, .data, .data, .sentinel, .sentinel, .data, .pinned], laidTests := true, laidLooks := .later }
def AsmParsesCardSaid : Prop := Claim7.holds Tryz.pinned (.plain (OpenSpec.ofChange asmParsesSpec)) asmParsesCard

/-- THE TIED CARD OF 'curtilagelaw05.AsmPrograms'. -/
def asmProgramsCard : Claim7 := { stood := { row := asmProgramsRow, standIns := [], harness := (true, "e006ede5a7a0ab1264f174549a4cac29816eaa1bd9da13663274afb88a8d0fab"), looks := true }, kinds := [], alts := [], laidByText := true, laidKinds := [.data, .data, .data, .data, .sentinel, .sentinel, .data, .pinned], laidTests := true, laidLooks := .later }
def AsmProgramsCardSaid : Prop := Claim7.holds Tryz.pinned (.plain (OpenSpec.ofChange asmProgramsSpec)) asmProgramsCard

/-- THE TIED CARD OF 'curtilagelaw05.AsmLists'. -/
def asmListsCard : Claim7 := { stood := { row := asmListsRow, standIns := [], harness := (true, "e006ede5a7a0ab1264f174549a4cac29816eaa1bd9da13663274afb88a8d0fab"), looks := true }, kinds := [], alts := [], laidByText := true, laidKinds := [.data, .data, .data, .data, .sentinel, .sentinel, .data, .pinned], laidTests := true, laidLooks := .later }
def AsmListsCardSaid : Prop := Claim7.holds Tryz.pinned (.plain (OpenSpec.ofChange asmListsSpec)) asmListsCard

/-- THE TIED CARD OF 'curtilagelaw05.AsmBack'. -/
def asmBackCard : Claim7 := { stood := { row := asmBackRow, standIns := [], harness := (true, "e006ede5a7a0ab1264f174549a4cac29816eaa1bd9da13663274afb88a8d0fab"), looks := true }, kinds := [], alts := [], laidByText := true, laidKinds := [.data, .data, .data, .data, .sentinel, .sentinel, .data, .pinned], laidTests := true, laidLooks := .later }
def AsmBackCardSaid : Prop := Claim7.holds Tryz.pinned (.plain (OpenSpec.ofChange asmBackSpec)) asmBackCard

/-- THE TIED CARD OF 'curtilagelaw05.AsmAgain'. -/
def asmAgainCard : Claim7 := { stood := { row := asmAgainRow, standIns := [], harness := (true, "e006ede5a7a0ab1264f174549a4cac29816eaa1bd9da13663274afb88a8d0fab"), looks := true }, kinds := [], alts := [], laidByText := true, laidKinds := [.data, .data, .data, .data, .sentinel, .sentinel, .data, .pinned], laidTests := true, laidLooks := .later }
def AsmAgainCardSaid : Prop := Claim7.holds Tryz.pinned (.plain (OpenSpec.ofChange asmAgainSpec)) asmAgainCard

/-- THE TIED CARD OF 'curtilagelaw05.AsmBlank'. -/
def asmBlankCard : Claim7 := { stood := { row := asmBlankRow, standIns := [], harness := (true, "e006ede5a7a0ab1264f174549a4cac29816eaa1bd9da13663274afb88a8d0fab"), looks := true }, kinds := [], alts := [], laidByText := true, laidKinds := [.data, .data, .data, .data, .sentinel, .sentinel, .data, .pinned], laidTests := true, laidLooks := .later }
def AsmBlankCardSaid : Prop := Claim7.holds Tryz.pinned (.plain (OpenSpec.ofChange asmBlankSpec)) asmBlankCard

/-- THE TIED CARD OF 'curtilagelaw05.AsmNames'. -/
def asmNamesCard : Claim7 := { stood := { row := asmNamesRow, standIns := [], harness := (true, "e006ede5a7a0ab1264f174549a4cac29816eaa1bd9da13663274afb88a8d0fab"), looks := true }, kinds := [], alts := [], laidByText := true, laidKinds := [.data, .data, .data, .data, .sentinel, .sentinel, .data, .pinned], laidTests := true, laidLooks := .later }
def AsmNamesCardSaid : Prop := Claim7.holds Tryz.pinned (.plain (OpenSpec.ofChange asmNamesSpec)) asmNamesCard

/-- THE TIED CARD OF 'curtilagelaw05.AsmJoin'. -/
def asmJoinCard : Claim7 := { stood := { row := asmJoinRow, standIns := [], harness := (true, "e006ede5a7a0ab1264f174549a4cac29816eaa1bd9da13663274afb88a8d0fab"), looks := true }, kinds := [], alts := [], laidByText := true, laidKinds := [.data, .data, .data, .data, .sentinel, .sentinel, .data, .pinned], laidTests := true, laidLooks := .later }
def AsmJoinCardSaid : Prop := Claim7.holds Tryz.pinned (.plain (OpenSpec.ofChange asmJoinSpec)) asmJoinCard

/-- THE SECOND FORM's CARD OF 'curtilagelaw05.AsmPrints'. -/
def asmPrintsUptoCard : Claim7 := { stood := { row := asmPrintsUptoRow, standIns := [], harness := (true, "e006ede5a7a0ab1264f174549a4cac29816eaa1bd9da13663274afb88a8d0fab"), looks := true }, kinds := [], alts := [], laidByText := true, laidKinds := [.data, .data, .data, .data, .sentinel, .sentinel, .data, .pinned], laidTests := true, laidLooks := .later }
def AsmPrintsUptoCardSaid : Prop := Claim7.holds Tryz.pinned (.plain (OpenSpec.upto asmPrintsSpec)) asmPrintsUptoCard

/-- THE SECOND FORM's CARD OF 'curtilagelaw05.AsmParses'. -/
def asmParsesUptoCard : Claim7 := { stood := { row := asmParsesUptoRow, standIns := [], harness := (true, "e006ede5a7a0ab1264f174549a4cac29816eaa1bd9da13663274afb88a8d0fab"), looks := true }, kinds := [], alts := [], laidByText := true, laidKinds := [.data, .data, .data, .data, .sentinel, .sentinel, .data, .pinned], laidTests := true, laidLooks := .later }
def AsmParsesUptoCardSaid : Prop := Claim7.holds Tryz.pinned (.plain (OpenSpec.upto asmParsesSpec)) asmParsesUptoCard

/-- THE SECOND FORM's CARD OF 'curtilagelaw05.AsmPrograms'. -/
def asmProgramsUptoCard : Claim7 := { stood := { row := asmProgramsUptoRow, standIns := [], harness := (true, "e006ede5a7a0ab1264f174549a4cac29816eaa1bd9da13663274afb88a8d0fab"), looks := true }, kinds := [], alts := [], laidByText := true, laidKinds := [.data, .data, .data, .data, .sentinel, .sentinel, .data, .pinned], laidTests := true, laidLooks := .later }
def AsmProgramsUptoCardSaid : Prop := Claim7.holds Tryz.pinned (.plain (OpenSpec.upto asmProgramsSpec)) asmProgramsUptoCard

/-- THE SECOND FORM's CARD OF 'curtilagelaw05.AsmLists'. -/
def asmListsUptoCard : Claim7 := { stood := { row := asmListsUptoRow, standIns := [], harness := (true, "e006ede5a7a0ab1264f174549a4cac29816eaa1bd9da13663274afb88a8d0fab"), looks := true }, kinds := [], alts := [], laidByText := true, laidKinds := [.data, .data, .data, .data, .sentinel, .sentinel, .data, .pinned], laidTests := true, laidLooks := .later }
def AsmListsUptoCardSaid : Prop := Claim7.holds Tryz.pinned (.plain (OpenSpec.upto asmListsSpec)) asmListsUptoCard

/-- THE SECOND FORM's CARD OF 'curtilagelaw05.AsmBack'. -/
def asmBackUptoCard : Claim7 := { stood := { row := asmBackUptoRow, standIns := [], harness := (true, "e006ede5a7a0ab1264f174549a4cac29816eaa1bd9da13663274afb88a8d0fab"), looks := true }, kinds := [], alts := [], laidByText := true, laidKinds := [.data, .data, .data, .data, .sentinel, .sentinel, .data, .pinned], laidTests := true, laidLooks := .later }
def AsmBackUptoCardSaid : Prop := Claim7.holds Tryz.pinned (.plain (OpenSpec.upto asmBackSpec)) asmBackUptoCard

/-- THE SECOND FORM's CARD OF 'curtilagelaw05.AsmAgain'. -/
def asmAgainUptoCard : Claim7 := { stood := { row := asmAgainUptoRow, standIns := [], harness := (true, "e006ede5a7a0ab1264f174549a4cac29816eaa1bd9da13663274afb88a8d0fab"), looks := true }, kinds := [], alts := [], laidByText := true, laidKinds := [.data, .data, .data, .data, .sentinel, .sentinel, .data, .pinned], laidTests := true, laidLooks := .later }
def AsmAgainUptoCardSaid : Prop := Claim7.holds Tryz.pinned (.plain (OpenSpec.upto asmAgainSpec)) asmAgainUptoCard

/-- THE SECOND FORM's CARD OF 'curtilagelaw05.AsmBlank'. -/
def asmBlankUptoCard : Claim7 := { stood := { row := asmBlankUptoRow, standIns := [], harness := (true, "e006ede5a7a0ab1264f174549a4cac29816eaa1bd9da13663274afb88a8d0fab"), looks := true }, kinds := [], alts := [], laidByText := true, laidKinds := [.data, .data, .data, .data, .sentinel, .sentinel, .data, .pinned], laidTests := true, laidLooks := .later }
def AsmBlankUptoCardSaid : Prop := Claim7.holds Tryz.pinned (.plain (OpenSpec.upto asmBlankSpec)) asmBlankUptoCard

/-- THE SECOND FORM's CARD OF 'curtilagelaw05.AsmNames'. -/
def asmNamesUptoCard : Claim7 := { stood := { row := asmNamesUptoRow, standIns := [], harness := (true, "e006ede5a7a0ab1264f174549a4cac29816eaa1bd9da13663274afb88a8d0fab"), looks := true }, kinds := [], alts := [], laidByText := true, laidKinds := [.data, .data, .data, .data, .sentinel, .sentinel, .data, .pinned], laidTests := true, laidLooks := .later }
def AsmNamesUptoCardSaid : Prop := Claim7.holds Tryz.pinned (.plain (OpenSpec.upto asmNamesSpec)) asmNamesUptoCard

/-- THE SECOND FORM's CARD OF 'curtilagelaw05.AsmJoin'. -/
def asmJoinUptoCard : Claim7 := { stood := { row := asmJoinUptoRow, standIns := [], harness := (true, "e006ede5a7a0ab1264f174549a4cac29816eaa1bd9da13663274afb88a8d0fab"), looks := true }, kinds := [], alts := [], laidByText := true, laidKinds := [.data, .data, .data, .data, .sentinel, .sentinel, .data, .pinned], laidTests := true, laidLooks := .later }
def AsmJoinUptoCardSaid : Prop := Claim7.holds Tryz.pinned (.plain (OpenSpec.upto asmJoinSpec)) asmJoinUptoCard
end Rows
end Go.Proofs.YtbnmhhbncggjkaaGreatDoor
