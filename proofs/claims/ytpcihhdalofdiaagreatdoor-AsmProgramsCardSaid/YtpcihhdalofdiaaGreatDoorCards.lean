/-
  DERIVED. GIVEN WITH THE SEED: THE CARDS: each row of YtpcihhdalofdiaaGreatDoorRows.lean that lists a variable, with what it lists TIED to the program's text (the seventh form; the later family's looks); each row that meets fmt, with fmt's text TOLD by the authors' own Lean function (tested against real Go, not proved from fmt's source: count such statements apart). THE CARD IS WHAT COUNTS. Prove the row's statement (the work); the ties are given (YtpcihhdalofdiaaGreatDoorTie.lean); close each card by the builder's one call (the guide's Derived/Test/ToyasCard.lean, 'card_holds'). Laid BY PROGRAM, IN A SANDBOX (cutbox-door.mjs). By AI agents, Wed Nov 11 2026. No macro, syntax, notation, axiom, sorry.
-/
import Derived.Test.YtpcihhdalofdiaaGreatDoorRows
import GoSem.ClaimSeven
namespace Go.Proofs.YtpcihhdalofdiaaGreatDoor
namespace Rows

/-- THE TIED CARD OF 'resolventlaw09.AsmPrograms'. -/
def asmProgramsCard : Claim7 := { stood := { row := asmProgramsRow, standIns := [], harness := (true, "e062185c5096187c2539e655ad38dcdb681448014187b834889ba81630e0092c"), looks := true }, kinds := [], alts := [], laidByText := true, laidKinds := [.data, .data, .data, .data, .sentinel, .sentinel, .pinned], laidTests := true, laidLooks := .later }
def AsmProgramsCardSaid : Prop := Claim7.holds Tryz.pinned (.plain (OpenSpec.ofChange asmProgramsSpec)) asmProgramsCard

/-- THE TIED CARD OF 'resolventlaw09.AsmLines'. -/
def asmLinesCard : Claim7 := { stood := { row := asmLinesRow, standIns := [], harness := (true, "e062185c5096187c2539e655ad38dcdb681448014187b834889ba81630e0092c"), looks := true }, kinds := [], alts := [], laidByText := true, laidKinds := [.data, .data, .data, .data, .sentinel, .sentinel, .pinned], laidTests := true, laidLooks := .later }
def AsmLinesCardSaid : Prop := Claim7.holds Tryz.pinned (.plain (OpenSpec.ofChange asmLinesSpec)) asmLinesCard

/-- THE TIED CARD OF 'resolventlaw09.AsmBack'. -/
def asmBackCard : Claim7 := { stood := { row := asmBackRow, standIns := [], harness := (true, "e062185c5096187c2539e655ad38dcdb681448014187b834889ba81630e0092c"), looks := true }, kinds := [], alts := [], laidByText := true, laidKinds := [.data, .data, .data, .data, .sentinel, .sentinel, .pinned], laidTests := true, laidLooks := .later }
def AsmBackCardSaid : Prop := Claim7.holds Tryz.pinned (.plain (OpenSpec.ofChange asmBackSpec)) asmBackCard

/-- THE SECOND FORM's CARD OF 'resolventlaw09.AsmPrograms'. -/
def asmProgramsUptoCard : Claim7 := { stood := { row := asmProgramsUptoRow, standIns := [], harness := (true, "e062185c5096187c2539e655ad38dcdb681448014187b834889ba81630e0092c"), looks := true }, kinds := [], alts := [], laidByText := true, laidKinds := [.data, .data, .data, .data, .sentinel, .sentinel, .pinned], laidTests := true, laidLooks := .later }
def AsmProgramsUptoCardSaid : Prop := Claim7.holds Tryz.pinned (.plain (OpenSpec.upto asmProgramsSpec)) asmProgramsUptoCard

/-- THE SECOND FORM's CARD OF 'resolventlaw09.AsmLines'. -/
def asmLinesUptoCard : Claim7 := { stood := { row := asmLinesUptoRow, standIns := [], harness := (true, "e062185c5096187c2539e655ad38dcdb681448014187b834889ba81630e0092c"), looks := true }, kinds := [], alts := [], laidByText := true, laidKinds := [.data, .data, .data, .data, .sentinel, .sentinel, .pinned], laidTests := true, laidLooks := .later }
def AsmLinesUptoCardSaid : Prop := Claim7.holds Tryz.pinned (.plain (OpenSpec.upto asmLinesSpec)) asmLinesUptoCard

/-- THE SECOND FORM's CARD OF 'resolventlaw09.AsmBack'. -/
def asmBackUptoCard : Claim7 := { stood := { row := asmBackUptoRow, standIns := [], harness := (true, "e062185c5096187c2539e655ad38dcdb681448014187b834889ba81630e0092c"), looks := true }, kinds := [], alts := [], laidByText := true, laidKinds := [.data, .data, .data, .data, .sentinel, .sentinel, .pinned], laidTests := true, laidLooks := .later }
def AsmBackUptoCardSaid : Prop := Claim7.holds Tryz.pinned (.plain (OpenSpec.upto asmBackSpec)) asmBackUptoCard
end Rows
end Go.Proofs.YtpcihhdalofdiaaGreatDoor
