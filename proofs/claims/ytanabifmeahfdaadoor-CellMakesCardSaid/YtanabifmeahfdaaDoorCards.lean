/-
  DERIVED. GIVEN WITH THE SEED: THE CARDS: each row of YtanabifmeahfdaaDoorRows.lean that lists a variable, with what it lists TIED to the program's text (the seventh form; the later family's looks); each row that meets fmt, with fmt's text TOLD by the authors' own Lean function (tested against real Go, not proved from fmt's source: count such statements apart). THE CARD IS WHAT COUNTS. Prove the row's statement (the work); the ties are given (YtanabifmeahfdaaDoorTie.lean); close each card by the builder's one call (the guide's Derived/Test/ToyasCard.lean, 'card_holds'). Laid BY PROGRAM, IN A SANDBOX (cutbox-door.mjs). By AI agents, Wed Nov 11 2026. No macro, syntax, notation, axiom, sorry.
-/
import Derived.Test.YtanabifmeahfdaaDoorRows
import GoSem.ClaimSeven
namespace Go.Proofs.YtanabifmeahfdaaDoor
namespace Rows

/-- THE TIED CARD OF 'resolventlaw01.CellMakes'. -/
def cellMakesCard : Claim7 := { stood := { row := cellMakesRow, standIns := [], harness := (true, "4d487968ce650e847ec8b689274e41161e1a04075e5afee6cdb3a364cff44aaa"), looks := false }, kinds := [], alts := [], laidByText := true, laidKinds := [.data, .data, .data], laidTests := true, laidLooks := .later }
def CellMakesCardSaid : Prop := Claim7.holds Tryd.pinned (.plain (OpenSpec.ofChange cellMakesSpec)) cellMakesCard

/-- THE TIED CARD OF 'resolventlaw01.CellReads'. -/
def cellReadsCard : Claim7 := { stood := { row := cellReadsRow, standIns := [], harness := (true, "4d487968ce650e847ec8b689274e41161e1a04075e5afee6cdb3a364cff44aaa"), looks := false }, kinds := [], alts := [], laidByText := true, laidKinds := [.data, .data, .data], laidTests := true, laidLooks := .later }
def CellReadsCardSaid : Prop := Claim7.holds Tryd.pinned (.plain (OpenSpec.ofChange cellReadsSpec)) cellReadsCard

/-- THE SECOND FORM's CARD OF 'resolventlaw01.CellMakes'. -/
def cellMakesUptoCard : Claim7 := { stood := { row := cellMakesUptoRow, standIns := [], harness := (true, "4d487968ce650e847ec8b689274e41161e1a04075e5afee6cdb3a364cff44aaa"), looks := false }, kinds := [], alts := [], laidByText := true, laidKinds := [.data, .data, .data], laidTests := true, laidLooks := .later }
def CellMakesUptoCardSaid : Prop := Claim7.holds Tryd.pinned (.plain (OpenSpec.upto cellMakesSpec)) cellMakesUptoCard

/-- THE SECOND FORM's CARD OF 'resolventlaw01.CellReads'. -/
def cellReadsUptoCard : Claim7 := { stood := { row := cellReadsUptoRow, standIns := [], harness := (true, "4d487968ce650e847ec8b689274e41161e1a04075e5afee6cdb3a364cff44aaa"), looks := false }, kinds := [], alts := [], laidByText := true, laidKinds := [.data, .data, .data], laidTests := true, laidLooks := .later }
def CellReadsUptoCardSaid : Prop := Claim7.holds Tryd.pinned (.plain (OpenSpec.upto cellReadsSpec)) cellReadsUptoCard
end Rows
end Go.Proofs.YtanabifmeahfdaaDoor
