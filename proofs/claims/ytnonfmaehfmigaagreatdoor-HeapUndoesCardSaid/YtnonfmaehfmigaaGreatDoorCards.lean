/-
  DERIVED. GIVEN WITH THE SEED: THE CARDS: each row of YtnonfmaehfmigaaGreatDoorRows.lean that lists a variable, with what it lists TIED to the program's text (the seventh form; the later family's looks); each row that meets fmt, with fmt's text TOLD by the authors' own Lean function (tested against real Go, not proved from fmt's source: count such statements apart). THE CARD IS WHAT COUNTS. Prove the row's statement (the work); the ties are given (YtnonfmaehfmigaaGreatDoorTie.lean); close each card by the builder's one call (the guide's Derived/Test/ToyasCard.lean, 'card_holds'). Laid BY PROGRAM, IN A SANDBOX (cutbox-door.mjs). By AI agents, Wed Nov 11 2026. No macro, syntax, notation, axiom, sorry.
-/
import Derived.Test.YtnonfmaehfmigaaGreatDoorRows
import GoSem.ClaimSeven
namespace Go.Proofs.YtnonfmaehfmigaaGreatDoor
namespace Rows

/-- THE TIED CARD OF 'resolventlaw05.HeapUndoes'. -/
def heapUndoesCard : Claim7 := { stood := { row := heapUndoesRow, standIns := [], harness := (true, "9d1e129d1966de970c5f1c88e2888e941fdca9bfe9211bf9d9396f0b8936fec3"), looks := true }, kinds := [], alts := [], laidByText := true, laidKinds := [.data, .data, .data], laidTests := true, laidLooks := .later }
def HeapUndoesCardSaid : Prop := Claim7.holds Tryz.pinned (.plain (OpenSpec.ofChange heapUndoesSpec)) heapUndoesCard

/-- THE SECOND FORM's CARD OF 'resolventlaw05.HeapUndoes'. -/
def heapUndoesUptoCard : Claim7 := { stood := { row := heapUndoesUptoRow, standIns := [], harness := (true, "9d1e129d1966de970c5f1c88e2888e941fdca9bfe9211bf9d9396f0b8936fec3"), looks := true }, kinds := [], alts := [], laidByText := true, laidKinds := [.data, .data, .data], laidTests := true, laidLooks := .later }
def HeapUndoesUptoCardSaid : Prop := Claim7.holds Tryz.pinned (.plain (OpenSpec.upto heapUndoesSpec)) heapUndoesUptoCard
end Rows
end Go.Proofs.YtnonfmaehfmigaaGreatDoor
