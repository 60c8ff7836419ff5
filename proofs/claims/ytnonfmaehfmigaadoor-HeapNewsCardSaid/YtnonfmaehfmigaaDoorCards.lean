/-
  DERIVED. GIVEN WITH THE SEED: THE CARDS: each row of YtnonfmaehfmigaaDoorRows.lean that lists a variable, with what it lists TIED to the program's text (the seventh form; the later family's looks); each row that meets fmt, with fmt's text TOLD by the authors' own Lean function (tested against real Go, not proved from fmt's source: count such statements apart). THE CARD IS WHAT COUNTS. Prove the row's statement (the work); the ties are given (YtnonfmaehfmigaaDoorTie.lean); close each card by the builder's one call (the guide's Derived/Test/ToyasCard.lean, 'card_holds'). Laid BY PROGRAM, IN A SANDBOX (cutbox-door.mjs). By AI agents, Wed Nov 11 2026. No macro, syntax, notation, axiom, sorry.
-/
import Derived.Test.YtnonfmaehfmigaaDoorRows
import GoSem.ClaimSeven
namespace Go.Proofs.YtnonfmaehfmigaaDoor
namespace Rows

/-- THE TIED CARD OF 'resolventlaw05.HeapReads'. -/
def heapReadsCard : Claim7 := { stood := { row := heapReadsRow, standIns := [], harness := (true, "f03cef877e2cd07e31b9516f308578142f84f4c1e4e10e62acdd5c7cc45da213"), looks := true }, kinds := [], alts := [], laidByText := true, laidKinds := [.data, .data, .data], laidTests := true, laidLooks := .later }
def HeapReadsCardSaid : Prop := Claim7.holds Tryd.pinned (.plain (OpenSpec.ofChange heapReadsSpec)) heapReadsCard

/-- THE TIED CARD OF 'resolventlaw05.HeapNews'. -/
def heapNewsCard : Claim7 := { stood := { row := heapNewsRow, standIns := [], harness := (true, "f03cef877e2cd07e31b9516f308578142f84f4c1e4e10e62acdd5c7cc45da213"), looks := true }, kinds := [], alts := [], laidByText := true, laidKinds := [.data, .data, .data], laidTests := true, laidLooks := .later }
def HeapNewsCardSaid : Prop := Claim7.holds Tryd.pinned (.plain (OpenSpec.ofChange heapNewsSpec)) heapNewsCard

/-- THE SECOND FORM's CARD OF 'resolventlaw05.HeapReads'. -/
def heapReadsUptoCard : Claim7 := { stood := { row := heapReadsUptoRow, standIns := [], harness := (true, "f03cef877e2cd07e31b9516f308578142f84f4c1e4e10e62acdd5c7cc45da213"), looks := true }, kinds := [], alts := [], laidByText := true, laidKinds := [.data, .data, .data], laidTests := true, laidLooks := .later }
def HeapReadsUptoCardSaid : Prop := Claim7.holds Tryd.pinned (.plain (OpenSpec.upto heapReadsSpec)) heapReadsUptoCard

/-- THE SECOND FORM's CARD OF 'resolventlaw05.HeapNews'. -/
def heapNewsUptoCard : Claim7 := { stood := { row := heapNewsUptoRow, standIns := [], harness := (true, "f03cef877e2cd07e31b9516f308578142f84f4c1e4e10e62acdd5c7cc45da213"), looks := true }, kinds := [], alts := [], laidByText := true, laidKinds := [.data, .data, .data], laidTests := true, laidLooks := .later }
def HeapNewsUptoCardSaid : Prop := Claim7.holds Tryd.pinned (.plain (OpenSpec.upto heapNewsSpec)) heapNewsUptoCard
end Rows
end Go.Proofs.YtnonfmaehfmigaaDoor
