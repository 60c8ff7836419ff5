/-
  DERIVED. GIVEN WITH THE SEED: THE CARDS: each row of YtjbomjnkjcafcaaDoorRows.lean that lists a variable, with what it lists TIED to the program's text (the seventh form; the later family's looks); each row that meets fmt, with fmt's text TOLD by the authors' own Lean function (tested against real Go, not proved from fmt's source: count such statements apart). THE CARD IS WHAT COUNTS. Prove the row's statement (the work); the ties are given (YtjbomjnkjcafcaaDoorTie.lean); close each card by the builder's one call (the guide's Derived/Test/ToyasCard.lean, 'card_holds'). Laid BY PROGRAM, IN A SANDBOX (cutbox-door.mjs). By AI agents, Wed Nov 11 2026. No macro, syntax, notation, axiom, sorry.
-/
import Derived.Test.YtjbomjnkjcafcaaDoorRows
import GoSem.ClaimSeven
namespace Go.Proofs.YtjbomjnkjcafcaaDoor
namespace Rows

/-- THE TIED CARD OF 'resolventlaw03.TermRights'. -/
def termRightsCard : Claim7 := { stood := { row := termRightsRow, standIns := [], harness := (true, "726dbe6c7d405242a8ec7301010bad39e601f342f9264da8cd5d8fb89b62a286"), looks := true }, kinds := [], alts := [], laidByText := true, laidKinds := [.data, .data, .data, .sentinel, .sentinel], laidTests := true, laidLooks := .later }
def TermRightsCardSaid : Prop := Claim7.holds Tryd.pinned (.plain (OpenSpec.ofChange termRightsSpec)) termRightsCard

/-- THE TIED CARD OF 'resolventlaw03.TermParses'. -/
def termParsesCard : Claim7 := { stood := { row := termParsesRow, standIns := [], harness := (true, "726dbe6c7d405242a8ec7301010bad39e601f342f9264da8cd5d8fb89b62a286"), looks := true }, kinds := [], alts := [], laidByText := true, laidKinds := [.data, .data, .data, .sentinel, .sentinel], laidTests := true, laidLooks := .later }
def TermParsesCardSaid : Prop := Claim7.holds Tryd.pinned (.plain (OpenSpec.ofChange termParsesSpec)) termParsesCard

/-- THE TIED CARD OF 'resolventlaw03.TermTexts'. -/
def termTextsCard : Claim7 := { stood := { row := termTextsRow, standIns := [], harness := (true, "726dbe6c7d405242a8ec7301010bad39e601f342f9264da8cd5d8fb89b62a286"), looks := true }, kinds := [], alts := [], laidByText := true, laidKinds := [.data, .data, .data, .sentinel, .sentinel], laidTests := true, laidLooks := .later }
def TermTextsCardSaid : Prop := Claim7.holds Tryd.pinned (.plain (OpenSpec.ofChange termTextsSpec)) termTextsCard

/-- THE SECOND FORM's CARD OF 'resolventlaw03.TermRights'. -/
def termRightsUptoCard : Claim7 := { stood := { row := termRightsUptoRow, standIns := [], harness := (true, "726dbe6c7d405242a8ec7301010bad39e601f342f9264da8cd5d8fb89b62a286"), looks := true }, kinds := [], alts := [], laidByText := true, laidKinds := [.data, .data, .data, .sentinel, .sentinel], laidTests := true, laidLooks := .later }
def TermRightsUptoCardSaid : Prop := Claim7.holds Tryd.pinned (.plain (OpenSpec.upto termRightsSpec)) termRightsUptoCard

/-- THE SECOND FORM's CARD OF 'resolventlaw03.TermParses'. -/
def termParsesUptoCard : Claim7 := { stood := { row := termParsesUptoRow, standIns := [], harness := (true, "726dbe6c7d405242a8ec7301010bad39e601f342f9264da8cd5d8fb89b62a286"), looks := true }, kinds := [], alts := [], laidByText := true, laidKinds := [.data, .data, .data, .sentinel, .sentinel], laidTests := true, laidLooks := .later }
def TermParsesUptoCardSaid : Prop := Claim7.holds Tryd.pinned (.plain (OpenSpec.upto termParsesSpec)) termParsesUptoCard

/-- THE SECOND FORM's CARD OF 'resolventlaw03.TermTexts'. -/
def termTextsUptoCard : Claim7 := { stood := { row := termTextsUptoRow, standIns := [], harness := (true, "726dbe6c7d405242a8ec7301010bad39e601f342f9264da8cd5d8fb89b62a286"), looks := true }, kinds := [], alts := [], laidByText := true, laidKinds := [.data, .data, .data, .sentinel, .sentinel], laidTests := true, laidLooks := .later }
def TermTextsUptoCardSaid : Prop := Claim7.holds Tryd.pinned (.plain (OpenSpec.upto termTextsSpec)) termTextsUptoCard
end Rows
end Go.Proofs.YtjbomjnkjcafcaaDoor
