/-
  DERIVED. GIVEN WITH THE SEED: THE CARDS: each row of YtiimlajhofikeaaDoorRows.lean that lists a variable, with what it lists TIED to the program's text (the seventh form; the later family's looks); each row that meets fmt, with fmt's text TOLD by the authors' own Lean function (tested against real Go, not proved from fmt's source: count such statements apart). THE CARD IS WHAT COUNTS. Prove the row's statement (the work); the ties are given (YtiimlajhofikeaaDoorTie.lean); close each card by the builder's one call (the guide's Derived/Test/ToyasCard.lean, 'card_holds'). Laid BY PROGRAM, IN A SANDBOX (cutbox-door.mjs). By AI agents, Wed Nov 11 2026. No macro, syntax, notation, axiom, sorry.
-/
import Derived.Test.YtiimlajhofikeaaDoorRows
import GoSem.ClaimSeven
namespace Go.Proofs.YtiimlajhofikeaaDoor
namespace Rows

/-- THE TIED CARD OF 'resolventlaw06.CodeRights'. -/
def codeRightsCard : Claim7 := { stood := { row := codeRightsRow, standIns := [], harness := (true, "91a16c3ecb078f1b8d43a90dac8a78ec9d264ff48d17808892fb54c9b0877f3d"), looks := true }, kinds := [], alts := [], laidByText := true, laidKinds := [.data, .data, .data, .data, .sentinel, .sentinel, .pinned], laidTests := true, laidLooks := .later }
def CodeRightsCardSaid : Prop := Claim7.holds Tryd.pinned (.plain (OpenSpec.ofChange codeRightsSpec)) codeRightsCard

/-- THE TIED CARD OF 'resolventlaw06.CodeMakes'. -/
def codeMakesCard : Claim7 := { stood := { row := codeMakesRow, standIns := [], harness := (true, "91a16c3ecb078f1b8d43a90dac8a78ec9d264ff48d17808892fb54c9b0877f3d"), looks := true }, kinds := [], alts := [], laidByText := true, laidKinds := [.data, .data, .data, .data, .sentinel, .sentinel, .pinned], laidTests := true, laidLooks := .later }
def CodeMakesCardSaid : Prop := Claim7.holds Tryd.pinned (.plain (OpenSpec.ofChange codeMakesSpec)) codeMakesCard

/-- THE TIED CARD OF 'resolventlaw06.CodeTexts'. -/
def codeTextsCard : Claim7 := { stood := { row := codeTextsRow, standIns := [], harness := (true, "91a16c3ecb078f1b8d43a90dac8a78ec9d264ff48d17808892fb54c9b0877f3d"), looks := true }, kinds := [], alts := [], laidByText := true, laidKinds := [.data, .data, .data, .data, .sentinel, .sentinel, .pinned], laidTests := true, laidLooks := .later }
def CodeTextsCardSaid : Prop := Claim7.holds Tryd.pinned (.plain (OpenSpec.ofChange codeTextsSpec)) codeTextsCard

/-- THE SECOND FORM's CARD OF 'resolventlaw06.CodeRights'. -/
def codeRightsUptoCard : Claim7 := { stood := { row := codeRightsUptoRow, standIns := [], harness := (true, "91a16c3ecb078f1b8d43a90dac8a78ec9d264ff48d17808892fb54c9b0877f3d"), looks := true }, kinds := [], alts := [], laidByText := true, laidKinds := [.data, .data, .data, .data, .sentinel, .sentinel, .pinned], laidTests := true, laidLooks := .later }
def CodeRightsUptoCardSaid : Prop := Claim7.holds Tryd.pinned (.plain (OpenSpec.upto codeRightsSpec)) codeRightsUptoCard

/-- THE SECOND FORM's CARD OF 'resolventlaw06.CodeMakes'. -/
def codeMakesUptoCard : Claim7 := { stood := { row := codeMakesUptoRow, standIns := [], harness := (true, "91a16c3ecb078f1b8d43a90dac8a78ec9d264ff48d17808892fb54c9b0877f3d"), looks := true }, kinds := [], alts := [], laidByText := true, laidKinds := [.data, .data, .data, .data, .sentinel, .sentinel, .pinned], laidTests := true, laidLooks := .later }
def CodeMakesUptoCardSaid : Prop := Claim7.holds Tryd.pinned (.plain (OpenSpec.upto codeMakesSpec)) codeMakesUptoCard

/-- THE SECOND FORM's CARD OF 'resolventlaw06.CodeTexts'. -/
def codeTextsUptoCard : Claim7 := { stood := { row := codeTextsUptoRow, standIns := [], harness := (true, "91a16c3ecb078f1b8d43a90dac8a78ec9d264ff48d17808892fb54c9b0877f3d"), looks := true }, kinds := [], alts := [], laidByText := true, laidKinds := [.data, .data, .data, .data, .sentinel, .sentinel, .pinned], laidTests := true, laidLooks := .later }
def CodeTextsUptoCardSaid : Prop := Claim7.holds Tryd.pinned (.plain (OpenSpec.upto codeTextsSpec)) codeTextsUptoCard
end Rows
end Go.Proofs.YtiimlajhofikeaaDoor
