/-
  No cell of these rows narrows 'for every input' (looked for: loops, veiled, ifaces, maps, wideKeys, modest, calm, conditions, laid).
  DERIVED. THE GIVEN ROWS OF THIS SEAT. 4 by the template 'for every input the law returns true; each argument reads behind the call as it read before'; 0 by the template 'total and deterministic' (their statements: YtanabifmeahfdaaTotals.lean).
  GIVEN WITH THE SEED: the statements are not yours to turn. If you find one false, say at which input.
  Laid BY PROGRAM, IN A SANDBOX (cutbox-rows.mjs): the forced cells as the released guide's own fill.sh prints them over the translation dc58300690001de4… (all of the seat's roots in one cut). By AI agents, Wed Nov 11 2026. No macro, syntax, notation, axiom, sorry.
-/
import Derived.Test.YtanabifmeahfdaaChecked
import GoSem.Claim
import GoSem.ClaimJoined
import GoSem.ClaimMapViews
import Derived.JoinedTies
import Derived.KernelRfl
namespace Go.Proofs.Ytanabifmeahfdaa
/- THE CELL 'sum', in the pinned program and in every row, IS THE sha256 OF THE DUMP (.gsa) THAT YtanabifmeahfdaaProg.lean LOADS. Nothing in Lean hashes anything: it is a label: what it is worth is what the hold of that sum in a sandbox is worth. -/
noncomputable def Try.pinned : Pinned := { name := "ytanabifmeahfdaa", sum := "dc58300690001de4ac4e4636ec3bb5e4a372524e62d0ae0e0b69681923b123c4", checked := Try.checked }
namespace Rows
def none {H : Type} : Left H := { results := [], args := [] }

/-- 'resolventlaw07.CrcSums': WHATEVER THE INPUT: true; the input reads as it did. -/
def crcSumsSpec : ChangeSpec := { name := "crcSums", fn := fun _ => fun
  | [d] => { results := [.lit (.bool true)], args := [d] }
  | _ => none }
def crcSumsRow : OpenClaim := { program := "ytanabifmeahfdaa", sum := "dc58300690001de4ac4e4636ec3bb5e4a372524e62d0ae0e0b69681923b123c4", func := "resolvent/resolventlaw07.CrcSums", spec := "crcSums", apart := false }
def CrcSumsSaid : Prop := crcSumsRow.holds Try.pinned (OpenSpec.ofChange crcSumsSpec)

/-- ITS FALSE NEIGHBOUR: 'it returns false'. Refute it at one input. -/
def crcSumsWrong : ChangeSpec := { name := "crcSums", fn := fun _ => fun
  | [d] => { results := [.lit (.bool false)], args := [d] }
  | _ => none }
def CrcSumsWrongFalsely : Prop := crcSumsRow.holds Try.pinned (OpenSpec.ofChange crcSumsWrong)

/-- 'resolventlaw07.CrcTurns': WHATEVER THE INPUT: true; the input reads as it did. -/
def crcTurnsSpec : ChangeSpec := { name := "crcTurns", fn := fun _ => fun
  | [d1, d2, d3] => { results := [.lit (.bool true)], args := [d1, d2, d3] }
  | _ => none }
def crcTurnsRow : OpenClaim := { program := "ytanabifmeahfdaa", sum := "dc58300690001de4ac4e4636ec3bb5e4a372524e62d0ae0e0b69681923b123c4", func := "resolvent/resolventlaw07.CrcTurns", spec := "crcTurns", apart := false }
def CrcTurnsSaid : Prop := crcTurnsRow.holds Try.pinned (OpenSpec.ofChange crcTurnsSpec)

/-- ITS FALSE NEIGHBOUR: 'it returns false'. Refute it at one input. -/
def crcTurnsWrong : ChangeSpec := { name := "crcTurns", fn := fun _ => fun
  | [d1, d2, d3] => { results := [.lit (.bool false)], args := [d1, d2, d3] }
  | _ => none }
def CrcTurnsWrongFalsely : Prop := crcTurnsRow.holds Try.pinned (OpenSpec.ofChange crcTurnsWrong)

/-- 'resolventlaw02.AreaNews': WHATEVER THE INPUT: true; the input reads as it did. -/
def areaNewsSpec : ChangeSpec := { name := "areaNews", fn := fun _ => fun
  | [d] => { results := [.lit (.bool true)], args := [d] }
  | _ => none }
def areaNewsRow : OpenClaim := { program := "ytanabifmeahfdaa", sum := "dc58300690001de4ac4e4636ec3bb5e4a372524e62d0ae0e0b69681923b123c4", func := "resolvent/resolventlaw02.AreaNews", spec := "areaNews", apart := false }
def AreaNewsSaid : Prop := areaNewsRow.holds Try.pinned (OpenSpec.ofChange areaNewsSpec)

/-- ITS FALSE NEIGHBOUR: 'it returns false'. Refute it at one input. -/
def areaNewsWrong : ChangeSpec := { name := "areaNews", fn := fun _ => fun
  | [d] => { results := [.lit (.bool false)], args := [d] }
  | _ => none }
def AreaNewsWrongFalsely : Prop := areaNewsRow.holds Try.pinned (OpenSpec.ofChange areaNewsWrong)

/-- 'resolventlaw02.AreaActs': WHATEVER THE INPUT: true; the input reads as it did. -/
def areaActsSpec : ChangeSpec := { name := "areaActs", fn := fun _ => fun
  | [d1, d2] => { results := [.lit (.bool true)], args := [d1, d2] }
  | _ => none }
def areaActsRow : OpenClaim := { program := "ytanabifmeahfdaa", sum := "dc58300690001de4ac4e4636ec3bb5e4a372524e62d0ae0e0b69681923b123c4", func := "resolvent/resolventlaw02.AreaActs", spec := "areaActs", apart := false }
def AreaActsSaid : Prop := areaActsRow.holds Try.pinned (OpenSpec.ofChange areaActsSpec)

/-- ITS FALSE NEIGHBOUR: 'it returns false'. Refute it at one input. -/
def areaActsWrong : ChangeSpec := { name := "areaActs", fn := fun _ => fun
  | [d1, d2] => { results := [.lit (.bool false)], args := [d1, d2] }
  | _ => none }
def AreaActsWrongFalsely : Prop := areaActsRow.holds Try.pinned (OpenSpec.ofChange areaActsWrong)

/- THE SECOND FORM. 'bulk': how many values and letters a reading holds, each counted each time it is reached (what is shared counts as often as it is met; a slice's spare places count too). A statement '..UptoSaid' is the law's where the arguments, and the package variables that the reading takes, are together of bulk at most 1048576: NARROWER than '..Said'. Prove '..Said' where nothing that the law and all that it calls make is longer than what came in: it says more and counts as full. Else prove '..UptoSaid'. A law counts once. -/
mutual
def uptoBulk {H : Type} : DataW H → Nat
  | .lit (.string bytes) => bytes.length + 1
  | .lit _ => 1
  | .nil => 1
  | .ptr d => uptoBulk d + 1
  | .slice elems spare => uptoBulkAll elems + uptoBulkAll spare + 1
  | .agg parts => uptoBulkAll parts + 1
  | .iface _ d => uptoBulk d + 1
  | .map entries => uptoBulkEntries entries + 1
  | .held _ => 1
def uptoBulkAll {H : Type} : List (DataW H) → Nat
  | [] => 0
  | d :: r => uptoBulk d + uptoBulkAll r
def uptoBulkEntries {H : Type} : List (Lit × DataW H) → Nat
  | [] => 0
  | x :: r => uptoBulkEntry x + uptoBulkEntries r
def uptoBulkEntry {H : Type} : Lit × DataW H → Nat
  | (.string bytes, d) => bytes.length + uptoBulk d + 1
  | (_, d) => uptoBulk d + 1
 end
def uptoSmall : (H : Type) → List (DataW H) → Bool := fun _ ds => decide (uptoBulkAll ds ≤ 1048576)
def OpenSpec.upto (s : _root_.Go.ChangeSpec) : _root_.Go.OpenSpec := { _root_.Go.OpenSpec.ofChange s with cond := some uptoSmall }

/-- 'resolventlaw07.CrcSums', WHERE WHAT IT READS IS OF BULK AT MOST 1048576: true; the input reads as it did. -/
def crcSumsUptoRow : OpenClaim := { program := "ytanabifmeahfdaa", sum := "dc58300690001de4ac4e4636ec3bb5e4a372524e62d0ae0e0b69681923b123c4", func := "resolvent/resolventlaw07.CrcSums", spec := "crcSums", apart := false, narrowed := true }
def CrcSumsUptoSaid : Prop := crcSumsUptoRow.holds Try.pinned (OpenSpec.upto crcSumsSpec)

/-- 'resolventlaw07.CrcTurns', WHERE WHAT IT READS IS OF BULK AT MOST 1048576: true; the input reads as it did. -/
def crcTurnsUptoRow : OpenClaim := { program := "ytanabifmeahfdaa", sum := "dc58300690001de4ac4e4636ec3bb5e4a372524e62d0ae0e0b69681923b123c4", func := "resolvent/resolventlaw07.CrcTurns", spec := "crcTurns", apart := false, narrowed := true }
def CrcTurnsUptoSaid : Prop := crcTurnsUptoRow.holds Try.pinned (OpenSpec.upto crcTurnsSpec)

/-- 'resolventlaw02.AreaNews', WHERE WHAT IT READS IS OF BULK AT MOST 1048576: true; the input reads as it did. -/
def areaNewsUptoRow : OpenClaim := { program := "ytanabifmeahfdaa", sum := "dc58300690001de4ac4e4636ec3bb5e4a372524e62d0ae0e0b69681923b123c4", func := "resolvent/resolventlaw02.AreaNews", spec := "areaNews", apart := false, narrowed := true }
def AreaNewsUptoSaid : Prop := areaNewsUptoRow.holds Try.pinned (OpenSpec.upto areaNewsSpec)

/-- 'resolventlaw02.AreaActs', WHERE WHAT IT READS IS OF BULK AT MOST 1048576: true; the input reads as it did. -/
def areaActsUptoRow : OpenClaim := { program := "ytanabifmeahfdaa", sum := "dc58300690001de4ac4e4636ec3bb5e4a372524e62d0ae0e0b69681923b123c4", func := "resolvent/resolventlaw02.AreaActs", spec := "areaActs", apart := false, narrowed := true }
def AreaActsUptoSaid : Prop := areaActsUptoRow.holds Try.pinned (OpenSpec.upto areaActsSpec)

end Rows
end Go.Proofs.Ytanabifmeahfdaa
