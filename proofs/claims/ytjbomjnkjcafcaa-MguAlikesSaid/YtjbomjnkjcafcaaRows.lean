/-
  NARROWER THAN 'FOR EVERY INPUT', by the rows' own cells (each row's printed sentence says how): MguMeets: loops · MguFinds: loops · MguMost: loops · MguAlikes: loops.
  DERIVED. THE GIVEN ROWS OF THIS SEAT. 4 by the template 'for every input the law returns true; each argument reads behind the call as it read before'; 0 by the template 'total and deterministic' (their statements: YtjbomjnkjcafcaaTotals.lean).
  GIVEN WITH THE SEED: the statements are not yours to turn. If you find one false, say at which input.
  Laid BY PROGRAM, IN A SANDBOX (cutbox-rows.mjs): the forced cells as the released guide's own fill.sh prints them over the translation f722d7ae001b84e7… (all of the seat's roots in one cut). By AI agents, Wed Nov 11 2026. No macro, syntax, notation, axiom, sorry.
-/
import Derived.Test.YtjbomjnkjcafcaaChecked
import GoSem.Claim
import GoSem.ClaimJoined
import GoSem.ClaimMapViews
import Derived.JoinedTies
import Derived.KernelRfl
namespace Go.Proofs.Ytjbomjnkjcafcaa
/- THE CELL 'sum', in the pinned program and in every row, IS THE sha256 OF THE DUMP (.gsa) THAT YtjbomjnkjcafcaaProg.lean LOADS. Nothing in Lean hashes anything: it is a label: what it is worth is what the hold of that sum in a sandbox is worth. -/
noncomputable def Try.pinned : Pinned := { name := "ytjbomjnkjcafcaa", sum := "f722d7ae001b84e7ba2917ded7ff96931d367a5fc72bd80b54c5fd456bc74654", checked := Try.checked }
namespace Rows
def none {H : Type} : Left H := { results := [], args := [] }

/-- 'resolventlaw04.MguMeets': WHATEVER THE INPUT: true; the input reads as it did. -/
def mguMeetsSpec : ChangeSpec := { name := "mguMeets", fn := fun _ => fun
  | [d1, d2] => { results := [.lit (.bool true)], args := [d1, d2] }
  | _ => none }
def mguMeetsRow : OpenClaim := { program := "ytjbomjnkjcafcaa", sum := "f722d7ae001b84e7ba2917ded7ff96931d367a5fc72bd80b54c5fd456bc74654", func := "resolvent/resolventlaw04.MguMeets", spec := "mguMeets", unfollowed := true, recurses := true, loops := true, apart := false }
def MguMeetsSaid : Prop := mguMeetsRow.holds Try.pinned (OpenSpec.ofChange mguMeetsSpec)

/-- ITS FALSE NEIGHBOUR: 'it returns false'. Refute it at one input. -/
def mguMeetsWrong : ChangeSpec := { name := "mguMeets", fn := fun _ => fun
  | [d1, d2] => { results := [.lit (.bool false)], args := [d1, d2] }
  | _ => none }
def MguMeetsWrongFalsely : Prop := mguMeetsRow.holds Try.pinned (OpenSpec.ofChange mguMeetsWrong)

/-- 'resolventlaw04.MguFinds': WHATEVER THE INPUT: true; the input reads as it did. -/
def mguFindsSpec : ChangeSpec := { name := "mguFinds", fn := fun _ => fun
  | [d1, d2] => { results := [.lit (.bool true)], args := [d1, d2] }
  | _ => none }
def mguFindsRow : OpenClaim := { program := "ytjbomjnkjcafcaa", sum := "f722d7ae001b84e7ba2917ded7ff96931d367a5fc72bd80b54c5fd456bc74654", func := "resolvent/resolventlaw04.MguFinds", spec := "mguFinds", unfollowed := true, recurses := true, loops := true, apart := false }
def MguFindsSaid : Prop := mguFindsRow.holds Try.pinned (OpenSpec.ofChange mguFindsSpec)

/-- ITS FALSE NEIGHBOUR: 'it returns false'. Refute it at one input. -/
def mguFindsWrong : ChangeSpec := { name := "mguFinds", fn := fun _ => fun
  | [d1, d2] => { results := [.lit (.bool false)], args := [d1, d2] }
  | _ => none }
def MguFindsWrongFalsely : Prop := mguFindsRow.holds Try.pinned (OpenSpec.ofChange mguFindsWrong)

/-- 'resolventlaw04.MguMost': WHATEVER THE INPUT: true; the input reads as it did. -/
def mguMostSpec : ChangeSpec := { name := "mguMost", fn := fun _ => fun
  | [d1, d2, d3] => { results := [.lit (.bool true)], args := [d1, d2, d3] }
  | _ => none }
def mguMostRow : OpenClaim := { program := "ytjbomjnkjcafcaa", sum := "f722d7ae001b84e7ba2917ded7ff96931d367a5fc72bd80b54c5fd456bc74654", func := "resolvent/resolventlaw04.MguMost", spec := "mguMost", unfollowed := true, recurses := true, loops := true, apart := false }
def MguMostSaid : Prop := mguMostRow.holds Try.pinned (OpenSpec.ofChange mguMostSpec)

/-- ITS FALSE NEIGHBOUR: 'it returns false'. Refute it at one input. -/
def mguMostWrong : ChangeSpec := { name := "mguMost", fn := fun _ => fun
  | [d1, d2, d3] => { results := [.lit (.bool false)], args := [d1, d2, d3] }
  | _ => none }
def MguMostWrongFalsely : Prop := mguMostRow.holds Try.pinned (OpenSpec.ofChange mguMostWrong)

/-- 'resolventlaw04.MguAlikes': WHATEVER THE INPUT: true; the input reads as it did. -/
def mguAlikesSpec : ChangeSpec := { name := "mguAlikes", fn := fun _ => fun
  | [d1, d2, d3] => { results := [.lit (.bool true)], args := [d1, d2, d3] }
  | _ => none }
def mguAlikesRow : OpenClaim := { program := "ytjbomjnkjcafcaa", sum := "f722d7ae001b84e7ba2917ded7ff96931d367a5fc72bd80b54c5fd456bc74654", func := "resolvent/resolventlaw04.MguAlikes", spec := "mguAlikes", unfollowed := true, recurses := true, loops := true, apart := false }
def MguAlikesSaid : Prop := mguAlikesRow.holds Try.pinned (OpenSpec.ofChange mguAlikesSpec)

/-- ITS FALSE NEIGHBOUR: 'it returns false'. Refute it at one input. -/
def mguAlikesWrong : ChangeSpec := { name := "mguAlikes", fn := fun _ => fun
  | [d1, d2, d3] => { results := [.lit (.bool false)], args := [d1, d2, d3] }
  | _ => none }
def MguAlikesWrongFalsely : Prop := mguAlikesRow.holds Try.pinned (OpenSpec.ofChange mguAlikesWrong)

/- THE SECOND FORM. 'bulk': how many values and letters a reading holds, each counted each time it is reached (what is shared counts as often as it is met; a slice's spare places count too). A statement '..UptoSaid' is the law's where the arguments, and the package variables that the reading takes, are together of bulk at most 1048576: NARROWER than '..Said'. Prove '..Said' where nothing that the law and all that it calls make is longer than what came in: it says more and counts as full. Else prove '..UptoSaid'. A law counts once. -/
mutual
def uptoBulk {H : Type} : DataW H → Nat
  | .lit (.string bytes) => bytes.length + 1
  | .lit _ => 1
  | .nil => 1
  | .ptr d => uptoBulk d + 1
  | .slice elems spare => uptoBulkAll elems + uptoBulkAll spare + 1
  | .agg parts => uptoBulkAll parts + 1
  | .iface _ d => uptoBulk d + 1
  | .map entries => uptoBulkEntries entries + 1
  | .held _ => 1
def uptoBulkAll {H : Type} : List (DataW H) → Nat
  | [] => 0
  | d :: r => uptoBulk d + uptoBulkAll r
def uptoBulkEntries {H : Type} : List (Lit × DataW H) → Nat
  | [] => 0
  | x :: r => uptoBulkEntry x + uptoBulkEntries r
def uptoBulkEntry {H : Type} : Lit × DataW H → Nat
  | (.string bytes, d) => bytes.length + uptoBulk d + 1
  | (_, d) => uptoBulk d + 1
 end
def uptoSmall : (H : Type) → List (DataW H) → Bool := fun _ ds => decide (uptoBulkAll ds ≤ 1048576)
def OpenSpec.upto (s : _root_.Go.ChangeSpec) : _root_.Go.OpenSpec := { _root_.Go.OpenSpec.ofChange s with cond := some uptoSmall }

/-- 'resolventlaw04.MguMeets', WHERE WHAT IT READS IS OF BULK AT MOST 1048576: true; the input reads as it did. -/
def mguMeetsUptoRow : OpenClaim := { program := "ytjbomjnkjcafcaa", sum := "f722d7ae001b84e7ba2917ded7ff96931d367a5fc72bd80b54c5fd456bc74654", func := "resolvent/resolventlaw04.MguMeets", spec := "mguMeets", unfollowed := true, recurses := true, loops := true, apart := false, narrowed := true }
def MguMeetsUptoSaid : Prop := mguMeetsUptoRow.holds Try.pinned (OpenSpec.upto mguMeetsSpec)

/-- 'resolventlaw04.MguFinds', WHERE WHAT IT READS IS OF BULK AT MOST 1048576: true; the input reads as it did. -/
def mguFindsUptoRow : OpenClaim := { program := "ytjbomjnkjcafcaa", sum := "f722d7ae001b84e7ba2917ded7ff96931d367a5fc72bd80b54c5fd456bc74654", func := "resolvent/resolventlaw04.MguFinds", spec := "mguFinds", unfollowed := true, recurses := true, loops := true, apart := false, narrowed := true }
def MguFindsUptoSaid : Prop := mguFindsUptoRow.holds Try.pinned (OpenSpec.upto mguFindsSpec)

/-- 'resolventlaw04.MguMost', WHERE WHAT IT READS IS OF BULK AT MOST 1048576: true; the input reads as it did. -/
def mguMostUptoRow : OpenClaim := { program := "ytjbomjnkjcafcaa", sum := "f722d7ae001b84e7ba2917ded7ff96931d367a5fc72bd80b54c5fd456bc74654", func := "resolvent/resolventlaw04.MguMost", spec := "mguMost", unfollowed := true, recurses := true, loops := true, apart := false, narrowed := true }
def MguMostUptoSaid : Prop := mguMostUptoRow.holds Try.pinned (OpenSpec.upto mguMostSpec)

/-- 'resolventlaw04.MguAlikes', WHERE WHAT IT READS IS OF BULK AT MOST 1048576: true; the input reads as it did. -/
def mguAlikesUptoRow : OpenClaim := { program := "ytjbomjnkjcafcaa", sum := "f722d7ae001b84e7ba2917ded7ff96931d367a5fc72bd80b54c5fd456bc74654", func := "resolvent/resolventlaw04.MguAlikes", spec := "mguAlikes", unfollowed := true, recurses := true, loops := true, apart := false, narrowed := true }
def MguAlikesUptoSaid : Prop := mguAlikesUptoRow.holds Try.pinned (OpenSpec.upto mguAlikesSpec)

end Rows
end Go.Proofs.Ytjbomjnkjcafcaa
