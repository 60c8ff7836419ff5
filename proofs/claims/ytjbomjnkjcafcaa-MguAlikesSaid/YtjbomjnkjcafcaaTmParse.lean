/- The program's Parse. -/
import Derived.Test.YtjbomjnkjcafcaaTmTermB
import Derived.Test.YtjbomjnkjcafcaaTmRightP
namespace Go.Proofs.Ytjbomjnkjcafcaa
open Go.RowKit

def tZero : Tm := .mk 0 0 ⟨#[]⟩ []
/-- What Parse tells: a term, and what was wrong. -/
def parseP (s : Txt) : Option Tm := if 10000 < s.length then none else parseTm numP s
def errOf (o : Option Tm) : Int := if o.isSome then 0 else 17
def ParseDone (w : World) (o : Option Tm) (e : Ending) (w' : World) : Prop := ∃ v, e = .returned (.tuple #[tvV v, .int .i64 (errOf o)]) ∧ Tr w' (fun b => w.heap.size ≤ b) (o.getD tZero) v ∧ Keeps w w' []
theorem ParseDone.zero {w wr : World} {o : Option Tm} (ho : o = none) (k : Keeps w wr []) : ParseDone w o (.returned (.tuple #[.agg #[.int .i64 0, .int .i64 0, .string ⟨#[]⟩, .slice none 0 0], .int .i64 17])) wr := by
  subst ho
  exact ⟨⟨0, 0, ⟨#[]⟩, none, 0, 0⟩, rfl, Tr.leaf _ _ _ _ _ (by decide), k⟩
theorem ParseDone.zero4 {w wr : World} {o : Option Tm} (ho : o = none) (k : Keeps w wr []) (v0 v1 v2 v3 : Value) : ParseDone w o (.returned (.tuple #[.agg #[.int .i64 0, .int .i64 0, .string ⟨#[]⟩, .slice none 0 0], .int .i64 17])) ((((wr.setCell ⟨w.heap.size, 0, none⟩ v0).setCell ⟨w.heap.size, 1, none⟩ v1).setCell ⟨w.heap.size, 2, none⟩ v2).setCell ⟨w.heap.size, 3, none⟩ v3) := .zero ho (keeps_set4 k (Nat.le_refl _) _ _ _ _)
theorem ParseDone.some {w wr : World} {o : Option Tm} {t : Tm} {v : TV} (ho : o = Option.some t) (h : Tr wr (fun b => w.heap.size ≤ b ∧ b ≠ w.heap.size) t v) (k : Keeps w wr []) (v0 v1 v2 v3 : Value) :
    ParseDone w o (.returned (.tuple #[.agg #[.int .i64 v.k, .int .i64 v.n, .string v.s, .slice v.A v.len v.c], .int .i64 0])) ((((wr.setCell ⟨w.heap.size, 0, none⟩ v0).setCell ⟨w.heap.size, 1, none⟩ v1).setCell ⟨w.heap.size, 2, none⟩ v2).setCell ⟨w.heap.size, 3, none⟩ v3) := by
  subst ho
  exact ⟨v, rfl, (h.keepL (keeps_self4 wr w.heap.size v0 v1 v2 v3) (fun b hb h => h.2 (by simpa using hb))).mono fun b hb => hb.1, keeps_set4 k (Nat.le_refl _) _ _ _ _⟩

end Go.Proofs.Ytjbomjnkjcafcaa
