/- A term's four cells, written. -/
import Derived.Test.YtnonfmaehfmigaaGreatDoorTmMk
namespace Go.Proofs.YtnonfmaehfmigaaGreatDoor
open Go.RowKit

def set4 (w : World) (g : Nat) (v0 v1 v2 v3 : Value) : World := (((w.setCell ⟨g, 0, none⟩ v0).setCell ⟨g, 1, none⟩ v1).setCell ⟨g, 2, none⟩ v2).setCell ⟨g, 3, none⟩ v3
theorem Blk.put4 {w : World} {g : Nat} {t : TypeId} {a b c d : Value} (h : Blk w g t #[a, b, c, d]) (v0 v1 v2 v3 : Value) : Blk (set4 w g v0 v1 v2 v3) g t #[v0, v1, v2, v3] := by
  have := (((h.set_ 0 v0).set_ 1 v1).set_ 2 v2).set_ 3 v3
  unfold set4
  simpa using this
theorem Blk.far4 {w : World} {g g' : Nat} {t : TypeId} {cs : Array Value} (h : Blk w g t cs) (hne : g ≠ g') (v0 v1 v2 v3 : Value) : Blk (set4 w g' v0 v1 v2 v3) g t cs :=
  (((h.far (p := ⟨g', 0, none⟩) hne v0).far (p := ⟨g', 1, none⟩) hne v1).far (p := ⟨g', 2, none⟩) hne v2).far (p := ⟨g', 3, none⟩) hne v3
theorem Keeps.put4 {a w : World} {L : List Nat} (h : Keeps a w L) {g : Nat} (hb : g ∈ L ∨ a.heap.size ≤ g) (v0 v1 v2 v3 : Value) : Keeps a (set4 w g v0 v1 v2 v3) L :=
  (((h.setCell (p := ⟨g, 0, none⟩) hb v0).setCell (p := ⟨g, 1, none⟩) hb v1).setCell (p := ⟨g, 2, none⟩) hb v2).setCell (p := ⟨g, 3, none⟩) hb v3
theorem Tr.far4 {w : World} {S : Nat → Prop} {t : Tm} {v : TV} (h : Tr w S t v) {g : Nat} (hg : ¬ S g) (v0 v1 v2 v3 : Value) : Tr (set4 w g v0 v1 v2 v3) S t v :=
  h.keepL ((Keeps.refl w [g]).put4 (.inl (by simp)) v0 v1 v2 v3) (fun b hb => by obtain rfl := List.mem_singleton.1 hb; exact hg)
theorem set4_size (w : World) (g : Nat) (v0 v1 v2 v3 : Value) : (set4 w g v0 v1 v2 v3).heap.size = w.heap.size := by simp [set4, World.setCell]
end Go.Proofs.YtnonfmaehfmigaaGreatDoor
