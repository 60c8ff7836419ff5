/- Words for memory: a slice that reads as a list of cells, wherever it lies below a block. No program in sight. -/
import Derived.Test.YtpcihhdalofdiaaGreatDoorRows
import Derived.WalkKit
import Derived.WalkSpells
import Derived.WalkLawsBesides
import Derived.Deep.LoopGhost
import Derived.Deep.AppendLies
import Derived.Maps.AppendAt
import Derived.Lib.Hide
import Derived.Lib.SlBytesConst
import Derived.Outline
import Derived.Handy
namespace Go.Proofs.YtpcihhdalofdiaaGreatDoor
open Go.RowKit

theorem block_of_add (a : Addr) (n : Nat) : (a.add n).block = a.block := by unfold Addr.add; split <;> rfl

/-- The slice's cells, from its address on, below block B. -/
def Row (w : World) (B : Nat) (A : Option Addr) (vs : List Value) : Prop :=
  ∀ k, k < vs.length → ∃ b off v, A = some ⟨b, off, none⟩ ∧ b < B ∧ w.cell? ⟨b, off + k, none⟩ = some v ∧ vs[k]? = some v

theorem Row.nil {w : World} {B : Nat} {A : Option Addr} : Row w B A [] := fun k h => absurd h (by simp)
theorem Row.keep {w w' : World} {B : Nat} {A : Option Addr} {vs : List Value} (h : Row w B A vs) (hk : ∀ p : Addr, p.block < B → w'.cell? p = w.cell? p) : Row w' B A vs := by
  intro k hk'
  obtain ⟨b, off, v, e, hb, hc, hv⟩ := h k hk'
  exact ⟨b, off, v, e, hb, (hk _ hb).trans hc, hv⟩
theorem Row.below {w w' : World} {B : Nat} {A : Option Addr} {vs : List Value} (h : Row w B A vs) (hb : Below B w w') : Row w' B A vs := h.keep fun _ hp => hb.cell hp
theorem Row.more {w : World} {B B' : Nat} {A : Option Addr} {vs : List Value} (h : Row w B A vs) (hB : B ≤ B') : Row w B' A vs := by
  intro k hk'
  obtain ⟨b, off, v, e, hb, hc, hv⟩ := h k hk'
  exact ⟨b, off, v, e, by omega, hc, hv⟩
theorem Row.take {w : World} {B : Nat} {A : Option Addr} {vs : List Value} (h : Row w B A vs) (n : Nat) : Row w B A (vs.take n) := by
  intro k hk
  rw [List.length_take] at hk
  obtain ⟨b, off, v, e, hb, hc, hv⟩ := h k (by omega)
  exact ⟨b, off, v, e, hb, hc, by rw [List.getElem?_take, if_pos (by omega)]; exact hv⟩
theorem Row.alloc {w : World} {B : Nat} {A : Option Addr} {vs : List Value} (h : Row w B A vs) (hB : B ≤ w.heap.size) (o : Obj) : Row (w.alloc o) B A vs :=
  h.keep fun p hp => World.cell?_alloc_lt w o p (by omega)
theorem Row.drew {w : World} {B : Nat} {A : Option Addr} {vs : List Value} (h : Row w B A vs) : Row w.drew B A vs := h
theorem Row.setCell {w : World} {B : Nat} {A : Option Addr} {vs : List Value} (h : Row w B A vs) {p : Addr} (hB : B ≤ p.block) (u : Value) : Row (w.setCell p u) B A vs :=
  h.keep fun q hq => World.cell?_setCell_other w p q u (fun e => by subst e; omega)

/-- The same, of numbers of one kind. -/
def Nums (K : IntKind) (w : World) (B : Nat) (A : Option Addr) (l : List Int) : Prop :=
  ∀ k, k < l.length → ∃ b off x, A = some ⟨b, off, none⟩ ∧ b < B ∧ w.cell? ⟨b, off + k, none⟩ = some (.int K x) ∧ l[k]? = some x
theorem Nums.nil {K : IntKind} {w : World} {B : Nat} {A : Option Addr} : Nums K w B A [] := fun k h => absurd h (by simp)
theorem Nums.keep {K : IntKind} {w w' : World} {B : Nat} {A : Option Addr} {l : List Int} (h : Nums K w B A l) (hk : ∀ p : Addr, p.block < B → w'.cell? p = w.cell? p) : Nums K w' B A l := by
  intro k hk'
  obtain ⟨b, off, v, e, hb, hc, hv⟩ := h k hk'
  exact ⟨b, off, v, e, hb, (hk _ hb).trans hc, hv⟩
theorem Nums.below {K : IntKind} {w w' : World} {B : Nat} {A : Option Addr} {l : List Int} (h : Nums K w B A l) (hb : Below B w w') : Nums K w' B A l := h.keep fun _ hp => hb.cell hp
theorem Nums.more {K : IntKind} {w : World} {B B' : Nat} {A : Option Addr} {l : List Int} (h : Nums K w B A l) (hB : B ≤ B') : Nums K w B' A l := by
  intro k hk'
  obtain ⟨b, off, v, e, hb, hc, hv⟩ := h k hk'
  exact ⟨b, off, v, e, by omega, hc, hv⟩
theorem Nums.of_own {K : IntKind} {w : World} {base : Nat} {e : TypeId} {n : Nat} {v : Value} {l : List Int} (h : w.ownsRow base e 1 v n (l.map (Value.int K))) :
    ∃ A c, v = .slice A n c ∧ l.length = n ∧ Nums K w w.heap.size A l := by
  have hlen : l.length = n := by simpa using h.1
  rcases Nat.eq_zero_or_pos n with h0 | h0
  · subst h0
    have hl : l = [] := List.eq_nil_of_length_eq_zero hlen
    subst hl
    rcases h.2 with ⟨rfl, _⟩ | ⟨g, cap, cur, rfl, _⟩
    · exact ⟨_, _, rfl, rfl, Nums.nil⟩
    · exact ⟨_, _, rfl, rfl, Nums.nil⟩
  · obtain ⟨g, cap, hv, _, hlt⟩ := h.form h0
    refine ⟨some ⟨g, 0, none⟩, cap, hv, hlen, fun k hk => ?_⟩
    have hc := h.cells (g := g) (by rw [hv]; rfl) k (.int K l[k]) (by simp [hk])
    have hadd : (⟨g, 0, none⟩ : Addr).add k = ⟨g, 0 + k, none⟩ := by unfold Addr.add; split <;> simp_all
    rw [hadd] at hc
    exact ⟨g, 0, l[k], rfl, hlt, hc, List.getElem?_eq_getElem hk⟩

theorem cell_lit (w : World) {C : Array Value} (t : TypeId) (fr : Nat × Nat) {j : Nat} {v : Value} (h : C[j]? = some v) : (w.alloc (.cells C t fr)).cell? ⟨w.heap.size, j, none⟩ = some v :=
  (World.cell?_alloc_mark w C t fr j).trans h
/-- A literal of the call's own. -/
theorem Nums.lit {K : IntKind} (w : World) {C : Array Value} (t : TypeId) (fr : Nat × Nat) (l : List Int) (h : C = (l.map (Value.int K)).toArray) :
    Nums K (w.alloc (.cells C t fr)) (w.heap.size + 1) (some ⟨w.heap.size, 0, none⟩) l := by
  intro k hk
  refine ⟨w.heap.size, 0, l[k], rfl, by omega, ?_, List.getElem?_eq_getElem hk⟩
  rw [Nat.zero_add]
  exact cell_lit w t fr (by subst h; simp [hk])
theorem Nums.alloc {K : IntKind} {w : World} {B : Nat} {A : Option Addr} {l : List Int} (h : Nums K w B A l) (hB : B ≤ w.heap.size) (o : Obj) : Nums K (w.alloc o) B A l :=
  h.keep fun p hp => World.cell?_alloc_lt w o p (by omega)
theorem Nums.drew {K : IntKind} {w : World} {B : Nat} {A : Option Addr} {l : List Int} (h : Nums K w B A l) : Nums K w.drew B A l := h
theorem Nums.setCell {K : IntKind} {w : World} {B : Nat} {A : Option Addr} {l : List Int} (h : Nums K w B A l) {p : Addr} (hB : B ≤ p.block) (u : Value) : Nums K (w.setCell p u) B A l :=
  h.keep fun q hq => World.cell?_setCell_other w p q u (fun e => by subst e; omega)

theorem getElem?_snoc_take {α : Type} {l : List α} {k : Nat} {x : α} (h : l[k]? = some x) : l.take (k + 1) = l.take k ++ [x] := by
  obtain ⟨hk, rfl⟩ := List.getElem?_eq_some_iff.1 h
  exact List.take_succ_eq_append_getElem hk

end Go.Proofs.YtpcihhdalofdiaaGreatDoor
