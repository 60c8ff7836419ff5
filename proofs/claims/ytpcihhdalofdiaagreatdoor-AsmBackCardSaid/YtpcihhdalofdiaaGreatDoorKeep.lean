/- The world but for some blocks: 'Keeps w w' S': every block that was there and is not among S is as it was. -/
import Derived.Test.YtpcihhdalofdiaaGreatDoorAppend
namespace Go.Proofs.YtpcihhdalofdiaaGreatDoor
open Go.RowKit

structure Keeps (w w' : World) (S : List Nat) : Prop where
  os : w'.os = w.os
  tape : w'.tape = w.tape
  output : w'.output = w.output
  size : w.heap.size ≤ w'.heap.size
  block : ∀ k, k < w.heap.size → k ∉ S → w'.heap[k]? = w.heap[k]?

theorem Keeps.refl (w : World) (S : List Nat) : Keeps w w S := ⟨rfl, rfl, rfl, Nat.le_refl _, fun _ _ _ => rfl⟩
theorem Keeps.trans {a b c : World} {S : List Nat} (h : Keeps a b S) (k : Keeps b c S) : Keeps a c S :=
  ⟨k.os.trans h.os, k.tape.trans h.tape, k.output.trans h.output, Nat.le_trans h.size k.size, fun i hi hn => (k.block i (Nat.lt_of_lt_of_le hi h.size) hn).trans (h.block i hi hn)⟩
theorem Keeps.more {a b : World} {S T : List Nat} (h : Keeps a b S) (hs : ∀ k, k < a.heap.size → k ∈ S → k ∈ T) : Keeps a b T :=
  ⟨h.os, h.tape, h.output, h.size, fun i hi hn => h.block i hi (fun hm => hn (hs i hi hm))⟩
theorem Keeps.drew {a w : World} {S : List Nat} (h : Keeps a w S) : Keeps a w.drew S := ⟨h.os, h.tape, h.output, h.size, h.block⟩
theorem Keeps.drewN {a w : World} {S : List Nat} (h : Keeps a w S) (n : Nat) : Keeps a (w.drewN n) S := ⟨h.os, h.tape, h.output, h.size, h.block⟩
theorem Keeps.alloc {a w : World} {S : List Nat} (h : Keeps a w S) (o : Obj) : Keeps a (w.alloc o) S :=
  h.trans ⟨rfl, rfl, rfl, by simp, fun k hk _ => Below.heap_alloc _ _ _ hk⟩
theorem Keeps.setCell {a w : World} {S : List Nat} (h : Keeps a w S) {p : Addr} (hp : p.block ∈ S ∨ a.heap.size ≤ p.block) (u : Value) : Keeps a (w.setCell p u) S :=
  ⟨h.os, h.tape, h.output, by simpa [World.setCell] using h.size, fun i hi hn => (Below.heap_setCell _ _ _ _ (fun e => by
    subst e
    rcases hp with hp | hp
    · exact hn hp
    · omega)).trans (h.block i hi hn)⟩
theorem Keeps.grown {a w w' : World} {S : List Nat} {row : Option Nat} (h : Keeps a w S) (hg : w.grownBy w' row) (hr : ∀ k, row = some k → k ∈ S ∨ a.heap.size ≤ k) : Keeps a w' S :=
  ⟨hg.os.trans h.os, hg.tape.trans h.tape, hg.output.trans h.output, Nat.le_trans h.size hg.size, fun i hi hn => (hg.block i (Nat.lt_of_lt_of_le hi h.size) (fun e => by
    rcases hr i e.symm with h' | h'
    · exact hn h'
    · omega)).trans (h.block i hi hn)⟩
theorem Keeps.of_below {a w : World} (h : Below a.heap.size a w) (S : List Nat) : Keeps a w S := ⟨h.os, h.tape, h.output, h.size, fun i hi _ => h.block i hi⟩
theorem Keeps.below {B : Nat} {a b w : World} {S : List Nat} (hb : Below B a b) (h : Keeps b w S) (hS : ∀ k, k ∈ S → B ≤ k) (hB : B ≤ b.heap.size) : Below B a w :=
  ⟨h.os.trans hb.os, h.tape.trans hb.tape, h.output.trans hb.output, Nat.le_trans hb.size h.size, fun i hi => (h.block i (by omega) (fun hm => by have := hS i hm; omega)).trans (hb.block i hi)⟩
theorem Keeps.cell {a w : World} {S : List Nat} (h : Keeps a w S) {p : Addr} (hp : p.block < a.heap.size) (hn : p.block ∉ S) : w.cell? p = a.cell? p := World.cell?_of_block (h.block _ hp hn)
theorem Keeps.frozen {a w : World} {S : List Nat} (h : Keeps a w S) {p : Addr} (hp : p.block < a.heap.size) (hn : p.block ∉ S) : w.frozen? p = a.frozen? p := World.frozen?_of_block (h.block _ hp hn)

/-- A block that is known whole. -/
def Blk (w : World) (g : Nat) (t : TypeId) (cs : Array Value) : Prop := w.heap[g]? = some (.cells cs t (0, 0))
theorem Blk.lt {w : World} {g : Nat} {t : TypeId} {cs : Array Value} (h : Blk w g t cs) : g < w.heap.size := (Array.getElem?_eq_some_iff.1 h).1
theorem Blk.cell {w : World} {g : Nat} {t : TypeId} {cs : Array Value} (h : Blk w g t cs) (i : Nat) : w.cell? ⟨g, i, none⟩ = cs[i]? := cell_of_row w g i cs t (0, 0) h
theorem Blk.frozen {w : World} {g : Nat} {t : TypeId} {cs : Array Value} (h : Blk w g t cs) (i : Nat) : w.frozen? ⟨g, i, none⟩ = false := frozen_of_row w g i cs t h
theorem Blk.new (w : World) (t : TypeId) (cs : Array Value) : Blk (w.alloc (.cells cs t)) w.heap.size t cs := heap_alloc_new w _
theorem Blk.drew {w : World} {g : Nat} {t : TypeId} {cs : Array Value} (h : Blk w g t cs) : Blk w.drew g t cs := h
theorem Blk.drewN {w : World} {g : Nat} {t : TypeId} {cs : Array Value} (h : Blk w g t cs) (n : Nat) : Blk (w.drewN n) g t cs := h
theorem Blk.keep {w w' : World} {S : List Nat} {g : Nat} {t : TypeId} {cs : Array Value} (h : Blk w g t cs) (k : Keeps w w' S) (hn : g ∉ S) : Blk w' g t cs := (k.block g h.lt hn).trans h
theorem Blk.alloc {w : World} {g : Nat} {t : TypeId} {cs : Array Value} (h : Blk w g t cs) (o : Obj) : Blk (w.alloc o) g t cs := (Below.heap_alloc w o g h.lt).trans h
theorem Blk.set_ {w : World} {g : Nat} {t : TypeId} {cs : Array Value} (h : Blk w g t cs) (i : Nat) (u : Value) : Blk (w.setCell ⟨g, i, none⟩ u) g t (cs.setIfInBounds i u) := heap_setCell_same w g i cs t u h
theorem Blk.far {w : World} {g : Nat} {t : TypeId} {cs : Array Value} (h : Blk w g t cs) {p : Addr} (hp : g ≠ p.block) (u : Value) : Blk (w.setCell p u) g t cs := (Below.heap_setCell w p u g hp).trans h
theorem Blk.grown {w w' : World} {row : Option Nat} {g : Nat} {t : TypeId} {cs : Array Value} (h : Blk w g t cs) (hb : w.grownBy w' row) (hg : some g ≠ row) : Blk w' g t cs := (hb.block g h.lt hg).trans h
theorem own_keep {w w' : World} {S : List Nat} {base : Nat} {e : TypeId} {size n c h : Nat} {xs : List Value} (ho : w.ownsRow base e size (.slice (some ⟨h, 0, none⟩) n c) n xs) (k : Keeps w w' S) (hn : h ∉ S) :
    w'.ownsRow base e size (.slice (some ⟨h, 0, none⟩) n c) n xs := by
  refine ⟨ho.1, ?_⟩
  rcases ho.2 with ⟨h', _⟩ | ⟨g, cap, cur, he, hb, hg, r⟩
  · simp at h'
  · have e := he
    simp only [Value.slice.injEq, Option.some.injEq, Addr.mk.injEq, and_true, true_and] at e
    obtain ⟨rfl, rfl⟩ := e
    exact .inr ⟨h, c, cur, he, hb, (k.block h (Array.getElem?_eq_some_iff.1 hg).1 hn).trans hg, r⟩
theorem own_block {w : World} {base : Nat} {e : TypeId} {size n c h : Nat} {xs : List Value} (ho : w.ownsRow base e size (.slice (some ⟨h, 0, none⟩) n c) n xs) : ∃ cur, Blk w h e cur ∧ cur.size = c * size ∧ cur.toList.take (n * size) = xs ∧ n ≤ c ∧ base ≤ h := by
  rcases ho.2 with ⟨h', _⟩ | ⟨g, cap, cur, he, hb, hg, hnc, hcm, hcs, ht⟩
  · simp at h'
  · simp only [Value.slice.injEq, Option.some.injEq, Addr.mk.injEq, and_true, true_and] at he
    obtain ⟨rfl, rfl⟩ := he
    exact ⟨cur, hg, hcs, ht, hnc, hb⟩
theorem Blk.ne_ {w : World} {g g' : Nat} {t t' : TypeId} {cs cs' : Array Value} (h : Blk w g t cs) (h' : Blk w g' t' cs') (hne : t ≠ t') : g ≠ g' := by
  rintro rfl
  unfold Blk at h h'
  rw [h] at h'
  injection h' with h'
  injection h' with _ ht
  exact hne ht
/-- No longer than it was. -/
theorem own_cut {w : World} {base : Nat} {e : TypeId} {n c h : Nat} {xs : List Value} (ho : w.ownsRow base e 1 (.slice (some ⟨h, 0, none⟩) n c) n xs) (m : Nat) (hm : m ≤ n) :
    w.ownsRow base e 1 (.slice (some ⟨h, 0, none⟩) m c) m (xs.take m) := by
  have hl := ho.1
  refine ⟨by rw [List.length_take]; omega, ?_⟩
  rcases ho.2 with ⟨h', _⟩ | ⟨g, cap, cur, he, hb, hg, hnc, hcm, hcs, ht⟩
  · simp at h'
  · simp only [Value.slice.injEq, Option.some.injEq, Addr.mk.injEq, and_true, true_and] at he
    obtain ⟨rfl, rfl⟩ := he
    refine .inr ⟨h, c, cur, rfl, hb, hg, by omega, hcm, hcs, ?_⟩
    rw [← ht, List.take_take]
    congr 1
    omega
end Go.Proofs.YtpcihhdalofdiaaGreatDoor
