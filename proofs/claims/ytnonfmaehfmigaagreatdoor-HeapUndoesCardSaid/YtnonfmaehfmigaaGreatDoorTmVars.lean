/- Terms: the program's Vars. -/
import Derived.Test.YtnonfmaehfmigaaGreatDoorTmMk
import Derived.Test.YtnonfmaehfmigaaGreatDoorTmSize
namespace Go.Proofs.YtnonfmaehfmigaaGreatDoor
open Go.RowKit

theorem el_int : ElemT Tryz.prog 50 3 1 := elemT_of (b := 8) (z := .int .i64 0) Tryz.underlying50 (by kernel_rfl) (by omega) rfl (by omega)
def hasI (x : Int) : Int → Bool := fun y => x == y
/-! ### Which variables -/
def addV (acc : List Int) (n : Int) : List Int := if acc.any (hasI n) then acc else acc ++ [n]
mutual
def tWalk : List Int → Tm → List Int
  | acc, .mk k n _ l => tWalks (if k = 0 then addV acc n else acc) l
def tWalks : List Int → List Tm → List Int
  | acc, [] => acc
  | acc, a :: l => tWalks (tWalk acc a) l
end
theorem tWalks_snoc : ∀ (acc : List Int) (l : List Tm) (a : Tm), tWalks acc (l ++ [a]) = tWalk (tWalks acc l) a
  | acc, [], a => by simp [tWalks]
  | acc, b :: l, a => by rw [List.cons_append, tWalks, tWalks, tWalks_snoc (tWalk acc b) l a]
theorem addV_len (acc : List Int) (n : Int) : (addV acc n).length ≤ acc.length + 1 := by unfold addV; split <;> simp
mutual
theorem tWalk_len : ∀ (acc : List Int) (t : Tm), (tWalk acc t).length ≤ acc.length + tSize t
  | acc, .mk k n s l => by
    rw [tWalk, tSize]
    have h1 := tWalks_len (if k = 0 then addV acc n else acc) l
    have h2 : (if k = 0 then addV acc n else acc).length ≤ acc.length + 1 := by split; exact addV_len acc n; omega
    omega
theorem tWalks_len : ∀ (acc : List Int) (l : List Tm), (tWalks acc l).length ≤ acc.length + tSizes l
  | acc, [] => by simp [tWalks]
  | acc, a :: l => by
    rw [tWalks, tSizes]
    have h1 := tWalk_len acc a
    have h2 := tWalks_len (tWalk acc a) l
    omega
end
/-- Blocks that hold no numbers, and all below a base, stay, but for one. -/
structure VK (base ob : Nat) (w w' : World) : Prop where
  os : w'.os = w.os
  tape : w'.tape = w.tape
  output : w'.output = w.output
  size : w.heap.size ≤ w'.heap.size
  block : ∀ k, k < w.heap.size → k ≠ ob → (k < base ∨ ∃ cs t fr, w.heap[k]? = some (.cells cs t fr) ∧ t ≠ 3) → w'.heap[k]? = w.heap[k]?
theorem VK.of_keeps {base ob : Nat} {w w' : World} (k : Keeps w w' []) : VK base ob w w' := ⟨k.os, k.tape, k.output, k.size, fun i hi _ _ => k.block i hi (by simp)⟩
theorem VK.trans {base ob : Nat} {a b c : World} (h : VK base ob a b) (k : VK base ob b c) : VK base ob a c :=
  ⟨k.os.trans h.os, k.tape.trans h.tape, k.output.trans h.output, Nat.le_trans h.size k.size, fun i hi hn ht => by
    have h1 := h.block i hi hn ht
    refine (k.block i (Nat.lt_of_lt_of_le hi h.size) hn ?_).trans h1
    rcases ht with ht | ⟨cs, t, fr, hc, hne⟩
    · exact .inl ht
    · exact .inr ⟨cs, t, fr, h1.trans hc, hne⟩⟩
theorem VK.blk {base ob : Nat} {w w' : World} (k : VK base ob w w') {g : Nat} {t : TypeId} {cs : Array Value} (h : Blk w g t cs) (hn : g ≠ ob) (ht : t ≠ 3) : Blk w' g t cs :=
  (k.block g h.lt hn (.inr ⟨cs, t, (0, 0), h, ht⟩)).trans h
theorem VK.low {base ob : Nat} {w w' : World} (k : VK base ob w w') (hb : base ≤ ob) {b off : Nat} (hlt : b < base) (hs : b < w.heap.size) : w'.cell? ⟨b, off, none⟩ = w.cell? ⟨b, off, none⟩ :=
  World.cell?_of_block (k.block b hs (by omega) (.inl hlt))
/-- What was found so far. -/
def VSt (base ob : Nat) (acc : List Int) (w : World) : Prop := base ≤ ob ∧ ∃ A c, Blk w ob 50 #[.slice A acc.length c] ∧ w.ownsRow base 3 1 (.slice A acc.length c) acc.length (acc.map (Value.int .i64))
theorem VSt.keep {base ob : Nat} {acc : List Int} {w w' : World} (h : VSt base ob acc w) (k : Keeps w w' []) : VSt base ob acc w' := by
  obtain ⟨h0, A, c, hb, ho⟩ := h
  exact ⟨h0, A, c, hb.keep k (by simp), own_keep0 ho k⟩

theorem Rd.vk {base ob : Nat} {w w' : World} (k : VK base ob w w') (hb : base ≤ ob) {A : Option Addr} {vs : List Value} (h : Rd w A vs) (hA : ∀ b off, A = some ⟨b, off, none⟩ → vs ≠ [] → b < base) : Rd w' A vs := by
  intro i hi
  obtain ⟨b, off, v, e, hlt, hc, hv⟩ := h i hi
  exact ⟨b, off, v, e, Nat.lt_of_lt_of_le hlt k.size, (k.low hb (hA b off e (fun h0 => by subst h0; simp at hi)) hlt).trans hc, hv⟩
theorem Tr.vk {base ob : Nat} {w w' : World} (k : VK base ob w w') (hb : base ≤ ob) {t : Tm} {v : TV} (h : Tr w (fun b => b < base) t v) : Tr w' (fun b => b < base) t v := by
  induction h with
  | mk k' n s l A c vs hl hR hS hc hz hk ih => exact .mk k' n s l A c vs hl (hR.vk k hb (fun b off e hne => hS b off e (flat_ne hl hne))) hS hc hz ih

theorem addV_ge (acc : List Int) (n : Int) : acc.length ≤ (addV acc n).length := by unfold addV; split <;> simp
mutual
theorem tWalk_ge : ∀ (acc : List Int) (t : Tm), acc.length ≤ (tWalk acc t).length
  | acc, .mk k n s l => by
    rw [tWalk]
    refine Nat.le_trans ?_ (tWalks_ge _ l)
    split
    · exact addV_ge acc n
    · exact Nat.le_refl _
theorem tWalks_ge : ∀ (acc : List Int) (l : List Tm), acc.length ≤ (tWalks acc l).length
  | acc, [] => by rw [tWalks]; exact Nat.le_refl _
  | acc, a :: l => by rw [tWalks]; exact Nat.le_trans (tWalk_ge acc a) (tWalks_ge _ l)
end
theorem tWalks_app : ∀ (acc : List Int) (l m : List Tm), tWalks acc (l ++ m) = tWalks (tWalks acc l) m
  | acc, [], m => by rw [List.nil_append, tWalks]
  | acc, a :: l, m => by rw [List.cons_append, tWalks, tWalks, tWalks_app _ l m]
theorem tWalks_take (acc : List Int) (l : List Tm) (j : Nat) : (tWalks acc (l.take j)).length ≤ (tWalks acc l).length := by
  have h := tWalks_app acc (l.take j) (l.drop j)
  rw [List.take_append_drop] at h
  rw [h]
  exact tWalks_ge _ _

def tVars (l : List Tm) : List Int := tWalks [] l
theorem VK.keeps {w w' : World} {ob : Nat} (k : VK w.heap.size ob w w') (h : w.heap.size ≤ ob) : Keeps w w' [] := ⟨k.os, k.tape, k.output, k.size, fun i hi _ => k.block i hi (by omega) (.inl hi)⟩
theorem VSt.nums {base ob : Nat} {acc : List Int} {w : World} (h : VSt base ob acc w) : ∃ A c, Blk w ob 50 #[.slice A acc.length c] ∧ Nums .i64 w w.heap.size A acc := by
  obtain ⟨_, A, c, hb, ho⟩ := h
  obtain ⟨A', c', hv, _, hN⟩ := Nums.of_own ho
  injection hv with h1 h2 h3
  exact ⟨A, c, hb, by rw [h1]; exact hN⟩
theorem tVars_sizes (l : List Tm) : (tVars l).length ≤ tSizes l := by
  have := tWalks_len [] l
  unfold tVars
  simpa using this
end Go.Proofs.YtnonfmaehfmigaaGreatDoor
