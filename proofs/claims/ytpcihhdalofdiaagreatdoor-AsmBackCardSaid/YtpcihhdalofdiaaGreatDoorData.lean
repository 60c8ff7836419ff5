/- Data as rows of cells: a slice whose cells are those of a list's elements, one behind the other. No function in sight. -/
import Derived.Test.YtpcihhdalofdiaaGreatDoorKeep
import Derived.Deep.RegionHeld3
import Derived.Deep.DrawnRows
namespace Go.Proofs.YtpcihhdalofdiaaGreatDoor
open Go.RowKit

/-- The cells that a slice value shows, wherever they lie. -/
def Rd (w : World) (A : Option Addr) (vs : List Value) : Prop := Row w w.heap.size A vs
theorem Rd.row {w : World} {A : Option Addr} {vs : List Value} (h : Rd w A vs) : Row w w.heap.size A vs := h
theorem Rd.nil {w : World} {A : Option Addr} : Rd w A [] := Row.nil
theorem Rd.keep {w w' : World} {A : Option Addr} {vs : List Value} (h : Rd w A vs) (k : Keeps w w' []) : Rd w' A vs := by
  intro i hi
  obtain ⟨b, off, v, e, hb, hc, hv⟩ := h i hi
  exact ⟨b, off, v, e, Nat.lt_of_lt_of_le hb k.size, (k.cell (p := ⟨b, off + i, none⟩) hb (by simp)).trans hc, hv⟩
theorem Rd.drew {w : World} {A : Option Addr} {vs : List Value} (h : Rd w A vs) : Rd w.drew A vs := h
theorem Rd.alloc {w : World} {A : Option Addr} {vs : List Value} (h : Rd w A vs) (o : Obj) : Rd (w.alloc o) A vs := h.keep ((Keeps.refl w []).alloc o)
theorem Rd.of_own {w : World} {base : Nat} {e : TypeId} {size n c : Nat} {A : Option Addr} {xs : List Value} (h : w.ownsRow base e size (.slice A n c) n xs) : Rd w A xs := Row.of_own h
theorem Rd.take {w : World} {A : Option Addr} {vs : List Value} (h : Rd w A vs) (n : Nat) : Rd w A (vs.take n) := Row.take h n
theorem Rd.of_blk {w : World} {g : Nat} {t : TypeId} {cs : Array Value} (h : Blk w g t cs) : Rd w (some ⟨g, 0, none⟩) cs.toList := by
  intro k hk
  have hcell := h.cell k
  have hk' : k < cs.size := by simpa using hk
  refine ⟨g, 0, cs[k], rfl, h.lt, ?_, ?_⟩
  · rw [Nat.zero_add, hcell]; exact Array.getElem?_eq_getElem hk'
  · rw [Array.getElem?_toList]; exact Array.getElem?_eq_getElem hk'

theorem Blk.newAt {w : World} {n : Nat} (t : TypeId) (cs : Array Value) (h : n = w.heap.size) : Blk (w.alloc (.cells cs t)) n t cs := by
  subst h
  exact Blk.new w t cs
theorem getElem?_flat {α : Type} {enc : α → List Value} {sz : Nat} (hsz : ∀ x, (enc x).length = sz) : ∀ (l : List α) (k : Nat) (hk : k < l.length) (j : Nat), j < sz → (l.flatMap enc)[k * sz + j]? = (enc l[k])[j]?
  | [], k, hk, j, _ => absurd hk (by simp)
  | x :: l, 0, _, j, hj => by
    rw [List.flatMap_cons, Nat.zero_mul, Nat.zero_add, List.getElem?_append_left (by rw [hsz]; exact hj)]
    rfl
  | x :: l, k + 1, hk, j, hj => by
    have hlt : k < l.length := by simpa using hk
    rw [List.flatMap_cons, List.getElem?_append_right (by rw [hsz, Nat.succ_mul]; omega), hsz, show (k + 1) * sz + j - sz = k * sz + j from by rw [Nat.succ_mul]; omega, getElem?_flat hsz l k hlt j hj]
    rfl
theorem length_flat {α : Type} {enc : α → List Value} {sz : Nat} (hsz : ∀ x, (enc x).length = sz) : ∀ l : List α, (l.flatMap enc).length = l.length * sz
  | [] => by simp
  | x :: l => by rw [List.flatMap_cons, List.length_append, hsz, length_flat hsz l, List.length_cons, Nat.succ_mul]; omega
theorem flat_snoc {α : Type} {enc : α → List Value} {l : List α} {k : Nat} {x : α} (h : l[k]? = some x) : (l.take (k + 1)).flatMap enc = (l.take k).flatMap enc ++ enc x := by
  rw [List.take_add_one, h, List.flatMap_append]
  simp
/-- The cells of the element in a place. -/
theorem Rd.field {α : Type} {enc : α → List Value} {sz : Nat} (hsz : ∀ x, (enc x).length = sz) {w : World} {A : Option Addr} {l : List α} (h : Rd w A (l.flatMap enc)) {k : Nat} {x : α} (hx : l[k]? = some x) (h0 : 0 < sz) :
    ∃ b off, A = some ⟨b, off, none⟩ ∧ b < w.heap.size ∧ ∀ j v, (enc x)[j]? = some v → w.cell? ⟨b, off + k * sz + j, none⟩ = some v := by
  have hk : k < l.length := (List.getElem?_eq_some_iff.1 hx).1
  have hxe : l[k] = x := (List.getElem?_eq_some_iff.1 hx).2
  have hle : k * sz + sz ≤ l.length * sz := by have := Nat.mul_le_mul_right sz (show k + 1 ≤ l.length from hk); rw [Nat.succ_mul] at this; exact this
  obtain ⟨b, off, v, e, hb, _, _⟩ := h (k * sz) (by rw [length_flat hsz]; omega)
  refine ⟨b, off, e, hb, fun j v hj => ?_⟩
  have hjs : j < sz := by rw [← hsz x]; exact (List.getElem?_eq_some_iff.1 hj).1
  obtain ⟨b', off', v', e', _, hc, hv⟩ := h (k * sz + j) (by rw [length_flat hsz]; omega)
  rw [e] at e'
  injection e' with e'
  injection e' with e1 e2
  subst e1 e2
  rw [getElem?_flat hsz l k hk j hjs, hxe, hj] at hv
  injection hv with hv
  subst hv
  rw [Nat.add_assoc]
  exact hc
theorem Rd.some_of {w : World} {A : Option Addr} {vs : List Value} (h : Rd w A vs) (h0 : 0 < vs.length) : ∃ b off, A = some ⟨b, off, none⟩ ∧ b < w.heap.size := by
  obtain ⟨b, off, _, e, hb, _⟩ := h 0 h0
  exact ⟨b, off, e, hb⟩
theorem at_of {α : Type} {l : List α} {k n : Nat} (hl : l.length = n) (hk : k < n) : ∃ x, l[k]? = some x := ⟨l[k]'(by omega), List.getElem?_eq_getElem (by omega)⟩
theorem Keeps.nil_of {w w' : World} (h : Below w.heap.size w w') : Keeps w w' [] := Keeps.of_below h []
theorem Keeps.toBelow {w w' : World} (k : Keeps w w' []) : Below w.heap.size w w' := ⟨k.os, k.tape, k.output, k.size, fun i hi => k.block i hi (by simp)⟩
theorem Keeps.cell0 {w w' : World} (k : Keeps w w' []) {b off : Nat} (hb : b < w.heap.size) : w'.cell? ⟨b, off, none⟩ = w.cell? ⟨b, off, none⟩ := k.cell (p := ⟨b, off, none⟩) hb (by simp)
theorem Keeps.to_ {w w' : World} (k : Keeps w w' []) (S : List Nat) : Keeps w w' S := k.more (by simp)
theorem own_keep0 {w w' : World} {base : Nat} {e : TypeId} {size n c : Nat} {A : Option Addr} {xs : List Value} (ho : w.ownsRow base e size (.slice A n c) n xs) (k : Keeps w w' []) : w'.ownsRow base e size (.slice A n c) n xs := by
  refine ⟨ho.1, ?_⟩
  rcases ho.2 with h | ⟨g, cap, cur, he, hb, hg, r⟩
  · exact .inl h
  · exact .inr ⟨g, cap, cur, he, hb, (k.block g (Array.getElem?_eq_some_iff.1 hg).1 (by simp)).trans hg, r⟩
/-- A row of the call's own, behind a call that leaves all but some other blocks. -/
theorem own_keepS {w w' : World} {S : List Nat} {base : Nat} {e : TypeId} {size n c : Nat} {A : Option Addr} {xs : List Value} (ho : w.ownsRow base e size (.slice A n c) n xs) (k : Keeps w w' S) (hS : ∀ g, g ∈ S → g < base) : w'.ownsRow base e size (.slice A n c) n xs := by
  refine ⟨ho.1, ?_⟩
  rcases ho.2 with h | ⟨g, cap, cur, he, hb, hg, r⟩
  · exact .inl h
  · exact .inr ⟨g, cap, cur, he, hb, (k.block g (Array.getElem?_eq_some_iff.1 hg).1 (fun hm => by have := hS g hm; omega)).trans hg, r⟩
end Go.Proofs.YtpcihhdalofdiaaGreatDoor
