import Derived.Test.YtnonfmaehfmigaaGreatDoorMgOf
import Derived.Test.YtnonfmaehfmigaaGreatDoorTmTo
import Derived.Test.YtnonfmaehfmigaaGreatDoorTmVars
import Derived.Test.YtnonfmaehfmigaaGreatDoorTmSame
/- What is put in: the program's apply. Printed by gen_mgapply.py. -/
namespace Go.Proofs.YtnonfmaehfmigaaGreatDoor
open Go.RowKit

theorem apD_node (s : Sbt) : ∀ (d : Nat) {k n : Int} {b : ByteArray} {l : List Tm}, k ≠ 0 → apD s d (.mk k n b l) = .mk k n b (l.map (apD s d))
  | 0, k, n, b, l, h => by rw [apD, tP, if_neg h, tPs_map]
  | d + 1, k, n, b, l, h => by rw [apD, tP, if_neg h, tPs_map]
theorem apD_none {s : Sbt} {n : Int} (h : sOf s n = none) : ∀ (d : Nat) {b : ByteArray} {l : List Tm}, apD s d (.mk 0 n b l) = .mk 0 n b l
  | 0, b, l => by rw [apD, tP, if_pos rfl]; rfl
  | d + 1, b, l => by rw [apD, tP, if_pos rfl, h]; rfl
theorem apD_zero (s : Sbt) (n : Int) (b : ByteArray) (l : List Tm) : apD s 0 (.mk 0 n b l) = .mk 0 n b l := by rw [apD, tP, if_pos rfl]; rfl
theorem apD_some {s : Sbt} {n : Int} {x : Tm} (h : sOf s n = some x) (d : Nat) (b : ByteArray) (l : List Tm) : apD s (d + 1) (.mk 0 n b l) = apD s d x := by rw [apD, tP, if_pos rfl, h]; rfl
/-- A part of old blocks, or of new ones. -/
theorem TSt.part {tg : TypeId} {S : Nat → Prop} {w wr : World} {L : List Nat} {F : List (Nat × TypeId × Array Value)} {g : Nat} {k n : Int} {s : ByteArray} {l : List Tm} {vs : List TV} {A : Option Addr} {j c : Nat} (st : TSt tg (fun b => S b ∨ w.heap.size ≤ b) w wr L F g k n s l vs A j c)
    (hS : ∀ b, S b → b < w.heap.size) (hF : ∀ x ∈ F, w.heap.size ≤ x.1) {W : World} {t : Tm} {v : TV} (h : Tr W (fun b => S b ∨ wr.heap.size ≤ b) t v) : Tr W (fun b => (S b ∨ w.heap.size ≤ b) ∧ b ≠ g ∧ (∀ x ∈ F, b ≠ x.1) ∧ b ∉ ownL (.slice A j c)) t v := by
  refine h.mono fun b hb => ?_
  rcases hb with hb | hb
  · have h1 := hS b hb
    refine ⟨.inl hb, ?_, fun x hx e => ?_, fun hm => ?_⟩
    · have := st.low.1; omega
    · have := hF x hx; omega
    · have := (own_lt st.row hm).1; omega
  · refine ⟨.inr (Nat.le_trans st.keep.size hb), fun e => ?_, fun x hx e => ?_, fun hm => ?_⟩
    · have := st.out.lt; omega
    · have := (st.fix x hx).1.lt; omega
    · have := (own_lt st.row hm).2; omega

end Go.Proofs.YtnonfmaehfmigaaGreatDoor

/- What is put in: the program's apply, whole; Apply. Printed by gen_mgapplyb.py. -/
namespace Go.Proofs.YtnonfmaehfmigaaGreatDoor
open Go.RowKit

theorem ApDone.end4 {w wr : World} {S : Nat → Prop} (hS : ∀ b, S b → b < w.heap.size) {t : Tm} {v : TV} {rb : Nat} (h : Tr wr (fun b => S b ∨ rb < b) t v) (hk : Keeps w wr []) (hb : w.heap.size ≤ rb) : ApDone S w t (.returned (tvV v)) (set4 wr rb (.int .i64 v.k) (.int .i64 v.n) (.string v.s) (.slice v.A v.len v.c)) :=
  ⟨v, rfl, (h.far4 (g := rb) (fun e => by rcases e with e | e; have := hS _ e; omega; omega) _ _ _ _).mono fun b hb' => hb'.imp id fun h => by omega, hk.put4 (.inr hb) _ _ _ _⟩
end Go.Proofs.YtnonfmaehfmigaaGreatDoor

/- A term at its top: the program's. Printed by gen_mgtop.py p. -/
namespace Go.Proofs.YtnonfmaehfmigaaGreatDoor
open Go.RowKit

theorem topD_node (s : Sbt) {t : Tm} (h : t.k ≠ 0) : ∀ d, topD s d t = t
  | 0 => rfl
  | d + 1 => by rw [topD, if_neg h]
theorem topD_none (s : Sbt) {t : Tm} (h : sOf s t.n = none) : ∀ d, topD s d t = t
  | 0 => rfl
  | d + 1 => by rw [topD]; split <;> simp [h]
theorem topD_some {s : Sbt} {t x : Tm} (h0 : t.k = 0) (h : sOf s t.n = some x) (d : Nat) : topD s (d + 1) t = topD s d x := by rw [topD, if_pos h0, h]
/-- What top tells: nothing new. -/
def TopDone (S : Nat → Prop) (w : World) (t : Tm) (e : Ending) (w' : World) : Prop := ∃ v, e = .returned (tvV v) ∧ Tr w' S t v ∧ Keeps w w' []
theorem TopDone.end4 {w wr : World} {S : Nat → Prop} (hS : ∀ b, S b → b < w.heap.size) {t : Tm} {v : TV} {rb : Nat} (h : Tr wr S t v) (hk : Keeps w wr []) (hb : w.heap.size ≤ rb) : TopDone S w t (.returned (tvV v)) (set4 wr rb (.int .i64 v.k) (.int .i64 v.n) (.string v.s) (.slice v.A v.len v.c)) :=
  ⟨v, rfl, h.far4 (g := rb) (fun e => by have := hS _ e; omega) _ _ _ _, hk.put4 (.inr hb) _ _ _ _⟩
end Go.Proofs.YtnonfmaehfmigaaGreatDoor

/- The program's bind, alike. Printed by gen_mgbind.py. -/
namespace Go.Proofs.YtnonfmaehfmigaaGreatDoor
open Go.RowKit

end Go.Proofs.YtnonfmaehfmigaaGreatDoor
