/- Terms as trees in memory. No function in sight. -/
import Derived.Test.YtnonfmaehfmigaaGreatDoorApp
namespace Go.Proofs.YtnonfmaehfmigaaGreatDoor
open Go.RowKit

/-- A term, as both packages have it. -/
inductive Tm where
  | mk (k n : Int) (s : ByteArray) (l : List Tm)
namespace Tm
def k : Tm → Int | .mk k _ _ _ => k
def n : Tm → Int | .mk _ n _ _ => n
def s : Tm → ByteArray | .mk _ _ s _ => s
def l : Tm → List Tm | .mk _ _ _ l => l
end Tm
mutual
theorem Tm.ind_ {P : Tm → Prop} (h : ∀ k n s l, (∀ a ∈ l, P a) → P (.mk k n s l)) : ∀ t, P t
  | .mk k n s l => h k n s l (Tm.indL h l)
theorem Tm.indL {P : Tm → Prop} (h : ∀ k n s l, (∀ a ∈ l, P a) → P (.mk k n s l)) : ∀ l : List Tm, ∀ a ∈ l, P a
  | [] => fun _ ha => absurd ha (by simp)
  | x :: l => fun a ha => (List.mem_cons.1 ha).elim (fun e => e ▸ Tm.ind_ h x) (Tm.indL h l a)
end
/-- What a term's four cells hold. -/
structure TV where
  k : Int
  n : Int
  s : ByteArray
  A : Option Addr
  len : Nat
  c : Nat
def tvE (x : TV) : List Value := [.int .i64 x.k, .int .i64 x.n, .string x.s, .slice x.A x.len x.c]
def tvV (x : TV) : Value := .agg #[.int .i64 x.k, .int .i64 x.n, .string x.s, .slice x.A x.len x.c]
theorem tvE_len (x : TV) : (tvE x).length = 4 := rfl
theorem tvE_one (l : List TV) : ∀ u ∈ l.flatMap tvE, u.oneCell' = true := by
  intro u hu
  obtain ⟨x, _, hx⟩ := List.mem_flatMap.1 hu
  simp only [tvE, List.mem_cons, List.not_mem_nil, or_false] at hx
  rcases hx with rfl | rfl | rfl | rfl <;> rfl
/-- A tree in memory, whose parts lie in blocks of the kind S. -/
inductive Tr (w : World) (S : Nat → Prop) : Tm → TV → Prop
  | mk (k n : Int) (s : ByteArray) (l : List Tm) (A : Option Addr) (c : Nat) (vs : List TV) (hl : vs.length = l.length) (hR : Rd w A (vs.flatMap tvE)) (hS : ∀ b off, A = some ⟨b, off, none⟩ → l ≠ [] → S b) (hc : A = none → c = 0) (hz : s.size ≤ 9223372036854775807 ∧ l.length ≤ 9223372036854775807)
      (hk : ∀ (j : Nat) t v, l[j]? = some t → vs[j]? = some v → Tr w S t v) : Tr w S (.mk k n s l) ⟨k, n, s, A, l.length, c⟩
/-- A row of trees. -/
structure Trs (w : World) (S : Nat → Prop) (l : List Tm) (vs : List TV) : Prop where
  len : vs.length = l.length
  at_ : ∀ (j : Nat) t v, l[j]? = some t → vs[j]? = some v → Tr w S t v
theorem Tr.inv {w : World} {S : Nat → Prop} {t : Tm} {v : TV} (h : Tr w S t v) :
    v.k = t.k ∧ v.n = t.n ∧ v.s = t.s ∧ v.len = t.l.length ∧ (v.A = none → v.c = 0) ∧ ∃ vs, Trs w S t.l vs ∧ Rd w v.A (vs.flatMap tvE) ∧ (∀ b off, v.A = some ⟨b, off, none⟩ → t.l ≠ [] → S b) := by
  cases h with
  | mk k n s l A c vs hl hR hS hc hz hk => exact ⟨rfl, rfl, rfl, rfl, hc, vs, ⟨hl, hk⟩, hR, hS⟩
theorem Tr.mono {w : World} {S S' : Nat → Prop} (hS : ∀ b, S b → S' b) {t : Tm} {v : TV} (h : Tr w S t v) : Tr w S' t v := by
  induction h with
  | mk k n s l A c vs hl hR h1 hc hz hk ih => exact .mk k n s l A c vs hl hR (fun b off e hne => hS b (h1 b off e hne)) hc hz ih
theorem Rd.keepL {w w' : World} {A : Option Addr} {vs : List Value} {L : List Nat} (h : Rd w A vs) (k : Keeps w w' L) (hL : ∀ b off, A = some ⟨b, off, none⟩ → vs ≠ [] → b ∉ L) : Rd w' A vs := by
  intro i hi
  obtain ⟨b, off, v, e, hb, hc, hv⟩ := h i hi
  exact ⟨b, off, v, e, Nat.lt_of_lt_of_le hb k.size, (k.cell (p := ⟨b, off + i, none⟩) hb (hL b off e (fun h0 => by subst h0; simp at hi))).trans hc, hv⟩
theorem flat_ne {l : List Tm} {vs : List TV} (hl : vs.length = l.length) (h : vs.flatMap tvE ≠ []) : l ≠ [] := by
  rintro rfl
  have : vs = [] := List.length_eq_zero_iff.1 (by simpa using hl)
  subst this
  exact h rfl
theorem Tr.keepL {w w' : World} {S : Nat → Prop} {L : List Nat} (k : Keeps w w' L) (hL : ∀ b ∈ L, ¬ S b) {t : Tm} {v : TV} (h : Tr w S t v) : Tr w' S t v := by
  induction h with
  | mk k' n s l A c vs hl hR hS hc hz hk ih => exact .mk k' n s l A c vs hl (hR.keepL k (fun b off e hne hm => hL b hm (hS b off e (flat_ne hl hne)))) hS hc hz ih
theorem Tr.keep {w w' : World} {S : Nat → Prop} {t : Tm} {v : TV} (h : Tr w S t v) (k : Keeps w w' []) : Tr w' S t v := h.keepL k (by simp)
/-- The blocks of a tree are there. -/
theorem Tr.here {w : World} {S : Nat → Prop} {t : Tm} {v : TV} (h : Tr w S t v) : Tr w (fun b => S b ∧ b < w.heap.size) t v := by
  induction h with
  | mk k n s l A c vs hl hR hS hc hz hk ih =>
    refine .mk k n s l A c vs hl hR (fun b off e hne => ⟨hS b off e hne, ?_⟩) hc hz ih
    have hv : 0 < (vs.flatMap tvE).length := by
      rw [length_flat tvE_len, hl]
      have := List.length_pos_iff.2 hne
      omega
    obtain ⟨b', off', _, e', hb, _⟩ := hR 0 hv
    rw [e] at e'
    injection e' with e'
    injection e' with e1
    subst e1
    exact hb
theorem Trs.keepL {w w' : World} {S : Nat → Prop} {L : List Nat} (k : Keeps w w' L) (hL : ∀ b ∈ L, ¬ S b) {l : List Tm} {vs : List TV} (h : Trs w S l vs) : Trs w' S l vs := ⟨h.len, fun j t v a b => (h.at_ j t v a b).keepL k hL⟩
theorem Trs.keep {w w' : World} {S : Nat → Prop} {l : List Tm} {vs : List TV} (h : Trs w S l vs) (k : Keeps w w' []) : Trs w' S l vs := h.keepL k (by simp)
theorem Trs.mono {w : World} {S S' : Nat → Prop} (hS : ∀ b, S b → S' b) {l : List Tm} {vs : List TV} (h : Trs w S l vs) : Trs w S' l vs := ⟨h.len, fun j t v a b => (h.at_ j t v a b).mono hS⟩
theorem Trs.here {w : World} {S : Nat → Prop} {l : List Tm} {vs : List TV} (h : Trs w S l vs) : Trs w (fun b => S b ∧ b < w.heap.size) l vs := ⟨h.len, fun j t v a b => (h.at_ j t v a b).here⟩
theorem Trs.nil {w : World} {S : Nat → Prop} : Trs w S [] [] := ⟨rfl, fun j t v h => by simp at h⟩
theorem Trs.snoc {w : World} {S : Nat → Prop} {l : List Tm} {vs : List TV} (h : Trs w S l vs) {t : Tm} {v : TV} (ht : Tr w S t v) : Trs w S (l ++ [t]) (vs ++ [v]) := by
  refine ⟨by simp [h.len], fun j t' v' h1 h2 => ?_⟩
  by_cases hj : j < l.length
  · rw [List.getElem?_append_left hj] at h1
    rw [List.getElem?_append_left (by rw [h.len]; exact hj)] at h2
    exact h.at_ j t' v' h1 h2
  · rw [List.getElem?_append_right (by omega)] at h1
    rw [List.getElem?_append_right (by rw [h.len]; omega), h.len] at h2
    cases hj' : j - l.length with
    | zero =>
      rw [hj'] at h1 h2
      simp at h1 h2
      subst h1 h2
      exact ht
    | succ q =>
      rw [hj'] at h1
      simp at h1
/-- The element in a place, with its cells. -/
theorem Trs.get {w : World} {S : Nat → Prop} {l : List Tm} {vs : List TV} (h : Trs w S l vs) {A : Option Addr} (hR : Rd w A (vs.flatMap tvE)) {j : Nat} {t : Tm} (hj : l[j]? = some t) :
    ∃ v b off, vs[j]? = some v ∧ Tr w S t v ∧ A = some ⟨b, off, none⟩ ∧ b < w.heap.size ∧ w.cell? ⟨b, off + j * 4, none⟩ = some (.int .i64 v.k) ∧ w.cell? ⟨b, off + j * 4 + 1, none⟩ = some (.int .i64 v.n) ∧ w.cell? ⟨b, off + j * 4 + 2, none⟩ = some (.string v.s) ∧ w.cell? ⟨b, off + j * 4 + 3, none⟩ = some (.slice v.A v.len v.c) := by
  have hlt : j < vs.length := by rw [h.len]; exact (List.getElem?_eq_some_iff.1 hj).1
  have hv : vs[j]? = some vs[j] := List.getElem?_eq_getElem hlt
  obtain ⟨b, off, e, hb, hf⟩ := hR.field tvE_len hv (by omega)
  exact ⟨vs[j], b, off, hv, h.at_ j t _ hj hv, e, hb, hf 0 _ rfl, hf 1 _ rfl, hf 2 _ rfl, hf 3 _ rfl⟩
end Go.Proofs.YtnonfmaehfmigaaGreatDoor
