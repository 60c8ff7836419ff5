/- MguMost: what is found, solved, is the way that was found; each other way comes of it. No function in sight. -/
import Derived.Test.YtjbomjnkjcafcaaMgSolved
import Derived.Test.YtjbomjnkjcafcaaMgTwo
namespace Go.Proofs.Ytjbomjnkjcafcaa
open Go.RowKit

theorem putS_keys (s : Sbt) : (putS s).map (·.1) = s.map (·.1) := by
  unfold putS
  rw [List.map_map]
  rfl
theorem solved_keys {s : Sbt} (hn : (s.map (·.1)).Nodup) : ((solvedT s).map (·.1)).Perm (s.map (·.1)) := by
  have h := (solvedT_is hn).2.map (·.1)
  rw [putS_keys] at h
  exact h
theorem sOf_ne {s : Sbt} {n : Int} : sOf s n ≠ none ↔ n ∈ s.map (·.1) := by
  induction s with
  | nil => simp [sOf]
  | cons p s ih =>
    have e : sOf (p :: s) n = if p.1 = n then some p.2 else sOf s n := by
      unfold sOf
      rw [List.find?_cons]
      by_cases h : p.1 = n
      · simp [h]
      · have h' : (p.1 == n) = false := by simpa using h
        rw [h', if_neg h]
    rw [e, List.map_cons, List.mem_cons]
    by_cases h : p.1 = n
    · simp [h]
    · rw [if_neg h, ih]
      constructor
      · exact .inr
      · rintro (h1 | h1)
        · exact (h h1.symm).elim
        · exact h1
/-- What is found, solved. -/
theorem solved_si {Vs : List Int} (h9 : Few9 Vs) (h6 : Vs.length ≤ 6) {s : Sbt} {g : Int → Tm} {r : Int → Nat} (h : UI Vs s g r) : SI (solvedT s) g (fun _ => 0) := by
  have hk := solved_keys h.si.nd
  have hn : ((solvedT s).map (·.1)).Nodup := hk.nodup_iff.2 h.si.nd
  have hno : ∀ m, sOf (solvedT s) m = none ↔ sOf s m = none := fun m => by
    have h1 := @sOf_ne (solvedT s) m
    have h2 := @sOf_ne s m
    rw [hk.mem_iff, ← h2] at h1
    exact ⟨fun h => Decidable.byContradiction fun h' => h1.2 h' h, fun h => Decidable.byContradiction fun h' => h1.1 h' h⟩
  have hval : ∀ p ∈ solvedT s, p.2 = g p.1 ∧ In Vs p.2 := fun p hp => by
    have hp2 := (solvedT_is h.si.nd).2.subset hp
    obtain ⟨q, hq, rfl⟩ := List.mem_map.1 hp2
    have hin := (h.ky q hq).2
    have hap : apD s deepest q.2 = tS g q.2 := h.si.ap deepest q.2 hin.rt fun v _ hb => h.deep h6 v hb
    have hg := h.si.bnd q.1 q.2 (sOf_of_mem h.si.nd hq)
    refine ⟨?_, ?_⟩
    · show apD s deepest q.2 = g q.1
      rw [hap, hg]
    · show In Vs (apD s deepest q.2)
      rw [hap]
      exact h.valT h9 hin
  refine ⟨hn, fun p hp => (hval p hp).2.rt, fun m hm => h.si.unb m ((hno m).1 hm), fun m x hx => ?_, fun m v hv => (hno v).2 (h.si.res m v hv), fun m x hx v hv hb => ?_⟩
  · have e : x = g m := (hval _ (sOf_mem hx)).1
    rw [e]
    exact (h.si.put h.si.self m).symm
  · have e : x = g m := (hval _ (sOf_mem hx)).1
    rw [e] at hv
    exact (hb ((hno v).2 (h.si.res m v hv))).elim
theorem solved_ap {Vs : List Int} (h9 : Few9 Vs) (h6 : Vs.length ≤ 6) {s : Sbt} {g : Int → Tm} {r : Int → Nat} (h : UI Vs s g r) {t : Tm} (ht : tRight t = true) : apD (solvedT s) deepest t = tS g t :=
  (solved_si h9 h6 h).ap deepest t ht fun v _ _ => by unfold deepest; omega
theorem solved_len {s : Sbt} (hn : (s.map (·.1)).Nodup) : (solvedT s).length = s.length := by
  have := (solved_keys hn).length_eq
  simpa using this

/-! ### Some way: six terms without variables -/
def pick (l : List Tm) (j : Nat) : Tm := if j < l.length then Gd (l.getD j tz) else .mk 1 0 ⟨#[97]⟩ []
theorem pick_right (l : List Tm) (j : Nat) : tRight (pick l j) = true := by
  unfold pick
  split
  · exact Gd_right _
  · rfl
theorem pick_ground (l : List Tm) (j : Nat) : tV (pick l j) = [] := by
  unfold pick
  split
  · exact Gd_ground _
  · rfl
theorem pick_dep (l : List Tm) (j : Nat) : tDep (pick l j) ≤ 5 := by
  unfold pick
  split
  · exact Gd_dep _
  · rw [tDep, tDeps]; omega
def row (l : List Tm) : Nat → Sbt
  | 0 => []
  | j + 1 => row l j ++ [((j : Int), pick l j)]
theorem row_len (l : List Tm) : ∀ j, (row l j).length = j
  | 0 => rfl
  | j + 1 => by rw [row, List.length_append, row_len l j]; rfl
theorem row_key {l : List Tm} : ∀ {j : Nat} {p : Int × Tm}, p ∈ row l j → ∃ i : Nat, i < j ∧ p = ((i : Int), pick l i)
  | 0, p, h => by simp [row] at h
  | j + 1, p, h => by
    rw [row] at h
    rcases List.mem_append.1 h with h | h
    · obtain ⟨i, h1, h3⟩ := row_key h
      exact ⟨i, by omega, h3⟩
    · simp at h
      exact ⟨j, by omega, h⟩
theorem row_gs (l : List Tm) : ∀ j : Nat, GS (row l j) := fun j => by
  refine ⟨?_, fun p hp => ?_, fun p hp => ?_⟩
  · induction j with
    | zero => simp [row]
    | succ j ih =>
      rw [row, List.map_append]
      refine List.nodup_append.2 ⟨ih, by simp, fun x hx y hy e => ?_⟩
      obtain ⟨p, hp, rfl⟩ := List.mem_map.1 hx
      obtain ⟨i, h1, rfl⟩ := row_key hp
      simp at hy
      omega
  · obtain ⟨i, _, rfl⟩ := row_key hp
    exact pick_right _ _
  · obtain ⟨i, _, rfl⟩ := row_key hp
    exact pick_ground _ _
theorem row_dep (l : List Tm) (j : Nat) : ∀ p ∈ row l j, tDep p.2 ≤ 5 := fun p hp => by
  obtain ⟨i, _, rfl⟩ := row_key hp
  exact pick_dep _ _

/-- What one way makes of two terms, what is found for them, and what the way makes of that. -/
structure Most (l : List Tm) (a b x y : Tm) (res : Res) : Prop where
  hx : apD (row l 6) deepest a = x
  hy : apD (row l 6) deepest b = y
  rx : tRight x = true
  ry : tRight y = true
  ok : x = y → ∃ s, res = .ok s
  found : ∀ s, res = .ok s → (solvedT s).length = s.length ∧ s.length ≤ 6 ∧ (∀ p ∈ solvedT s, tRight p.2 = true) ∧ ∃ a' b', apD (solvedT s) deepest a = a' ∧ apD (solvedT s) deepest b = b' ∧ tRight a' = true ∧ tRight b' = true ∧
    (x = y → apD (row l 6) deepest a' = x ∧ apD (row l 6) deepest b' = x)
theorem most_law (l : List Tm) {a b : Tm} (ia : In Vs6 a) (ib : In Vs6 b) (da : tDep a ≤ 5) (db : tDep b ≤ 5) : ∃ x y fuel res, uRun fuel [(a, b)] [] = some res ∧ Most l a b x y res := by
  have h0 := row_gs l 6
  have i0 := h0.put_in ia da (row_dep l 6)
  have i1 := h0.put_in ib db (row_dep l 6)
  obtain ⟨fuel, res, hr, hg⟩ := unify_good few6 (by decide) ia ib
  refine ⟨_, _, fuel, res, hr, h0.ap ia.rt, h0.ap ib.rt, i0.1.rt, i1.1.rt, fun e => ?_, fun s hs => ?_⟩
  · have huni : Uni (way (row l 6)) [(a, b)] := by
      intro p hp
      simp at hp
      subst hp
      exact e
    cases res with
    | ok s => exact ⟨s, rfl⟩
    | cyc => exact (hg _ (Rs.nil _) huni).elim
    | clash => exact (hg _ (Rs.nil _) huni).elim
  · subst hs
    obtain ⟨g, r, ui, hun, _, hmost⟩ := hg
    have si := solved_si few6 (by decide) ui
    have hra : tRight (tS g a) = true := (ui.valT few6 ia).rt
    have hrb : tRight (tS g b) = true := (ui.valT few6 ib).rt
    refine ⟨solved_len ui.si.nd, Nat.le_trans ui.len (by decide), si.rt, _, _, solved_ap few6 (by decide) ui ia.rt, solved_ap few6 (by decide) ui ib.rt, hra, hrb, fun e => ?_⟩
    have huni : Uni (way (row l 6)) [(a, b)] := by
      intro p hp
      simp at hp
      subst hp
      exact e
    have hf := hmost _ (Rs.nil _) huni
    rw [h0.ap hra, h0.ap hrb, ui.si.putT hf, ui.si.putT hf]
    exact ⟨rfl, e.symm⟩
end Go.Proofs.Ytjbomjnkjcafcaa
