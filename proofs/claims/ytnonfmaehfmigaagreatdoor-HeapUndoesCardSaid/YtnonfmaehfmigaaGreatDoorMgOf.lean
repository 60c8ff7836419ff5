import Derived.Test.YtnonfmaehfmigaaGreatDoorTmVars
import Derived.Test.YtnonfmaehfmigaaGreatDoorTmMk
import Derived.Test.YtnonfmaehfmigaaGreatDoorFour
import Derived.Test.YtnonfmaehfmigaaGreatDoorTmText
/- Terms made one: the plain law. No program in sight. -/
namespace Go.Proofs.YtnonfmaehfmigaaGreatDoor
open Go.RowKit

/-! ### Putting in -/
abbrev Sbt := List (Int × Tm)
def vr (n : Int) : Tm := .mk 0 n ⟨#[]⟩ []
mutual
def tS (f : Int → Tm) : Tm → Tm
  | .mk k n s l => if k = 0 then f n else .mk k n s (tSs f l)
def tSs (f : Int → Tm) : List Tm → List Tm
  | [] => []
  | a :: l => tS f a :: tSs f l
end
theorem tSs_map (f : Int → Tm) : ∀ l : List Tm, tSs f l = l.map (tS f)
  | [] => by simp [tSs]
  | a :: l => by rw [tSs, tSs_map f l]; simp
mutual
def tV : Tm → List Int
  | .mk k n _ l => if k = 0 then [n] else tVL l
def tVL : List Tm → List Int
  | [] => []
  | a :: l => tV a ++ tVL l
end
theorem mem_tVL {n : Int} : ∀ {l : List Tm}, n ∈ tVL l ↔ ∃ a ∈ l, n ∈ tV a
  | [] => by simp [tVL]
  | a :: l => by rw [tVL, List.mem_append, mem_tVL (l := l)]; simp
mutual
def tDep : Tm → Nat
  | .mk _ _ _ l => 1 + tDeps l
def tDeps : List Tm → Nat
  | [] => 0
  | a :: l => max (tDep a) (tDeps l)
end
theorem tDeps_mem : ∀ {l : List Tm} {a : Tm}, a ∈ l → tDep a ≤ tDeps l
  | b :: l, a, h => by
    rw [tDeps]
    rcases List.mem_cons.1 h with rfl | h
    · omega
    · have := tDeps_mem h; omega
theorem tDeps_le {d : Nat} : ∀ {l : List Tm}, (∀ a ∈ l, tDep a ≤ d) → tDeps l ≤ d
  | [], _ => by simp [tDeps]
  | b :: l, h => by
    rw [tDeps]
    have h1 := h b (by simp)
    have h2 := tDeps_le (l := l) (d := d) fun a ha => h a (by simp [ha])
    omega
theorem tDep_pos (t : Tm) : 1 ≤ tDep t := by cases t; rw [tDep]; omega
/-- A right variable has no parts. -/
theorem right_var {n : Int} {s : ByteArray} {l : List Tm} (h : tRight (.mk 0 n s l) = true) : Tm.mk 0 n s l = vr n ∧ 0 ≤ n ∧ n ≤ 999 := by
  rw [tRight, Bool.and_eq_true, if_pos rfl] at h
  simp only [Bool.and_eq_true, decide_eq_true_eq] at h
  obtain ⟨_, ⟨⟨h0, h9⟩, hs⟩, hl⟩ := h
  obtain rfl : l = [] := List.length_eq_zero_iff.1 hl
  have : s = ⟨#[]⟩ := by
    cases s with
    | mk d => congr; exact Array.eq_empty_of_size_eq_zero hs
  exact ⟨by rw [vr, this], h0, h9⟩
theorem right_n {k n : Int} {s : ByteArray} {l : List Tm} (h : tRight (.mk k n s l) = true) (hk : k ≠ 0) : n = 0 := by
  rw [tRight, Bool.and_eq_true, if_neg hk] at h
  obtain ⟨_, h⟩ := h
  split at h
  · simp only [Bool.and_eq_true, decide_eq_true_eq] at h; exact h.1.1
  · split at h
    · simp only [Bool.and_eq_true, decide_eq_true_eq] at h; exact h.1.1.1
    · split at h
      · simp only [Bool.and_eq_true, decide_eq_true_eq] at h; exact h.1.1
      · cases h
theorem right_len {k n : Int} {s : ByteArray} {l : List Tm} (h : tRight (.mk k n s l) = true) : l.length ≤ 8 := by
  rw [tRight, Bool.and_eq_true] at h
  obtain ⟨_, h⟩ := h
  split at h
  · simp only [Bool.and_eq_true, decide_eq_true_eq] at h; omega
  · split at h
    · simp only [Bool.and_eq_true, decide_eq_true_eq] at h; omega
    · split at h
      · simp only [Bool.and_eq_true, decide_eq_true_eq] at h; omega
      · split at h
        · simp only [Bool.and_eq_true, decide_eq_true_eq] at h; omega
        · cases h
theorem right_parts {k n : Int} {s : ByteArray} {l : List Tm} (h : tRight (.mk k n s l) = true) : ∀ a ∈ l, tRight a = true := by
  rw [tRight, Bool.and_eq_true] at h
  exact (tRights_all l).1 h.1
theorem right_with {k n : Int} {s : ByteArray} {l m : List Tm} (h : tRight (.mk k n s l) = true) (hl : m.length = l.length) (hm : ∀ a ∈ m, tRight a = true) : tRight (.mk k n s m) = true := by
  rw [tRight, Bool.and_eq_true] at h ⊢
  rw [hl]
  exact ⟨(tRights_all m).2 hm, h.2⟩

theorem addV_mem (acc : List Int) (n v : Int) : v ∈ addV acc n ↔ v ∈ acc ∨ v = n := by
  unfold addV
  split
  · rename_i h
    obtain ⟨y, hy, he⟩ := List.any_eq_true.1 h
    unfold hasI at he
    rw [beq_iff_eq] at he
    subst he
    constructor
    · exact Or.inl
    · rintro (h | rfl) <;> assumption
  · simp
theorem walks_mem_ {l : List Tm} (ih : ∀ a ∈ l, tRight a = true → ∀ (acc : List Int) (v : Int), v ∈ tWalk acc a ↔ v ∈ acc ∨ v ∈ tV a) (hr : ∀ a ∈ l, tRight a = true) : ∀ (acc : List Int) (v : Int), v ∈ tWalks acc l ↔ v ∈ acc ∨ v ∈ tVL l := by
  induction l with
  | nil => intro acc v; simp [tWalks, tVL]
  | cons a l ihl =>
    intro acc v
    rw [tWalks, ihl (fun b hb => ih b (by simp [hb])) (fun b hb => hr b (by simp [hb])), ih a (by simp) (hr a (by simp)), tVL, List.mem_append]
    exact or_assoc
theorem walk_mem (t : Tm) : tRight t = true → ∀ (acc : List Int) (v : Int), v ∈ tWalk acc t ↔ v ∈ acc ∨ v ∈ tV t := by
  induction t using Tm.ind_ with
  | h k n s l ih =>
    intro hr acc v
    rw [tWalk, tV]
    by_cases h0 : k = 0
    · subst h0
      obtain ⟨e, _, _⟩ := right_var hr
      obtain ⟨_, _, _, rfl⟩ := Tm.mk.inj e
      rw [if_pos rfl, if_pos rfl, tWalks, addV_mem]
      simp
    · rw [if_neg h0, if_neg h0]
      exact walks_mem_ ih (right_parts hr) acc v
theorem walks_mem {l : List Tm} (hr : ∀ a ∈ l, tRight a = true) (acc : List Int) (v : Int) : v ∈ tWalks acc l ↔ v ∈ acc ∨ v ∈ tVL l := walks_mem_ (fun a _ h => walk_mem a h) hr acc v
theorem addV_nodup {acc : List Int} (h : acc.Nodup) (n : Int) : (addV acc n).Nodup := by
  unfold addV
  split
  · exact h
  · rename_i hn
    refine List.nodup_append.2 ⟨h, by simp, fun a ha b hb e => ?_⟩
    simp at hb
    subst hb
    subst e
    exact hn (List.any_eq_true.2 ⟨a, ha, by simp [hasI]⟩)
mutual
theorem walk_nodup : ∀ (acc : List Int) (t : Tm), acc.Nodup → (tWalk acc t).Nodup
  | acc, .mk k n s l, h => by
    rw [tWalk]
    refine walks_nodup _ l ?_
    split
    · exact addV_nodup h n
    · exact h
theorem walks_nodup : ∀ (acc : List Int) (l : List Tm), acc.Nodup → (tWalks acc l).Nodup
  | acc, [], h => by rw [tWalks]; exact h
  | acc, a :: l, h => by rw [tWalks]; exact walks_nodup _ l (walk_nodup acc a h)
end
theorem nodup_len {l : List Int} : ∀ {m : List Int}, l.Nodup → (∀ a ∈ l, a ∈ m) → l.length ≤ m.length := by
  induction l with
  | nil => intro m _ _; simp
  | cons a l ih =>
    intro m h hm
    have h1 := List.nodup_cons.1 h
    have h2 := ih (m := m.erase a) h1.2 fun b hb => (List.mem_erase_of_ne (by rintro rfl; exact h1.1 hb)).2 (hm b (by simp [hb]))
    have h3 := List.length_erase_of_mem (hm a (by simp))
    have h4 : 0 < m.length := List.length_pos_of_mem (hm a (by simp))
    rw [List.length_cons]
    omega

theorem tS_congr (t : Tm) : ∀ {f g : Int → Tm}, (∀ n ∈ tV t, f n = g n) → tS f t = tS g t := by
  induction t using Tm.ind_ with
  | h k n s l ih =>
    intro f g h
    rw [tV] at h
    rw [tS, tS]
    by_cases h0 : k = 0
    · rw [if_pos h0] at h ⊢
      rw [if_pos h0]
      exact h n (by simp)
    · rw [if_neg h0] at h ⊢
      rw [if_neg h0, tSs_map, tSs_map]
      congr 1
      exact List.map_congr_left fun a ha => ih a ha fun n hn => h n (mem_tVL.2 ⟨a, ha, hn⟩)
theorem tS_vr (t : Tm) : tRight t = true → tS vr t = t := by
  induction t using Tm.ind_ with
  | h k n s l ih =>
    intro hr
    rw [tS]
    by_cases h0 : k = 0
    · subst h0
      rw [if_pos rfl, (right_var hr).1]
    · rw [if_neg h0, tSs_map]
      congr 1
      conv => rhs; rw [← List.map_id l]
      exact List.map_congr_left fun a ha => ih a ha (right_parts hr a ha)
theorem tS_fix {t : Tm} (hr : tRight t = true) {f : Int → Tm} (h : ∀ n ∈ tV t, f n = vr n) : tS f t = t := (tS_congr t h).trans (tS_vr t hr)
theorem tS_comp (f g : Int → Tm) (t : Tm) : tS f (tS g t) = tS (fun n => tS f (g n)) t := by
  induction t using Tm.ind_ with
  | h k n s l ih =>
    by_cases h0 : k = 0
    · rw [tS, if_pos h0, tS, if_pos h0]
    · rw [tS, if_neg h0, tS, if_neg h0, tS, if_neg h0, tSs_map, tSs_map, tSs_map, List.map_map]
      congr 1
      exact List.map_congr_left fun a ha => ih a ha
theorem mem_tS {f : Int → Tm} {v : Int} (t : Tm) : v ∈ tV (tS f t) ↔ ∃ n ∈ tV t, v ∈ tV (f n) := by
  induction t using Tm.ind_ with
  | h k n s l ih =>
    by_cases h0 : k = 0
    · rw [tS, if_pos h0, tV, if_pos h0]; simp
    · rw [tS, if_neg h0, tV, if_neg h0, tV, if_neg h0, tSs_map, mem_tVL]
      constructor
      · rintro ⟨b, hb, hv⟩
        obtain ⟨a, ha, rfl⟩ := List.mem_map.1 hb
        obtain ⟨m, hm, hv⟩ := (ih a ha).1 hv
        exact ⟨m, mem_tVL.2 ⟨a, ha, hm⟩, hv⟩
      · rintro ⟨m, hm, hv⟩
        obtain ⟨a, ha, hm⟩ := mem_tVL.1 hm
        exact ⟨_, List.mem_map.2 ⟨a, ha, rfl⟩, (ih a ha).2 ⟨m, hm, hv⟩⟩
theorem right_tS {f : Int → Tm} (t : Tm) : tRight t = true → (∀ n ∈ tV t, tRight (f n) = true) → tRight (tS f t) = true := by
  induction t using Tm.ind_ with
  | h k n s l ih =>
    intro hr h
    rw [tV] at h
    rw [tS]
    by_cases h0 : k = 0
    · rw [if_pos h0] at h ⊢
      exact h n (by simp)
    · rw [if_neg h0] at h ⊢
      rw [tSs_map]
      refine right_with hr (by simp) fun b hb => ?_
      obtain ⟨a, ha, rfl⟩ := List.mem_map.1 hb
      exact ih a ha (right_parts hr a ha) fun n hn => h n (mem_tVL.2 ⟨a, ha, hn⟩)
theorem size_tS {f : Int → Tm} (t : Tm) : ∀ {n : Int}, n ∈ tV t → tSize (f n) ≤ tSize (tS f t) ∧ (t.k ≠ 0 → tSize (f n) < tSize (tS f t)) := by
  induction t using Tm.ind_ with
  | h k n s l ih =>
    intro m hm
    rw [tV] at hm
    rw [tS]
    by_cases h0 : k = 0
    · rw [if_pos h0] at hm ⊢
      simp at hm
      subst hm
      exact ⟨Nat.le_refl _, fun h => absurd h0 h⟩
    · rw [if_neg h0] at hm ⊢
      obtain ⟨a, ha, hm⟩ := mem_tVL.1 hm
      have h1 := (ih a ha hm).1
      have h2 := tSizes_mem (List.mem_map_of_mem (f := tS f) ha)
      rw [tSs_map, tSize]
      omega
theorem dep_tS {f : Int → Tm} {d : Nat} (t : Tm) : (∀ n ∈ tV t, tDep (f n) ≤ d + 1) → tDep (tS f t) ≤ tDep t + d := by
  induction t using Tm.ind_ with
  | h k n s l ih =>
    intro h
    rw [tV] at h
    rw [tS]
    by_cases h0 : k = 0
    · rw [if_pos h0] at h ⊢
      have := h n (by simp)
      have := tDep_pos (.mk k n s l)
      omega
    · rw [if_neg h0] at h ⊢
      rw [tSs_map, tDep, tDep]
      have : tDeps (l.map (tS f)) ≤ tDeps l + d := tDeps_le fun b hb => by
        obtain ⟨a, ha, rfl⟩ := List.mem_map.1 hb
        have h1 := ih a ha fun n hn => h n (mem_tVL.2 ⟨a, ha, hn⟩)
        have h2 := tDeps_mem ha
        omega
      omega

/-! ### What is bound -/
def sOf (s : Sbt) (n : Int) : Option Tm := (s.find? fun p => p.1 == n).map (·.2)
mutual
def tP (f : Int → Option Tm) : Tm → Tm
  | .mk k n s l => if k = 0 then (f n).getD (.mk k n s l) else .mk k n s (tPs f l)
def tPs (f : Int → Option Tm) : List Tm → List Tm
  | [] => []
  | a :: l => tP f a :: tPs f l
end
theorem tPs_map (f : Int → Option Tm) : ∀ l : List Tm, tPs f l = l.map (tP f)
  | [] => by simp [tPs]
  | a :: l => by rw [tPs, tPs_map f l]; simp
def apD (s : Sbt) : Nat → Tm → Tm
  | 0 => tP fun _ => none
  | d + 1 => tP fun n => (sOf s n).map (apD s d)
def topD (s : Sbt) : Nat → Tm → Tm
  | 0, t => t
  | d + 1, t => if t.k = 0 then match sOf s t.n with
    | none => t
    | some x => topD s d x
    else t
theorem tP_tS {f : Int → Option Tm} {g : Int → Tm} (t : Tm) : tRight t = true → (∀ n ∈ tV t, (f n).getD (vr n) = g n) → tP f t = tS g t := by
  induction t using Tm.ind_ with
  | h k n s l ih =>
    intro hr h
    rw [tV] at h
    rw [tS, tP]
    by_cases h0 : k = 0
    · subst h0
      rw [if_pos rfl] at h ⊢
      rw [if_pos rfl, (right_var hr).1]
      exact h n (by simp)
    · rw [if_neg h0] at h ⊢
      rw [if_neg h0, tSs_map, tPs_map]
      congr 1
      exact List.map_congr_left fun a ha => ih a ha (right_parts hr a ha) fun n hn => h n (mem_tVL.2 ⟨a, ha, hn⟩)
theorem sOf_mem {s : Sbt} {n : Int} {x : Tm} (h : sOf s n = some x) : (n, x) ∈ s := by
  unfold sOf at h
  cases hf : s.find? (fun p => p.1 == n) with
  | none => rw [hf] at h; cases h
  | some p =>
    rw [hf] at h
    simp only [Option.map_some, Option.some.injEq] at h
    have h1 := List.mem_of_find?_eq_some hf
    have h2 := List.find?_some hf
    simp only [beq_iff_eq] at h2
    rw [← h, ← h2]
    exact h1
theorem sOf_none {s : Sbt} {n : Int} : sOf s n = none ↔ ∀ p ∈ s, p.1 ≠ n := by
  unfold sOf
  simp [List.find?_eq_none]
theorem sOf_snoc (s : Sbt) (n : Int) (y : Tm) (m : Int) : sOf (s ++ [(n, y)]) m = (sOf s m).or (if n = m then some y else none) := by
  unfold sOf
  rw [List.find?_append, Option.map_or]
  congr 1
  by_cases h : n = m <;> simp [h]
theorem sOf_of_mem : ∀ {s : Sbt} {n : Int} {x : Tm}, (s.map (·.1)).Nodup → (n, x) ∈ s → sOf s n = some x
  | p :: s, n, x, hd, hm => by
    unfold sOf
    rw [List.map_cons, List.nodup_cons] at hd
    rcases List.mem_cons.1 hm with rfl | hm
    · simp
    · have hne : (p.1 == n) = false := by
        rw [beq_eq_false_iff_ne]
        rintro rfl
        exact hd.1 (List.mem_map.2 ⟨_, hm, rfl⟩)
      rw [List.find?_cons, hne]
      exact sOf_of_mem hd.2 hm

structure SI (s : Sbt) (g : Int → Tm) (r : Int → Nat) : Prop where
  nd : (s.map (·.1)).Nodup
  rt : ∀ p ∈ s, tRight p.2 = true
  unb : ∀ m, sOf s m = none → g m = vr m
  bnd : ∀ m x, sOf s m = some x → g m = tS g x
  res : ∀ m, ∀ v ∈ tV (g m), sOf s v = none
  rank : ∀ m x, sOf s m = some x → ∀ v ∈ tV x, sOf s v ≠ none → r v < r m
theorem SI.ind {s : Sbt} {g : Int → Tm} {r : Int → Nat} (h : SI s g r) {P : Int → Prop} (h0 : ∀ m, sOf s m = none → P m) (h1 : ∀ m x, sOf s m = some x → (∀ v ∈ tV x, P v) → P m) : ∀ m, P m := by
  suffices H : ∀ (d : Nat) (m : Int), r m < d → P m from fun m => H _ m (Nat.lt_succ_self _)
  intro d
  induction d with
  | zero => intro m hm; omega
  | succ d ih =>
    intro m hm
    cases hs : sOf s m with
    | none => exact h0 m hs
    | some x =>
      refine h1 m x hs fun v hv => ?_
      by_cases hb : sOf s v = none
      · exact h0 v hb
      · have := h.rank m x hs v hv hb
        exact ih v (by omega)
/-- A way that agrees with what is bound. -/
def Rs (f : Int → Tm) (s : Sbt) : Prop := ∀ p ∈ s, f p.1 = tS f p.2
theorem SI.put {s : Sbt} {g : Int → Tm} {r : Int → Nat} (h : SI s g r) {f : Int → Tm} (hf : Rs f s) : ∀ m, tS f (g m) = f m := by
  refine h.ind (fun m hm => ?_) (fun m x hx ih => ?_)
  · rw [h.unb m hm, vr, tS, if_pos rfl]
  · rw [h.bnd m x hx, tS_comp, tS_congr x ih]
    exact (hf _ (sOf_mem hx)).symm
theorem SI.putT {s : Sbt} {g : Int → Tm} {r : Int → Nat} (h : SI s g r) {f : Int → Tm} (hf : Rs f s) (t : Tm) : tS f (tS g t) = tS f t := by
  rw [tS_comp]
  exact tS_congr t fun n _ => h.put hf n
theorem SI.self {s : Sbt} {g : Int → Tm} {r : Int → Nat} (h : SI s g r) : Rs g s := fun p hp => h.bnd p.1 p.2 (sOf_of_mem h.nd hp)
/-- All that is put in comes out so. -/
theorem SI.ap {s : Sbt} {g : Int → Tm} {r : Int → Nat} (h : SI s g r) : ∀ (d : Nat) (t : Tm), tRight t = true → (∀ v ∈ tV t, sOf s v ≠ none → r v < d) → apD s d t = tS g t
  | 0, t, hr, hv => by
    rw [apD]
    refine tP_tS t hr fun n hn => ?_
    have : sOf s n = none := Decidable.byContradiction fun h0 => by have := hv n hn h0; omega
    rw [h.unb n this]
    rfl
  | d + 1, t, hr, hv => by
    rw [apD]
    refine tP_tS t hr fun n hn => ?_
    cases hs : sOf s n with
    | none => rw [h.unb n hs]; rfl
    | some x =>
      rw [Option.map_some, Option.getD_some, h.bnd n x hs]
      refine h.ap d x (h.rt _ (sOf_mem hs)) fun v hv' hb => ?_
      have h1 := h.rank n x hs v hv' hb
      have h2 := hv n hn (by rw [hs]; simp)
      omega
theorem top_eq {s : Sbt} {f : Int → Tm} (hf : Rs f s) : ∀ (d : Nat) (t : Tm), tS f (topD s d t) = tS f t
  | 0, t => rfl
  | d + 1, .mk k n b l => by
    rw [topD]
    split
    · rename_i h0
      replace h0 : k = 0 := h0
      cases hs : sOf s (Tm.mk k n b l).n with
      | none => rfl
      | some x =>
        rw [top_eq hf d x, tS, if_pos h0]
        exact (hf _ (sOf_mem hs)).symm
    · rfl
theorem SI.top {s : Sbt} {g : Int → Tm} {r : Int → Nat} (h : SI s g r) : ∀ (d : Nat) (t : Tm), tRight t = true → (t.k = 0 → sOf s t.n ≠ none → r t.n < d) → ((topD s d t).k = 0 → sOf s (topD s d t).n = none)
  | 0, t, _, hv => fun h0 => Decidable.byContradiction fun hb => by have := hv h0 hb; omega
  | d + 1, t, hr, hv => by
    rw [topD]
    split
    · rename_i h0
      cases hs : sOf s t.n with
      | none => exact fun _ => hs
      | some x =>
        refine h.top d x (h.rt _ (sOf_mem hs)) fun hx hb => ?_
        have hxv : x.n ∈ tV x := by
          cases x with
          | mk k n b l =>
            replace hx : k = 0 := hx
            rw [tV, if_pos hx]
            simp [Tm.n]
        have h1 := h.rank t.n x hs x.n hxv hb
        have h2 := hv h0 (by rw [hs]; simp)
        omega
    · rename_i h0
      exact fun h1 => absurd h1 h0
/-- One more is bound. -/
theorem SI.bind {s : Sbt} {g : Int → Tm} {r : Int → Nat} (h : SI s g r) {R : Nat} (hR : ∀ m, sOf s m ≠ none → r m < R) {n : Int} {y : Tm} (hn : sOf s n = none) (hy : tRight y = true) (hgr : tRight (tS g y) = true) (hno : n ∉ tV (tS g y)) :
    ∃ g' r', SI (s ++ [(n, y)]) g' r' ∧ (∀ m, sOf (s ++ [(n, y)]) m ≠ none → r' m < 3 * R + 1) ∧ ∀ m, g' m = tS (fun v => if v = n then tS g y else vr v) (g m) := by
  have hg2 : ∀ m, sOf (s ++ [(n, y)]) m = (sOf s m).or (if n = m then some y else none) := sOf_snoc s n y
  have hgn := h.unb n hn
  refine ⟨fun m => tS (fun v => if v = n then tS g y else vr v) (g m), fun m => if m = n then R else if n ∈ tV (g m) then r m + R + 1 else r m, ⟨?_, ?_, ?_, ?_, ?_, ?_⟩, ?_, fun m => rfl⟩
  · rw [List.map_append]
    refine List.nodup_append.2 ⟨h.nd, by simp, fun a ha b hb e => ?_⟩
    simp at hb
    subst hb
    subst e
    obtain ⟨p, hp, rfl⟩ := List.mem_map.1 ha
    exact sOf_none.1 hn p hp rfl
  · intro p hp
    rcases List.mem_append.1 hp with hp | hp
    · exact h.rt p hp
    · simp at hp; subst hp; exact hy
  · intro m hm
    rw [hg2] at hm
    cases hs : sOf s m with
    | some x => rw [hs] at hm; simp at hm
    | none =>
      rw [hs] at hm
      have hne : ¬ m = n := by rintro rfl; simp at hm
      show tS _ (g m) = _
      rw [h.unb m hs, vr, tS, if_pos rfl, if_neg hne, vr]
  · intro m x hm
    rw [hg2] at hm
    cases hs : sOf s m with
    | some x' =>
      rw [hs] at hm
      simp only [Option.some_or, Option.some.injEq] at hm
      subst hm
      show tS _ (g m) = tS _ x'
      rw [h.bnd m x' hs, tS_comp]
    | none =>
      rw [hs] at hm
      by_cases hnm : n = m
      · subst hnm
        simp at hm
        subst hm
        show tS _ (g n) = tS (fun m => tS _ (g m)) y
        rw [hgn, ← tS_comp, vr, tS, if_pos rfl, if_pos rfl]
        exact (tS_fix hgr fun v hv => if_neg (by rintro rfl; exact hno hv)).symm
      · simp [hnm] at hm
  · intro m v hv
    obtain ⟨u, hu, hv⟩ := (mem_tS (g m)).1 hv
    rw [hg2]
    by_cases hun : u = n
    · rw [if_pos hun] at hv
      obtain ⟨w, _, hw⟩ := (mem_tS y).1 hv
      rw [h.res w v hw, if_neg (by rintro rfl; exact hno hv)]
      rfl
    · rw [if_neg hun, vr, tV, if_pos rfl] at hv
      simp at hv
      subst hv
      rw [h.res m v hu, if_neg (fun e => hun e.symm)]
      rfl
  · intro m x hm v hv hb
    rw [hg2] at hm hb
    cases hs : sOf s m with
    | some x' =>
      rw [hs] at hm
      simp only [Option.some_or, Option.some.injEq] at hm
      subst hm
      have hmn : ¬ m = n := by rintro rfl; rw [hn] at hs; cases hs
      have hbn := h.bnd m x' hs
      show (if v = n then R else _) < (if m = n then R else _)
      rw [if_neg hmn]
      by_cases hvn : v = n
      · subst hvn
        rw [if_pos rfl, if_pos (by rw [hbn]; exact (mem_tS x').2 ⟨v, hv, by rw [hgn, vr, tV, if_pos rfl]; simp⟩)]
        omega
      · rw [if_neg hvn]
        have hb2 : sOf s v ≠ none := by
          intro h0
          rw [h0] at hb
          simp [show ¬ n = v from fun e => hvn e.symm] at hb
        have h1 := h.rank m x' hs v hv hb2
        by_cases hin : n ∈ tV (g v)
        · rw [if_pos hin, if_pos (by rw [hbn]; exact (mem_tS x').2 ⟨v, hv, hin⟩)]
          omega
        · rw [if_neg hin]
          split <;> omega
    | none =>
      rw [hs] at hm
      by_cases hnm : n = m
      · subst hnm
        simp at hm
        subst hm
        have hvn : ¬ v = n := by
          rintro rfl
          exact hno ((mem_tS y).2 ⟨v, hv, by rw [hgn, vr, tV, if_pos rfl]; simp⟩)
        have hin : ¬ n ∈ tV (g v) := fun hin => hno ((mem_tS y).2 ⟨v, hv, hin⟩)
        have hb2 : sOf s v ≠ none := by
          intro h0
          rw [h0] at hb
          simp [show ¬ n = v from fun e => hvn e.symm] at hb
        show (if v = n then R else _) < (if n = n then R else _)
        rw [if_neg hvn, if_neg hin, if_pos rfl]
        exact hR v hb2
      · simp [hnm] at hm
  · intro m hb
    rw [hg2] at hb
    show (if m = n then R else _) < _
    by_cases hmn : m = n
    · rw [if_pos hmn]; omega
    · rw [if_neg hmn]
      have hb2 : sOf s m ≠ none := by
        intro h0
        rw [h0] at hb
        simp [show ¬ n = m from fun e => hmn e.symm] at hb
      have := hR m hb2
      split <;> omega

/-! ### The steps -/
inductive Stp where
  | skip
  | cyc
  | bnd (n : Int) (y : Tm)
  | clash
  | push (l : List (Tm × Tm))
inductive Res where
  | ok (s : Sbt)
  | cyc
  | clash
def deepest : Nat := 4096
def alikeT (x y : Tm) : Bool := x.k == y.k && decide (x.s = y.s) && x.l.length == y.l.length
/-- x a variable that isn't bound. -/
def stpV (s : Sbt) (n : Int) (y : Tm) : Stp := if (tVars [apD s deepest y]).any (hasI n) then .cyc else .bnd n y
def stpN (x y : Tm) : Stp := if alikeT x y then .push (x.l.zip y.l) else .clash
def stpT (s : Sbt) (x y : Tm) : Stp :=
  if x.k = 0 then if y.k = 0 ∧ x.n = y.n then .skip else stpV s x.n y
  else if y.k = 0 then stpV s y.n x
  else stpN x y
def stp (s : Sbt) (a b : Tm) : Stp := stpT s (topD s deepest a) (topD s deepest b)
def uRun : Nat → List (Tm × Tm) → Sbt → Option Res
  | 0, _, _ => none
  | _ + 1, [], s => some (.ok s)
  | f + 1, (a, b) :: st, s => match stp s a b with
    | .skip => uRun f st s
    | .cyc => some .cyc
    | .bnd n y => uRun f st (s ++ [(n, y)])
    | .clash => some .clash
    | .push l => uRun f (l ++ st) s

/-! ### What they come to -/
def rk : Nat → Nat
  | 0 => 0
  | j + 1 => 3 * rk j + 1
theorem rk_mono : ∀ {i j : Nat}, i ≤ j → rk i ≤ rk j := by
  intro i j h
  induction h with
  | refl => exact Nat.le_refl _
  | step _ ih => rw [rk]; omega
/-- A term of right parts, whose variables are among some. -/
structure In (Vs : List Int) (t : Tm) : Prop where
  rt : tRight t = true
  vs : ∀ v ∈ tV t, v ∈ Vs
theorem In.parts {Vs : List Int} {k n : Int} {b : ByteArray} {l : List Tm} (h : In Vs (.mk k n b l)) (hk : k ≠ 0) : ∀ a ∈ l, In Vs a := fun a ha =>
  ⟨right_parts h.rt a ha, fun v hv => h.vs v (by rw [tV, if_neg hk]; exact mem_tVL.2 ⟨a, ha, hv⟩)⟩
theorem In.var {Vs : List Int} {t : Tm} (h : In Vs t) (hk : t.k = 0) : t = vr t.n ∧ t.n ∈ Vs := by
  cases t with
  | mk k n b l =>
    replace hk : k = 0 := hk
    subst hk
    exact ⟨(right_var h.rt).1, h.vs n (by rw [tV, if_pos rfl]; simp)⟩
/-- What stands while two are made one. -/
structure UI (Vs : List Int) (s : Sbt) (g : Int → Tm) (r : Int → Nat) : Prop where
  si : SI s g r
  rnk : ∀ m, sOf s m ≠ none → r m < rk s.length
  ky : ∀ p ∈ s, p.1 ∈ Vs ∧ In Vs p.2
theorem UI.len {Vs : List Int} {s : Sbt} {g : Int → Tm} {r : Int → Nat} (h : UI Vs s g r) : s.length ≤ Vs.length := by
  have := nodup_len (m := Vs) h.si.nd fun a ha => by
    obtain ⟨p, hp, rfl⟩ := List.mem_map.1 ha
    exact (h.ky p hp).1
  simpa using this
theorem vr_right {n : Int} (h0 : 0 ≤ n) (h9 : n ≤ 999) : tRight (vr n) = true := by
  rw [vr, tRight, Bool.and_eq_true, if_pos rfl]
  simp [tRights, show (⟨#[]⟩ : ByteArray) = ByteArray.empty from rfl, h0, h9]
/-- Numbers that variables may have. -/
def Few9 (Vs : List Int) : Prop := ∀ v ∈ Vs, 0 ≤ v ∧ v ≤ 999
theorem UI.val {Vs : List Int} (h9 : Few9 Vs) {s : Sbt} {g : Int → Tm} {r : Int → Nat} (h : UI Vs s g r) : ∀ m, m ∈ Vs → In Vs (g m) := by
  refine h.si.ind (fun m hm hV => ?_) (fun m x hx ih hV => ?_)
  · rw [h.si.unb m hm]
    exact ⟨vr_right (h9 m hV).1 (h9 m hV).2, fun v hv => by rw [vr, tV, if_pos rfl] at hv; simp at hv; subst hv; exact hV⟩
  · rw [h.si.bnd m x hx]
    have hin := (h.ky _ (sOf_mem hx)).2
    refine ⟨right_tS x hin.rt fun v hv => (ih v hv (hin.vs v hv)).rt, fun v hv => ?_⟩
    obtain ⟨u, hu, hv⟩ := (mem_tS x).1 hv
    exact (ih u hu (hin.vs u hu)).vs v hv
theorem UI.valT {Vs : List Int} (h9 : Few9 Vs) {s : Sbt} {g : Int → Tm} {r : Int → Nat} (h : UI Vs s g r) {t : Tm} (ht : In Vs t) : In Vs (tS g t) :=
  ⟨right_tS t ht.rt fun v hv => (h.val h9 v (ht.vs v hv)).rt, fun v hv => by
    obtain ⟨u, hu, hv⟩ := (mem_tS t).1 hv
    exact (h.val h9 u (ht.vs u hu)).vs v hv⟩
theorem topD_in {Vs : List Int} {s : Sbt} (hs : ∀ p ∈ s, In Vs p.2) : ∀ (d : Nat) (t : Tm), In Vs t → In Vs (topD s d t)
  | 0, t, h => h
  | d + 1, t, h => by
    rw [topD]
    split
    · cases ho : sOf s t.n with
      | none => exact h
      | some x => exact topD_in hs d x (hs _ (sOf_mem ho))
    · exact h
theorem UI.deep {Vs : List Int} (h6 : Vs.length ≤ 6) {s : Sbt} {g : Int → Tm} {r : Int → Nat} (h : UI Vs s g r) : ∀ m, sOf s m ≠ none → r m < deepest := fun m hm => by
  have h1 := h.rnk m hm
  have h2 := rk_mono (Nat.le_trans h.len h6)
  have : rk 6 = 364 := rfl
  unfold deepest
  omega
/-- Whichever way agrees with what is bound makes all the pairs one. -/
def Uni (f : Int → Tm) (st : List (Tm × Tm)) : Prop := ∀ p ∈ st, tS f p.1 = tS f p.2
def UOk (Vs : List Int) (st : List (Tm × Tm)) (s : Sbt) (s' : Sbt) : Prop :=
  ∃ g' r', UI Vs s' g' r' ∧ Uni g' st ∧ (∀ p ∈ s, p ∈ s') ∧ ∀ f, Rs f s → Uni f st → Rs f s'
def UGood (Vs : List Int) (st : List (Tm × Tm)) (s : Sbt) : Res → Prop
  | .ok s' => UOk Vs st s s'
  | _ => ∀ f, Rs f s → ¬ Uni f st
def szs (g : Int → Tm) (st : List (Tm × Tm)) : Nat := (st.map fun p => tSize (tS g p.1)).sum
theorem szs_cons (g : Int → Tm) (p : Tm × Tm) (st : List (Tm × Tm)) : szs g (p :: st) = tSize (tS g p.1) + szs g st := by simp [szs]
theorem szs_app (g : Int → Tm) (a b : List (Tm × Tm)) : szs g (a ++ b) = szs g a + szs g b := by simp [szs]
theorem szs_zip (g : Int → Tm) : ∀ (l m : List Tm), szs g (l.zip m) ≤ tSizes (l.map (tS g))
  | [], _ => by simp [szs, tSizes]
  | _ :: _, [] => by simp [szs]
  | a :: l, b :: m => by
    have := szs_zip g l m
    rw [List.zip_cons_cons, szs_cons, List.map_cons, tSizes]
    simp only
    omega
theorem tS_node (f : Int → Tm) {t : Tm} (h : t.k ≠ 0) : tS f t = .mk t.k t.n t.s (t.l.map (tS f)) := by
  cases t with
  | mk k n b l =>
    have h' : ¬ k = 0 := h
    rw [tS, if_neg h', tSs_map]
    rfl
theorem tS_k (f : Int → Tm) {t : Tm} (h : t.k ≠ 0) : (tS f t).k = t.k := by rw [tS_node f h]; rfl
/-- Two alike at their top are made one where their parts are. -/
theorem uni_push {f : Int → Tm} {x y : Tm} (hx : x.k ≠ 0) (hy : y.k ≠ 0) (hn : x.n = y.n) (ha : alikeT x y = true) : Uni f (x.l.zip y.l) ↔ tS f x = tS f y := by
  unfold alikeT at ha
  simp only [Bool.and_eq_true, beq_iff_eq, decide_eq_true_eq] at ha
  obtain ⟨⟨hk, hs⟩, hl⟩ := ha
  rw [tS_node f hx, tS_node f hy, hk, hs, hn]
  have key : ∀ (l m : List Tm), l.length = m.length → (Uni f (l.zip m) ↔ l.map (tS f) = m.map (tS f)) := by
    intro l
    induction l with
    | nil => intro m h; cases m with
      | nil => simp [Uni]
      | cons b m => simp at h
    | cons a l ih => intro m h; cases m with
      | nil => simp at h
      | cons b m =>
        have := ih m (by simpa using h)
        rw [List.zip_cons_cons, List.map_cons, List.map_cons, List.cons.injEq, ← this]
        unfold Uni
        simp
  rw [key _ _ hl]
  constructor
  · intro h; rw [h]
  · intro h; exact (Tm.mk.inj h).2.2.2
theorem uni_clash {f : Int → Tm} {x y : Tm} (hx : x.k ≠ 0) (hy : y.k ≠ 0) (ha : alikeT x y = false) : tS f x ≠ tS f y := by
  intro h
  rw [tS_node f hx, tS_node f hy] at h
  obtain ⟨h1, _, h3, h4⟩ := Tm.mk.inj h
  have h5 : x.l.length = y.l.length := by have := congrArg List.length h4; simpa using this
  unfold alikeT at ha
  simp [h1, h3, h5] at ha
theorem any_has {n : Int} {l : List Int} : l.any (hasI n) = true ↔ n ∈ l := by
  rw [List.any_eq_true]
  constructor
  · rintro ⟨x, hx, he⟩
    unfold hasI at he
    rw [beq_iff_eq] at he
    subst he
    exact hx
  · exact fun h => ⟨n, h, by simp [hasI]⟩
theorem vars_one {t : Tm} (h : tRight t = true) (v : Int) : v ∈ tVars [t] ↔ v ∈ tV t := by
  unfold tVars
  rw [walks_mem (by simpa using h)]
  simp [tVL]

/-- A variable is bound, or it stands within. -/
theorem bind_good {Vs : List Int} (h9 : Few9 Vs) (h6 : Vs.length ≤ 6) {s : Sbt} {g : Int → Tm} {r : Int → Nat} (h : UI Vs s g r) {n : Int} {y : Tm} (hnV : n ∈ Vs) (hn : sOf s n = none) (hy : In Vs y) :
    (stpV s n y = .cyc ∧ n ∈ tV (tS g y)) ∨ (stpV s n y = .bnd n y ∧ n ∉ tV (tS g y) ∧ ∃ g' r', UI Vs (s ++ [(n, y)]) g' r' ∧ ∀ m, g' m = tS (fun v => if v = n then tS g y else vr v) (g m)) := by
  have hap : apD s deepest y = tS g y := h.si.ap deepest y hy.rt fun v _ hb => h.deep h6 v hb
  have hv := h.valT h9 hy
  have hm : ((tVars [tS g y]).any (hasI n) = true) ↔ n ∈ tV (tS g y) := any_has.trans (vars_one hv.rt n)
  unfold stpV
  rw [hap]
  by_cases hc : n ∈ tV (tS g y)
  · exact .inl ⟨if_pos (hm.2 hc), hc⟩
  · refine .inr ⟨if_neg fun h0 => hc (hm.1 h0), hc, ?_⟩
    obtain ⟨g', r', h1, h2, h3⟩ := h.si.bind h.rnk hn hy.rt hv.rt hc
    refine ⟨g', r', ⟨h1, fun m hm => ?_, fun p hp => ?_⟩, h3⟩
    · rw [List.length_append, List.length_singleton, rk]
      exact h2 m hm
    · rcases List.mem_append.1 hp with hp | hp
      · exact h.ky p hp
      · simp at hp; subst hp; exact ⟨hnV, hy⟩

theorem UGood.skip {Vs : List Int} {s : Sbt} {a b : Tm} {st : List (Tm × Tm)} (hab : ∀ f, Rs f s → tS f a = tS f b) {res : Res} (h : UGood Vs st s res) : UGood Vs ((a, b) :: st) s res := by
  have hno : (∀ f, Rs f s → ¬ Uni f st) → ∀ f, Rs f s → ¬ Uni f ((a, b) :: st) := fun h f hf hu => h f hf fun p hp => hu p (List.mem_cons_of_mem _ hp)
  cases res with
  | ok s' =>
    obtain ⟨g', r', hu, hg, hs, hf⟩ := h
    refine ⟨g', r', hu, fun p hp => ?_, hs, fun f hr hu => hf f hr fun p hp => hu p (List.mem_cons_of_mem _ hp)⟩
    rcases List.mem_cons.1 hp with rfl | hp
    · exact hab g' fun q hq => hu.si.self q (hs q hq)
    · exact hg p hp
  | cyc => exact hno h
  | clash => exact hno h
theorem UGood.push {Vs : List Int} {s : Sbt} {a b : Tm} {l st : List (Tm × Tm)} (hab : ∀ f, Rs f s → (Uni f l ↔ tS f a = tS f b)) {res : Res} (h : UGood Vs (l ++ st) s res) : UGood Vs ((a, b) :: st) s res := by
  have hin : ∀ f, Rs f s → Uni f ((a, b) :: st) → Uni f (l ++ st) := fun f hf hu p hp => by
    rcases List.mem_append.1 hp with hp | hp
    · exact (hab f hf).2 (hu (a, b) (by simp)) p hp
    · exact hu p (List.mem_cons_of_mem _ hp)
  cases res with
  | ok s' =>
    obtain ⟨g', r', hu, hg, hs, hf⟩ := h
    refine ⟨g', r', hu, fun p hp => ?_, hs, fun f hr hu => hf f hr (hin f hr hu)⟩
    rcases List.mem_cons.1 hp with rfl | hp
    · exact (hab g' fun q hq => hu.si.self q (hs q hq)).1 fun q hq => hg q (List.mem_append_left _ hq)
    · exact hg p (List.mem_append_right _ hp)
  | cyc => exact fun f hf hu => h f hf (hin f hf hu)
  | clash => exact fun f hf hu => h f hf (hin f hf hu)
theorem Rs.snoc {f : Int → Tm} {s : Sbt} {n : Int} {y : Tm} : Rs f (s ++ [(n, y)]) ↔ Rs f s ∧ f n = tS f y := by
  unfold Rs
  constructor
  · exact fun h => ⟨fun p hp => h p (List.mem_append_left _ hp), h (n, y) (by simp)⟩
  · rintro ⟨h1, h2⟩ p hp
    rcases List.mem_append.1 hp with hp | hp
    · exact h1 p hp
    · simp at hp; subst hp; exact h2
theorem UGood.bnd {Vs : List Int} {s : Sbt} {a b : Tm} {n : Int} {y : Tm} {st : List (Tm × Tm)} (hab : ∀ f, Rs f s → (f n = tS f y ↔ tS f a = tS f b)) {res : Res} (h : UGood Vs st (s ++ [(n, y)]) res) : UGood Vs ((a, b) :: st) s res := by
  have hin : ∀ f, Rs f s → Uni f ((a, b) :: st) → Rs f (s ++ [(n, y)]) ∧ Uni f st := fun f hf hu => ⟨Rs.snoc.2 ⟨hf, (hab f hf).2 (hu (a, b) (by simp))⟩, fun p hp => hu p (List.mem_cons_of_mem _ hp)⟩
  cases res with
  | ok s' =>
    obtain ⟨g', r', hu, hg, hs, hf⟩ := h
    refine ⟨g', r', hu, fun p hp => ?_, fun p hp => hs p (List.mem_append_left _ hp), fun f hr hu => hf f (hin f hr hu).1 (hin f hr hu).2⟩
    rcases List.mem_cons.1 hp with rfl | hp
    · have h1 : Rs g' (s ++ [(n, y)]) := fun q hq => hu.si.self q (hs q hq)
      exact (hab g' (Rs.snoc.1 h1).1).1 (Rs.snoc.1 h1).2
    · exact hg p hp
  | cyc => exact fun f hf hu => h f (hin f hf hu).1 (hin f hf hu).2
  | clash => exact fun f hf hu => h f (hin f hf hu).1 (hin f hf hu).2
/-- A variable that stands within. -/
theorem no_cyc {Vs : List Int} {s : Sbt} {g : Int → Tm} {r : Int → Nat} (h : UI Vs s g r) {n : Int} {y : Tm} (hy : In Vs y) (hyu : y.k = 0 → sOf s y.n = none ∧ y.n ≠ n) (hc : n ∈ tV (tS g y)) (f : Int → Tm) (hf : Rs f s) : f n ≠ tS f y := by
  intro he
  by_cases hk : y.k = 0
  · obtain ⟨e, _⟩ := hy.var hk
    obtain ⟨h1, h2⟩ := hyu hk
    rw [e, vr, tS, if_pos rfl, h.si.unb _ h1, vr, tV, if_pos rfl] at hc
    simp at hc
    exact h2 hc.symm
  · have h1 := (size_tS (f := f) (tS g y) hc).2 (by rw [tS_k g hk]; exact hk)
    rw [h.si.putT hf, ← he] at h1
    omega
theorem step_good {Vs : List Int} (h9 : Few9 Vs) (h6 : Vs.length ≤ 6) {s : Sbt} {g : Int → Tm} {r : Int → Nat} (hu : UI Vs s g r) {a b : Tm} {st : List (Tm × Tm)} (ha : In Vs a) (hb : In Vs b) (hst : ∀ p ∈ st, In Vs p.1 ∧ In Vs p.2)
    (hM : ∀ st', (∀ p ∈ st', In Vs p.1 ∧ In Vs p.2) → szs g st' < szs g ((a, b) :: st) → ∃ fuel res, uRun fuel st' s = some res ∧ UGood Vs st' s res)
    (hU : ∀ s2 g2 r2, UI Vs s2 g2 r2 → s2.length = s.length + 1 → ∃ fuel res, uRun fuel st s2 = some res ∧ UGood Vs st s2 res) :
    ∃ fuel res, uRun fuel ((a, b) :: st) s = some res ∧ UGood Vs ((a, b) :: st) s res := by
  obtain ⟨x, hx⟩ : ∃ x, topD s deepest a = x := ⟨_, rfl⟩
  obtain ⟨y, hy⟩ : ∃ y, topD s deepest b = y := ⟨_, rfl⟩
  have hsI : ∀ p ∈ s, In Vs p.2 := fun p hp => (hu.ky p hp).2
  have ix : In Vs x := hx ▸ topD_in hsI _ a ha
  have iy : In Vs y := hy ▸ topD_in hsI _ b hb
  have ux : x.k = 0 → sOf s x.n = none := hx ▸ hu.si.top deepest a ha.rt fun _ h => hu.deep h6 _ h
  have uy : y.k = 0 → sOf s y.n = none := hy ▸ hu.si.top deepest b hb.rt fun _ h => hu.deep h6 _ h
  have tx : ∀ f, Rs f s → tS f x = tS f a := fun f hf => hx ▸ top_eq hf _ a
  have ty : ∀ f, Rs f s → tS f y = tS f b := fun f hf => hy ▸ top_eq hf _ b
  have hstp : stp s a b = stpT s x y := by rw [stp, hx, hy]
  have hpos : szs g st < szs g ((a, b) :: st) := by have := tSize_pos (tS g a); rw [szs_cons]; simp only; omega
  have run : ∀ fuel, uRun (fuel + 1) ((a, b) :: st) s = match stpT s x y with
    | .skip => uRun fuel st s
    | .cyc => some .cyc
    | .bnd n y => uRun fuel st (s ++ [(n, y)])
    | .clash => some .clash
    | .push l => uRun fuel (l ++ st) s := fun fuel => by rw [uRun, hstp]
  -- a variable, and a term
  have var : ∀ (n : Int) (z : Tm), stpT s x y = stpV s n z → n ∈ Vs → sOf s n = none → In Vs z → (z.k = 0 → sOf s z.n = none ∧ z.n ≠ n) → (∀ f, Rs f s → (f n = tS f z ↔ tS f a = tS f b)) → ∃ fuel res, uRun fuel ((a, b) :: st) s = some res ∧ UGood Vs ((a, b) :: st) s res := by
    intro n z he hnV hn hz hzu hab
    rcases bind_good h9 h6 hu hnV hn hz with ⟨h1, hc⟩ | ⟨h1, hc, g', r', h2, _⟩
    · refine ⟨1, .cyc, by rw [run, he, h1], fun f hf huni => ?_⟩
      exact no_cyc hu hz hzu hc f hf ((hab f hf).2 (huni (a, b) (by simp)))
    · obtain ⟨fuel, res, h3, h4⟩ := hU _ g' r' h2 (by simp)
      exact ⟨fuel + 1, res, by rw [run, he, h1]; exact h3, h4.bnd hab⟩
  by_cases hxk : x.k = 0
  · obtain ⟨ex, hxV⟩ := ix.var hxk
    by_cases hyn : y.k = 0 ∧ x.n = y.n
    · obtain ⟨fuel, res, h3, h4⟩ := hM st hst hpos
      refine ⟨fuel + 1, res, ?_, h4.skip fun f hf => ?_⟩
      · rw [run, stpT, if_pos hxk, if_pos hyn]; exact h3
      · rw [← tx f hf, ← ty f hf, ex, (iy.var hyn.1).1, hyn.2]
    · refine var x.n y (by rw [stpT, if_pos hxk, if_neg hyn]) hxV (ux hxk) iy (fun h => ⟨uy h, fun e => hyn ⟨h, e.symm⟩⟩) fun f hf => ?_
      rw [← tx f hf, ← ty f hf]
      conv => rhs; lhs; rw [ex, vr, tS, if_pos rfl]
  · by_cases hyk : y.k = 0
    · obtain ⟨ey, hyV⟩ := iy.var hyk
      refine var y.n x (by rw [stpT, if_neg hxk, if_pos hyk]) hyV (uy hyk) ix (fun h => absurd h hxk) fun f hf => ?_
      rw [← tx f hf, ← ty f hf]
      conv => rhs; rhs; rw [ey, vr, tS, if_pos rfl]
      exact eq_comm
    · have hstp2 : stpT s x y = stpN x y := by rw [stpT, if_neg hxk, if_neg hyk]
      have hn0 : ∀ z : Tm, In Vs z → z.k ≠ 0 → z.n = 0 := fun z hz hk => by
        cases z with
        | mk k n b l => exact right_n hz.rt hk
      cases hal : alikeT x y with
      | false =>
        refine ⟨1, .clash, by rw [run, hstp2, stpN, hal]; rfl, fun f hf huni => ?_⟩
        refine uni_clash (f := f) hxk hyk hal ?_
        rw [tx f hf, ty f hf]
        exact huni (a, b) (by simp)
      | true =>
        have hparts : ∀ p ∈ x.l.zip y.l ++ st, In Vs p.1 ∧ In Vs p.2 := fun p hp => by
          rcases List.mem_append.1 hp with hp | hp
          · have h1 := List.of_mem_zip (a := p.1) (b := p.2) hp
            refine ⟨?_, ?_⟩
            · cases x with
              | mk k n c l => exact ix.parts hxk _ h1.1
            · cases y with
              | mk k n c l => exact iy.parts hyk _ h1.2
          · exact hst p hp
        have hless : szs g (x.l.zip y.l ++ st) < szs g ((a, b) :: st) := by
          have h1 := szs_zip g x.l y.l
          have h2 : tSize (tS g a) = 1 + tSizes (x.l.map (tS g)) := by rw [← tx g hu.si.self, tS_node g hxk, tSize]
          rw [szs_app, szs_cons, h2]
          omega
        obtain ⟨fuel, res, h3, h4⟩ := hM _ hparts hless
        refine ⟨fuel + 1, res, by rw [run, hstp2, stpN, hal]; exact h3, h4.push fun f hf => ?_⟩
        rw [uni_push hxk hyk ((hn0 x ix hxk).trans (hn0 y iy hyk).symm) hal, tx f hf, ty f hf]

theorem run_good {Vs : List Int} (h9 : Few9 Vs) (h6 : Vs.length ≤ 6) : ∀ (U M : Nat) (st : List (Tm × Tm)) (s : Sbt) (g : Int → Tm) (r : Int → Nat), UI Vs s g r → (∀ p ∈ st, In Vs p.1 ∧ In Vs p.2) → Vs.length ≤ s.length + U → szs g st < M →
    ∃ fuel res, uRun fuel st s = some res ∧ UGood Vs st s res := by
  have nil : ∀ (s : Sbt) (g : Int → Tm) (r : Int → Nat), UI Vs s g r → ∃ fuel res, uRun fuel [] s = some res ∧ UGood Vs [] s res := fun s g r hu =>
    ⟨1, .ok s, rfl, g, r, hu, by simp [Uni], fun p hp => hp, fun f hf _ => hf⟩
  intro U
  induction U with
  | zero =>
    intro M
    induction M with
    | zero => intro st s g r _ _ _ h; omega
    | succ M ihM =>
      intro st s g r hu hst hU hM
      cases st with
      | nil => exact nil s g r hu
      | cons p st =>
        obtain ⟨a, b⟩ := p
        have hab := hst (a, b) (by simp)
        refine step_good h9 h6 hu hab.1 hab.2 (fun p hp => hst p (List.mem_cons_of_mem _ hp)) (fun st' h1 h2 => ihM st' s g r hu h1 hU (by omega)) (fun s2 g2 r2 h1 h2 => ?_)
        have := h1.len
        omega
  | succ U ihU =>
    intro M
    induction M with
    | zero => intro st s g r _ _ _ h; omega
    | succ M ihM =>
      intro st s g r hu hst hU hM
      cases st with
      | nil => exact nil s g r hu
      | cons p st =>
        obtain ⟨a, b⟩ := p
        have hab := hst (a, b) (by simp)
        exact step_good h9 h6 hu hab.1 hab.2 (fun p hp => hst p (List.mem_cons_of_mem _ hp)) (fun st' h1 h2 => ihM st' s g r hu h1 hU (by omega)) (fun s2 g2 r2 h1 h2 => ihU _ st s2 g2 r2 h1 (fun p hp => hst p (List.mem_cons_of_mem _ hp)) (by omega) (Nat.lt_succ_self _))
theorem UI.nil (Vs : List Int) : UI Vs [] vr (fun _ => 0) :=
  ⟨⟨by simp, by simp, fun _ _ => rfl, fun m x h => by simp [sOf] at h, fun m v _ => by simp [sOf], fun m x h => by simp [sOf] at h⟩, fun m h => absurd (by simp [sOf]) h, by simp⟩
theorem Rs.nil (f : Int → Tm) : Rs f [] := by simp [Rs]
/-- Two terms made one. -/
theorem unify_good {Vs : List Int} (h9 : Few9 Vs) (h6 : Vs.length ≤ 6) {a b : Tm} (ha : In Vs a) (hb : In Vs b) : ∃ fuel res, uRun fuel [(a, b)] [] = some res ∧ UGood Vs [(a, b)] [] res :=
  run_good h9 h6 Vs.length _ _ [] vr _ (UI.nil Vs) (fun p hp => by simp at hp; subst hp; exact ⟨ha, hb⟩) (by simp) (Nat.lt_succ_self _)
end Go.Proofs.YtnonfmaehfmigaaGreatDoor

/- Terms made one: what stands from step to step, so that nothing grows too long. No program in sight. -/
namespace Go.Proofs.YtnonfmaehfmigaaGreatDoor
open Go.RowKit

def d0 : Nat := 121
def DM : Nat → Nat
  | 0 => 1
  | j + 1 => 2 * DM j + d0
def LM : Nat → Nat
  | 0 => d0
  | j + 1 => LM j + d0 + DM j
theorem LM_mono : ∀ {i j : Nat}, i ≤ j → LM i ≤ LM j := by
  intro i j h
  induction h with
  | refl => exact Nat.le_refl _
  | step _ ih => rw [LM]; omega
theorem dep_le_size (t : Tm) : tDep t ≤ tSize t := by
  induction t using Tm.ind_ with
  | h k n s l ih =>
    rw [tDep, tSize]
    have : tDeps l ≤ tSizes l := tDeps_le fun a ha => Nat.le_trans (ih a ha) (tSizes_mem ha)
    omega
theorem dep_part {t a : Tm} (h : a ∈ t.l) : tDep a + 1 ≤ tDep t := by
  cases t with
  | mk k n s l =>
    have := tDeps_mem (show a ∈ l from h)
    rw [tDep]
    omega
/-- Rows of numbers that rise, none more than eight times. -/
theorem count_len : ∀ (M : Nat) (ls : List Nat), (∀ x ∈ ls, x ≤ M) → (∀ x, ls.count x ≤ 8) → ls.length ≤ 8 * (M + 1)
  | 0, ls, h, hc => by
    have : ls.count 0 = ls.length := List.count_eq_length.2 fun x hx => by have := h x hx; omega
    have := hc 0
    omega
  | M + 1, ls, h, hc => by
    have h1 := count_len M (ls.filter fun x => decide (x ≤ M)) (fun x hx => by simpa using (List.mem_filter.1 hx).2) (fun x => Nat.le_trans (List.Sublist.count_le x List.filter_sublist) (hc x))
    have h2 : ls.length = (ls.filter fun x => decide (x ≤ M)).length + ls.count (M + 1) := by
      clear h1 hc
      induction ls with
      | nil => rfl
      | cons a ls ih =>
        have ih := ih fun x hx => h x (by simp [hx])
        have ha := h a (by simp)
        by_cases hm : a ≤ M
        · rw [List.filter_cons_of_pos (by simpa using hm), List.count_cons_of_ne (by omega)]
          simp only [List.length_cons]
          omega
        · have : a = M + 1 := by omega
          subst this
          rw [List.filter_cons_of_neg (by simp), List.count_cons_self]
          simp only [List.length_cons]
          omega
    have := hc (M + 1)
    omega

structure UV (Vs : List Int) (st : List (Tm × Tm)) (s : Sbt) (g : Int → Tm) (r : Int → Nat) (ls : List Nat) : Prop where
  ui : UI Vs s g r
  sin : ∀ p ∈ st, In Vs p.1 ∧ In Vs p.2
  len : ls.length = st.length
  lab : ∀ (i : Nat) p x, st[i]? = some p → ls[i]? = some x → tDep (tS g p.1) ≤ x
  srt : ls.Pairwise (· ≤ ·)
  cnt : ∀ x, ls.count x ≤ 8
  top : ∀ x ∈ ls, x ≤ LM s.length
  dep : ∀ m, tDep (g m) ≤ DM s.length
  sd : ∀ p ∈ s, tDep p.2 ≤ d0
  td : ∀ p ∈ st, tDep p.1 ≤ d0 ∧ tDep p.2 ≤ d0
/-- What stands while two terms are made one. -/
def UW (Vs : List Int) (st : List (Tm × Tm)) (s : Sbt) : Prop := ∃ g r ls, UV Vs st s g r ls
theorem UW.short {Vs : List Int} (h6 : Vs.length ≤ 6) {st : List (Tm × Tm)} {s : Sbt} (h : UW Vs st s) : st.length ≤ 1000000 ∧ s.length ≤ 6 := by
  obtain ⟨g, r, ls, h⟩ := h
  have h1 := Nat.le_trans h.ui.len h6
  refine ⟨?_, h1⟩
  have h2 := count_len (LM s.length) ls h.top h.cnt
  have h3 := LM_mono h1
  have h4 : LM 6 = 7807 := rfl
  rw [← h.len]
  omega
theorem UW.start {Vs : List Int} {a b : Tm} (ha : In Vs a) (hb : In Vs b) (za : tDep a ≤ d0) (zb : tDep b ≤ d0) : UW Vs [(a, b)] [] := by
  refine ⟨vr, _, [d0], UI.nil Vs, fun p hp => ?_, rfl, fun i p x h1 h2 => ?_, by simp, fun x => ?_, by simp [LM], fun m => ?_, by simp, fun p hp => ?_⟩
  · simp at hp; subst hp; exact ⟨ha, hb⟩
  · cases i with
    | zero => simp at h1 h2; subst h1 h2; rw [tS_vr a ha.rt]; exact za
    | succ i => simp at h1
  · rw [List.count_cons]; simp; split <;> omega
  · rw [vr, tDep, tDeps]; simp [DM]
  · simp at hp; subst hp; exact ⟨za, zb⟩
theorem UW.skip {Vs : List Int} {p : Tm × Tm} {st : List (Tm × Tm)} {s : Sbt} (h : UW Vs (p :: st) s) : UW Vs st s := by
  obtain ⟨g, r, ls, h⟩ := h
  cases ls with
  | nil => have := h.len; simp at this
  | cons x ls =>
    refine ⟨g, r, ls, h.ui, fun q hq => h.sin q (List.mem_cons_of_mem _ hq), by simpa using h.len, fun i q x h1 h2 => h.lab (i + 1) q x (by simpa using h1) (by simpa using h2), (List.pairwise_cons.1 h.srt).2, fun y => Nat.le_trans ?_ (h.cnt y), fun y hy => h.top y (List.mem_cons_of_mem _ hy), h.dep, h.sd, fun q hq => h.td q (List.mem_cons_of_mem _ hq)⟩
    rw [List.count_cons]
    omega
/-- Both at their top. -/
theorem UW.tops {Vs : List Int} (h6 : Vs.length ≤ 6) {a b : Tm} {st : List (Tm × Tm)} {s : Sbt} (h : UW Vs ((a, b) :: st) s) :
    (∀ t, t = a ∨ t = b → In Vs t ∧ In Vs (topD s deepest t) ∧ tDep (topD s deepest t) ≤ d0 ∧ ((topD s deepest t).k = 0 → sOf s (topD s deepest t).n = none)) := by
  obtain ⟨g, r, ls, h⟩ := h
  intro t ht
  have h1 : In Vs t ∧ tDep t ≤ d0 := by
    rcases ht with rfl | rfl
    · exact ⟨(h.sin (t, b) (by simp)).1, (h.td (t, b) (by simp)).1⟩
    · exact ⟨(h.sin (a, t) (by simp)).2, (h.td (a, t) (by simp)).2⟩
  have hd : ∀ (d : Nat) (t : Tm), tDep t ≤ d0 → tDep (topD s d t) ≤ d0 := by
    intro d
    induction d with
    | zero => intro t h; exact h
    | succ d ih =>
      intro t h'
      rw [topD]
      split
      · cases ho : sOf s t.n with
        | none => exact h'
        | some x => exact ih x (h.sd _ (sOf_mem ho))
      · exact h'
  exact ⟨h1.1, topD_in (fun p hp => (h.ui.ky p hp).2) _ t h1.1, hd _ t h1.2, h.ui.si.top deepest t h1.1.rt fun _ hb => h.ui.deep h6 _ hb⟩
theorem UW.sWid {Vs : List Int} {st : List (Tm × Tm)} {s : Sbt} (h : UW Vs st s) : ∀ p ∈ s, tRight p.2 = true := by
  obtain ⟨g, r, ls, h⟩ := h
  exact fun p hp => (h.ui.ky p hp).2.rt
/-- The variables of what is put in are few. -/
theorem UW.few {Vs : List Int} (h9 : Few9 Vs) (h6 : Vs.length ≤ 6) {st : List (Tm × Tm)} {s : Sbt} (h : UW Vs st s) {y : Tm} (hy : In Vs y) : (tVars [apD s deepest y]).length ≤ 1000000 := by
  obtain ⟨g, r, ls, h⟩ := h
  have hap : apD s deepest y = tS g y := h.ui.si.ap deepest y hy.rt fun v _ hb => h.ui.deep h6 v hb
  rw [hap]
  have hv := h.ui.valT h9 hy
  have h1 : (tVars [tS g y]).Nodup := walks_nodup [] _ (by simp)
  have h2 := nodup_len (m := Vs) h1 fun a ha => hv.vs a ((vars_one hv.rt a).1 ha)
  omega
/-- A variable is bound. -/
theorem UW.bind {Vs : List Int} (h9 : Few9 Vs) (h6 : Vs.length ≤ 6) {p : Tm × Tm} {st : List (Tm × Tm)} {s : Sbt} (h : UW Vs (p :: st) s) {n : Int} {y : Tm} (hnV : n ∈ Vs) (hn : sOf s n = none) (hy : In Vs y) (hyd : tDep y ≤ d0) (hst : stpV s n y = .bnd n y) : UW Vs st (s ++ [(n, y)]) := by
  obtain ⟨g, r, ls, h⟩ := h.skip
  rcases bind_good h9 h6 h.ui hnV hn hy with ⟨h1, _⟩ | ⟨_, _, g', r', h2, hg'⟩
  · rw [hst] at h1; cases h1
  · have hsy : tDep (tS g y) ≤ d0 + DM s.length := by
      have := dep_tS (f := g) (d := DM s.length) y (fun v _ => Nat.le_succ_of_le (h.dep v))
      omega
    have hσ : ∀ t, tDep (tS (fun v => if v = n then tS g y else vr v) t) ≤ tDep t + (d0 + DM s.length) := fun t => dep_tS t fun v _ => by
      show tDep (if v = n then tS g y else vr v) ≤ _
      split
      · omega
      · rw [vr, tDep, tDeps]; omega
    have hgS : ∀ t, tS g' t = tS (fun v => if v = n then tS g y else vr v) (tS g t) := fun t => by
      rw [tS_comp]
      exact tS_congr t fun v _ => hg' v
    refine ⟨g', r', ls.map (· + (d0 + DM s.length)), h2, h.sin, by simpa using h.len, fun i q x hq hx => ?_, ?_, fun x => ?_, fun x hx => ?_, fun m => ?_, fun q hq => ?_, h.td⟩
    · rw [List.getElem?_map] at hx
      cases hl : ls[i]? with
      | none => rw [hl] at hx; cases hx
      | some z =>
        rw [hl] at hx
        simp only [Option.map_some, Option.some.injEq] at hx
        have h3 := h.lab i q z hq hl
        have h4 := hσ (tS g q.1)
        rw [hgS]
        omega
    · exact List.Pairwise.map _ (fun a b hab => by omega) h.srt
    · by_cases hx : ∃ z, z + (d0 + DM s.length) = x
      · obtain ⟨z, rfl⟩ := hx
        have : (ls.map (· + (d0 + DM s.length))).count (z + (d0 + DM s.length)) = ls.count z := by
          have hp := List.countP_map (p := fun q => q == z + (d0 + DM s.length)) (f := (· + (d0 + DM s.length))) (l := ls)
          rw [List.count, hp, List.count]
          congr 1
          funext q
          show (q + _ == z + _) = (q == z)
          rw [Bool.eq_iff_iff, beq_iff_eq, beq_iff_eq]
          omega
        rw [this]
        exact h.cnt z
      · rw [List.count_eq_zero_of_not_mem fun hm => ?_]
        · omega
        · obtain ⟨z, _, hz⟩ := List.mem_map.1 hm
          exact hx ⟨z, hz⟩
    · obtain ⟨z, hz, rfl⟩ := List.mem_map.1 hx
      have := h.top z hz
      rw [List.length_append, List.length_singleton, LM]
      omega
    · have h3 := hσ (g m)
      have h4 := h.dep m
      rw [hg' m, List.length_append, List.length_singleton, DM]
      omega
    · rcases List.mem_append.1 hq with hq | hq
      · exact h.sd q hq
      · simp at hq; subst hq; exact hyd
/-- The parts come instead. -/
theorem UW.push {Vs : List Int} (h6 : Vs.length ≤ 6) {a b : Tm} {st : List (Tm × Tm)} {s : Sbt} (h : UW Vs ((a, b) :: st) s) (hx : (topD s deepest a).k ≠ 0) (hy : (topD s deepest b).k ≠ 0) : UW Vs ((topD s deepest a).l.zip (topD s deepest b).l ++ st) s := by
  have hta := h.tops h6 a (.inl rfl)
  have htb := h.tops h6 b (.inr rfl)
  obtain ⟨g, r, ls, h⟩ := h
  cases ls with
  | nil => have := h.len; simp at this
  | cons z ls =>
    obtain ⟨x, hxe⟩ : ∃ x, topD s deepest a = x := ⟨_, rfl⟩
    obtain ⟨y, hye⟩ : ∃ y, topD s deepest b = y := ⟨_, rfl⟩
    have hz : tDep (tS g a) ≤ z := h.lab 0 (a, b) z rfl rfl
    rw [← top_eq h.ui.si.self deepest a, hxe] at hz
    rw [hxe] at hx hta
    rw [hye] at hy htb
    rw [hxe, hye]
    have hpart : ∀ p ∈ x.l.zip y.l, p.1 ∈ x.l ∧ p.2 ∈ y.l := fun p hp => List.of_mem_zip (a := p.1) (b := p.2) hp
    have hlen8 : (x.l.zip y.l).length ≤ 8 := by
      have : x.l.length ≤ 8 := by
        cases x with
        | mk k n c l => exact right_len hta.2.1.rt
      rw [List.length_zip]
      omega
    have hdep : ∀ c ∈ x.l, tDep (tS g c) + 1 ≤ z := fun c hc => by
      have : tS g c ∈ (tS g x).l := by rw [tS_node g hx]; exact List.mem_map_of_mem hc
      have := dep_part this
      omega
    have hsrt := List.pairwise_cons.1 h.srt
    refine ⟨g, r, List.replicate (x.l.zip y.l).length (z - 1) ++ ls, h.ui, fun p hp => ?_, by have := h.len; simp only [List.length_cons, List.length_append, List.length_replicate] at this ⊢; omega, fun i p w hp hw => ?_, ?_, fun w => ?_, fun w hw => ?_, h.dep, h.sd, fun p hp => ?_⟩
    · rcases List.mem_append.1 hp with hp | hp
      · have h1 := hpart p hp
        refine ⟨?_, ?_⟩
        · cases x with
          | mk k n c l => exact hta.2.1.parts hx _ h1.1
        · cases y with
          | mk k n c l => exact htb.2.1.parts hy _ h1.2
      · exact h.sin p (List.mem_cons_of_mem _ hp)
    · by_cases hi : i < (x.l.zip y.l).length
      · rw [List.getElem?_append_left hi] at hp
        rw [List.getElem?_append_left (by simpa using hi), List.getElem?_replicate] at hw
        rw [if_pos hi] at hw
        simp only [Option.some.injEq] at hw
        have h1 := hdep p.1 (hpart p (List.mem_of_getElem? hp)).1
        omega
      · rw [List.getElem?_append_right (by omega)] at hp
        rw [List.getElem?_append_right (by simp only [List.length_replicate]; omega), List.length_replicate] at hw
        exact h.lab (i - (x.l.zip y.l).length + 1) p w (by simpa using hp) (by simpa using hw)
    · refine List.pairwise_append.2 ⟨List.pairwise_replicate.2 (.inr (Nat.le_refl _)), hsrt.2, fun p hp q hq => ?_⟩
      have := List.eq_of_mem_replicate hp
      have := hsrt.1 q hq
      omega
    · rw [List.count_append, List.count_replicate]
      have h1 := h.cnt w
      rw [List.count_cons] at h1
      split
      · rename_i he
        have he : z - 1 = w := by simpa using he
        by_cases hz0 : x.l = []
        · rw [hz0]
          simp only [List.zip_nil_left, List.length_nil]
          omega
        · obtain ⟨c, hc⟩ := List.exists_mem_of_ne_nil _ hz0
          have h2 := hdep c hc
          have h3 := tDep_pos (tS g c)
          rw [List.count_eq_zero_of_not_mem fun hm => ?_]
          · omega
          · have := hsrt.1 w hm
            omega
      · omega
    · rcases List.mem_append.1 hw with hw | hw
      · have := List.eq_of_mem_replicate hw
        have := h.top z (by simp)
        omega
      · exact h.top w (List.mem_cons_of_mem _ hw)
    · rcases List.mem_append.1 hp with hp | hp
      · have h1 := hpart p hp
        have h2 := dep_part h1.1
        have h3 := dep_part h1.2
        have := hta.2.2.1
        have := htb.2.2.1
        exact ⟨by omega, by omega⟩
      · exact h.td p (List.mem_cons_of_mem _ hp)

/-! ### What is told in the end -/
def insK (l : Sbt) (p : Int × Tm) : Sbt := l.takeWhile (fun q => decide (q.1 ≤ p.1)) ++ p :: l.dropWhile (fun q => decide (q.1 ≤ p.1))
def solvedT (s : Sbt) : Sbt := (s.map fun p => (p.1, apD s deepest p.2)).foldl insK []
end Go.Proofs.YtnonfmaehfmigaaGreatDoor

/- What is bound, in memory. No function in sight. -/
namespace Go.Proofs.YtnonfmaehfmigaaGreatDoor
open Go.RowKit

/-- A Pair's five cells. -/
def pvE (x : Int × TV) : List Value := [.int .i64 x.1, .int .i64 x.2.k, .int .i64 x.2.n, .string x.2.s, .slice x.2.A x.2.len x.2.c]
theorem pvE_len (x : Int × TV) : (pvE x).length = 5 := rfl
theorem pvE_one (l : List (Int × TV)) : ∀ u ∈ l.flatMap pvE, u.oneCell' = true := by
  intro u hu
  obtain ⟨x, _, hx⟩ := List.mem_flatMap.1 hu
  simp only [pvE, List.mem_cons, List.not_mem_nil, or_false] at hx
  rcases hx with rfl | rfl | rfl | rfl | rfl <;> rfl
/-- A row of pairs; their terms' parts lie in blocks of the kind S. -/
structure Prs (w : World) (S : Nat → Prop) (s : Sbt) (ps : List (Int × TV)) : Prop where
  len : ps.length = s.length
  at_ : ∀ (j : Nat) p v, s[j]? = some p → ps[j]? = some v → v.1 = p.1 ∧ Tr w S p.2 v.2
theorem Prs.keepL {w w' : World} {S : Nat → Prop} {L : List Nat} (k : Keeps w w' L) (hL : ∀ b ∈ L, ¬ S b) {s : Sbt} {ps : List (Int × TV)} (h : Prs w S s ps) : Prs w' S s ps :=
  ⟨h.len, fun j p v a b => ⟨(h.at_ j p v a b).1, (h.at_ j p v a b).2.keepL k hL⟩⟩
theorem Prs.keep {w w' : World} {S : Nat → Prop} {s : Sbt} {ps : List (Int × TV)} (h : Prs w S s ps) (k : Keeps w w' []) : Prs w' S s ps := h.keepL k (by simp)
theorem Prs.mono {w : World} {S S' : Nat → Prop} (hS : ∀ b, S b → S' b) {s : Sbt} {ps : List (Int × TV)} (h : Prs w S s ps) : Prs w S' s ps := ⟨h.len, fun j p v a b => ⟨(h.at_ j p v a b).1, (h.at_ j p v a b).2.mono hS⟩⟩
theorem Prs.here {w : World} {S : Nat → Prop} {s : Sbt} {ps : List (Int × TV)} (h : Prs w S s ps) : Prs w (fun b => S b ∧ b < w.heap.size) s ps := ⟨h.len, fun j p v a b => ⟨(h.at_ j p v a b).1, (h.at_ j p v a b).2.here⟩⟩
theorem Prs.nil {w : World} {S : Nat → Prop} : Prs w S [] [] := ⟨rfl, fun j p v h => by simp at h⟩
theorem Prs.snoc {w : World} {S : Nat → Prop} {s : Sbt} {ps : List (Int × TV)} (h : Prs w S s ps) {n : Int} {t : Tm} {v : TV} (ht : Tr w S t v) : Prs w S (s ++ [(n, t)]) (ps ++ [(n, v)]) := by
  refine ⟨by simp [h.len], fun j p x h1 h2 => ?_⟩
  by_cases hj : j < s.length
  · rw [List.getElem?_append_left hj] at h1
    rw [List.getElem?_append_left (by rw [h.len]; exact hj)] at h2
    exact h.at_ j p x h1 h2
  · rw [List.getElem?_append_right (by omega)] at h1
    rw [List.getElem?_append_right (by rw [h.len]; omega), h.len] at h2
    cases hj' : j - s.length with
    | zero =>
      rw [hj'] at h1 h2
      simp at h1 h2
      subst h1 h2
      exact ⟨rfl, ht⟩
    | succ q =>
      rw [hj'] at h1
      simp at h1
/-- The pair in a place, with its cells. -/
theorem Prs.get {w : World} {S : Nat → Prop} {s : Sbt} {ps : List (Int × TV)} (h : Prs w S s ps) {A : Option Addr} (hR : Rd w A (ps.flatMap pvE)) {j : Nat} {n : Int} {t : Tm} (hj : s[j]? = some (n, t)) :
    ∃ v b off, ps[j]? = some (n, v) ∧ Tr w S t v ∧ A = some ⟨b, off, none⟩ ∧ b < w.heap.size ∧ w.cell? ⟨b, off + j * 5, none⟩ = some (.int .i64 n) ∧ w.cell? ⟨b, off + j * 5 + 1, none⟩ = some (.int .i64 v.k) ∧ w.cell? ⟨b, off + j * 5 + 2, none⟩ = some (.int .i64 v.n) ∧ w.cell? ⟨b, off + j * 5 + 3, none⟩ = some (.string v.s) ∧ w.cell? ⟨b, off + j * 5 + 4, none⟩ = some (.slice v.A v.len v.c) := by
  have hlt : j < ps.length := by rw [h.len]; exact (List.getElem?_eq_some_iff.1 hj).1
  have hv : ps[j]? = some ps[j] := List.getElem?_eq_getElem hlt
  obtain ⟨b, off, e, hb, hf⟩ := hR.field pvE_len hv (by omega)
  have h2 := h.at_ j _ _ hj hv
  refine ⟨ps[j].2, b, off, ?_, h2.2, e, hb, ?_, hf 1 _ rfl, hf 2 _ rfl, hf 3 _ rfl, hf 4 _ rfl⟩
  · have h3 : ps[j].1 = n := h2.1
    rw [hv, ← h3]
  · have := hf 0 _ rfl
    rw [show ps[j].1 = n from h2.1] at this
    exact this
/-- A Subst in memory: what it is, where its row lies. -/
structure Sub (w : World) (S : Nat → Prop) (s : Sbt) (A : Option Addr) : Prop where
  ex : ∃ ps, Prs w S s ps ∧ Rd w A (ps.flatMap pvE)
theorem Sub.keep {w w' : World} {S : Nat → Prop} {s : Sbt} {A : Option Addr} (h : Sub w S s A) (k : Keeps w w' []) : Sub w' S s A := by
  obtain ⟨ps, h1, h2⟩ := h.ex
  exact ⟨ps, h1.keep k, h2.keep k⟩
theorem Sub.here {w : World} {S : Nat → Prop} {s : Sbt} {A : Option Addr} (h : Sub w S s A) : Sub w (fun b => S b ∧ b < w.heap.size) s A := by
  obtain ⟨ps, h1, h2⟩ := h.ex
  exact ⟨ps, h1.here, h2⟩
theorem Sub.mono {w : World} {S S' : Nat → Prop} (hS : ∀ b, S b → S' b) {s : Sbt} {A : Option Addr} (h : Sub w S s A) : Sub w S' s A := by
  obtain ⟨ps, h1, h2⟩ := h.ex
  exact ⟨ps, h1.mono hS, h2⟩
theorem Sub.get {w : World} {S : Nat → Prop} {s : Sbt} {A : Option Addr} (h : Sub w S s A) {j : Nat} {n : Int} {t : Tm} (hj : s[j]? = some (n, t)) :
    ∃ v b off, Tr w S t v ∧ A = some ⟨b, off, none⟩ ∧ b < w.heap.size ∧ w.cell? ⟨b, off + j * 5, none⟩ = some (.int .i64 n) ∧ w.cell? ⟨b, off + j * 5 + 1, none⟩ = some (.int .i64 v.k) ∧ w.cell? ⟨b, off + j * 5 + 2, none⟩ = some (.int .i64 v.n) ∧ w.cell? ⟨b, off + j * 5 + 3, none⟩ = some (.string v.s) ∧ w.cell? ⟨b, off + j * 5 + 4, none⟩ = some (.slice v.A v.len v.c) := by
  obtain ⟨ps, h1, h2⟩ := h.ex
  obtain ⟨v, b, off, _, h3⟩ := h1.get h2 hj
  exact ⟨v, b, off, h3⟩
/-- A term, of old blocks or new ones. -/
def ApDone (S : Nat → Prop) (w : World) (t : Tm) (e : Ending) (w' : World) : Prop := ∃ v, e = .returned (tvV v) ∧ Tr w' (fun b => S b ∨ w.heap.size ≤ b) t v ∧ Keeps w w' []
/-- Where a number's pair stands. -/
theorem sOf_at {s : Sbt} {n : Int} : ∀ {j : Nat}, (∀ p ∈ s.take j, p.1 ≠ n) → ∀ {t : Tm}, s[j]? = some (n, t) → sOf s n = some t := by
  induction s with
  | nil => intro j _ t h; simp at h
  | cons p s ih =>
    intro j h t hj
    cases j with
    | zero =>
      simp at hj
      subst hj
      unfold sOf
      simp
    | succ j =>
      have h1 : p.1 ≠ n := h p (by simp)
      have h2 := ih (j := j) (fun q hq => h q (by simp [hq])) (t := t) (by simpa using hj)
      unfold sOf at h2 ⊢
      rw [List.find?_cons, show (p.1 == n) = false by simpa using h1]
      exact h2
end Go.Proofs.YtnonfmaehfmigaaGreatDoor

/- What stands for a variable: the program's of, the document's Of. -/
namespace Go.Proofs.YtnonfmaehfmigaaGreatDoor
open Go.RowKit

/-- What of tells. -/
def OfDone (S : Nat → Prop) (w : World) (o : Option Tm) (e : Ending) (w' : World) : Prop := Keeps w w' [] ∧ ((e = .returned (.tuple #[.agg #[.int .i64 0, .int .i64 0, .string ⟨#[]⟩, .slice none 0 0], .bool false]) ∧ o = none) ∨ ∃ t v, e = .returned (.tuple #[.agg #[.int .i64 v.k, .int .i64 v.n, .string v.s, .slice v.A v.len v.c], .bool true]) ∧ o = some t ∧ Tr w' S t v)
end Go.Proofs.YtnonfmaehfmigaaGreatDoor
