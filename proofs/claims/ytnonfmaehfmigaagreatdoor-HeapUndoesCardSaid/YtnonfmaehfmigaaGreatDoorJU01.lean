/- Terms as cells: the plain law of what Build lays. No program in sight. -/
import Derived.Test.YtnonfmaehfmigaaGreatDoorMgRenLaw
import Derived.Test.YtnonfmaehfmigaaGreatDoorAreaC
import Derived.Test.YtnonfmaehfmigaaGreatDoorCell
import Derived.Maps.OwnSet
import Derived.Test.YtnonfmaehfmigaaGreatDoorTmText
import Derived.Test.YtnonfmaehfmigaaGreatDoorText
import Derived.Shelf.Spec.SlicesInsertGrow
import Derived.Test.YtnonfmaehfmigaaGreatDoorAreaB
import Derived.Test.YtnonfmaehfmigaaGreatDoorText6
import Derived.Shelf.SlMaps.Clone
import Derived.Test.YtnonfmaehfmigaaGreatDoorTmRightP
namespace Go.Proofs.YtnonfmaehfmigaaGreatDoor

/-- A heap, as numbers. -/
structure PH where
  cells : List Int
  atoms : List ByteArray
  funs : List (ByteArray × Int)
  vars : Int → Option Int
/-- A thing's number, to which it comes, if it isn't there. -/
def numL {α : Type} [DecidableEq α] (l : List α) (x : α) : List α := if x ∈ l then l else l ++ [x]
def numI {α : Type} [DecidableEq α] (l : List α) (x : α) : Nat := if x ∈ l then l.idxOf x else l.length
theorem numL_at {α : Type} [DecidableEq α] (l : List α) (x : α) : (numL l x)[numI l x]? = some x := by
  unfold numL numI
  by_cases h : x ∈ l
  · rw [if_pos h, if_pos h]
    have h1 := List.idxOf_lt_length_iff.2 h
    rw [List.getElem?_eq_getElem h1, List.getElem_idxOf]
  · rw [if_neg h, if_neg h]
    simp
theorem numL_pre {α : Type} [DecidableEq α] (l : List α) (x : α) : l <+: numL l x := by
  unfold numL
  split
  · exact List.prefix_refl _
  · exact List.prefix_append _ _
theorem numL_len {α : Type} [DecidableEq α] (l : List α) (x : α) : (numL l x).length ≤ l.length + 1 := by
  unfold numL
  split
  · omega
  · simp
theorem numI_lt {α : Type} [DecidableEq α] (l : List α) (x : α) : numI l x < (numL l x).length := (List.getElem?_eq_some_iff.1 (numL_at l x)).1
def putV (f : Int → Option Int) (n p : Int) : Int → Option Int := fun m => if m = n then some p else f m
def layV (H : PH) (n : Int) : PH × Int := match H.vars n with
  | some p => (H, p * 8)
  | none => ({ H with cells := H.cells ++ [(H.cells.length : Int) * 8], vars := putV H.vars n H.cells.length }, (H.cells.length : Int) * 8)
mutual
def lay : PH → Tm → PH × Int
  | H, .mk k n s l =>
    if k = 0 then layV H n
    else if k = 1 then ({ H with atoms := numL H.atoms s }, (numI H.atoms s : Int) * 8 + 2)
    else
      let r := lays H l
      if k = 2 then ({ r.1 with funs := numL r.1.funs (s, (l.length : Int)), cells := r.1.cells ++ ((numI r.1.funs (s, (l.length : Int)) : Int) * 8 + 4) :: r.2 }, (r.1.cells.length : Int) * 8 + 1)
      else ({ r.1 with cells := r.1.cells ++ r.2 }, (r.1.cells.length : Int) * 8 + 3)
def lays : PH → List Tm → PH × List Int
  | H, [] => (H, [])
  | H, a :: l =>
    let r := lay H a
    let q := lays r.1 l
    (q.1, r.2 :: q.2)
end
theorem lays_len : ∀ (H : PH) (l : List Tm), (lays H l).2.length = l.length
  | H, [] => by rw [lays]; rfl
  | H, a :: l => by rw [lays]; simp only [List.length_cons, lays_len _ l]
theorem lays_snoc : ∀ (H : PH) (l : List Tm) (a : Tm), lays H (l ++ [a]) = ((lay (lays H l).1 a).1, (lays H l).2 ++ [(lay (lays H l).1 a).2])
  | H, [], a => by rw [List.nil_append, lays, lays, lays]; rfl
  | H, b :: l, a => by rw [List.cons_append, lays, lays_snoc _ l a, lays]; rfl
/-- More of all. -/
structure PH.le (H H' : PH) : Prop where
  cells : H.cells <+: H'.cells
  atoms : H.atoms <+: H'.atoms
  funs : H.funs <+: H'.funs
  vars : ∀ n p, H.vars n = some p → H'.vars n = some p
theorem PH.le.refl (H : PH) : H.le H := ⟨List.prefix_refl _, List.prefix_refl _, List.prefix_refl _, fun _ _ h => h⟩
theorem PH.le.trans {A B C : PH} (h : A.le B) (k : B.le C) : A.le C := ⟨h.cells.trans k.cells, h.atoms.trans k.atoms, h.funs.trans k.funs, fun n p e => k.vars n p (h.vars n p e)⟩
theorem pre_at {α : Type} {l m : List α} (h : l <+: m) {i : Nat} {x : α} (hx : l[i]? = some x) : m[i]? = some x := by
  obtain ⟨t, rfl⟩ := h
  rw [List.getElem?_append_left (List.getElem?_eq_some_iff.1 hx).1]
  exact hx
/-- What a cell means. -/
inductive Rp (H : PH) : Int → Tm → Prop
  | var (p : Nat) (h : H.cells[p]? = some ((p : Int) * 8)) : Rp H ((p : Int) * 8) (vr p)
  | con (i : Nat) (s : ByteArray) (h : H.atoms[i]? = some s) : Rp H ((i : Int) * 8 + 2) (.mk 1 0 s [])
  | lis (p : Nat) (l : List Tm) (cs : List Int) (hl : l.length = 2) (hcs : cs.length = l.length) (ha : ∀ (j : Nat) c, cs[j]? = some c → H.cells[p + j]? = some c) (h : ∀ (j : Nat) t c, l[j]? = some t → cs[j]? = some c → Rp H c t) : Rp H ((p : Int) * 8 + 3) (.mk 3 0 ⟨#[]⟩ l)
  | str (p i : Nat) (s : ByteArray) (l : List Tm) (cs : List Int) (hl : l ≠ []) (hf : H.cells[p]? = some ((i : Int) * 8 + 4)) (hi : H.funs[i]? = some (s, (l.length : Int))) (hcs : cs.length = l.length) (ha : ∀ (j : Nat) c, cs[j]? = some c → H.cells[p + 1 + j]? = some c) (h : ∀ (j : Nat) t c, l[j]? = some t → cs[j]? = some c → Rp H c t) : Rp H ((p : Int) * 8 + 1) (.mk 2 0 s l)
theorem Rp.mono {H H' : PH} (hle : H.le H') {c : Int} {t : Tm} (h : Rp H c t) : Rp H' c t := by
  induction h with
  | var p h => exact .var p (pre_at hle.cells h)
  | con i s h => exact .con i s (pre_at hle.atoms h)
  | lis p l cs hl hcs ha h ih => exact .lis p l cs hl hcs (fun j c hc => pre_at hle.cells (ha j c hc)) ih
  | str p i s l cs hl hf hi hcs ha h ih => exact .str p i s l cs hl (pre_at hle.cells hf) (pre_at hle.funs hi) hcs (fun j c hc => pre_at hle.cells (ha j c hc)) ih
/-- Variables have places of their own. -/
structure VI (H : PH) : Prop where
  at_ : ∀ n p, H.vars n = some p → ∃ q : Nat, p = q ∧ H.cells[q]? = some ((q : Int) * 8)
  inj : ∀ n m p, H.vars n = some p → H.vars m = some p → n = m
/-- A variable's place. -/
def plc (H : PH) (n : Int) : Int := (H.vars n).getD 0
theorem layV_ok {H : PH} (v : VI H) (n : Int) : H.le (layV H n).1 ∧ VI (layV H n).1 ∧ Rp (layV H n).1 (layV H n).2 (vr (plc (layV H n).1 n)) ∧ (layV H n).1.vars n ≠ none := by
  unfold layV
  cases hv : H.vars n with
  | some p =>
    obtain ⟨q, rfl, hq⟩ := v.at_ n p hv
    have hp : plc H n = q := by unfold plc; rw [hv]; rfl
    simp only
    rw [hp]
    exact ⟨PH.le.refl H, v, .var q hq, by rw [hv]; simp⟩
  | none =>
    simp only
    have hc : (H.cells ++ [(H.cells.length : Int) * 8])[H.cells.length]? = some ((H.cells.length : Int) * 8) := by simp
    have hlt : ∀ m p, H.vars m = some p → p ≠ (H.cells.length : Int) := fun m p hm => by
      obtain ⟨q, rfl, hq⟩ := v.at_ m p hm
      have := (List.getElem?_eq_some_iff.1 hq).1
      omega
    refine ⟨⟨List.prefix_append _ _, List.prefix_refl _, List.prefix_refl _, fun m p hm => ?_⟩, ⟨fun m p hm => ?_, fun m m' p hm hm' => ?_⟩, ?_, ?_⟩
    · show putV H.vars n _ m = some p
      unfold putV
      rw [if_neg (by rintro rfl; rw [hv] at hm; cases hm)]
      exact hm
    · replace hm : putV H.vars n _ m = some p := hm
      unfold putV at hm
      split at hm
      · exact ⟨H.cells.length, (Option.some.inj hm).symm, hc⟩
      · obtain ⟨q, e, hq⟩ := v.at_ m p hm
        exact ⟨q, e, pre_at (List.prefix_append _ _) hq⟩
    · replace hm : putV H.vars n _ m = some p := hm
      replace hm' : putV H.vars n _ m' = some p := hm'
      unfold putV at hm hm'
      split at hm <;> split at hm'
      · rename_i a b; rw [a, b]
      · have := Option.some.inj hm; exact absurd this.symm (hlt m' p hm')
      · have := Option.some.inj hm'; exact absurd this.symm (hlt m p hm)
      · exact v.inj m m' p hm hm'
    · have hp : plc { H with cells := H.cells ++ [(H.cells.length : Int) * 8], vars := putV H.vars n H.cells.length } n = (H.cells.length : Int) := by unfold plc putV; simp
      rw [hp]
      exact .var _ hc
    · show putV H.vars n _ n ≠ none
      unfold putV
      simp
/-- What is laid means what it was, but for variables' numbers. -/
def LayOk (H : PH) (t : Tm) : Prop := H.le (lay H t).1 ∧ VI (lay H t).1 ∧ (∀ n ∈ tV t, (lay H t).1.vars n ≠ none) ∧ Rp (lay H t).1 (lay H t).2 (tRn (plc (lay H t).1) t)
theorem plc_mono {H H' : PH} (h : H.le H') {n : Int} (hn : H.vars n ≠ none) : plc H' n = plc H n := by
  cases hv : H.vars n with
  | none => exact absurd hv hn
  | some p => unfold plc; rw [h.vars n p hv, hv]
theorem vars_mono {H H' : PH} (h : H.le H') {n : Int} (hn : H.vars n ≠ none) : H'.vars n ≠ none := by
  cases hv : H.vars n with
  | none => exact absurd hv hn
  | some p => rw [h.vars n p hv]; simp
theorem lays_ok : ∀ (l : List Tm), (∀ a ∈ l, ∀ H, VI H → LayOk H a) → (∀ a ∈ l, tRight a = true) → ∀ H, VI H → H.le (lays H l).1 ∧ VI (lays H l).1 ∧ (∀ n ∈ tVL l, (lays H l).1.vars n ≠ none) ∧ ∀ (j : Nat) t, l[j]? = some t → ∃ c, (lays H l).2[j]? = some c ∧ Rp (lays H l).1 c (tRn (plc (lays H l).1) t)
  | [], _, _, H, v => by rw [lays]; exact ⟨PH.le.refl H, v, fun n hn => by simp [tVL] at hn, fun j t h => by simp at h⟩
  | a :: l, ih, hr, H, v => by
    obtain ⟨h1, h2, h3, h4⟩ := ih a (by simp) H v
    obtain ⟨g1, g2, g3, g4⟩ := lays_ok l (fun b hb => ih b (by simp [hb])) (fun b hb => hr b (by simp [hb])) _ h2
    rw [lays]
    refine ⟨h1.trans g1, g2, fun n hn => ?_, fun j t hj => ?_⟩
    · rw [tVL, List.mem_append] at hn
      rcases hn with hn | hn
      · exact vars_mono g1 (h3 n hn)
      · exact g3 n hn
    · cases j with
      | zero =>
        simp only [List.getElem?_cons_zero, Option.some.injEq] at hj
        subst hj
        refine ⟨_, rfl, ?_⟩
        have h5 := h4.mono g1
        rw [tRn_congr a (g := plc (lays (lay H a).1 l).1) (hr a (by simp)) (fun n hn => (plc_mono g1 (h3 n hn)).symm)] at h5
        exact h5
      | succ j => exact g4 j t (by simpa using hj)
theorem lay_ok (t : Tm) : tRight t = true → ∀ H, VI H → LayOk H t := by
  induction t using Tm.ind_ with
  | h k n s l ih =>
    intro hr H v
    unfold LayOk
    rw [lay]
    by_cases h0 : k = 0
    · subst h0
      rw [if_pos rfl]
      obtain ⟨h1, h2, h3, h4⟩ := layV_ok v n
      refine ⟨h1, h2, fun m hm => ?_, ?_⟩
      · rw [tV, if_pos rfl] at hm
        simp at hm
        subst hm
        exact h4
      · obtain ⟨e, _, _⟩ := right_var hr
        obtain ⟨_, _, rfl, rfl⟩ := Tm.mk.inj e
        rw [tRn_var _ _ _ rfl]
        exact h3
    · rw [if_neg h0]
      by_cases h1 : k = 1
      · subst h1
        rw [if_pos rfl]
        have hn := right_n hr h0
        have hl : l = [] := by
          rw [tRight, Bool.and_eq_true] at hr
          obtain ⟨_, hr⟩ := hr
          simp at hr
          exact hr.2
        subst hn hl
        refine ⟨⟨List.prefix_refl _, numL_pre _ _, List.prefix_refl _, fun _ _ h => h⟩, ⟨v.at_, v.inj⟩, fun m hm => by rw [tV, if_neg h0] at hm; simp [tVL] at hm, ?_⟩
        rw [tRn_node _ _ _ h0]
        exact .con _ s (numL_at _ _)
      · rw [if_neg h1]
        obtain ⟨g1, g2, g3, g4⟩ := lays_ok l (fun a ha H v => ih a ha (right_parts hr a ha) H v) (right_parts hr) H v
        have hll := lays_len H l
        have hn := right_n hr h0
        subst hn
        simp only
        generalize lays H l = r at g1 g2 g3 g4 hll ⊢
        by_cases h2 : k = 2
        · subst h2
          rw [if_pos rfl]
          have hne : l ≠ [] := by
            rw [tRight, Bool.and_eq_true] at hr
            obtain ⟨_, hr⟩ := hr
            simp at hr
            rintro rfl
            simp at hr
          have hle : r.1.le { r.1 with funs := numL r.1.funs (s, (l.length : Int)), cells := r.1.cells ++ ((numI r.1.funs (s, (l.length : Int)) : Int) * 8 + 4) :: r.2 } := ⟨List.prefix_append _ _, List.prefix_refl _, numL_pre _ _, fun _ _ h => h⟩
          have hvi : VI { r.1 with funs := numL r.1.funs (s, (l.length : Int)), cells := r.1.cells ++ ((numI r.1.funs (s, (l.length : Int)) : Int) * 8 + 4) :: r.2 } := ⟨fun n p h => by obtain ⟨q, e, hq⟩ := g2.at_ n p h; exact ⟨q, e, pre_at (List.prefix_append _ _) hq⟩, g2.inj⟩
          refine ⟨g1.trans hle, hvi, fun m hm => g3 m (by rw [tV, if_neg h0] at hm; exact hm), ?_⟩
          rw [tRn_node _ _ _ h0]
          refine .str r.1.cells.length (numI r.1.funs (s, (l.length : Int))) s (l.map _) r.2 (by simpa using hne) (by simp) (by rw [List.length_map]; exact numL_at _ _) (by rw [List.length_map]; exact hll) (fun j c hc => ?_) fun j t c hj hc => ?_
          · show (r.1.cells ++ _ :: r.2)[r.1.cells.length + 1 + j]? = some c
            rw [List.getElem?_append_right (by omega), show r.1.cells.length + 1 + j - r.1.cells.length = j + 1 by omega, List.getElem?_cons_succ]
            exact hc
          · rw [List.getElem?_map] at hj
            cases ha : l[j]? with
            | none => rw [ha] at hj; cases hj
            | some a =>
              rw [ha] at hj
              simp only [Option.map_some, Option.some.injEq] at hj
              subst hj
              obtain ⟨c', hc', hrp⟩ := g4 j a ha
              rw [hc] at hc'
              obtain rfl := Option.some.inj hc'
              exact hrp.mono hle
        · rw [if_neg h2]
          have h3 : k = 3 ∧ s = ⟨#[]⟩ ∧ l.length = 2 := by
            rw [tRight, Bool.and_eq_true, if_neg h0, if_neg h1, if_neg h2] at hr
            obtain ⟨_, hr⟩ := hr
            split at hr
            · rename_i h3
              simp only [Bool.and_eq_true, decide_eq_true_eq] at hr
              refine ⟨h3, ?_, hr.2⟩
              cases s with
              | mk d => congr; exact Array.eq_empty_of_size_eq_zero hr.1.2
            · cases hr
          obtain ⟨rfl, rfl, hl2⟩ := h3
          have hle : r.1.le { r.1 with cells := r.1.cells ++ r.2 } := ⟨List.prefix_append _ _, List.prefix_refl _, List.prefix_refl _, fun _ _ h => h⟩
          have hvi : VI { r.1 with cells := r.1.cells ++ r.2 } := ⟨fun n p h => by obtain ⟨q, e, hq⟩ := g2.at_ n p h; exact ⟨q, e, pre_at (List.prefix_append _ _) hq⟩, g2.inj⟩
          refine ⟨g1.trans hle, hvi, fun m hm => g3 m (by rw [tV, if_neg h0] at hm; exact hm), ?_⟩
          rw [tRn_node _ _ _ h0]
          refine .lis r.1.cells.length (l.map _) r.2 (by simpa using hl2) (by rw [List.length_map]; exact hll) (fun j c hc => ?_) fun j t c hj hc => ?_
          · show (r.1.cells ++ r.2)[r.1.cells.length + j]? = some c
            rw [List.getElem?_append_right (by omega), show r.1.cells.length + j - r.1.cells.length = j by omega]
            exact hc
          · rw [List.getElem?_map] at hj
            cases ha : l[j]? with
            | none => rw [ha] at hj; cases hj
            | some a =>
              rw [ha] at hj
              simp only [Option.map_some, Option.some.injEq] at hj
              subst hj
              obtain ⟨c', hc', hrp⟩ := g4 j a ha
              rw [hc] at hc'
              obtain rfl := Option.some.inj hc'
              exact hrp.mono hle
/-! ### Places that are there, whatever stands in them -/
structure VB (H : PH) : Prop where
  at_ : ∀ n p, H.vars n = some p → ∃ q : Nat, p = q ∧ q < H.cells.length
theorem VI.vb {H : PH} (v : VI H) : VB H := ⟨fun n p h => by
  obtain ⟨q, e, hq⟩ := v.at_ n p h
  exact ⟨q, e, (List.getElem?_eq_some_iff.1 hq).1⟩⟩
theorem VB.more {H : PH} (v : VB H) {cs : List Int} (h : H.cells <+: cs) {A : List ByteArray} {F : List (ByteArray × Int)} : VB { H with cells := cs, atoms := A, funs := F } := ⟨fun n p hp => by
  obtain ⟨q, e, hq⟩ := v.at_ n p hp
  have := h.length_le
  exact ⟨q, e, by show q < cs.length; omega⟩⟩
theorem layVB_ok {H : PH} (v : VB H) (n : Int) : H.le (layV H n).1 ∧ VB (layV H n).1 := by
  unfold layV
  cases hv : H.vars n with
  | some p => exact ⟨PH.le.refl H, v⟩
  | none =>
    refine ⟨⟨List.prefix_append _ _, List.prefix_refl _, List.prefix_refl _, fun m p hm => ?_⟩, ⟨fun m p hm => ?_⟩⟩
    · show putV H.vars n _ m = some p
      unfold putV
      rw [if_neg (by rintro rfl; rw [hv] at hm; cases hm)]
      exact hm
    · replace hm : putV H.vars n _ m = some p := hm
      unfold putV at hm
      split at hm
      · exact ⟨H.cells.length, (Option.some.inj hm).symm, by simp⟩
      · obtain ⟨q, e, hq⟩ := v.at_ m p hm
        exact ⟨q, e, by simp; omega⟩
theorem laysB_ok : ∀ (l : List Tm), (∀ a ∈ l, ∀ H, VB H → H.le (lay H a).1 ∧ VB (lay H a).1) → ∀ H, VB H → H.le (lays H l).1 ∧ VB (lays H l).1
  | [], _, H, v => by rw [lays]; exact ⟨PH.le.refl H, v⟩
  | a :: l, ih, H, v => by
    obtain ⟨h1, h2⟩ := ih a (by simp) H v
    obtain ⟨g1, g2⟩ := laysB_ok l (fun b hb => ih b (by simp [hb])) _ h2
    rw [lays]
    exact ⟨h1.trans g1, g2⟩
theorem layB_ok (t : Tm) : ∀ H, VB H → H.le (lay H t).1 ∧ VB (lay H t).1 := by
  induction t using Tm.ind_ with
  | h k n s l ih =>
    intro H v
    rw [lay]
    split
    · exact layVB_ok v n
    · split
      · exact ⟨⟨List.prefix_refl _, numL_pre _ _, List.prefix_refl _, fun _ _ h => h⟩, ⟨v.at_⟩⟩
      · obtain ⟨g1, g2⟩ := laysB_ok l ih H v
        simp only
        split
        · exact ⟨g1.trans ⟨List.prefix_append _ _, List.prefix_refl _, numL_pre _ _, fun _ _ h => h⟩, g2.more (List.prefix_append _ _)⟩
        · exact ⟨g1.trans ⟨List.prefix_append _ _, List.prefix_refl _, List.prefix_refl _, fun _ _ h => h⟩, g2.more (List.prefix_append _ _)⟩
end Go.Proofs.YtnonfmaehfmigaaGreatDoor

/- A heap in memory; maps of numbers; what a heap's call leaves. -/
namespace Go.Proofs.YtnonfmaehfmigaaGreatDoor
open Go.RowKit Go.Maps

theorem law_int : Keyed Tryz.prog 3 := int_keyed Tryz.underlying3
theorem zero_int (w : World) : (zeroValue 3).run Tryz.prog w = .ok (.int .i64 0) w := by kernel_rfl
/-- A number that an int may be. -/
def I64 (x : Int) : Prop := -9223372036854775808 ≤ x ∧ x ≤ 9223372036854775807
theorem I64.wf {x : Int} (h : I64 x) : (Lit.int .i64 x).wf = true := WalkArith.wf_i64 (by have := h.1; have := h.2; omega)
theorem I64.key {x : Int} (h : I64 x) : keyOf Tryz.prog 3 (.int .i64 x) = some (.int .i64 x) := keyOf_int_mk Tryz.underlying3 h.wf
/-- A map of numbers to numbers, of at most n entries. -/
def VM (w : World) (b n : Nat) (f : Int → Option Int) : Prop :=
  ∃ D : DataW Unit, w.ownsMap Tryz.prog 3 (plainElem Tryz.prog 3) b n D ∧ ∀ x, I64 x → Maps.has D (.int .i64 x) = (f x).isSome ∧ D.atKey (.int .i64 x) (.lit (.int .i64 0)) = .lit (.int .i64 ((f x).getD 0))
theorem VM.kept {w w' : World} {b n : Nat} {f : Int → Option Int} (h : VM w b n f) {L : List Nat} (k : Keeps w w' L) (hb : b ∉ L) : VM w' b n f := by
  obtain ⟨D, h1, h2⟩ := h
  obtain ⟨es, clock, e1, r⟩ := h1
  exact ⟨D, ⟨es, clock, (k.block b (Array.getElem?_eq_some_iff.1 e1).1 hb).trans e1, r⟩, h2⟩
theorem VM.lt {w : World} {b n : Nat} {f : Int → Option Int} (h : VM w b n f) : b < w.heap.size := by
  obtain ⟨D, h1, _⟩ := h
  exact h1.lt
set_option maxRecDepth 100000 in
/-- The look-up. -/
theorem VM.look {w : World} {b n : Nat} {f : Int → Option Int} (h : VM w b n f) {x : Int} (hx : I64 x) : (Instr.lookup 68 (.map (some b)) (.int .i64 x) true).run Tryz.prog w = .ok (.tuple #[.int .i64 ((f x).getD 0), .bool (f x).isSome]) w := by
  obtain ⟨D, h1, h2⟩ := h
  obtain ⟨v, ps, hrun, hv⟩ := h1.look_ok law_int Tryz.underlying68 (zero_int w) (plainElem_int Tryz.underlying3 (I64.wf ⟨by omega, by omega⟩)) hx.key
  obtain ⟨c, rfl, hc, _⟩ := plainElem_int_inv Tryz.underlying3 hv
  obtain ⟨h3, h4⟩ := h2 x hx
  have h5 := congrArg Prod.fst hc
  simp only at h5
  rw [h4] at h5
  have h6 : (f x).getD 0 = c := by injection h5 with h5; injection h5
  rw [hrun, h3, h6]
/-- The store. -/
theorem VM.put {w : World} {b n : Nat} {f : Int → Option Int} (h : VM w b n f) (hn : n ≤ 1000000) {x p : Int} (hx : I64 x) (hp : I64 p) :
    ∃ w', (Instr.mapUpdate 68 (.map (some b)) (.int .i64 x) (.int .i64 p)).run Tryz.prog w = .ok () w' ∧ VM w' b (n + 1) (putV f x p) ∧ Keeps w w' [b] := by
  obtain ⟨D, h1, h2⟩ := h
  obtain ⟨w', hrun, h3, hg⟩ := h1.update law_int Tryz.underlying68 (by unfold maxLen; omega) hx.key (plainElem_int Tryz.underlying3 hp.wf)
  refine ⟨w', hrun, ⟨_, h3, fun y hy => ?_⟩, ⟨hg.os, hg.tape, hg.output, hg.size, fun k hk hkb => hg.block k hk (fun e => hkb (by injection e with e; subst e; simp))⟩⟩
  by_cases hyx : y = x
  · subst hyx
    unfold putV
    rw [if_pos rfl]
    exact ⟨has_put_same h1.isMap (by trivial) _, atKey_put_same h1.isMap (by trivial) _ _⟩
  · have hne : (Lit.int .i64 y) ≠ Lit.int .i64 x := fun e => hyx (by injection e)
    unfold putV
    rw [if_neg hyx, has_put_other hne, atKey_put_other hne]
    exact h2 y hy
theorem VM.made (w : World) : VM (w.alloc (.map #[] 0)) w.heap.size 0 (fun _ => none) :=
  ⟨_, World.ownsMap_made w Tryz.prog 3 _, fun _ _ => ⟨rfl, rfl⟩⟩

/-! ### A heap -/
def funE (x : ByteArray × Int) : List Value := [.string x.1, .int .i64 x.2]
theorem funE_len (x : ByteArray × Int) : (funE x).length = 2 := rfl
theorem funE_one (l : List (ByteArray × Int)) : ∀ u ∈ l.flatMap funE, u.oneCell' = true := by
  intro u hu
  obtain ⟨x, _, hx⟩ := List.mem_flatMap.1 hu
  simp only [funE, List.mem_cons, List.not_mem_nil, or_false] at hx
  rcases hx with rfl | rfl <;> rfl
def mkE (x : Int × Int) : List Value := [.int .i64 x.1, .int .i64 x.2]
structure Hm (w : World) (base hb ag ah vb : Nat) (AA FA TA MA : Option Addr) (ca nt ct nm cm cf : Nat) (H : PH) (tr : List Int) (mk : List (Int × Int)) (room : Nat) : Prop where
  blk : Blk w hb 71 #[.pointer (some ⟨ag, 0, none⟩), .slice AA H.atoms.length ca, .slice FA H.funs.length cf, .map (some vb), .slice TA nt ct, .slice MA nm cm]
  ar : Ar w base ag ah H.cells room
  atoms : w.ownsRow base 9 1 (.slice AA H.atoms.length ca) H.atoms.length (H.atoms.map Value.string)
  funs : w.ownsRow base 106 2 (.slice FA H.funs.length cf) H.funs.length (H.funs.flatMap funE)
  vars : VM w vb H.cells.length H.vars
  trail : w.ownsRow base 3 1 (.slice TA nt ct) nt (tr.map (Value.int .i64))
  marks : w.ownsRow base 74 2 (.slice MA nm cm) nm (mk.flatMap mkE)
  low : base ≤ hb ∧ base ≤ vb
  few : H.atoms.length ≤ 1000000 ∧ H.funs.length ≤ 1000000
/-- The blocks of a heap. -/
def hpL (hb ag ah vb : Nat) (AA FA TA MA : Option Addr) : List Nat := [hb, ag, ah, vb] ++ (ownL (.slice AA 0 0) ++ (ownL (.slice FA 0 0) ++ (ownL (.slice TA 0 0) ++ ownL (.slice MA 0 0))))
theorem ownL_slice (A : Option Addr) (n c : Nat) : ownL (.slice A n c) = ownL (.slice A 0 0) := by cases A <;> rfl
/-- A heap behind a pointer; its blocks. -/
def Hp (w : World) (base hb : Nat) (L : List Nat) (H : PH) (tr : List Int) (mk : List (Int × Int)) (room : Nat) : Prop :=
  ∃ ag ah vb AA FA TA MA ca nt ct nm cm cf, L = hpL hb ag ah vb AA FA TA MA ∧ Hm w base hb ag ah vb AA FA TA MA ca nt ct nm cm cf H tr mk room
/-- What a call leaves: only the heap's own blocks turn; those that come are new. -/
structure HSt (w : World) (L : List Nat) (w' : World) (L' : List Nat) : Prop where
  keep : Keeps w w' L
  own : ∀ b ∈ L', b ∈ L ∨ w.heap.size ≤ b
theorem HSt.refl (w : World) (L : List Nat) : HSt w L w L := ⟨Keeps.refl w L, fun _ h => .inl h⟩
theorem HSt.trans {a b c : World} {L M N : List Nat} (h : HSt a L b M) (k : HSt b M c N) : HSt a L c N := by
  refine ⟨⟨k.keep.os.trans h.keep.os, k.keep.tape.trans h.keep.tape, k.keep.output.trans h.keep.output, Nat.le_trans h.keep.size k.keep.size, fun i hi hn => ?_⟩, fun x hx => ?_⟩
  · refine (k.keep.block i (Nat.lt_of_lt_of_le hi h.keep.size) (fun hm => ?_)).trans (h.keep.block i hi hn)
    rcases h.own i hm with h1 | h1
    · exact hn h1
    · omega
  · rcases k.own x hx with h1 | h1
    · exact h.own x h1
    · exact .inr (Nat.le_trans h.keep.size h1)
/-- A tree that lies outside stays. -/
theorem HSt.tree {w w' : World} {L L' : List Nat} (h : HSt w L w' L') {t : Tm} {v : TV} (ht : Tr w (fun b => b ∉ L) t v) : Tr w' (fun b => b ∉ L') t v :=
  (ht.here.keepL h.keep (fun b hb hn => hn.1 hb)).mono fun b hb hm => by
    rcases h.own b hm with h1 | h1
    · exact hb.1 h1
    · omega
end Go.Proofs.YtnonfmaehfmigaaGreatDoor

/- Numbers of names, and of such with terms. Printed by gen_hpfns.py. -/
namespace Go.Proofs.YtnonfmaehfmigaaGreatDoor
open Go.RowKit Go.Maps

theorem idx_at {α : Type} [DecidableEq α] : ∀ {l : List α} {k : Nat} {x : α}, l[k]? = some x → (∀ y ∈ l.take k, y ≠ x) → l.idxOf x = k
  | [], k, x, hx, _ => by simp at hx
  | a :: l, 0, x, hx, _ => by
    simp at hx
    subst hx
    exact List.idxOf_cons_self
  | a :: l, k + 1, x, hx, hb => by
    have h1 : a ≠ x := hb a (by simp)
    have h2 := idx_at (l := l) (k := k) (x := x) (by simpa using hx) (fun y hy => hb y (by simp [hy]))
    have h3 : (a == x) = false := by rw [beq_eq_false_iff_ne]; exact h1
    rw [List.idxOf_cons, h3, h2]
    rfl
/-- Its place, or -1. -/
def idxI {α : Type} [DecidableEq α] (l : List α) (x : α) : Int := if x ∈ l then (l.idxOf x : Int) else -1
theorem idxI_at {α : Type} [DecidableEq α] {l : List α} {k : Nat} {x : α} (hx : l[k]? = some x) (hb : ∀ y ∈ l.take k, y ≠ x) : idxI l x = k := by
  unfold idxI
  rw [if_pos (List.mem_of_getElem? hx), idx_at hx hb]
theorem idxI_no {α : Type} [DecidableEq α] {l : List α} {x : α} (h : x ∉ l) : idxI l x = -1 := by
  unfold idxI
  rw [if_neg h]
theorem idxI_num {α : Type} [DecidableEq α] (l : List α) (x : α) : (0 ≤ idxI l x ∧ numL l x = l ∧ (numI l x : Int) = idxI l x) ∨ (idxI l x = -1 ∧ numL l x = l ++ [x] ∧ numI l x = l.length) := by
  unfold idxI numL numI
  by_cases h : x ∈ l
  · rw [if_pos h, if_pos h, if_pos h]
    exact .inl ⟨by omega, rfl, rfl⟩
  · rw [if_neg h, if_neg h, if_neg h]
    exact .inr ⟨rfl, rfl, rfl⟩
def strE (x : ByteArray) : List Value := [.string x]
theorem strE_len (x : ByteArray) : (strE x).length = 1 := rfl
theorem strE_flat : ∀ l : List ByteArray, l.flatMap strE = l.map Value.string
  | [] => rfl
  | a :: l => by rw [List.flatMap_cons, strE_flat l]; rfl
theorem el_fun : ElemT Tryz.prog 63 106 2 := elemT_of (b := 24) (z := .agg #[.string ⟨#[]⟩, .int .i64 0]) Tryz.underlying63 (by kernel_rfl) (by omega) rfl (by omega)

set_option maxRecDepth 100000 in
set_option maxHeartbeats 1600000 in
theorem indexS_any (x : ByteArray) (A : Option Addr) (n c : Nat) (l : List (ByteArray)) (w : World) (hl : l.length = n) (hn : n ≤ 1000000) (hA : Rd w A (l.flatMap strE)) :
    Calls Tryz.prog 82 #[.slice A n c, (.string x)] w fun e w' => e = .returned (.int .i64 (idxI l x)) ∧ Keeps w w' [] := by
  have HL := Lib.hid hl
  have HA := Lib.hid hA
  have HKw : Hid (Keeps w w []) := Keeps.refl _ _
  clear hl hA
  go_enter Tryz.func82, Tryz.ntmps82
  go_wp2_with fail
  go_loopw [8] (fun i wr => ∃ k : Nat, k ≤ n ∧ i = .int .i64 k ∧ (∀ y ∈ l.take k, y ≠ x) ∧ Keeps w wr []) (fun i _ => n - (intOf i).toNat)
  case atStart => exact ⟨0, Nat.zero_le _, rfl, (fun y hy => by simp at hy), Keeps.refl _ _⟩
  case round =>
    obtain ⟨k, hk, rfl, hb, hkeep⟩ := hrel
    have HB := Lib.hid hb
    have HK := Lib.hid hkeep
    clear hb
    by_cases hlt : k < n
    · obtain ⟨y, hy⟩ := at_of HL.out hlt
      obtain ⟨b, off, rfl, hbl, hc⟩ := (HA.out.keep (HKw.out.trans hkeep)).field strE_len hy (by omega)
      have p0 : (wr.cell? ⟨b, off + k, none⟩) = some (.string y) := by have := hc 0 _ rfl; simpa using this
      have HY := Lib.hid hy
      have b0 : (0 : Int) ≤ (k : Int) := Int.natCast_nonneg _
      have b1 : (k : Int) < (n : Int) := by omega
      clear hy hc hkeep
      by_cases hxy : x = y
      · subst hxy
        have HI : Hid ((idxI l x) = (k : Int)) := by
          exact idxI_at HY.out HB.out
        go_wp2_with fail
        go_ret
        exact ⟨by rw [HI.out]; rfl, HKw.out.trans HK.out⟩
      · have HN : Hid (∀ z ∈ l.take (k + 1), z ≠ x) := fun z hz => by
          rw [List.take_add_one, HY.out] at hz
          rcases List.mem_append.1 hz with hz | hz
          · exact HB.out z hz
          · simp at hz; subst hz; exact fun e => hxy e.symm
        have d0 : (x.toList == y.toList) = false := by rw [str_eq]; simpa using hxy
        have d1 : ¬ x.toList = y.toList := by simpa using d0
        clear hxy
        go_wp2_with fail
        go_roundw
        case rel => exact ⟨k + 1, by omega, by go_num, HN.out, HK.out⟩
        case measure => simp [intOf]; omega
    · obtain rfl : n = k := by omega
      have HI : Hid ((idxI l x) = -1) := by
        refine idxI_no fun hm => ?_
        have h1 := HB.out
        rw [List.take_of_length_le (by rw [HL.out]; omega)] at h1
        exact h1 x hm rfl
      clear hlt hk hkeep
      go_wp2_with fail
      go_ret
      exact ⟨by rw [HI.out]; rfl, HKw.out.trans HK.out⟩

set_option maxRecDepth 100000 in
set_option maxHeartbeats 1600000 in
theorem indexF_any (x : ByteArray × Int) (A : Option Addr) (n c : Nat) (l : List (ByteArray × Int)) (w : World) (hl : l.length = n) (hn : n ≤ 1000000) (hA : Rd w A (l.flatMap funE)) :
    Calls Tryz.prog 83 #[.slice A n c, (.agg #[.string x.1, .int .i64 x.2])] w fun e w' => e = .returned (.int .i64 (idxI l x)) ∧ Keeps w w' [] := by
  have HL := Lib.hid hl
  have HA := Lib.hid hA
  have HKw : Hid (Keeps w (w.alloc (.cells #[.string x.1, .int .i64 x.2] 106)) []) := (Keeps.refl w []).alloc _
  have HBx : Hid (Blk (w.alloc (.cells #[.string x.1, .int .i64 x.2] 106)) w.heap.size 106 #[.string x.1, .int .i64 x.2]) := Blk.new _ _ _
  clear hl hA
  go_enter Tryz.func83, Tryz.ntmps83
  go_wp2_with fail
  go_loopw [8] (fun i wr => ∃ k : Nat, k ≤ n ∧ i = .int .i64 k ∧ (∀ y ∈ l.take k, y ≠ x) ∧ Keeps (w.alloc (.cells #[.string x.1, .int .i64 x.2] 106)) wr []) (fun i _ => n - (intOf i).toNat)
  case atStart => exact ⟨0, Nat.zero_le _, rfl, (fun y hy => by simp at hy), Keeps.refl _ _⟩
  case round =>
    obtain ⟨k, hk, rfl, hb, hkeep⟩ := hrel
    have HB := Lib.hid hb
    have HK := Lib.hid hkeep
    clear hb
    by_cases hlt : k < n
    · obtain ⟨y, hy⟩ := at_of HL.out hlt
      obtain ⟨b, off, rfl, hbl, hc⟩ := (HA.out.keep (HKw.out.trans hkeep)).field funE_len hy (by omega)
      have p0 : (wr.cell? ⟨b, off + k * 2, none⟩) = some (.string y.1) := by have := hc 0 _ rfl; simpa using this
      have p1 : (wr.cell? ⟨b, off + k * 2 + 1, none⟩) = some (.int .i64 y.2) := hc 1 _ rfl
      have x0 := (HBx.out.keep hkeep (by simp)).cell 0
      have x1 := (HBx.out.keep hkeep (by simp)).cell 1
      have HY := Lib.hid hy
      have b0 : (0 : Int) ≤ (k : Int) := Int.natCast_nonneg _
      have b1 : (k : Int) < (n : Int) := by omega
      clear hy hc hkeep
      by_cases hxy : x = y
      · subst hxy
        have HI : Hid ((idxI l x) = (k : Int)) := by
          exact idxI_at HY.out HB.out
        go_upto_region 4 with fail
        refine wp_region_tx (fun W' => W'.cell? ⟨w.heap.size, 0, none⟩ = some (.string x.1) ∧ W'.cell? ⟨w.heap.size, 1, none⟩ = some (.int .i64 x.2) ∧ W'.cell? ⟨b, off + k * 2, none⟩ = some (.string x.1) ∧ W'.cell? ⟨b, off + k * 2 + 1, none⟩ = some (.int .i64 x.2)) [(0, true), (1, true), (2, true), (3, true), (4, true), (5, false)] (by kernel_rfl) (by kernel_rfl) ⟨x0, x1, p0, p1⟩ (fun hHeld => ?_)
        (repeat (first | (refine wpTx_take (v := ?_) rfl (by assumption) ?_ (by rfl) ?_; rotate_left; (focus (intro w' hSw; (try dsimp only at hSw); go_simp; (try with_reducible rfl); done)); simp only [Act.put, List.setIfInBounds_toArray, List.set_cons_zero, List.set_cons_succ]) | (refine wpTx_skip rfl (by assumption) (by rfl) ?_; simp only [Act.put, List.setIfInBounds_toArray, List.set_cons_zero, List.set_cons_succ])))
        refine wpTx_last rfl (fun K hK => ?_)
        go_simp
        refine hK.out _ _ (NoPanic.normal ?_); clear hK K; (try simp only [Act.put, List.setIfInBounds_toArray, List.set_cons_zero, List.set_cons_succ])
        clear x0 x1 p0 p1
        go_wp2_with fail
        go_ret
        exact ⟨by rw [HI.out]; rfl, HKw.out.trans HK.out.drew⟩
      · have HN : Hid (∀ z ∈ l.take (k + 1), z ≠ x) := fun z hz => by
          rw [List.take_add_one, HY.out] at hz
          rcases List.mem_append.1 hz with hz | hz
          · exact HB.out z hz
          · simp at hz; subst hz; exact fun e => hxy e.symm
        by_cases hs : x.1 = y.1
        · have d2 : (x.2 == y.2) = false := by
            simp only [beq_eq_false_iff_ne]
            exact fun e => hxy (Prod.ext hs e)
          rw [← hs] at p0
          clear hxy hs
          go_upto_region 4 with fail
          refine wp_region_tx (fun W' => W'.cell? ⟨w.heap.size, 0, none⟩ = some (.string x.1) ∧ W'.cell? ⟨w.heap.size, 1, none⟩ = some (.int .i64 x.2) ∧ W'.cell? ⟨b, off + k * 2, none⟩ = some (.string x.1) ∧ W'.cell? ⟨b, off + k * 2 + 1, none⟩ = some (.int .i64 y.2)) [(0, true), (1, true), (2, true), (3, true), (4, true), (5, false)] (by kernel_rfl) (by kernel_rfl) ⟨x0, x1, p0, p1⟩ (fun hHeld => ?_)
          (repeat (first | (refine wpTx_take (v := ?_) rfl (by assumption) ?_ (by rfl) ?_; rotate_left; (focus (intro w' hSw; (try dsimp only at hSw); go_simp; (try with_reducible rfl); done)); simp only [Act.put, List.setIfInBounds_toArray, List.set_cons_zero, List.set_cons_succ]) | (refine wpTx_skip rfl (by assumption) (by rfl) ?_; simp only [Act.put, List.setIfInBounds_toArray, List.set_cons_zero, List.set_cons_succ])))
          refine wpTx_last rfl (fun K hK => ?_)
          go_simp
          refine hK.out _ _ (NoPanic.normal ?_); clear hK K; (try simp only [Act.put, List.setIfInBounds_toArray, List.set_cons_zero, List.set_cons_succ])
          clear x0 x1 p0 p1
          go_wp2_with fail
          go_roundw
          case rel => exact ⟨k + 1, by omega, by go_num, HN.out, HK.out.drew⟩
          case measure => simp [intOf]; omega
        · have d0 : (x.1.toList == y.1.toList) = false := by rw [str_eq]; simpa using hs
          have d1 : ¬ x.1.toList = y.1.toList := by simpa using d0
          clear hxy hs
          go_upto_region 4 with fail
          refine wp_region_tx (fun W' => W'.cell? ⟨w.heap.size, 0, none⟩ = some (.string x.1) ∧ W'.cell? ⟨w.heap.size, 1, none⟩ = some (.int .i64 x.2) ∧ W'.cell? ⟨b, off + k * 2, none⟩ = some (.string y.1) ∧ W'.cell? ⟨b, off + k * 2 + 1, none⟩ = some (.int .i64 y.2)) [(0, true), (1, true), (2, true), (3, true), (4, true), (5, false)] (by kernel_rfl) (by kernel_rfl) ⟨x0, x1, p0, p1⟩ (fun hHeld => ?_)
          (repeat (first | (refine wpTx_take (v := ?_) rfl (by assumption) ?_ (by rfl) ?_; rotate_left; (focus (intro w' hSw; (try dsimp only at hSw); go_simp; (try with_reducible rfl); done)); simp only [Act.put, List.setIfInBounds_toArray, List.set_cons_zero, List.set_cons_succ]) | (refine wpTx_skip rfl (by assumption) (by rfl) ?_; simp only [Act.put, List.setIfInBounds_toArray, List.set_cons_zero, List.set_cons_succ])))
          refine wpTx_last rfl (fun K hK => ?_)
          go_simp
          refine hK.out _ _ (NoPanic.normal ?_); clear hK K; (try simp only [Act.put, List.setIfInBounds_toArray, List.set_cons_zero, List.set_cons_succ])
          clear x0 x1 p0 p1
          go_wp2_with fail
          go_roundw
          case rel => exact ⟨k + 1, by omega, by go_num, HN.out, HK.out.drew⟩
          case measure => simp [intOf]; omega
    · obtain rfl : n = k := by omega
      have HI : Hid ((idxI l x) = -1) := by
        refine idxI_no fun hm => ?_
        have h1 := HB.out
        rw [List.take_of_length_le (by rw [HL.out]; omega)] at h1
        exact h1 x hm rfl
      clear hlt hk hkeep
      go_wp2_with fail
      go_ret
      exact ⟨by rw [HI.out]; rfl, HKw.out.trans HK.out⟩

set_option maxRecDepth 100000 in
set_option maxHeartbeats 1600000 in
theorem numberS_any (x : ByteArray) (l : List (ByteArray)) (A : Option Addr) (c base : Nat) (w : World) (hown : w.ownsRow base 9 1 (.slice A l.length c) l.length (l.flatMap strE)) (hn : l.length ≤ 1000000) (hb : base ≤ w.heap.size) :
    Calls Tryz.prog 61 #[.slice A l.length c, (.string x)] w fun e w' => ∃ A' c', e = .returned (.tuple #[.slice A' (numL l x).length c', .int .i64 (numI l x)]) ∧ w'.ownsRow base 9 1 (.slice A' (numL l x).length c') (numL l x).length ((numL l x).flatMap strE) ∧ Keeps w w' (ownL (.slice A 0 0)) ∧ ∀ b ∈ ownL (.slice A' 0 0), b ∈ ownL (.slice A 0 0) ∨ w.heap.size ≤ b := by
  obtain ⟨n, hnl⟩ : ∃ n, l.length = n := ⟨_, rfl⟩
  rw [hnl] at hown hn ⊢
  have HL := Lib.hid hnl
  have HK0 : Hid (Keeps w w []) := Keeps.refl _ _
  have HO := Lib.hid (own_keep0 hown HK0.out)
  have HC := Lib.hid (indexS_any x A n c l w hnl hn (Rd.of_own HO.out))
  clear hown hnl
  go_enter Tryz.func61, Tryz.ntmps61
  go_wp2_with fail
  refine HC.out.mono ?_
  rintro e w1 ⟨rfl, k1⟩
  have HK1 := Lib.hid (HK0.out.trans k1)
  have HO1 := Lib.hid (own_keep0 HO.out k1)
  clear k1 HC HO
  rcases idxI_num l x with ⟨h0, h1, h2⟩ | ⟨h0, h1, h2⟩
  · have HE1 := Lib.hid h1
    have HE2 := Lib.hid h2
    clear h1 h2
    generalize idxI l x = q at *
    go_wp2_with fail
    go_ret2
    refine ⟨A, c, ?_, ?_, HK1.out.to_ _, fun b hb => .inl hb⟩
    · rw [HE1.out, HE2.out, HL.out]; rfl
    · rw [HE1.out, HL.out]; exact HO1.out
  · have HE1 := Lib.hid h1
    have HE2 := Lib.hid h2
    clear h1 h2
    rw [h0]
    clear h0
    go_wp2_with (at_builtin; have K5 := (Keeps.refl w1 []).alloc (.cells #[.string x] 9); have hz1 := HK1.out.size; have hz5 := K5.size; refine wpList_app _ el_str rfl (.tmp 14) (.tmp 16) rfl base A n c (l.flatMap strE) rfl (own_keep0 HO1.out K5) (some ⟨w1.heap.size, 0, none⟩) 1 1 (strE x) rfl (Rd.one w1 _ (strE x)) rfl (by simp) (by simp [strE, Value.oneCell']) (by omega) (by omega) ?_; intro A' c' w2 hown2 hgrow hat; have HN := Lib.hid hown2; have HG := Lib.hid (K5.to_ (ownL (.slice A n c)) |>.trans (Keeps.ofGrown hgrow)); have HAt := Lib.hid hat; clear hown2 hgrow hat K5)
    go_ret2
    refine ⟨A', c', ?_, ?_, ?_, fun b hb => ?_⟩
    · rw [HE1.out, HE2.out, List.length_append, List.length_singleton, HL.out]; rfl
    · rw [HE1.out, List.length_append, List.length_singleton, HL.out, List.flatMap_append]
      have h3 := HN.out
      simpa using h3
    · have h3 := (HK1.out.to_ (ownL (.slice A n c))).trans HG.out
      rw [ownL_slice] at h3
      exact h3
    · have h3 := HAt.out
      have hz1 := HK1.out.size
      have hb2 : some b = (Value.slice A' (n + 1) c').ownBlock := by
        rw [← ownL_slice A' (n + 1) c'] at hb
        unfold ownL at hb
        exact (by simpa using hb : (Value.slice A' (n + 1) c').ownBlock = some b).symm
      rcases h3 with h3 | h3
      · left
        rw [← ownL_slice A n c]
        unfold ownL
        rw [← h3, ← hb2]
        simp
      · right
        rw [h3] at hb2
        simp at hb2
        omega

set_option maxRecDepth 100000 in
set_option maxHeartbeats 1600000 in
theorem numberF_any (x : ByteArray × Int) (l : List (ByteArray × Int)) (A : Option Addr) (c base : Nat) (w : World) (hown : w.ownsRow base 106 2 (.slice A l.length c) l.length (l.flatMap funE)) (hn : l.length ≤ 1000000) (hb : base ≤ w.heap.size) :
    Calls Tryz.prog 62 #[.slice A l.length c, (.agg #[.string x.1, .int .i64 x.2])] w fun e w' => ∃ A' c', e = .returned (.tuple #[.slice A' (numL l x).length c', .int .i64 (numI l x)]) ∧ w'.ownsRow base 106 2 (.slice A' (numL l x).length c') (numL l x).length ((numL l x).flatMap funE) ∧ Keeps w w' (ownL (.slice A 0 0)) ∧ ∀ b ∈ ownL (.slice A' 0 0), b ∈ ownL (.slice A 0 0) ∨ w.heap.size ≤ b := by
  obtain ⟨n, hnl⟩ : ∃ n, l.length = n := ⟨_, rfl⟩
  rw [hnl] at hown hn ⊢
  have HL := Lib.hid hnl
  have HK0 : Hid (Keeps w (w.alloc (.cells #[.string x.1, .int .i64 x.2] 106)) []) := (Keeps.refl w []).alloc _
  have HBx : Hid (Blk (w.alloc (.cells #[.string x.1, .int .i64 x.2] 106)) w.heap.size 106 #[.string x.1, .int .i64 x.2]) := Blk.new _ _ _
  have HO := Lib.hid (own_keep0 hown HK0.out)
  have HC := Lib.hid (indexF_any x A n c l (w.alloc (.cells #[.string x.1, .int .i64 x.2] 106)) hnl hn (Rd.of_own HO.out))
  clear hown hnl
  go_enter Tryz.func62, Tryz.ntmps62
  go_wp2_with fail
  refine HC.out.mono ?_
  rintro e w1 ⟨rfl, k1⟩
  have HK1 := Lib.hid (HK0.out.trans k1)
  have HO1 := Lib.hid (own_keep0 HO.out k1)
  have x0 := (HBx.out.keep k1 (by simp)).cell 0
  have x1 := (HBx.out.keep k1 (by simp)).cell 1
  clear k1 HC HO
  rcases idxI_num l x with ⟨h0, h1, h2⟩ | ⟨h0, h1, h2⟩
  · have HE1 := Lib.hid h1
    have HE2 := Lib.hid h2
    clear h1 h2
    generalize idxI l x = q at *
    go_wp2_with fail
    go_ret2
    refine ⟨A, c, ?_, ?_, HK1.out.to_ _, fun b hb => .inl hb⟩
    · rw [HE1.out, HE2.out, HL.out]; rfl
    · rw [HE1.out, HL.out]; exact HO1.out
  · have HE1 := Lib.hid h1
    have HE2 := Lib.hid h2
    clear h1 h2
    rw [h0]
    clear h0
    go_wp2_with (at_builtin; have K5 := (Keeps.refl w1 []).alloc (.cells #[.string x.1, .int .i64 x.2] 106); have hz1 := HK1.out.size; have hz5 := K5.size; refine wpList_app _ el_fun rfl (.tmp 14) (.tmp 16) rfl base A n c (l.flatMap funE) rfl (own_keep0 HO1.out K5) (some ⟨w1.heap.size, 0, none⟩) 1 1 (funE x) rfl (Rd.one w1 _ (funE x)) rfl (by simp) (by simp [funE, Value.oneCell']) (by omega) (by omega) ?_; intro A' c' w2 hown2 hgrow hat; have HN := Lib.hid hown2; have HG := Lib.hid (K5.to_ (ownL (.slice A n c)) |>.trans (Keeps.ofGrown hgrow)); have HAt := Lib.hid hat; clear hown2 hgrow hat K5)
    go_ret2
    refine ⟨A', c', ?_, ?_, ?_, fun b hb => ?_⟩
    · rw [HE1.out, HE2.out, List.length_append, List.length_singleton, HL.out]; rfl
    · rw [HE1.out, List.length_append, List.length_singleton, HL.out, List.flatMap_append]
      have h3 := HN.out
      simpa using h3
    · have h3 := (HK1.out.to_ (ownL (.slice A n c))).trans HG.out
      rw [ownL_slice] at h3
      exact h3
    · have h3 := HAt.out
      have hz1 := HK1.out.size
      have hb2 : some b = (Value.slice A' (n + 1) c').ownBlock := by
        rw [← ownL_slice A' (n + 1) c'] at hb
        unfold ownL at hb
        exact (by simpa using hb : (Value.slice A' (n + 1) c').ownBlock = some b).symm
      rcases h3 with h3 | h3
      · left
        rw [← ownL_slice A n c]
        unfold ownL
        rw [← h3, ← hb2]
        simp
      · right
        rw [h3] at hb2
        simp at hb2
        omega
end Go.Proofs.YtnonfmaehfmigaaGreatDoor

/- slices.Insert of one cell ahead of a row of cells: in place, or a new row. (The walk's lines: the kit's worked slices.Insert at other elements, turned to cells.) -/
namespace Go.Proofs.YtnonfmaehfmigaaGreatDoor
open Go.RowKit Go.Lib

theorem cell_size (w : World) : (Go.sizeOf 28).run Tryz.prog w = .ok 1 w := by kernel_rfl
set_option maxHeartbeats 4000000 in
set_option maxRecDepth 100000 in
/-- There is room: in place. -/
theorem insC_shift (b n c vb vc : Nat) (cs : List Value) (v : Value) (w : World) (hi : 0 < n) (hroom : n + 1 ≤ c) (hc63 : c ≤ 9223372036854775807) (hvb : vb ≠ b)
    (hcl : cs.length = n) (hcs : ∀ j v, cs[j]? = some v → w.cell? ⟨b, j, none⟩ = some v) (hsp : ∀ j, j < n + 1 → (w.cell? ⟨b, j, none⟩).isSome = true) (hfz : ∀ j, j < n + 1 → w.frozen? ⟨b, j, none⟩ = false)
    (hv : w.cell? ⟨vb, 0, none⟩ = some v) (h1c : ∀ v ∈ cs, v.oneCell' = true) (h1v : v.oneCell' = true)
    (tA tB : TypeId) (kA kB : Nat) (hsa : w.shape? vb = some (tA, kA)) (hsb : w.shape? b = some (tB, kB)) (hkB : kB ≠ 0) (hfa : w.frozen? ⟨vb, 0, none⟩ = false) (hfe : w.frozen? ⟨vb, kA, none⟩ = false) :
    Calls Tryz.prog 63 #[.slice (some ⟨b, 0, none⟩) n c, .int .i64 0, .slice (some ⟨vb, 0, none⟩) 1 vc] w fun e w' =>
      e = .returned (.slice (some ⟨b, 0, none⟩) (n + 1) c) ∧ w' = (w.drew.setCells b 1 cs).setCells b 0 [v] := by
  have ht := Tryz.underlying34
  have hz2 : ¬ ((0 : Int) = (n : Int)) := by omega
  have hsz : (Tryz.prog.info? 28).map (·.size) = some 1 := by kernel_rfl
  have hov : ∀ lb cb, (callFunc 84 #[.slice (some ⟨vb, 0, none⟩) 1 vc, .slice (some ⟨b, 1, none⟩) lb cb]).run Tryz.prog w = .ok (.value (.bool false)) w := fun lb cb => by
    rw [run_callFunc_extern Tryz.func84 (by kernel_rfl) (by kernel_rfl) (by kernel_rfl) (e := Extern.SlicesOverlaps.overlaps #[34, 34] #[4]) (by kernel_rfl),
      Lib.run_overlaps_apart w 34 4 28 ht 1 cell_size ⟨vb, 0, none⟩ ⟨b, 1, none⟩ 1 vc lb cb hvb tA tB kA kB hsa hsb hkB hfa hfe]
    rfl
  have hb2 : ¬ (c = 1) := by omega
  have hb4 : ¬ (c = 0) := by omega
  have hw0 : IntKind.i64.wrap (0 + 1) = 1 := by rw [IntKind.wrap_i64]; rfl
  have hw1 : IntKind.i64.wrap 1 = 1 := by rw [IntKind.wrap_i64]; rfl
  have mixed : Tryz.prog.follows .mixedOrders = true := by kernel_rfl
  have hb3 : (1 : Int) ≤ (n : Int) + 1 := by omega
  have hb5 : (0 : Int) ≤ (n : Int) + 1 := by omega
  have hcp1 : ∀ ty dc sc, (Builtin.copy_ #[34, 34] ty #[.slice (some ⟨b, 1, none⟩) n dc, .slice (some ⟨b, 0, none⟩) (n + 1) sc]).run Tryz.prog w.drew = .ok (goInt cs.length) (w.drew.setCells b 1 cs) := fun ty dc sc =>
    run_copy_cells w.drew _ _ ty 28 b 1 n dc ⟨b, 0, none⟩ (n + 1) sc cs ht hsz (by rw [hcl]; simp only [Nat.min_def]; split <;> omega)
      (fun j v hj => by rw [Addr.add_lit, Nat.zero_add]; exact hcs j v hj)
      (fun j hj => hsp _ (by omega)) (fun j hj => hfz _ (by omega)) h1c
  obtain ⟨W1, hW1⟩ : ∃ W1, W1 = w.drew.setCells b 1 cs := ⟨_, rfl⟩
  have hsp1 : ∀ k, k < n + 1 → (W1.cell? ⟨b, k, none⟩).isSome = true := fun k hk => by
    rw [hW1]
    exact isSome_setCells b cs 1 w.drew (fun j hj => hsp _ (by omega)) _ (hsp k hk)
  have hcp2 : ∀ (W : World), (∀ x, W.cell? x = W1.cell? x) → (∀ x, W.frozen? x = W1.frozen? x) → ∀ ty dc, (Builtin.copy_ #[34, 34] ty #[.slice (some ⟨b, 0, none⟩) (n + 1) dc, .slice (some ⟨vb, 0, none⟩) 1 vc]).run Tryz.prog W = .ok (goInt 1) (W.setCells b 0 [v]) := fun W hWc hWf ty dc =>
    run_copy_cells W _ _ ty 28 b 0 (n + 1) dc ⟨vb, 0, none⟩ 1 vc [v] ht hsz (by simp)
      (fun j u hj => by
        rw [Addr.add_lit, hWc, hW1, World.cell?_setCells_out b _ _ _ _ (fun h _ => absurd h hvb)]
        cases j with
        | zero => simp at hj; subst hj; exact hv
        | succ j => simp at hj)
      (fun j hj => by rw [hWc]; exact hsp1 _ (by simp at hj; omega)) (fun j hj => by rw [hWf, hW1, World.frozen?_setCells]; exact hfz _ (by simp at hj; omega)) (fun u hu => by simp at hu; subst hu; exact h1v)
  rw [← hW1] at hcp1
  go_enter Tryz.func63, Tryz.ntmps63
  go_wp2_with (simp only [hov])
  go_region_law_o (refine step_copy_runI rfl _ _ 34 34 rfl _ _ (by simp [Act.eval, Act.put]) (by simp [Act.eval, Act.put]) (hcp1 _ _ _) ?_)
  go_wp2_with (at_builtin; refine wpList_copy_runI _ rfl _ _ 34 34 rfl _ _ rfl rfl (hcp2 _ (fun _ => rfl) (fun _ => rfl) _ _) ?_)
  go_ret
  first | exact ⟨rfl, rfl⟩ | exact ⟨rfl, by rw [hW1]⟩
theorem info_cellH : (Tryz.prog.info? 28).map (fun i => (i.zero, i.size, i.bytes)) = some (some (.int .u64 0), 1, 8) := by kernel_rfl
set_option maxHeartbeats 4000000 in
set_option maxRecDepth 100000 in
/-- There is no room: a new row. -/
theorem insC_grow (b n c vb vc : Nat) (cs : List Value) (v : Value) (w : World) (hi : 0 < n) (hnc : n ≤ c) (hroom : c < n + 1) (hbig : (n + 1) * 8 ≤ 140737488355328)
    (hcl : cs.length = n) (hcs : ∀ j v, cs[j]? = some v → w.cell? ⟨b, j, none⟩ = some v)
    (hv : w.cell? ⟨vb, 0, none⟩ = some v) (h1c : ∀ v ∈ cs, v.oneCell' = true) (h1v : v.oneCell' = true) :
    Calls Tryz.prog 63 #[.slice (some ⟨b, 0, none⟩) n c, .int .i64 0, .slice (some ⟨vb, 0, none⟩) 1 vc] w fun e w' =>
      ∃ G ROW, n + 1 ≤ ROW.size ∧ e = .returned (.slice (some ⟨w.heap.size, 0, none⟩) (n + 1) G) ∧
      w' = (((w.alloc (.cells ROW 28)).drew.setCells w.heap.size 0 [v]).drew).setCells w.heap.size 1 cs := by
  have ht := Tryz.underlying34
  have ht3 := Tryz.underlying3
  have mixed : Tryz.prog.follows .mixedOrders = true := by kernel_rfl
  obtain ⟨i0, hi0, hz0, hzs, hzb⟩ := info_parts info_cellH
  have hz2 : ¬ ((0 : Int) = (n : Int)) := by omega
  have hz3 : (c : Int) < (n : Int) + 1 := by omega
  have hsz : (Tryz.prog.info? 28).map (·.size) = some 1 := by kernel_rfl
  have hbw : b < w.heap.size := block_lt_of_cell (hcs 0 _ (List.getElem?_eq_getElem (by omega)))
  have hvw : vb < w.heap.size := block_lt_of_cell hv
  have hold : (Builtin.firstCells i0.size 0 (.slice (some ⟨b, 0, none⟩) 0 c)).run Tryz.prog w.drew = .ok #[] w.drew := by
    rw [hzs]
    exact run_firstCells_some w.drew 1 0 ⟨b, 0, none⟩ 0 c [] (by simp) (by simp)
  obtain ⟨G, hG⟩ : ∃ G, G = grownCap w (n + 1) c 28 := ⟨_, rfl⟩
  obtain ⟨ROW, hROW⟩ : ∃ ROW : Array Value, ROW = #[] ++ Builtin.zeroCells (Value.int .u64 0).cells (n + 1) ++ Builtin.zeroCells (Value.int .u64 0).cells (G - (n + 1)) := ⟨_, rfl⟩
  have hrz : ∀ ty, (Builtin.append_ #[34, 3] ty #[.slice (some ⟨b, 0, none⟩) 0 c, .int .i64 ((n : Int) + 1)]).run Tryz.prog w =
      .ok (.slice (some ⟨w.heap.size, 0, none⟩) (n + 1) G) (w.drew.alloc (.cells ROW 28)) := fun ty => by
    have h := Lib.run_append_grow_zeros w 34 3 ty 28 i0 _ .i64 .i64 ht ht3 hi0 hz0 (some ⟨b, 0, none⟩) 0 c [] hold (n + 1) (by omega) (by omega) (by omega) (by omega) (by rw [hzb]; omega) (by rw [hzb, Nat.zero_add]; exact growslice_fits hroom hbig)
    rw [hROW, hG]
    simpa using h
  have hRl : n + 1 ≤ ROW.size := by
    rw [hROW]
    simp [Builtin.zeroCells, Value.cells]
  obtain ⟨W1, hW1⟩ : ∃ W1, W1 = w.drew.alloc (.cells ROW 28) := ⟨_, rfl⟩
  rw [← hW1] at hrz
  have hN : ∀ j, j < n + 1 → (W1.cell? ⟨w.heap.size, j, none⟩).isSome = true := fun j hj => by
    rw [hW1, World.cell?_alloc_at (w := w.drew) ROW _ w.heap.size j rfl, Array.getElem?_eq_getElem (by omega)]; rfl
  have hNf : ∀ j, W1.frozen? ⟨w.heap.size, j, none⟩ = false := fun j => by rw [hW1]; exact World.frozen?_alloc_at (w := w.drew) ROW _ w.heap.size j rfl
  have hOb : ∀ j v, w.cell? ⟨b, j, none⟩ = some v → W1.cell? ⟨b, j, none⟩ = some v := fun j v h => by rw [hW1, World.cell?_alloc_past (w := w.drew) _ b j hbw]; exact h
  have hOv : ∀ j v, w.cell? ⟨vb, j, none⟩ = some v → W1.cell? ⟨vb, j, none⟩ = some v := fun j v h => by rw [hW1, World.cell?_alloc_past (w := w.drew) _ vb j hvw]; exact h
  have hcpA : ∀ (W : World), (∀ x, W.cell? x = W1.cell? x) → (∀ x, W.frozen? x = W1.frozen? x) → ∀ ty dc, (Builtin.copy_ #[34, 34] ty #[.slice (some ⟨w.heap.size, 0, none⟩) (n + 1) dc, .slice (some ⟨vb, 0, none⟩) 1 vc]).run Tryz.prog W = .ok (goInt 1) (W.setCells w.heap.size 0 [v]) := fun W hWc hWf ty dc =>
    run_copy_cells W _ _ ty 28 w.heap.size 0 (n + 1) dc ⟨vb, 0, none⟩ 1 vc [v] ht hsz (by simp)
      (fun j u hj => by
        cases j with
        | zero => simp at hj; subst hj; rw [Addr.add_lit, hWc]; exact hOv _ _ hv
        | succ j => simp at hj)
      (fun j hj => by rw [hWc]; exact hN _ (by simp at hj; omega)) (fun j hj => by rw [hWf]; exact hNf _) (fun u hu => by simp at hu; subst hu; exact h1v)
  have hGn : n + 1 ≤ G := by rw [hG]; exact grownCap_ge w _ _ _
  have hG63 : G ≤ 9223372036854775807 := by
    have := grownCap_le_maxLen w (n + 1) c 28 (by unfold maxLen; omega)
    rw [← hG] at this
    unfold maxLen at this
    omega
  have hGi : ¬ (G = 0) := by omega
  have hGim : ¬ (G = 1) := by omega
  have hci : ¬ (c = 0) := by omega
  have hbN : b ≠ w.heap.size := by omega
  have hcpB : ∀ (W : World), (∀ x, W.cell? x = (W1.setCells w.heap.size 0 [v]).cell? x) → (∀ x, W.frozen? x = (W1.setCells w.heap.size 0 [v]).frozen? x) → ∀ ty dc sc, (Builtin.copy_ #[34, 34] ty #[.slice (some ⟨w.heap.size, 1, none⟩) n dc, .slice (some ⟨b, 0, none⟩) n sc]).run Tryz.prog W = .ok (goInt cs.length) (W.setCells w.heap.size 1 cs) := fun W hWc hWf ty dc sc =>
    run_copy_cells W _ _ ty 28 w.heap.size 1 n dc ⟨b, 0, none⟩ n sc cs ht hsz (by rw [hcl]; simp)
      (fun j u hj => by
        rw [Addr.add_lit, hWc, World.cell?_setCells_out _ _ _ _ _ (fun h _ => absurd h hbN), Nat.zero_add]
        exact hOb _ u (hcs j u hj))
      (fun j hj => by rw [hWc]; exact isSome_setCells _ [v] 0 W1 (fun t ht => hN _ (by simp at ht; omega)) _ (hN _ (by omega)))
      (fun j hj => by rw [hWf, World.frozen?_setCells]; exact hNf _) h1c
  subst hW1
  have hE1 : ∀ x, ((w.alloc (.cells ROW 28)).drew).cell? x = (w.drew.alloc (.cells ROW 28)).cell? x := fun x => rfl
  have hE2 : ∀ x, ((w.alloc (.cells ROW 28)).drew).frozen? x = (w.drew.alloc (.cells ROW 28)).frozen? x := fun x => rfl
  have hF1 : ∀ x, (((w.alloc (.cells ROW 28)).drew.setCells w.heap.size 0 [v]).drew).cell? x = ((w.drew.alloc (.cells ROW 28)).setCells w.heap.size 0 [v]).cell? x := fun x => rfl
  have hF2 : ∀ x, (((w.alloc (.cells ROW 28)).drew.setCells w.heap.size 0 [v]).drew).frozen? x = ((w.drew.alloc (.cells ROW 28)).setCells w.heap.size 0 [v]).frozen? x := fun x => rfl
  have hw0 : IntKind.i64.wrap (0 + 1) = 1 := by rw [IntKind.wrap_i64]; rfl
  have hw1 : IntKind.i64.wrap 1 = 1 := by rw [IntKind.wrap_i64]; rfl
  have hb5 : (0 : Int) ≤ (n : Int) := by omega
  have hb6 : (1 : Int) ≤ (n : Int) + 1 := by omega
  have hb7 : (0 : Int) ≤ (n : Int) + 1 := by omega
  have HR := Lib.hid hRl
  clear hold hROW hG hRl
  go_enter Tryz.func63, Tryz.ntmps63
  go_wp2_with (first
    | (at_builtin; refine Lib.wpList_append_run _ rfl _ _ _ _ rfl _ _ rfl rfl _ _ (hrz _) ?_)
    | (at_builtin; refine wpList_copy_runI _ rfl _ _ 34 34 rfl _ _ rfl rfl (hcpA _ hE1 hE2 _ _) ?_)
    | (at_builtin; refine wpList_copy_runI _ rfl _ _ 34 34 rfl _ _ rfl rfl (hcpB _ (fun _ => rfl) (fun _ => rfl) _ _ _) ?_))
  go_region_law_o (refine step_copy_runI rfl _ _ 34 34 rfl (.slice (some ⟨w.heap.size, 1, none⟩) n (G - 1)) (.slice (some ⟨b, 0, none⟩) n c) (by simp [Act.eval, Act.put]) (by simp [Act.eval, Act.put]) (hcpB _ hF1 hF2 3 (G - 1) c) ?_)
  go_wp2
  go_ret
  exact ⟨G, ROW, HR.out, rfl, rfl⟩
theorem Keeps.cells {a : World} {L : List Nat} {b : Nat} (hb : b ∈ L ∨ a.heap.size ≤ b) : ∀ (vs : List Value) (o : Nat) (w : World), Keeps a w L → Keeps a (w.setCells b o vs) L
  | [], _, _, h => h
  | v :: r, o, w, h => by
    rw [World.setCells]
    exact Keeps.cells hb r (o + 1) _ (h.setCell hb v)
/-- The row that reads so behind it. -/
theorem rd_ins (W : World) (g n : Nat) (cs : List Value) (v : Value) (hcl : cs.length = n) (hg : g < W.heap.size) (hsp : ∀ j, j < n + 1 → (W.cell? ⟨g, j, none⟩).isSome = true) : Rd ((W.setCells g 1 cs).setCells g 0 [v]) (some ⟨g, 0, none⟩) (v :: cs) ∧ Rd ((W.setCells g 0 [v]).setCells g 1 cs) (some ⟨g, 0, none⟩) (v :: cs) := by
  have k1 : Keeps W ((W.setCells g 1 cs).setCells g 0 [v]) [g] := Keeps.cells (.inl (by simp)) _ _ _ (Keeps.cells (.inl (by simp)) _ _ _ (Keeps.refl W [g]))
  have k2 : Keeps W ((W.setCells g 0 [v]).setCells g 1 cs) [g] := Keeps.cells (.inl (by simp)) _ _ _ (Keeps.cells (.inl (by simp)) _ _ _ (Keeps.refl W [g]))
  constructor
  · intro j hj
    rw [List.length_cons, hcl] at hj
    cases j with
    | zero =>
      refine ⟨g, 0, v, rfl, Nat.lt_of_lt_of_le hg k1.size, ?_, rfl⟩
      exact World.cell?_setCells_in g [v] 0 _ (fun t ht => isSome_setCells g cs 1 W (fun j hj => hsp _ (by omega)) _ (hsp _ (by simp at ht; omega))) 0 (by simp)
    | succ j =>
      refine ⟨g, 0, cs[j]'(by omega), rfl, Nat.lt_of_lt_of_le hg k1.size, ?_, by rw [List.getElem?_cons_succ]; exact List.getElem?_eq_getElem (by omega)⟩
      rw [World.cell?_setCells_out g [v] 0 _ _ (fun _ _ => .inr (by simp))]
      have h := World.cell?_setCells_in g cs 1 W (fun t ht => hsp _ (by omega)) j (by omega)
      rw [show 0 + (j + 1) = 1 + j by omega]
      exact h
  · intro j hj
    rw [List.length_cons, hcl] at hj
    cases j with
    | zero =>
      refine ⟨g, 0, v, rfl, Nat.lt_of_lt_of_le hg k2.size, ?_, rfl⟩
      rw [World.cell?_setCells_out g cs 1 _ _ (fun _ _ => .inl (by simp))]
      exact World.cell?_setCells_in g [v] 0 _ (fun t ht => hsp _ (by simp at ht; omega)) 0 (by simp)
    | succ j =>
      refine ⟨g, 0, cs[j]'(by omega), rfl, Nat.lt_of_lt_of_le hg k2.size, ?_, by rw [List.getElem?_cons_succ]; exact List.getElem?_eq_getElem (by omega)⟩
      have h := World.cell?_setCells_in g cs 1 (W.setCells g 0 [v]) (fun t ht => isSome_setCells g [v] 0 W (fun j hj => hsp _ (by simp at hj; omega)) _ (hsp _ (by omega))) j (by omega)
      rw [show 0 + (j + 1) = 1 + j by omega]
      exact h
theorem own_atH {w : World} {base n c size : Nat} {e : TypeId} {A : Option Addr} {xs : List Value} (h : w.ownsRow base e size (.slice A n c) n xs) (hn : 0 < n) : ∃ g, A = some ⟨g, 0, none⟩ ∧ n ≤ c := by
  rcases h.2 with ⟨_, h1⟩ | ⟨g, cap, cur, h1, h2, h3, h4, _⟩
  · omega
  · injection h1 with h1 _ h8
    subst h8
    exact ⟨g, h1, h4⟩
theorem insC_any (l : List Int) (A : Option Addr) (n c base : Nat) (x : Int) (w : World) (hown : w.ownsRow base 28 1 (.slice A n c) n (l.map (Value.int .u64))) (h0 : 0 < n) (hn : n ≤ 1000000) (vb vc : Nat) (hvb : Blk w vb 28 #[.int .u64 x]) (hne : vb ∉ ownL (.slice A n c)) :
    Calls Tryz.prog 63 #[.slice A n c, .int .i64 0, .slice (some ⟨vb, 0, none⟩) 1 vc] w fun e w' => ∃ A' c', e = .returned (.slice A' (n + 1) c') ∧ Rd w' A' ((x :: l).map (Value.int .u64)) ∧ Keeps w w' (ownL (.slice A n c)) ∧ ∃ g', A' = some ⟨g', 0, none⟩ ∧ (g' ∈ ownL (.slice A n c) ∨ g' = w.heap.size) := by
  obtain ⟨g, rfl, hnc⟩ := own_atH hown h0
  have hln : l.length = n := by have := hown.1; simpa using this
  obtain ⟨cur, hb, hcs, htk, _, _⟩ := own_block hown
  have hcm : c ≤ maxLen := by
    rcases hown.2 with ⟨h, _⟩ | ⟨g', cap, cur', h1, _, _, _, h5, _⟩
    · cases h
    · injection h1 with _ _ h1
      subst h1
      exact h5
  have hvg : vb ≠ g := fun e => hne (by subst e; simp [ownL, Value.ownBlock])
  have hcell : ∀ j v, (l.map (Value.int .u64))[j]? = some v → w.cell? ⟨g, j, none⟩ = some v := fun j v hj => by
    obtain ⟨b, off, u, e, _, hc, hu⟩ := Rd.of_own hown j (List.getElem?_eq_some_iff.1 hj).1
    injection e with e
    injection e with e1 e2
    subst e1 e2
    rw [Nat.zero_add] at hc
    rw [hj] at hu
    injection hu with hu
    rw [hc, hu]
  have hm : g ∈ ownL (.slice (some ⟨g, 0, none⟩) n c) := by simp [ownL, Value.ownBlock]
  have h1c : ∀ v ∈ l.map (Value.int .u64), v.oneCell' = true := fun v hv => by obtain ⟨y, _, rfl⟩ := List.mem_map.1 hv; rfl
  by_cases hroom : n + 1 ≤ c
  · have hsp : ∀ j, j < n + 1 → (w.cell? ⟨g, j, none⟩).isSome = true := fun j hj => by
      rw [hb.cell j, Array.getElem?_eq_getElem (by omega)]; rfl
    refine (insC_shift g n c vb vc (l.map (Value.int .u64)) (.int .u64 x) w h0 hroom (by unfold maxLen at hcm; omega) hvg (by simpa using hln) hcell hsp (fun j _ => hb.frozen j) (hvb.cell 0) h1c rfl 28 28 1 cur.size (by unfold World.shape?; rw [show w.heap[vb]? = _ from hvb]; rfl) (by unfold World.shape?; rw [show w.heap[g]? = _ from hb]) (by omega) (hvb.frozen 0) (hvb.frozen 1)).mono ?_
    rintro e w' ⟨rfl, rfl⟩
    exact ⟨_, _, rfl, (rd_ins w.drew g n (l.map (Value.int .u64)) (.int .u64 x) (by simpa using hln) hb.lt hsp).1, Keeps.cells (.inl hm) _ _ _ (Keeps.cells (.inl hm) _ _ _ (Keeps.refl w _).drew), g, rfl, .inl hm⟩
  · refine (insC_grow g n c vb vc (l.map (Value.int .u64)) (.int .u64 x) w h0 hnc (by omega) (by omega) (by simpa using hln) hcell (hvb.cell 0) h1c rfl).mono ?_
    rintro e w' ⟨G, ROW, hR, rfl, rfl⟩
    rw [drew_setCells]
    have hsp : ∀ j, j < n + 1 → ((w.alloc (.cells ROW 28)).drew.cell? ⟨w.heap.size, j, none⟩).isSome = true := fun j hj => by
      have h := (Blk.new w 28 ROW).cell j
      show ((w.alloc (.cells ROW 28)).cell? ⟨w.heap.size, j, none⟩).isSome = true
      rw [h, Array.getElem?_eq_getElem (by omega)]; rfl
    exact ⟨_, _, rfl, (rd_ins (w.alloc (.cells ROW 28)).drew.drew w.heap.size n (l.map (Value.int .u64)) (.int .u64 x) (by simpa using hln) (Blk.new w 28 ROW).lt hsp).2, Keeps.cells (.inr (Nat.le_refl _)) _ _ _ (Keeps.cells (.inr (Nat.le_refl _)) _ _ _ (((Keeps.refl w _).alloc _).drew.drew)), w.heap.size, rfl, .inr rfl⟩
end Go.Proofs.YtnonfmaehfmigaaGreatDoor

/- A heap's parts lie apart; what turns them. No function in sight. -/
namespace Go.Proofs.YtnonfmaehfmigaaGreatDoor
open Go.RowKit Go.Maps

theorem own_disj {w : World} {base base' n n' size size' : Nat} {e e' : TypeId} {v v' : Value} {xs xs' : List Value} (h : w.ownsRow base e size v n xs) (h' : w.ownsRow base' e' size' v' n' xs') (hne : e ≠ e') : ∀ b ∈ ownL v, b ∉ ownL v' := by
  intro b hb hb'
  unfold ownL at hb hb'
  simp only [Option.mem_toList] at hb hb'
  rcases h.2 with ⟨rfl, _⟩ | ⟨g, cap, cur, rfl, _, h1, _⟩
  · simp [Value.ownBlock] at hb
  · rcases h'.2 with ⟨rfl, _⟩ | ⟨g', cap', cur', rfl, _, h2, _⟩
    · simp [Value.ownBlock] at hb'
    · simp [Value.ownBlock] at hb hb'
      subst hb hb'
      rw [h1] at h2
      simp at h2
      exact hne h2.2
theorem VM.ne {w : World} {b n g : Nat} {f : Int → Option Int} {t : TypeId} {cs : Array Value} (h : VM w b n f) (k : Blk w g t cs) : b ≠ g := by
  rintro rfl
  obtain ⟨D, ⟨es, clock, e1, _⟩, _⟩ := h
  unfold Blk at k
  rw [e1] at k
  cases k
theorem VM.out {w : World} {b n m base size : Nat} {f : Int → Option Int} {e : TypeId} {v : Value} {xs : List Value} (h : VM w b n f) (k : w.ownsRow base e size v m xs) : b ∉ ownL v := by
  intro hb
  unfold ownL at hb
  simp only [Option.mem_toList] at hb
  obtain ⟨D, ⟨es, clock, e1, _⟩, _⟩ := h
  rcases k.2 with ⟨rfl, _⟩ | ⟨g, cap, cur, rfl, _, h1, _⟩
  · simp [Value.ownBlock] at hb
  · simp [Value.ownBlock] at hb
    subst hb
    rw [e1] at h1
    cases h1
theorem VM.more {w : World} {b n n' : Nat} {f : Int → Option Int} (h : VM w b n f) (hn : n ≤ n') : VM w b n' f := by
  obtain ⟨D, h1, h2⟩ := h
  exact ⟨D, h1.mono hn, h2⟩
section
variable {w : World} {base hb ag ah vb : Nat} {AA FA TA MA : Option Addr} {ca nt ct nm cm cf : Nat} {H : PH} {tr : List Int} {mk : List (Int × Int)} {room : Nat}
/-- The parts lie apart. -/
structure Apart (w : World) (hb ag ah vb : Nat) (AA FA TA MA : Option Addr) : Prop where
  a1 : hb ≠ ag ∧ hb ≠ ah ∧ vb ≠ hb ∧ vb ≠ ag ∧ vb ≠ ah ∧ ag ≠ ah
  a2 : ∀ b ∈ [hb, ag, ah, vb], b ∉ ownL (.slice AA 0 0) ∧ b ∉ ownL (.slice FA 0 0) ∧ b ∉ ownL (.slice TA 0 0) ∧ b ∉ ownL (.slice MA 0 0)
  a3 : (∀ b ∈ ownL (.slice AA 0 0), b ∉ ownL (.slice FA 0 0) ∧ b ∉ ownL (.slice TA 0 0) ∧ b ∉ ownL (.slice MA 0 0)) ∧ (∀ b ∈ ownL (.slice FA 0 0), b ∉ ownL (.slice TA 0 0) ∧ b ∉ ownL (.slice MA 0 0)) ∧ (∀ b ∈ ownL (.slice TA 0 0), b ∉ ownL (.slice MA 0 0))
  lt : hb < w.heap.size ∧ ag < w.heap.size ∧ ah < w.heap.size ∧ vb < w.heap.size
theorem Hm.apart (h : Hm w base hb ag ah vb AA FA TA MA ca nt ct nm cm cf H tr mk room) : Apart w hb ag ah vb AA FA TA MA := by
  obtain ⟨cap, hba, hoa, _⟩ := h.ar.blk
  obtain ⟨cur, hbc, _⟩ := own_block hoa
  have o1 := h.atoms
  have o2 := h.funs
  have o3 := h.trail
  have o4 := h.marks
  have e1 := ownL_slice AA H.atoms.length ca
  have e2 := ownL_slice FA H.funs.length cf
  have e3 := ownL_slice TA nt ct
  have e4 := ownL_slice MA nm cm
  refine ⟨⟨h.blk.ne_ hba (by decide), h.blk.ne_ hbc (by decide), h.vars.ne h.blk, h.vars.ne hba, h.vars.ne hbc, hba.ne_ hbc (by decide)⟩, fun b hb' => ?_, ⟨fun b hb' => ?_, fun b hb' => ?_, fun b hb' => ?_⟩, h.blk.lt, hba.lt, hbc.lt, h.vars.lt⟩
  · rw [← e1, ← e2, ← e3, ← e4]
    simp only [List.mem_cons, List.not_mem_nil, or_false] at hb'
    rcases hb' with rfl | rfl | rfl | rfl
    · exact ⟨own_outT o1 h.blk (by decide), own_outT o2 h.blk (by decide), own_outT o3 h.blk (by decide), own_outT o4 h.blk (by decide)⟩
    · exact ⟨own_outT o1 hba (by decide), own_outT o2 hba (by decide), own_outT o3 hba (by decide), own_outT o4 hba (by decide)⟩
    · exact ⟨own_outT o1 hbc (by decide), own_outT o2 hbc (by decide), own_outT o3 hbc (by decide), own_outT o4 hbc (by decide)⟩
    · exact ⟨h.vars.out o1, h.vars.out o2, h.vars.out o3, h.vars.out o4⟩
  · rw [← e1] at hb'
    rw [← e2, ← e3, ← e4]
    exact ⟨own_disj o1 o2 (by decide) b hb', own_disj o1 o3 (by decide) b hb', own_disj o1 o4 (by decide) b hb'⟩
  · rw [← e2] at hb'
    rw [← e3, ← e4]
    exact ⟨own_disj o2 o3 (by decide) b hb', own_disj o2 o4 (by decide) b hb'⟩
  · rw [← e3] at hb'
    rw [← e4]
    exact own_disj o3 o4 (by decide) b hb'
theorem own_keepZ {w w' : World} {L : List Nat} {base n size c : Nat} {e : TypeId} {A : Option Addr} {xs : List Value} (h : w.ownsRow base e size (.slice A n c) n xs) (k : Keeps w w' L) (hL : ∀ b ∈ L, b ∉ ownL (.slice A 0 0)) : w'.ownsRow base e size (.slice A n c) n xs :=
  own_keepL h k fun b hb => by rw [ownL_slice]; exact hL b hb
/-- Nothing of it turns. -/
theorem Hm.keep (h : Hm w base hb ag ah vb AA FA TA MA ca nt ct nm cm cf H tr mk room) {w' : World} {L : List Nat} (k : Keeps w w' L) (hL : ∀ b ∈ L, b ∉ hpL hb ag ah vb AA FA TA MA) : Hm w' base hb ag ah vb AA FA TA MA ca nt ct nm cm cf H tr mk room := by
  have hn : ∀ b ∈ L, (b ≠ hb ∧ b ≠ ag ∧ b ≠ ah ∧ b ≠ vb) ∧ b ∉ ownL (.slice AA 0 0) ∧ b ∉ ownL (.slice FA 0 0) ∧ b ∉ ownL (.slice TA 0 0) ∧ b ∉ ownL (.slice MA 0 0) := fun b hb => by
    have h1 := hL b hb
    unfold hpL at h1
    simp only [List.mem_append, List.mem_cons, List.not_mem_nil, or_false, not_or] at h1
    exact ⟨⟨h1.1.1, h1.1.2.1, h1.1.2.2.1, h1.1.2.2.2⟩, h1.2.1, h1.2.2.1, h1.2.2.2.1, h1.2.2.2.2⟩
  exact ⟨h.blk.keep k (fun hm => (hn _ hm).1.1 rfl), h.ar.keep k (fun hm => (hn _ hm).1.2.1 rfl) (fun hm => (hn _ hm).1.2.2.1 rfl), own_keepZ h.atoms k (fun b hb => (hn b hb).2.1), own_keepZ h.funs k (fun b hb => (hn b hb).2.2.1), h.vars.kept k (fun hm => (hn _ hm).1.2.2.2 rfl), own_keepZ h.trail k (fun b hb => (hn b hb).2.2.2.1), own_keepZ h.marks k (fun b hb => (hn b hb).2.2.2.2), h.low, h.few⟩
theorem Hm.keep0 (h : Hm w base hb ag ah vb AA FA TA MA ca nt ct nm cm cf H tr mk room) {w' : World} (k : Keeps w w' []) : Hm w' base hb ag ah vb AA FA TA MA ca nt ct nm cm cf H tr mk room := h.keep k (by simp)
/-- One more cell, or others. -/
theorem Hm.cells (h : Hm w base hb ag ah vb AA FA TA MA ca nt ct nm cm cf H tr mk room) {w' : World} (k : Keeps w w' [ag, ah]) {l : List Int} (ha : Ar w' base ag ah l room) (hl : H.cells.length ≤ l.length) : Hm w' base hb ag ah vb AA FA TA MA ca nt ct nm cm cf { H with cells := l } tr mk room := by
  have ap := h.apart
  have hx : ∀ b ∈ [ag, ah], b ∉ ownL (.slice AA 0 0) ∧ b ∉ ownL (.slice FA 0 0) ∧ b ∉ ownL (.slice TA 0 0) ∧ b ∉ ownL (.slice MA 0 0) := fun b hb => ap.a2 b (by simp only [List.mem_cons, List.not_mem_nil, or_false] at hb ⊢; rcases hb with rfl | rfl <;> simp)
  have a1 := ap.a1
  exact ⟨h.blk.keep k (by simp only [List.mem_cons, List.not_mem_nil, or_false, not_or]; exact ⟨a1.1, a1.2.1⟩), ha, own_keepZ h.atoms k (fun b hb => (hx b hb).1), own_keepZ h.funs k (fun b hb => (hx b hb).2.1), (h.vars.kept k (by simp only [List.mem_cons, List.not_mem_nil, or_false, not_or]; exact ⟨a1.2.2.2.1, a1.2.2.2.2.1⟩)).more hl, own_keepZ h.trail k (fun b hb => (hx b hb).2.2.1), own_keepZ h.marks k (fun b hb => (hx b hb).2.2.2), h.low, h.few⟩
/-- A variable's place. -/
theorem Hm.vars_ (h : Hm w base hb ag ah vb AA FA TA MA ca nt ct nm cm cf H tr mk room) {w' : World} (k : Keeps w w' [vb]) {f : Int → Option Int} (hv : VM w' vb H.cells.length f) : Hm w' base hb ag ah vb AA FA TA MA ca nt ct nm cm cf { H with vars := f } tr mk room := by
  have ap := h.apart
  have hx : ∀ b ∈ [vb], b ∉ ownL (.slice AA 0 0) ∧ b ∉ ownL (.slice FA 0 0) ∧ b ∉ ownL (.slice TA 0 0) ∧ b ∉ ownL (.slice MA 0 0) := fun b hb => ap.a2 b (by simp only [List.mem_cons, List.not_mem_nil, or_false] at hb ⊢; subst hb; simp)
  have a1 := ap.a1
  exact ⟨h.blk.keep k (by simp only [List.mem_cons, List.not_mem_nil, or_false]; exact Ne.symm a1.2.2.1), h.ar.keep k (by simp only [List.mem_cons, List.not_mem_nil, or_false]; exact Ne.symm a1.2.2.2.1) (by simp only [List.mem_cons, List.not_mem_nil, or_false]; exact Ne.symm a1.2.2.2.2.1), own_keepZ h.atoms k (fun b hb => (hx b hb).1), own_keepZ h.funs k (fun b hb => (hx b hb).2.1), hv, own_keepZ h.trail k (fun b hb => (hx b hb).2.2.1), own_keepZ h.marks k (fun b hb => (hx b hb).2.2.2), h.low, h.few⟩
/-- .. atoms turn. -/
theorem Hm.atoms_ (h : Hm w base hb ag ah vb AA FA TA MA ca nt ct nm cm cf H tr mk room) {w1 : World} (k : Keeps w w1 (ownL (.slice AA 0 0))) {A' : Option Addr} {c' : Nat} {l' : List ByteArray} (ho : w1.ownsRow base 9 1 (.slice A' l'.length c') l'.length (l'.map Value.string)) (hn : ∀ b ∈ ownL (.slice A' 0 0), b ∈ ownL (.slice AA 0 0) ∨ w.heap.size ≤ b) (hf : l'.length ≤ 1000000) :
    Hm (w1.setCell ⟨hb, 1, none⟩ (.slice A' l'.length c')) base hb ag ah vb A' FA TA MA c' nt ct nm cm cf { H with atoms := l' } tr mk room := by
  have ap := h.apart
  have a1 := ap.a1
  have hx : ∀ b ∈ ownL (.slice AA 0 0), b ∉ [hb, ag, ah, vb] := fun b hb' hm => (ap.a2 b hm).1 hb'
  have hno : hb ∉ ownL (.slice AA 0 0) := fun hm => hx hb hm (by simp)
  have b1 := h.blk.keep k hno
  have r1 := h.ar.keep k (fun hm => hx ag hm (by simp)) (fun hm => hx ah hm (by simp))
  have v1 := h.vars.kept k (fun hm => hx vb hm (by simp))
  have o1 := own_keepZ h.funs k (fun b hb' => (ap.a3.1 b hb').1)
  have o2 := own_keepZ h.trail k (fun b hb' => (ap.a3.1 b hb').2.1)
  have o3 := own_keepZ h.marks k (fun b hb' => (ap.a3.1 b hb').2.2)
  have ks : Keeps w1 (w1.setCell ⟨hb, 1, none⟩ (.slice A' l'.length c')) [hb] := (Keeps.refl w1 [hb]).setCell (.inl (by simp)) _
  have hy := ap.a2 hb (by simp)
  have hA : hb ∉ ownL (.slice A' 0 0) := fun hm => by
    rcases hn hb hm with h1 | h1
    · exact hno h1
    · have := ap.lt.1; omega
  have one : ∀ {Q : Option Addr}, hb ∉ ownL (.slice Q 0 0) → ∀ b ∈ [hb], b ∉ ownL (.slice Q 0 0) := fun hq b hb' => by simp at hb'; subst hb'; exact hq
  have b2 := b1.set_ 1 (.slice A' l'.length c')
  exact ⟨by simpa using b2, r1.keep ks (by simp only [List.mem_cons, List.not_mem_nil, or_false]; exact Ne.symm a1.1) (by simp only [List.mem_cons, List.not_mem_nil, or_false]; exact Ne.symm a1.2.1), own_keepZ ho ks (one hA), own_keepZ o1 ks (one hy.2.1), v1.kept ks (by simp only [List.mem_cons, List.not_mem_nil, or_false]; exact a1.2.2.1), own_keepZ o2 ks (one hy.2.2.1), own_keepZ o3 ks (one hy.2.2.2), h.low, ⟨hf, h.few.2⟩⟩
/-- .. funs turn. -/
theorem Hm.funs_ (h : Hm w base hb ag ah vb AA FA TA MA ca nt ct nm cm cf H tr mk room) {w1 : World} (k : Keeps w w1 (ownL (.slice FA 0 0))) {A' : Option Addr} {c' : Nat} {l' : List (ByteArray × Int)} (ho : w1.ownsRow base 106 2 (.slice A' l'.length c') l'.length (l'.flatMap funE)) (hn : ∀ b ∈ ownL (.slice A' 0 0), b ∈ ownL (.slice FA 0 0) ∨ w.heap.size ≤ b) (hf : l'.length ≤ 1000000) :
    Hm (w1.setCell ⟨hb, 2, none⟩ (.slice A' l'.length c')) base hb ag ah vb AA A' TA MA ca nt ct nm cm c' { H with funs := l' } tr mk room := by
  have ap := h.apart
  have a1 := ap.a1
  have hx : ∀ b ∈ ownL (.slice FA 0 0), b ∉ [hb, ag, ah, vb] := fun b hb' hm => (ap.a2 b hm).2.1 hb'
  have hno : hb ∉ ownL (.slice FA 0 0) := fun hm => hx hb hm (by simp)
  have b1 := h.blk.keep k hno
  have r1 := h.ar.keep k (fun hm => hx ag hm (by simp)) (fun hm => hx ah hm (by simp))
  have v1 := h.vars.kept k (fun hm => hx vb hm (by simp))
  have o1 := own_keepZ h.atoms k (fun b hb' => fun hm => (ap.a3.1 b hm).1 hb')
  have o2 := own_keepZ h.trail k (fun b hb' => (ap.a3.2.1 b hb').1)
  have o3 := own_keepZ h.marks k (fun b hb' => (ap.a3.2.1 b hb').2)
  have ks : Keeps w1 (w1.setCell ⟨hb, 2, none⟩ (.slice A' l'.length c')) [hb] := (Keeps.refl w1 [hb]).setCell (.inl (by simp)) _
  have hy := ap.a2 hb (by simp)
  have hA : hb ∉ ownL (.slice A' 0 0) := fun hm => by
    rcases hn hb hm with h1 | h1
    · exact hno h1
    · have := ap.lt.1; omega
  have one : ∀ {Q : Option Addr}, hb ∉ ownL (.slice Q 0 0) → ∀ b ∈ [hb], b ∉ ownL (.slice Q 0 0) := fun hq b hb' => by simp at hb'; subst hb'; exact hq
  have b2 := b1.set_ 2 (.slice A' l'.length c')
  exact ⟨by simpa using b2, r1.keep ks (by simp only [List.mem_cons, List.not_mem_nil, or_false]; exact Ne.symm a1.1) (by simp only [List.mem_cons, List.not_mem_nil, or_false]; exact Ne.symm a1.2.1), own_keepZ o1 ks (one hy.1), own_keepZ ho ks (one hA), v1.kept ks (by simp only [List.mem_cons, List.not_mem_nil, or_false]; exact a1.2.2.1), own_keepZ o2 ks (one hy.2.2.1), own_keepZ o3 ks (one hy.2.2.2), h.low, ⟨h.few.1, hf⟩⟩
end
theorem Hm.lt {w : World} {base hb ag ah vb : Nat} {AA FA TA MA : Option Addr} {ca nt ct nm cm cf : Nat} {H : PH} {tr : List Int} {mk : List (Int × Int)} {room : Nat} (h : Hm w base hb ag ah vb AA FA TA MA ca nt ct nm cm cf H tr mk room) : ∀ b ∈ hpL hb ag ah vb AA FA TA MA, b < w.heap.size := by
  intro b hb'
  have ap := h.apart
  unfold hpL at hb'
  simp only [List.mem_append, List.mem_cons, List.not_mem_nil, or_false] at hb'
  rcases hb' with (rfl | rfl | rfl | rfl) | hb' | hb' | hb' | hb'
  · exact ap.lt.1
  · exact ap.lt.2.1
  · exact ap.lt.2.2.1
  · exact ap.lt.2.2.2
  · rw [← ownL_slice AA H.atoms.length ca] at hb'; exact (own_lt h.atoms hb').2
  · rw [← ownL_slice FA H.funs.length cf] at hb'; exact (own_lt h.funs hb').2
  · rw [← ownL_slice TA nt ct] at hb'; exact (own_lt h.trail hb').2
  · rw [← ownL_slice MA nm cm] at hb'; exact (own_lt h.marks hb').2
theorem Hp.lt {w : World} {base hb : Nat} {L : List Nat} {H : PH} {tr : List Int} {mk : List (Int × Int)} {room : Nat} (h : Hp w base hb L H tr mk room) : ∀ b ∈ L, b < w.heap.size := by
  obtain ⟨ag, ah, vb, AA, FA, TA, MA, ca, nt, ct, nm, cm, cf, rfl, h⟩ := h
  exact h.lt
theorem Hp.keep {w w' : World} {base hb : Nat} {L M : List Nat} {H : PH} {tr : List Int} {mk : List (Int × Int)} {room : Nat} (h : Hp w base hb L H tr mk room) (k : Keeps w w' M) (hM : ∀ b ∈ M, b ∉ L) : Hp w' base hb L H tr mk room := by
  obtain ⟨ag, ah, vb, AA, FA, TA, MA, ca, nt, ct, nm, cm, cf, rfl, h⟩ := h
  exact ⟨ag, ah, vb, AA, FA, TA, MA, ca, nt, ct, nm, cm, cf, rfl, h.keep k hM⟩
/-- Only some of its blocks turn, none comes. -/
theorem HSt.of {w w' : World} {L M : List Nat} (k : Keeps w w' M) (hM : ∀ b ∈ M, b ∈ L) : HSt w L w' L := ⟨k.more fun b _ hb => hM b hb, fun _ h => .inl h⟩
theorem HSt.keep0 {a w w' : World} {L M : List Nat} (h : HSt a L w M) (k : Keeps w w' []) : HSt a L w' M := h.trans ⟨k.to_ _, fun _ h => .inl h⟩
/-- What lies outside stays outside. -/
theorem HSt.out {w w' : World} {L L' : List Nat} (h : HSt w L w' L') {b : Nat} (hb : b < w.heap.size) (hn : b ∉ L) : b ∉ L' := fun hm => by
  rcases h.own b hm with h1 | h1
  · exact hn h1
  · omega
end Go.Proofs.YtnonfmaehfmigaaGreatDoor

/- A term is laid: the program's Push, variable, lay, Build. Printed by gen_hplay.py. -/
namespace Go.Proofs.YtnonfmaehfmigaaGreatDoor
open Go.RowKit Go.Maps

section
variable {w : World} {base hb ag ah vb : Nat} {AA FA TA MA : Option Addr} {ca nt ct nm cm cf : Nat} {H : PH} {tr : List Int} {mk : List (Int × Int)} {room : Nat}
theorem keep3 {w w' : World} {L M : List Nat} (h : Keeps w w' L) (hs : ∀ b ∈ L, b ∈ M) : Keeps w w' M := h.more fun b _ hb => hs b hb
set_option maxRecDepth 100000 in
set_option maxHeartbeats 1600000 in
theorem hpush_any (h : Hm w base hb ag ah vb AA FA TA MA ca nt ct nm cm cf H tr mk room) (c : Int) (hc0 : 0 ≤ c) (hc1 : c < 18446744073709551616) (hr : right c = true) (hlt : H.cells.length < room) :
    Calls Tryz.prog 64 #[(.pointer (some ⟨hb, 0, none⟩)), .int .u64 c] w fun e w' => e = .returned (.bool true) ∧ Hm w' base hb ag ah vb AA FA TA MA ca nt ct nm cm cf { H with cells := H.cells ++ [c] } tr mk room ∧ Keeps w w' [ag, ah] := by
  have HH := Lib.hid h
  have HC := Lib.hid (push_yes h.ar c hc0 hc1 hr hlt)
  have c0 := h.blk.cell 0
  clear h hc0 hc1 hr hlt
  go_enter Tryz.func64, Tryz.ntmps64
  go_wp2_with fail
  refine HC.out.mono ?_
  rintro e w1 ⟨rfl, ha, k1⟩
  have HA := Lib.hid ha
  have HK := Lib.hid k1
  clear ha k1 HC
  go_wp2_with fail
  go_ret
  exact ⟨rfl, HH.out.cells HK.out HA.out (by simp), HK.out⟩
set_option maxRecDepth 100000 in
set_option maxHeartbeats 1600000 in
theorem variable_any (h : Hm w base hb ag ah vb AA FA TA MA ca nt ct nm cm cf H tr mk room) (hv : VB H) (n : Int) (hn : I64 n) (hroom : (layV H n).1.cells.length ≤ room) :
    Calls Tryz.prog 60 #[(.pointer (some ⟨hb, 0, none⟩)), .int .i64 n] w fun e w' => e = .returned (.tuple #[.int .u64 (layV H n).2, .bool true]) ∧ Hm w' base hb ag ah vb AA FA TA MA ca nt ct nm cm cf (layV H n).1 tr mk room ∧ Keeps w w' [ag, ah, vb] := by
  have HH := Lib.hid h
  have hlook := h.vars.look hn
  have hmost := h.ar.most
  have hfits := h.ar.fits
  have c0 := h.blk.cell 0
  have c3 := h.blk.cell 3
  cases hvn : H.vars n with
  | some p =>
    obtain ⟨q, rfl, hq⟩ := hv.at_ n p hvn
    have hql := hq
    have HL : Hid (layV H n = (H, (q : Int) * 8)) := by show _ = _; unfold layV; rw [hvn]
    have HM := Lib.hid (fun W => make_yes 0 (q : Int) W ⟨by omega, by omega, by omega, by omega⟩)
    rw [hvn] at hlook
    simp only [Option.getD_some, Option.isSome_some] at hlook
    rw [HL.out]
    clear hv hq hvn hroom h
    go_enter Tryz.func60, Tryz.ntmps60
    go_wp2_with fail
    refine (HM.out _).mono ?_
    rintro e w1 ⟨rfl, rfl⟩
    go_wp2_with fail
    go_ret2
    exact ⟨by simp, HH.out, Keeps.refl _ _⟩
  | none =>
    obtain ⟨q, hq⟩ : ∃ q, H.cells.length = q := ⟨_, rfl⟩
    have HL : Hid (layV H n = ({ H with cells := H.cells ++ [(q : Int) * 8], vars := putV H.vars n q }, (q : Int) * 8)) := by show _ = _; unfold layV; rw [hvn, hq]
    rw [HL.out] at hroom
    have hq1 : q + 1 ≤ room := by simpa [hq] using hroom
    have HT := Lib.hid (atop_any h.ar)
    have HM := Lib.hid (fun W => make_yes 0 (q : Int) W ⟨by omega, by omega, by omega, by omega⟩)
    have HPu := Lib.hid (hpush_any h ((q : Int) * 8) (by omega) (by omega) (by simp [right]; omega) (by omega))
    rw [hq] at HT
    rw [hvn] at hlook
    simp only [Option.getD_none, Option.isSome_none] at hlook
    rw [HL.out]
    have HQ := Lib.hid hq
    clear hv hvn hroom h hq
    go_enter Tryz.func60, Tryz.ntmps60
    go_wp2_with fail
    refine HT.out.mono ?_
    rintro e w1 ⟨rfl, rfl⟩
    go_wp2_with fail
    refine (HM.out _).mono ?_
    rintro e w1 ⟨rfl, rfl⟩
    rw [Int.add_zero]
    go_wp2_with fail
    refine HPu.out.mono ?_
    rintro e w2 ⟨rfl, h2, k2⟩
    have hvm : VM w2 vb q H.vars := by
      have h3 := HH.out.vars.kept k2 (by have := HH.out.apart.a1; simp only [List.mem_cons, List.not_mem_nil, or_false, not_or]; exact ⟨this.2.2.2.1, this.2.2.2.2.1⟩)
      rw [HQ.out] at h3
      exact h3
    obtain ⟨w3, hupd, hv3, k3⟩ := hvm.put (x := n) (p := (q : Int)) (by omega) hn ⟨by omega, by omega⟩
    have h3 := h2.vars_ k3 (f := putV H.vars n q) (by show VM w3 vb (H.cells ++ [(q : Int) * 8]).length _; rw [List.length_append, List.length_singleton, HQ.out]; exact hv3)
    have HH3 := Lib.hid h3
    have HK3 := Lib.hid ((keep3 k2 (M := [ag, ah, vb]) (by simp +contextual)).trans (keep3 k3 (M := [ag, ah, vb]) (by simp +contextual)))
    have d3 := h2.blk.cell 3
    clear h2 k2 hvm hv3 k3 h3 c0 c3 hlook HPu HT HH
    go_wp2_with fail
    refine (HM.out _).mono ?_
    rintro e w4 ⟨rfl, rfl⟩
    go_wp2_with fail
    go_ret2
    exact ⟨by simp, HH3.out, HK3.out⟩
end
/-- All fits. -/
def FitR (room : Nat) (H : PH) : Prop := H.cells.length ≤ room ∧ H.atoms.length ≤ 1000000 ∧ H.funs.length ≤ 1000000
theorem FitR.le {room : Nat} {H H' : PH} (h : FitR room H') (k : H.le H') : FitR room H := ⟨Nat.le_trans k.cells.length_le h.1, Nat.le_trans k.atoms.length_le h.2.1, Nat.le_trans k.funs.length_le h.2.2⟩
/-- What is told of a term that is laid. -/
def LayR (w : World) (base hb : Nat) (L : List Nat) (r : PH × Int) (tr : List Int) (mk : List (Int × Int)) (room : Nat) (e : Ending) (w' : World) : Prop :=
  e = .returned (.tuple #[.int .u64 r.2, .bool true]) ∧ ∃ L', Hp w' base hb L' r.1 tr mk room ∧ HSt w L w' L'
set_option maxRecDepth 100000 in
set_option maxHeartbeats 3200000 in
/-- A variable. -/
theorem layV_any (base hb : Nat) (tr : List Int) (mk : List (Int × Int)) (room : Nat) (n : Int) (s : ByteArray) (l : List Tm) (v : TV) (w : World) (L : List Nat) (H : PH) (hH : Hp w base hb L H tr mk room) (hv : VB H) (ht : Tr w (fun b => b ∉ L) (.mk 0 n s l) v) (hr : tRight (.mk 0 n s l) = true) (hf : FitR room (lay H (.mk 0 n s l)).1) :
    Calls Tryz.prog 31 #[(.pointer (some ⟨hb, 0, none⟩)), tvV v] w (LayR w base hb L (lay H (.mk 0 n s l)) tr mk room) := by
  have hlay : lay H (.mk 0 n s l) = layV H n := by rw [lay, if_pos rfl]
  rw [hlay] at hf ⊢
  have hn9 := (right_var hr).2
  obtain ⟨e1, e2, e3, e4, _, _⟩ := ht.inv
  obtain ⟨k, n', s', A, m, c⟩ := v
  replace e1 : k = 0 := e1
  replace e2 : n' = n := e2
  subst e1 e2
  obtain ⟨ag, ah, vb, AA, FA, TA, MA, ca, nt, ct, nm, cm, cf, rfl, hm⟩ := hH
  have hm1 := hm.keep0 ((Keeps.refl w []).alloc (.cells #[.int .i64 0, .int .i64 n', .string s', .slice A m c] 40))
  have HC := Lib.hid (variable_any hm1 hv n' ⟨by omega, by omega⟩ hf.1)
  clear hm hm1 hv ht hr hf hlay e3 e4 hn9
  unfold tvV
  go_enter Tryz.func31, Tryz.ntmps31
  go_wp2_with fail
  refine HC.out.mono ?_
  rintro e w1 ⟨rfl, h1, k1⟩
  have H1 := Lib.hid h1
  have K1 := Lib.hid k1
  clear h1 k1 HC
  go_wp2_with fail
  go_ret2
  refine ⟨rfl, _, ⟨ag, ah, vb, AA, FA, TA, MA, ca, nt, ct, nm, cm, cf, rfl, H1.out⟩, HSt.of (((Keeps.refl w _).alloc _).trans K1.out) fun b hb' => ?_⟩
  unfold hpL
  simp only [List.mem_append, List.mem_cons, List.not_mem_nil, or_false] at hb' ⊢
  rcases hb' with rfl | rfl | rfl <;> simp
set_option maxRecDepth 100000 in
set_option maxHeartbeats 3200000 in
/-- A name. -/
theorem layC_any (base hb : Nat) (tr : List Int) (mk : List (Int × Int)) (room : Nat) (n : Int) (s : ByteArray) (l : List Tm) (v : TV) (w : World) (L : List Nat) (H : PH) (hH : Hp w base hb L H tr mk room) (ht : Tr w (fun b => b ∉ L) (.mk 1 n s l) v) (hf : FitR room (lay H (.mk 1 n s l)).1) :
    Calls Tryz.prog 31 #[(.pointer (some ⟨hb, 0, none⟩)), tvV v] w (LayR w base hb L (lay H (.mk 1 n s l)) tr mk room) := by
  have hlay : lay H (.mk 1 n s l) = ({ H with atoms := numL H.atoms s }, (numI H.atoms s : Int) * 8 + 2) := by rw [lay, if_neg (by decide), if_pos rfl]
  rw [hlay] at hf ⊢
  obtain ⟨e1, e2, e3, e4, _, _⟩ := ht.inv
  obtain ⟨k, n', s', A, m, c⟩ := v
  replace e1 : k = 1 := e1
  replace e3 : s' = s := e3
  subst e1 e3
  obtain ⟨ag, ah, vb, AA, FA, TA, MA, ca, nt, ct, nm, cm, cf, rfl, hm⟩ := hH
  have hn1 : (numL H.atoms s').length ≤ 1000000 := hf.2.1
  have hni := numI_lt H.atoms s'
  have HN1 := Lib.hid hn1
  have HM := Lib.hid hm
  have HMk := Lib.hid (fun W => make_yes 2 (numI H.atoms s' : Int) W ⟨by omega, by omega, by omega, by omega⟩)
  have hK0 : Keeps w (w.alloc (.cells #[.int .i64 1, .int .i64 n', .string s', .slice A m c] 40)) [] := (Keeps.refl w []).alloc _
  have hB0 : Blk (w.alloc (.cells #[.int .i64 1, .int .i64 n', .string s', .slice A m c] 40)) w.heap.size 40 #[.int .i64 1, .int .i64 n', .string s', .slice A m c] := Blk.new _ _ _
  clear hm ht hf hlay e2 e4 hn1 hni
  unfold tvV
  go_enter Tryz.func31, Tryz.ntmps31
  go_upto_region 6 with fail
  generalize (w.alloc (.cells #[.int .i64 1, .int .i64 n', .string s', .slice A m c] 40)) = w0 at hK0 hB0 ⊢
  have HB0 := Lib.hid hB0
  have HK0 := Lib.hid hK0
  have hm0 := HM.out.keep0 hK0
  have HM0 := Lib.hid hm0
  have x1 := hm0.blk.cell 1
  have x2 := hB0.cell 2
  have ap := hm0.apart
  have hAA : ∀ W', Keeps w0 W' (ownL (.slice AA 0 0)) → (W'.cell? ⟨hb, 1, none⟩ = some (.slice AA H.atoms.length ca) ∧ W'.cell? ⟨w.heap.size, 2, none⟩ = some (.string s')) := fun W' kk =>
    ⟨(HM0.out.blk.keep kk (fun hh => (ap.a2 hb (by simp)).1 hh)).cell 1, (HB0.out.keep kk (fun hh => by have h1 := HM.out.atoms; rw [← ownL_slice AA H.atoms.length ca] at hh; have := (own_lt h1 hh).2; omega)).cell 2⟩
  have HAA := Lib.hid hAA
  clear hK0 hB0 hm0 x1 x2 ap hAA
  refine wp_region_th (fun W' => W'.cell? ⟨hb, 1, none⟩ = some (.slice AA H.atoms.length ca) ∧ W'.cell? ⟨w.heap.size, 2, none⟩ = some (.string s')) 12 [11] [(0, true), (1, true), (2, true), (3, true), (4, true), (5, true), (6, true), (7, true), (8, false), (9, true), (10, true), (11, true), (12, false), (13, false), (14, false), (15, false), (16, false)] (by kernel_rfl) (by kernel_rfl) (HAA.out _ (Keeps.refl _ _).drew) (fun hHeld => ?_)
  (repeat (first | (refine wpTh_take (v := ?_) rfl (by rfl) (by assumption) ?_ (by rfl) ?_; rotate_left; (focus (intro w' hSw; (try dsimp only at hSw); go_simp; (try with_reducible rfl); done)); simp only [Act.put, List.setIfInBounds_toArray, List.set_cons_zero, List.set_cons_succ]) | (refine wpTh_pure (v := ?_) rfl (by rfl) (by assumption) ?_ (by rfl) ?_; rotate_left; (focus (intro w'; go_simp; (try with_reducible rfl); done)); simp only [Act.put, List.setIfInBounds_toArray, List.set_cons_zero, List.set_cons_succ])))
  refine wpTh_go rfl (fun K hK => ?_)
  go_simp
  refine (numberS_any s' H.atoms AA ca base w0.drew (by rw [strE_flat]; exact HM0.out.atoms.drew) HM0.out.few.1 (by have := HM0.out.low.1; have := HM0.out.blk.lt; show base ≤ w0.heap.size; omega)).mono ?_
  rintro e w1 ⟨A', c', rfl, ho, k1, hn1⟩
  have HO := Lib.hid ho
  have K1 := Lib.hid ((Keeps.refl w0 (ownL (.slice AA 0 0))).drew.trans k1)
  have HNw := Lib.hid hn1
  clear ho k1 hn1
  refine hK.out _ _ ?_ ?_
  · exact HAA.out _ K1.out
  (clear hHeld; intro hHeld; clear hK K; (try simp only [Act.put, List.setIfInBounds_toArray, List.set_cons_zero, List.set_cons_succ]))
  (repeat (first | (refine wpTh_take (v := ?_) rfl (by rfl) (by assumption) ?_ (by rfl) ?_; rotate_left; (focus (intro w' hSw; (try dsimp only at hSw); go_simp; (try with_reducible rfl); done)); simp only [Act.put, List.setIfInBounds_toArray, List.set_cons_zero, List.set_cons_succ]) | (refine wpTh_pure (v := ?_) rfl (by rfl) (by assumption) ?_ (by rfl) ?_; rotate_left; (focus (intro w'; go_simp; (try with_reducible rfl); done)); simp only [Act.put, List.setIfInBounds_toArray, List.set_cons_zero, List.set_cons_succ])))
  refine wpTh_tail rfl (by decide) (fun K hK => ?_)
  go_simp
  refine hK.out _ _ ?_; clear hK K; (try simp only [Act.put, List.setIfInBounds_toArray, List.set_cons_zero, List.set_cons_succ])
  refine wpTh_tail rfl (by decide) (fun K hK => ?_)
  go_simp
  refine hK.out _ _ ?_; clear hK K; (try simp only [Act.put, List.setIfInBounds_toArray, List.set_cons_zero, List.set_cons_succ])
  refine wpTh_tail rfl (by decide) (fun K hK => ?_)
  go_simp
  refine hK.out _ _ ?_; clear hK K; (try simp only [Act.put, List.setIfInBounds_toArray, List.set_cons_zero, List.set_cons_succ])
  have hy1 := (HAA.out _ K1.out).1
  have hyf : w1.frozen? ⟨hb, 1, none⟩ = false := (HM0.out.blk.keep K1.out (fun hh => (HM0.out.apart.a2 hb (by simp)).1 hh)).frozen 1
  have HM2 := Lib.hid (HM0.out.atoms_ K1.out (by rw [← strE_flat]; exact HO.out) HNw.out HN1.out)
  refine wpTh_tail rfl (by decide) (fun K hK => ?_)
  go_simp
  refine hK.out _ _ ?_; clear hK K; (try simp only [Act.put, List.setIfInBounds_toArray, List.set_cons_zero, List.set_cons_succ])
  refine wpTh_last rfl (by decide) (fun K hK => ?_)
  go_simp
  refine hK.out _ _ (NoPanic.normal ?_)
  clear hK K
  change Exit.then _ _ _ _ (w1.setCell ⟨hb, 1, none⟩ (.slice A' (numL H.atoms s').length c'))
  have HK2 := Lib.hid ((HK0.out.to_ (hb :: ownL (.slice AA 0 0))).trans ((K1.out.more (T := hb :: ownL (.slice AA 0 0)) fun b _ hb' => List.mem_cons_of_mem _ hb').setCell (p := ⟨hb, 1, none⟩) (.inl (by simp)) (.slice A' (numL H.atoms s').length c')))
  generalize w1.setCell ⟨hb, 1, none⟩ (.slice A' (numL H.atoms s').length c') = w2 at HM2 HK2 ⊢
  clear hy1 hyf
  go_wp2_with fail
  refine (HMk.out _).mono ?_
  rintro e w3 ⟨rfl, rfl⟩
  go_wp2_with fail
  go_ret2
  refine ⟨rfl, _, ⟨ag, ah, vb, A', FA, TA, MA, c', nt, ct, nm, cm, cf, rfl, HM2.out⟩, ⟨HK2.out.more fun b _ hb' => ?_, fun b hb' => ?_⟩⟩
  · unfold hpL
    simp only [List.mem_append, List.mem_cons, List.not_mem_nil, or_false] at hb' ⊢
    rcases hb' with rfl | hb'
    · simp
    · exact .inr (.inl hb')
  · unfold hpL at hb' ⊢
    simp only [List.mem_append, List.mem_cons, List.not_mem_nil, or_false] at hb' ⊢
    rcases hb' with hb' | hb' | hb'
    · exact .inl (.inl hb')
    · rcases HNw.out b hb' with h1 | h1
      · exact .inl (.inr (.inl h1))
      · right
        have := HK0.out.size
        exact Nat.le_trans this h1
    · exact .inl (.inr (.inr hb'))
theorem lays_app : ∀ (H : PH) (l m : List Tm), lays H (l ++ m) = ((lays (lays H l).1 m).1, (lays H l).2 ++ (lays (lays H l).1 m).2)
  | H, [], m => by rw [List.nil_append]; simp only [lays]; rfl
  | H, a :: l, m => by rw [List.cons_append, lays, lays_app _ l m, lays]; rfl
/-- Part of the way. -/
theorem lays_take {H : PH} (v : VB H) {l : List Tm} (j : Nat) : H.le (lays H (l.take j)).1 ∧ VB (lays H (l.take j)).1 ∧ (lays H (l.take j)).1.le (lays H l).1 := by
  obtain ⟨h1, h2⟩ := laysB_ok (l.take j) (fun a _ H v => layB_ok a H v) H v
  obtain ⟨h3, _⟩ := laysB_ok (l.drop j) (fun a _ H v => layB_ok a H v) _ h2
  refine ⟨h1, h2, ?_⟩
  have h4 := lays_app H (l.take j) (l.drop j)
  rw [List.take_append_drop] at h4
  rw [h4]
  exact h3
theorem el_cells : ElemT Tryz.prog 34 28 1 := elemT_of (b := 8) (z := .int .u64 0) Tryz.underlying34 (by kernel_rfl) (by omega) rfl (by omega)
def CallLay (base hb : Nat) (tr : List Int) (mk : List (Int × Int)) (room : Nat) (a : Tm) : Prop :=
  ∀ (v : TV) (w : World) (L : List Nat) (H : PH), Hp w base hb L H tr mk room → VB H → Tr w (fun b => b ∉ L) a v → FitR room (lay H a).1 → Calls Tryz.prog 31 #[(.pointer (some ⟨hb, 0, none⟩)), .agg #[.int .i64 v.k, .int .i64 v.n, .string v.s, .slice v.A v.len v.c]] w (LayR w base hb L (lay H a) tr mk room)
end Go.Proofs.YtnonfmaehfmigaaGreatDoor

/- A node is laid: the program's lay where the term has parts. Printed by gen_hplay.py. -/
namespace Go.Proofs.YtnonfmaehfmigaaGreatDoor
open Go.RowKit Go.Maps
theorem lay_cell {room : Nat} (hr : room ≤ 65536) (H : PH) (v : VB H) (t : Tm) (hf : FitR room (lay H t).1) : 0 ≤ (lay H t).2 ∧ (lay H t).2 < 18446744073709551616 ∧ right (lay H t).2 = true := by
  have key : ∃ (n : Nat) (k : Int), n ≤ 1000000 ∧ 0 ≤ k ∧ k ≤ 4 ∧ (lay H t).2 = (n : Int) * 8 + k := by
    obtain ⟨k, n, s, l⟩ := t
    by_cases h0 : k = 0
    · rw [lay, if_pos h0] at hf ⊢
      cases hvn : H.vars n with
      | some p =>
        obtain ⟨q, rfl, hq⟩ := v.at_ n p hvn
        have hql := hq
        have e : layV H n = (H, (q : Int) * 8) := by unfold layV; rw [hvn]
        rw [e] at hf ⊢
        have h5 : H.cells.length ≤ room := hf.1
        exact ⟨q, 0, by omega, by omega, by omega, by simp⟩
      | none =>
        have e : layV H n = ({ H with cells := H.cells ++ [(H.cells.length : Int) * 8], vars := putV H.vars n H.cells.length }, (H.cells.length : Int) * 8) := by unfold layV; rw [hvn]
        rw [e] at hf ⊢
        have h1 := hf.1
        simp at h1
        exact ⟨H.cells.length, 0, by omega, by omega, by omega, by simp⟩
    · by_cases h1 : k = 1
      · rw [lay, if_neg h0, if_pos h1] at hf ⊢
        have h2 := hf.2.1
        have h3 := numI_lt H.atoms s
        simp only at h2
        exact ⟨numI H.atoms s, 2, by omega, by omega, by omega, rfl⟩
      · rw [lay, if_neg h0, if_neg h1] at hf ⊢
        simp only at hf ⊢
        by_cases h2 : k = 2
        · rw [if_pos h2] at hf ⊢
          have h3 := hf.1
          simp at h3
          exact ⟨(lays H l).1.cells.length, 1, by omega, by omega, by omega, rfl⟩
        · rw [if_neg h2] at hf ⊢
          have h3 := hf.1
          simp at h3
          exact ⟨(lays H l).1.cells.length, 3, by omega, by omega, by omega, rfl⟩
  obtain ⟨n, k, h1, h2, h3, h4⟩ := key
  rw [h4]
  exact ⟨by omega, by omega, (right_iff _).2 ⟨by omega, by omega⟩⟩
theorem lays_cell {room : Nat} (hr : room ≤ 65536) : ∀ (l : List Tm), (∀ a ∈ l, tRight a = true) → ∀ (H : PH), VB H → FitR room (lays H l).1 → ∀ c ∈ (lays H l).2, 0 ≤ c ∧ c < 18446744073709551616 ∧ right c = true
  | [], _, H, _, _, c, hc => by rw [lays] at hc; simp at hc
  | a :: l, hR, H, v, hf, c, hc => by
    obtain ⟨h1, h2⟩ := layB_ok a H v
    have hl : ∀ b ∈ l, tRight b = true := fun b hb => hR b (by simp [hb])
    obtain ⟨g1, _⟩ := laysB_ok l (fun a _ H v => layB_ok a H v) _ h2
    rw [lays] at hf hc
    rcases List.mem_cons.1 hc with rfl | hc
    · exact lay_cell hr H v a (hf.le g1)
    · exact lays_cell hr l hl _ h2 hf c hc
theorem right_two {n : Int} {s : ByteArray} {l : List Tm} (h : tRight (.mk 2 n s l) = true) : 1 ≤ l.length := by
  rw [tRight, Bool.and_eq_true, if_neg (by decide), if_neg (by decide), if_pos rfl] at h
  simp only [Bool.and_eq_true, decide_eq_true_eq] at h
  exact h.2.1.2
/-- What stands while the parts are laid. -/
structure LayS (w wr : World) (base hb : Nat) (L L1 : List Nat) (H1 : PH) (cs : List Int) (tr : List Int) (mk : List (Int × Int)) (room : Nat) (A : Option Addr) (j c : Nat) (tb : Nat) (tcs : Array Value) : Prop where
  hp : Hp wr base hb L1 H1 tr mk room
  st : HSt w L wr L1
  own : wr.ownsRow w.heap.size 28 1 (.slice A j c) j (cs.map (Value.int .u64))
  out : ∀ b ∈ ownL (.slice A 0 0), b ∉ L1
  blk : Blk wr tb 40 tcs
  tout : tb ∉ L1 ∧ tb ∉ ownL (.slice A 0 0)
section
variable {w wr : World} {base hb : Nat} {L L1 : List Nat} {H1 : PH} {cs : List Int} {tr : List Int} {mk : List (Int × Int)} {room : Nat} {A : Option Addr} {j c : Nat} {tb : Nat} {tcs : Array Value}
theorem LayS.keep0 (h : LayS w wr base hb L L1 H1 cs tr mk room A j c tb tcs) {W : World} (k : Keeps wr W []) : LayS w W base hb L L1 H1 cs tr mk room A j c tb tcs :=
  ⟨h.hp.keep k (by simp), h.st.keep0 k, own_keep0 h.own k, h.out, h.blk.keep k (by simp), h.tout⟩
/-- A part is laid. -/
theorem LayS.laid (h : LayS w wr base hb L L1 H1 cs tr mk room A j c tb tcs) {W : World} {L2 : List Nat} {H2 : PH} (hp : Hp W base hb L2 H2 tr mk room) (st : HSt wr L1 W L2) : LayS w W base hb L L2 H2 cs tr mk room A j c tb tcs := by
  have hlt : ∀ b ∈ ownL (.slice A 0 0), b < wr.heap.size := fun b hb' => by rw [← ownL_slice A j c] at hb'; exact (own_lt h.own hb').2
  refine ⟨hp, h.st.trans st, own_keepL h.own st.keep (fun b hb' hm => h.out b (by rw [← ownL_slice A j c]; exact hm) hb'), fun b hb' => st.out (hlt b hb') (h.out b hb'), h.blk.keep st.keep h.tout.1, st.out h.blk.lt h.tout.1, h.tout.2⟩
/-- .. and its cell comes behind. -/
theorem LayS.push (h0 : LayS w wr base hb L L1 H1 cs tr mk room A j c tb tcs) {W W2 : World} (kk : Keeps wr W []) {x : Int} {A' : Option Addr} {c' : Nat} (hown : W2.ownsRow w.heap.size 28 1 (.slice A' (j + 1) c') (j + 1) (cs.map (Value.int .u64) ++ [.int .u64 x])) (hg : W.grownBy W2 (Value.slice A j c).ownBlock)
    (hat : (Value.slice A' (j + 1) c').ownBlock = (Value.slice A j c).ownBlock ∨ (Value.slice A' (j + 1) c').ownBlock = some W.heap.size) : LayS w W2 base hb L L1 H1 (cs ++ [x]) tr mk room A' (j + 1) c' tb tcs := by
  have h := h0.keep0 kk
  have kg : Keeps W W2 (ownL (.slice A 0 0)) := by rw [← ownL_slice A j c]; exact Keeps.ofGrown hg
  have hsz := h.st.keep.size
  have hA : ∀ b ∈ ownL (.slice A' 0 0), b ∈ ownL (.slice A 0 0) ∨ b = W.heap.size := fun b hb' => by
    rw [← ownL_slice A' (j + 1) c'] at hb'
    rw [← ownL_slice A j c]
    unfold ownL at hb' ⊢
    simp only [Option.mem_toList] at hb' ⊢
    rcases hat with h1 | h1
    · left; rw [← h1]; exact hb'
    · right; rw [h1] at hb'; simpa using hb'.symm
  have hlt := h.hp.lt
  refine ⟨h.hp.keep kg (fun b hb' => h.out b hb'), ⟨⟨kg.os.trans h.st.keep.os, kg.tape.trans h.st.keep.tape, kg.output.trans h.st.keep.output, Nat.le_trans h.st.keep.size kg.size, fun i hi hn => (kg.block i (Nat.lt_of_lt_of_le hi hsz) (fun hm => ?_)).trans (h.st.keep.block i hi hn)⟩, h.st.own⟩, by rw [List.map_append]; exact hown, fun b hb' hm => ?_, h.blk.keep kg h.tout.2, h.tout.1, fun hm => ?_⟩
  · rw [← ownL_slice A j c] at hm
    have := (own_lt h.own hm).1
    omega
  · rcases hA b hb' with h1 | h1
    · exact h.out b h1 hm
    · have := hlt b hm; omega
  · rcases hA tb hm with h1 | h1
    · exact h.tout.2 h1
    · have := h.blk.lt; omega
end
set_option maxRecDepth 100000 in
set_option maxHeartbeats 6400000 in
/-- A node. -/
theorem layN_any (base hb : Nat) (tr : List Int) (mk : List (Int × Int)) (room : Nat) (k n : Int) (s : ByteArray) (l : List Tm) (h0 : k ≠ 0) (h1 : k ≠ 1) (v : TV) (w : World) (L : List Nat) (H : PH) (hH : Hp w base hb L H tr mk room) (hv : VB H) (ht : Tr w (fun b => b ∉ L) (.mk k n s l) v) (hr : tRight (.mk k n s l) = true) (hf : FitR room (lay H (.mk k n s l)).1)
    (hC : ∀ a ∈ l, CallLay base hb tr mk room a) : Calls Tryz.prog 31 #[(.pointer (some ⟨hb, 0, none⟩)), tvV v] w (LayR w base hb L (lay H (.mk k n s l)) tr mk room) := by
  have hlt := hH.lt
  cases ht with
  | mk _ _ _ _ A c vs hl hR hS hc hz hk =>
  have h8 := right_len hr
  have hrp := right_parts hr
  obtain ⟨m, hm⟩ : ∃ m, l.length = m := ⟨_, rfl⟩
  have hK0 : Keeps w (w.alloc (.cells #[.int .i64 k, .int .i64 n, .string s, .slice A m c] 40)) [] := (Keeps.refl w []).alloc _
  have hB0 : Blk (w.alloc (.cells #[.int .i64 k, .int .i64 n, .string s, .slice A m c] 40)) w.heap.size 40 #[.int .i64 k, .int .i64 n, .string s, .slice A m c] := Blk.new _ _ _
  have htb : w.heap.size ∉ L := fun hm => by have := hlt _ hm; omega
  have HLS : Hid (LayS (w.alloc (.cells #[.int .i64 k, .int .i64 n, .string s, .slice A m c] 40)) (w.alloc (.cells #[.int .i64 k, .int .i64 n, .string s, .slice A m c] 40)) base hb L L H [] tr mk room none 0 0 w.heap.size #[.int .i64 k, .int .i64 n, .string s, .slice A m c]) :=
    ⟨hH.keep hK0 (by simp), HSt.refl _ _, World.ownsRow_nil _ _ _ _, (fun b hb' => by simp [ownL, Value.ownBlock] at hb'), hB0, htb, by simp [ownL, Value.ownBlock]⟩
  have HT : Hid (Trs (w.alloc (.cells #[.int .i64 k, .int .i64 n, .string s, .slice A m c] 40)) (fun b => b ∉ L) l vs) := Trs.keep ⟨hl, hk⟩ hK0
  have HR : Hid (Rd (w.alloc (.cells #[.int .i64 k, .int .i64 n, .string s, .slice A m c] 40)) A (vs.flatMap tvE)) := hR.keep hK0
  have HS0 := Lib.hid hS
  have HM := Lib.hid hm
  have HV := Lib.hid hv
  have HRp := Lib.hid hrp
  have HF := Lib.hid hf
  have HCl := Lib.hid hC
  have HRt := Lib.hid hr
  have HKw := Lib.hid hK0
  have hLe : Hid ((lays H l).1.le (lay H (.mk k n s l)).1) := by
    show PH.le _ _
    rw [lay, if_neg h0, if_neg h1]
    simp only
    split
    · exact ⟨List.prefix_append _ _, List.prefix_refl _, numL_pre _ _, fun _ _ h => h⟩
    · exact ⟨List.prefix_append _ _, List.prefix_refl _, List.prefix_refl _, fun _ _ h => h⟩
  have e0 : (k == 0) = false := by simpa using h0
  have e1 : (k == 1) = false := by simpa using h1
  have hm8 : m ≤ 8 := by omega
  clear hH hv hl hR hS hc hz hk hr hf hC hlt hB0 hrp h8
  unfold tvV
  simp only [hm]
  clear hm
  go_enter Tryz.func31, Tryz.ntmps31
  go_upto_region 8 with fail
  (try simp only [])
  obtain ⟨w0, hw0⟩ : ∃ w0, (w.alloc (.cells #[.int .i64 k, .int .i64 n, .string s, .slice A m c] 40)) = w0 := ⟨_, rfl⟩
  rw [hw0] at HLS HT HR HKw hK0 ⊢
  clear hw0
  have x3 := HLS.out.blk.cell 3
  go_wp2_with fail
  clear x3
  go_loopw [7, 48] (fun x7 x48 wr => ∃ (j : Nat) (A2 : Option Addr) (c2 : Nat) (L1 : List Nat), j ≤ m ∧ x48 = .int .i64 j ∧ x7 = .slice A2 j c2 ∧ LayS w0 wr base hb L L1 (lays H (l.take j)).1 (lays H (l.take j)).2 tr mk room A2 j c2 w.heap.size #[.int .i64 k, .int .i64 n, .string s, .slice A m c]) (fun _ i _ => m - (intOf i).toNat)
  case atStart => exact ⟨0, none, 0, L, Nat.zero_le _, rfl, rfl, by rw [List.take_zero, lays]; exact HLS.out⟩
  case round =>
    clear HLS
    obtain ⟨j, A2, c2, L1, hj, rfl, rfl, hls⟩ := hrel
    have HLS := Lib.hid hls
    clear hls
    by_cases hlt : j < m
    · obtain ⟨a, hx⟩ := at_of HM.out hlt
      obtain ⟨v', bb, off, _, htr, rfl, hbb, p0, p1, p2, p3⟩ := HT.out.get HR.out hx
      have HX := Lib.hid hx
      have HA := Lib.hid (List.mem_of_getElem? hx)
      have hnb : bb ∉ L := HS0.out bb off rfl (fun e => by rw [e] at hx; simp at hx)
      replace p0 := (HLS.out.st.keep.cell (p := ⟨bb, off + j * 4, none⟩) hbb hnb).trans p0
      replace p1 := (HLS.out.st.keep.cell (p := ⟨bb, off + j * 4 + 1, none⟩) hbb hnb).trans p1
      replace p2 := (HLS.out.st.keep.cell (p := ⟨bb, off + j * 4 + 2, none⟩) hbb hnb).trans p2
      replace p3 := (HLS.out.st.keep.cell (p := ⟨bb, off + j * 4 + 3, none⟩) hbb hnb).trans p3
      have htj := lays_take (l := l) HV.out j
      have hsn : lays H (l.take (j + 1)) = ((lay (lays H (l.take j)).1 a).1, (lays H (l.take j)).2 ++ [(lay (lays H (l.take j)).1 a).2]) := by
        rw [show l.take (j + 1) = l.take j ++ [a] by rw [List.take_add_one, hx]; rfl]
        exact lays_snoc H (l.take j) a
      have hfit : FitR room (lay (lays H (l.take j)).1 a).1 := by
        have h5 := (lays_take (l := l) HV.out (j + 1)).2.2
        rw [hsn] at h5
        exact (HF.out.le hLe.out).le h5
      have HSn := Lib.hid hsn
      have HTr : Hid (Tr wr (fun b => b ∉ L1) a v') := HLS.out.st.tree htr
      have HCc : Hid (∀ W, Keeps wr W [] → Calls Tryz.prog 31 #[(.pointer (some ⟨hb, 0, none⟩)), .agg #[.int .i64 v'.k, .int .i64 v'.n, .string v'.s, .slice v'.A v'.len v'.c]] W (LayR W base hb L1 (lay (lays H (l.take j)).1 a) tr mk room)) := fun W kk => HCl.out a HA.out v' W L1 (lays H (l.take j)).1 (HLS.out.keep0 kk).hp htj.2.1 (HTr.out.keep kk) hfit
      have b0 : (0 : Int) ≤ (j : Int) := Int.natCast_nonneg _
      have b1 : (j : Int) < (m : Int) := by omega
      clear hx htr hnb htj hsn hfit hbb
      go_upto_region 12 with fail
      have ka : Keeps wr (wr.alloc (.cells #[.int .i64 v'.k, .int .i64 v'.n, .string v'.s, .slice v'.A v'.len v'.c] 40)) [] := (Keeps.refl wr []).alloc _
      have hb4 : Blk (wr.alloc (.cells #[.int .i64 v'.k, .int .i64 v'.n, .string v'.s, .slice v'.A v'.len v'.c] 40)) wr.heap.size 40 #[.int .i64 v'.k, .int .i64 v'.n, .string v'.s, .slice v'.A v'.len v'.c] := Blk.new _ _ _
      generalize (wr.alloc (.cells #[.int .i64 v'.k, .int .i64 v'.n, .string v'.s, .slice v'.A v'.len v'.c] 40)) = wa at ka hb4 ⊢
      have HKa := Lib.hid ka
      have q0 := hb4.cell 0
      have q1 := hb4.cell 1
      have q2 := hb4.cell 2
      have q3 := hb4.cell 3
      clear ka hb4 p0 p1 p2 p3
      go_wp2_with fail
      refine (HCc.out _ HKa.out).mono ?_
      rintro e w3 ⟨rfl, L2, hp2, st2⟩
      have HL3 := Lib.hid ((HLS.out.keep0 HKa.out).laid hp2 st2)
      clear hp2 st2 q0 q1 q2 q3 HCc HTr
      generalize lay (lays H (l.take j)).1 a = r at *
      go_wp2_with (at_builtin; have K5 := (Keeps.refl w3 []).alloc (.cells #[.int .u64 r.2] 28); have hz5 := K5.size; have hz6 := HL3.out.st.keep.size; refine wpList_app _ el_cells rfl (.tmp 60) (.tmp 62) rfl w0.heap.size A2 j c2 ((lays H (l.take j)).2.map (Value.int .u64)) rfl (own_keep0 HL3.out.own K5) (some ⟨w3.heap.size, 0, none⟩) 1 1 [.int .u64 r.2] rfl (Rd.one w3 _ [.int .u64 r.2]) rfl (by simp) (by simp [Value.oneCell']) (by omega) (by omega) ?_; intro A' c' w4 hown hgrow hat; have HN := Lib.hid (HL3.out.push K5 hown hgrow hat); clear hown hgrow hat K5 hz5 hz6)
      go_roundw
      case rel => exact ⟨j + 1, A', c', L2, by omega, by go_num, rfl, by rw [HSn.out]; exact HN.out⟩
      case measure => simp [intOf]; omega
    · obtain rfl : m = j := by omega
      have htk : l.take m = l := List.take_of_length_le (by rw [HM.out]; exact Nat.le_refl _)
      rw [htk] at HLS
      obtain ⟨ag, ah, vb, AA, FA, TA, MA, ca, nt, ct, nm, cm, cf, rfl, hm⟩ := HLS.out.hp
      have HHm := Lib.hid hm
      have hb0 := hm.blk.cell 0
      have HTop := Lib.hid (fun W (kk : Keeps wr W []) => atop_any (hm.keep0 kk).ar)
      have x0 := HLS.out.blk.cell 0
      clear hm
      go_wp2_with fail
      refine (HTop.out _ (Keeps.refl _ _)).mono ?_
      rintro e w1 ⟨rfl, rfl⟩
      by_cases hk2 : k = 2
      · subst hk2
        have e2 : ((2 : Int) == 2) = true := rfl
        have HEq : Hid (lay H (.mk 2 n s l) = ({ (lays H l).1 with funs := numL (lays H l).1.funs (s, (m : Int)), cells := (lays H l).1.cells ++ ((numI (lays H l).1.funs (s, (m : Int)) : Int) * 8 + 4) :: (lays H l).2 }, ((lays H l).1.cells.length : Int) * 8 + 1)) := by
          show _ = _
          rw [lay, if_neg h0, if_neg h1]
          simp only [↓reduceIte]
          rw [HM.out]
        have hfu : (numL (lays H l).1.funs (s, (m : Int))).length ≤ 1000000 := by have h5 := HF.out.2.2; rw [HEq.out] at h5; exact h5
        have hfi := numI_lt (lays H l).1.funs (s, (m : Int))
        have HFu := Lib.hid hfu
        have HMf4 := Lib.hid (fun W => make_yes 4 (numI (lays H l).1.funs (s, (m : Int)) : Int) W ⟨by omega, by omega, by omega, by omega⟩)
        have hsub : ∀ b ∈ ownL (.slice FA 0 0), b ∈ hpL hb ag ah vb AA FA TA MA := fun b hb' => by unfold hpL; simp [hb']
        have hAA : ∀ W', Keeps wr W' (ownL (.slice FA 0 0)) → (W'.cell? ⟨hb, 2, none⟩ = some (.slice FA (lays H l).1.funs.length cf) ∧ W'.cell? ⟨w.heap.size, 2, none⟩ = some (.string s) ∧ W'.cell? ⟨w.heap.size, 3, none⟩ = some (.slice A m c)) := fun W' kk =>
          have kb := HLS.out.blk.keep kk (fun hh => HLS.out.tout.1 (hsub _ hh))
          ⟨(HHm.out.blk.keep kk (fun hh => (HHm.out.apart.a2 hb (by simp)).2.1 hh)).cell 2, kb.cell 2, kb.cell 3⟩
        have HAA := Lib.hid hAA
        clear hfu hfi hsub hAA hb0
        go_upto_region 20 with fail
        clear x0
        refine wp_region_th (fun W' => W'.cell? ⟨hb, 2, none⟩ = some (.slice FA (lays H l).1.funs.length cf) ∧ W'.cell? ⟨w.heap.size, 2, none⟩ = some (.string s) ∧ W'.cell? ⟨w.heap.size, 3, none⟩ = some (.slice A m c)) 16 [15] [(0, true), (1, true), (2, true), (3, true), (4, true), (5, true), (6, true), (7, true), (8, true), (9, true), (10, true), (11, true), (12, false), (13, true), (14, true), (15, true), (16, false), (17, false), (18, false), (19, false), (20, false)] (by kernel_rfl) (by kernel_rfl) (HAA.out _ (Keeps.refl _ _).drew) (fun hHeld => ?_)
        (repeat (first | (refine wpTh_take (v := ?_) rfl (by rfl) (by assumption) ?_ (by rfl) ?_; rotate_left; (focus (intro w' hSw; (try dsimp only at hSw); go_simp; (try with_reducible rfl); done)); simp only [Act.put, List.setIfInBounds_toArray, List.set_cons_zero, List.set_cons_succ]) | (refine wpTh_pure (v := ?_) rfl (by rfl) (by assumption) ?_ (by rfl) ?_; rotate_left; (focus (intro w'; go_simp; (try with_reducible rfl); done)); simp only [Act.put, List.setIfInBounds_toArray, List.set_cons_zero, List.set_cons_succ])))
        refine wpTh_go rfl (fun K hK => ?_)
        go_simp
        refine (numberF_any (s, (m : Int)) (lays H l).1.funs FA cf base wr.drew HHm.out.funs.drew HHm.out.few.2 (by have h5 := HHm.out.low.1; have h6 := HHm.out.blk.lt; show base ≤ wr.heap.size; omega)).mono ?_
        rintro e w1 ⟨A', c', rfl, ho, k1, hn1⟩
        have HO := Lib.hid ho
        have K1 := Lib.hid ((Keeps.refl wr (ownL (.slice FA 0 0))).drew.trans k1)
        have HNw := Lib.hid hn1
        clear ho k1 hn1
        refine hK.out _ _ ?_ ?_
        · exact HAA.out _ K1.out
        (clear hHeld; intro hHeld; clear hK K; (try simp only [Act.put, List.setIfInBounds_toArray, List.set_cons_zero, List.set_cons_succ]))
        (repeat (first | (refine wpTh_take (v := ?_) rfl (by rfl) (by assumption) ?_ (by rfl) ?_; rotate_left; (focus (intro w' hSw; (try dsimp only at hSw); go_simp; (try with_reducible rfl); done)); simp only [Act.put, List.setIfInBounds_toArray, List.set_cons_zero, List.set_cons_succ]) | (refine wpTh_pure (v := ?_) rfl (by rfl) (by assumption) ?_ (by rfl) ?_; rotate_left; (focus (intro w'; go_simp; (try with_reducible rfl); done)); simp only [Act.put, List.setIfInBounds_toArray, List.set_cons_zero, List.set_cons_succ])))
        refine wpTh_tail rfl (by decide) (fun K hK => ?_)
        go_simp
        refine hK.out _ _ ?_; clear hK K; (try simp only [Act.put, List.setIfInBounds_toArray, List.set_cons_zero, List.set_cons_succ])
        refine wpTh_tail rfl (by decide) (fun K hK => ?_)
        go_simp
        refine hK.out _ _ ?_; clear hK K; (try simp only [Act.put, List.setIfInBounds_toArray, List.set_cons_zero, List.set_cons_succ])
        refine wpTh_tail rfl (by decide) (fun K hK => ?_)
        go_simp
        refine hK.out _ _ ?_; clear hK K; (try simp only [Act.put, List.setIfInBounds_toArray, List.set_cons_zero, List.set_cons_succ])
        have hy1 := (HAA.out _ K1.out).1
        have hyf : w1.frozen? ⟨hb, 2, none⟩ = false := (HHm.out.blk.keep K1.out (fun hh => (HHm.out.apart.a2 hb (by simp)).2.1 hh)).frozen 2
        have HM2 := Lib.hid (HHm.out.funs_ K1.out HO.out HNw.out HFu.out)
        refine wpTh_tail rfl (by decide) (fun K hK => ?_)
        go_simp
        refine hK.out _ _ ?_; clear hK K; (try simp only [Act.put, List.setIfInBounds_toArray, List.set_cons_zero, List.set_cons_succ])
        refine wpTh_last rfl (by decide) (fun K hK => ?_)
        go_simp
        refine hK.out _ _ (NoPanic.normal ?_)
        clear hK K
        change Exit.then _ _ _ _ (w1.setCell ⟨hb, 2, none⟩ (.slice A' (numL (lays H l).1.funs (s, (m : Int))).length c'))
        have HK2 := Lib.hid ((K1.out.more (T := hb :: ownL (.slice FA 0 0)) fun b _ hb' => List.mem_cons_of_mem _ hb').setCell (p := ⟨hb, 2, none⟩) (.inl (by simp)) (.slice A' (numL (lays H l).1.funs (s, (m : Int))).length c'))
        generalize w1.setCell ⟨hb, 2, none⟩ (.slice A' (numL (lays H l).1.funs (s, (m : Int))).length c') = w2 at HM2 HK2 ⊢
        clear hy1 hyf hHeld
        go_wp2_with fail
        refine (HMf4.out _).mono ?_
        rintro e w3 ⟨rfl, rfl⟩
        go_wp2_with fail
        have K5 : Keeps w2 (w2.alloc (.cells #[.int .u64 ((numI (lays H l).1.funs (s, (m : Int)) : Int) * 8 + 4)] 28)) [] := (Keeps.refl w2 []).alloc _
        have hm1 : 0 < m := by have h5 := right_two HRt.out; rw [HM.out] at h5; omega
        have hsub : ∀ b ∈ hb :: ownL (.slice FA 0 0), b ∈ hpL hb ag ah vb AA FA TA MA := fun b hb' => by
          unfold hpL
          rcases List.mem_cons.1 hb' with rfl | h5
          · simp
          · simp [h5]
        have hro : w2.ownsRow w0.heap.size 28 1 (.slice A2 m c2) m ((lays H l).2.map (Value.int .u64)) := own_keepL HLS.out.own HK2.out (fun b hb' hm' => HLS.out.out b (by rw [← ownL_slice A2 m c2]; exact hm') (hsub b hb'))
        refine (insC_any (lays H l).2 A2 m c2 w0.heap.size _ _ (own_keep0 hro K5) hm1 (by omega) w2.heap.size 1 (Blk.new _ _ _) (fun hm' => by have := (own_lt hro hm').2; omega)).mono ?_
        rintro e w9 ⟨A9, c9, rfl, hr9, k9, g9, hA9, hg9⟩
        have hz5 := K5.size
        have hlt9 := HLS.out.hp.lt
        have hz2 := HK2.out.size
        have hkA : Keeps wr w9 ((hb :: ownL (.slice FA 0 0)) ++ ownL (.slice A2 m c2)) := (keep3 HK2.out (fun b hb' => List.mem_append_left _ hb')).trans ((K5.to_ _).trans (keep3 k9 (fun b hb' => List.mem_append_right _ hb')))
        have hagah : ∀ b ∈ [ag, ah], b ∈ hpL hb ag ah vb AA FA TA MA ∧ b ∉ ownL (.slice FA 0 0) := fun b hb' => ⟨by unfold hpL; simp only [List.mem_cons, List.not_mem_nil, or_false] at hb'; rcases hb' with rfl | rfl <;> simp, by simp only [List.mem_cons, List.not_mem_nil, or_false] at hb'; rcases hb' with rfl | rfl <;> exact (HHm.out.apart.a2 _ (by simp)).2.1⟩
        have hF9 := HF.out
        rw [HEq.out] at hF9
        have hln := lays_len H l
        rw [HM.out] at hln
        have hc5 := hF9.1
        simp only [List.length_append, List.length_cons] at hc5
        have hmost := HHm.out.ar.most
        have hKw9 := HKw.out.size
        have hSw : HSt w L wr (hpL hb ag ah vb AA FA TA MA) := HSt.trans ⟨HKw.out.to_ _, fun _ h => .inl h⟩ HLS.out.st
        have hout9 : ∀ b, b ∈ ownL (.slice A2 m c2) → b ∉ hpL hb ag ah vb AA FA TA MA := fun b hb' => HLS.out.out b (by rw [← ownL_slice A2 m c2]; exact hb')
        have hkS := hkA.more (T := hpL hb ag ah vb AA FA TA MA ++ ownL (.slice A2 m c2)) (fun b _ hb' => by
          rcases List.mem_append.1 hb' with h5 | h5
          · exact List.mem_append_left _ (hsub b h5)
          · exact List.mem_append_right _ h5)
        have hkW : Keeps w w9 L := (((keep3 hSw.keep (fun b hb' => List.mem_append_left _ hb')).trans (keep3 hkS (M := L ++ (hpL hb ag ah vb AA FA TA MA ++ ownL (.slice A2 m c2))) (fun b hb' => List.mem_append_right _ hb')))).more (fun b hbl hb' => by
          rcases List.mem_append.1 hb' with h5 | h5
          · exact h5
          · rcases List.mem_append.1 h5 with h6 | h6
            · rcases hSw.own b h6 with h7 | h7
              · exact h7
              · omega
            · have := (own_lt hro h6).1
              omega)
        have hA5 : ∀ b ∈ hpL hb ag ah vb AA A' TA MA, b ∈ hpL hb ag ah vb AA FA TA MA ∨ wr.heap.size ≤ b := fun b hb' => by
          unfold hpL at hb' ⊢
          simp only [List.mem_append, List.mem_cons, List.not_mem_nil, or_false] at hb' ⊢
          rcases hb' with hb' | hb' | hb' | hb' | hb'
          · exact .inl (.inl hb')
          · exact .inl (.inr (.inl hb'))
          · rcases HNw.out b hb' with h1 | h1
            · exact .inl (.inr (.inr (.inl h1)))
            · exact .inr h1
          · exact .inl (.inr (.inr (.inr (.inl hb'))))
          · exact .inl (.inr (.inr (.inr (.inr hb'))))
        have HM9 : Hid (Hm w9 base hb ag ah vb AA A' TA MA ca nt ct nm cm c' { (lays H l).1 with funs := numL (lays H l).1.funs (s, (m : Int)) } tr mk room) := (HM2.out.keep0 K5).keep k9 (fun b hb' hm' => by
          rcases hA5 b hm' with h5 | h5
          · exact hout9 b hb' h5
          · have := (own_lt HLS.out.own hb').2
            omega)
        have HR9 : Hid (Rd w9 A9 ((((numI (lays H l).1.funs (s, (m : Int)) : Int) * 8 + 4) :: (lays H l).2).map (Value.int .u64))) := hr9
        have HN9 : Hid ((((numI (lays H l).1.funs (s, (m : Int)) : Int) * 8 + 4) :: (lays H l).2).length = m + 1) := by show _ = _; rw [List.length_cons, hln]
        have HA9 : Hid (∀ b off, A9 = some ⟨b, off, none⟩ → b ∉ [ag, ah]) := fun b off e hm' => by
          rw [hA9] at e
          injection e with e
          injection e with e _ _
          subst e
          rcases hg9 with h5 | h5
          · exact hout9 g9 h5 (hagah g9 hm').1
          · have := hlt9 g9 (hagah g9 hm').1
            omega
        have HC9 : Hid (∀ x ∈ (((numI (lays H l).1.funs (s, (m : Int)) : Int) * 8 + 4) :: (lays H l).2), 0 ≤ x ∧ x < 18446744073709551616 ∧ right x = true) := fun x hx => by
          have h6 := HFu.out
          have h7 := numI_lt (lays H l).1.funs (s, (m : Int))
          rcases List.mem_cons.1 hx with rfl | hx
          · exact ⟨by omega, by omega, (right_iff _).2 ⟨by omega, by omega⟩⟩
          · exact lays_cell hmost l HRp.out H HV.out (HF.out.le hLe.out) x hx
        have HF9 : Hid ((lays H l).1.cells.length + (m + 1) ≤ room) := by show _ ≤ _; omega
        have HS9 : Hid (HSt w L w9 (hpL hb ag ah vb AA A' TA MA)) := ⟨hkW, fun b hb' => by
          have h5 := hA5 b hb'
          rcases h5 with h5 | h5
          · exact hSw.own b h5
          · exact .inr (Nat.le_trans hSw.keep.size h5)⟩
        have HMk9 := Lib.hid (fun W => make_yes 1 ((lays H l).1.cells.length : Int) W ⟨by omega, by omega, by omega, by omega⟩)
        generalize (((numI (lays H l).1.funs (s, (m : Int)) : Int) * 8 + 4) :: (lays H l).2) = cs9 at HR9 HN9 HC9 HEq ⊢
        clear hF9 hln hc5 hmost hA5 hkA hagah hro K5 hsub hz5 hlt9 hz2 hm1 hr9 hA9 hg9 k9 hout9
        clear HLS HT HR HS0 HCl HRp HKw HTop HHm hK0
        go_wp2_with fail
        go_loopw [99] (fun x99 wr => ∃ j : Nat, j ≤ m + 1 ∧ x99 = .int .i64 j ∧ Hm wr base hb ag ah vb AA A' TA MA ca nt ct nm cm c' { (lays H l).1 with funs := numL (lays H l).1.funs (s, (m : Int)), cells := (lays H l).1.cells ++ cs9.take j } tr mk room ∧ Keeps w9 wr [ag, ah]) (fun i _ => m + 1 - (intOf i).toNat)
        case atStart => exact ⟨0, Nat.zero_le _, rfl, by simpa using HM9.out, Keeps.refl _ _⟩
        case round =>
          obtain ⟨j, hj, rfl, hmj, hkj⟩ := hrel
          have HMj := Lib.hid hmj
          have HKj := Lib.hid hkj
          clear hmj hkj
          by_cases hlt : j < m + 1
          · obtain ⟨x, hx⟩ := at_of HN9.out hlt
            obtain ⟨b, off, xv, rfl, hbl, p0, hv⟩ := HR9.out j (by simp; rw [HN9.out]; exact hlt)
            obtain rfl : xv = .int .u64 x := by simpa [hx] using hv.symm
            replace p0 := (HKj.out.cell (p := ⟨b, off + j, none⟩) hbl (HA9.out b off rfl)).trans p0
            have hxr := HC9.out x (List.mem_of_getElem? hx)
            have HPu := Lib.hid (fun W (kk : Keeps wr W []) => hpush_any (HMj.out.keep0 kk) x hxr.1 hxr.2.1 hxr.2.2 (by have h5 := HF9.out; simp; rw [HN9.out]; omega))
            have HX := Lib.hid hx
            have b0 : (0 : Int) ≤ (j : Int) := Int.natCast_nonneg _
            have b1 : (j : Int) < ((m + 1 : Nat) : Int) := by omega
            clear hx hv hbl hxr
            go_wp2_with fail
            refine (HPu.out _ (Keeps.refl _ _)).mono ?_
            rintro e w5 ⟨rfl, hm5, k5⟩
            have HM5 := Lib.hid hm5
            have HK5 := Lib.hid k5
            clear hm5 k5 p0 HPu
            go_wp2_with fail
            go_roundw
            case rel => exact ⟨j + 1, by omega, by go_num, by rw [List.take_add_one, HX.out, ← List.append_assoc]; exact HM5.out, HKj.out.trans HK5.out⟩
            case measure => simp [intOf]; omega
          · obtain hmj1 : j = m + 1 := by omega
            subst hmj1
            clear hlt hj
            go_wp2_with fail
            refine (HMk9.out _).mono ?_
            rintro e w6 ⟨rfl, rfl⟩
            go_wp2_with fail
            go_ret2
            rw [HEq.out]
            have hm6 := HMj.out
            rw [List.take_of_length_le (by rw [HN9.out]; exact Nat.le_refl _)] at hm6
            exact ⟨rfl, _, ⟨ag, ah, vb, AA, A', TA, MA, ca, nt, ct, nm, cm, c', rfl, hm6⟩, HS9.out.trans (HSt.of HKj.out (fun b hb' => by unfold hpL; simp only [List.mem_cons, List.not_mem_nil, or_false] at hb'; rcases hb' with rfl | rfl <;> simp))⟩
      · have e2 : (k == 2) = false := by simpa using hk2
        obtain ⟨w9, rfl⟩ : ∃ w9, w9 = wr := ⟨wr, rfl⟩
        have HEq : Hid (lay H (.mk k n s l) = ({ (lays H l).1 with cells := (lays H l).1.cells ++ (lays H l).2 }, ((lays H l).1.cells.length : Int) * 8 + 3)) := by
          show _ = _
          rw [lay, if_neg h0, if_neg h1]
          simp only
          rw [if_neg hk2]
        have hF9 := HF.out
        rw [HEq.out] at hF9
        have hln := lays_len H l
        rw [HM.out] at hln
        have hc5 := hF9.1
        simp only [List.length_append] at hc5
        have hmost := HHm.out.ar.most
        have HM9 := Lib.hid HHm.out
        have HR9 : Hid (Rd w9 A2 ((lays H l).2.map (Value.int .u64))) := Rd.of_own HLS.out.own
        have HN9 := Lib.hid hln
        have HA9 : Hid (∀ b off, A2 = some ⟨b, off, none⟩ → b ∉ [ag, ah]) := fun b off e hm' => HLS.out.out b (by rw [e]; simp [ownL, Value.ownBlock]) (by unfold hpL; simp only [List.mem_cons, List.not_mem_nil, or_false] at hm'; rcases hm' with rfl | rfl <;> simp)
        have HC9 : Hid (∀ x ∈ (lays H l).2, 0 ≤ x ∧ x < 18446744073709551616 ∧ right x = true) := lays_cell hmost l HRp.out H HV.out (HF.out.le hLe.out)
        have HF9 : Hid ((lays H l).1.cells.length + m ≤ room) := by show _ ≤ _; omega
        have HS9 : Hid (HSt w L w9 (hpL hb ag ah vb AA FA TA MA)) := (HSt.trans ⟨HKw.out.to_ _, fun _ h => .inl h⟩ HLS.out.st)
        have HMk9 := Lib.hid (fun W => make_yes 3 ((lays H l).1.cells.length : Int) W ⟨by omega, by omega, by omega, by omega⟩)
        clear hF9 hln hc5 hmost hb0
        go_upto_region 22 with fail
        clear x0
        clear HLS HT HR HS0 HCl HRp HKw HTop HHm hK0
        go_wp2_with fail
        go_loopw [99] (fun x99 wr => ∃ j : Nat, j ≤ m ∧ x99 = .int .i64 j ∧ Hm wr base hb ag ah vb AA FA TA MA ca nt ct nm cm cf { (lays H l).1 with cells := (lays H l).1.cells ++ (lays H l).2.take j } tr mk room ∧ Keeps w9 wr [ag, ah]) (fun i _ => m - (intOf i).toNat)
        case atStart => exact ⟨0, Nat.zero_le _, rfl, by simpa using HM9.out, Keeps.refl _ _⟩
        case round =>
          obtain ⟨j, hj, rfl, hmj, hkj⟩ := hrel
          have HMj := Lib.hid hmj
          have HKj := Lib.hid hkj
          clear hmj hkj
          by_cases hlt : j < m
          · obtain ⟨x, hx⟩ := at_of HN9.out hlt
            obtain ⟨b, off, xv, rfl, hbl, p0, hv⟩ := HR9.out j (by simp; rw [HN9.out]; exact hlt)
            obtain rfl : xv = .int .u64 x := by simpa [hx] using hv.symm
            replace p0 := (HKj.out.cell (p := ⟨b, off + j, none⟩) hbl (HA9.out b off rfl)).trans p0
            have hxr := HC9.out x (List.mem_of_getElem? hx)
            have HPu := Lib.hid (fun W (kk : Keeps wr W []) => hpush_any (HMj.out.keep0 kk) x hxr.1 hxr.2.1 hxr.2.2 (by have h5 := HF9.out; simp; rw [HN9.out]; omega))
            have HX := Lib.hid hx
            have b0 : (0 : Int) ≤ (j : Int) := Int.natCast_nonneg _
            have b1 : (j : Int) < (m : Int) := by omega
            clear hx hv hbl hxr
            go_wp2_with fail
            refine (HPu.out _ (Keeps.refl _ _)).mono ?_
            rintro e w5 ⟨rfl, hm5, k5⟩
            have HM5 := Lib.hid hm5
            have HK5 := Lib.hid k5
            clear hm5 k5 p0 HPu
            go_wp2_with fail
            go_roundw
            case rel => exact ⟨j + 1, by omega, by go_num, by rw [List.take_add_one, HX.out, ← List.append_assoc]; exact HM5.out, HKj.out.trans HK5.out⟩
            case measure => simp [intOf]; omega
          · obtain rfl : m = j := by omega
            clear hlt hj
            go_wp2_with fail
            refine (HMk9.out _).mono ?_
            rintro e w6 ⟨rfl, rfl⟩
            go_wp2_with fail
            go_ret2
            rw [HEq.out]
            have hm6 := HMj.out
            rw [List.take_of_length_le (by rw [HN9.out]; exact Nat.le_refl _)] at hm6
            exact ⟨rfl, _, ⟨ag, ah, vb, AA, FA, TA, MA, ca, nt, ct, nm, cm, cf, rfl, hm6⟩, HS9.out.trans (HSt.of HKj.out (fun b hb' => by unfold hpL; simp only [List.mem_cons, List.not_mem_nil, or_false] at hb'; rcases hb' with rfl | rfl <;> simp))⟩
/-- The program's lay: whatever the term. -/
theorem lay_any (base hb : Nat) (tr : List Int) (mk : List (Int × Int)) (room : Nat) (t : Tm) : tRight t = true → CallLay base hb tr mk room t := by
  induction t using Tm.ind_ with
  | h k n s l ih =>
    intro hr v w L H hH hv ht hf
    by_cases h0 : k = 0
    · subst h0
      exact layV_any base hb tr mk room n s l v w L H hH hv ht hr hf
    · by_cases h1 : k = 1
      · subst h1
        exact layC_any base hb tr mk room n s l v w L H hH ht hf
      · exact layN_any base hb tr mk room k n s l h0 h1 v w L H hH hv ht hr hf (fun a ha => ih a ha (right_parts hr a ha))
end Go.Proofs.YtnonfmaehfmigaaGreatDoor

/- maps.Clone at maps of numbers to numbers: the shelf's contract, laid, and in VM's words. -/
namespace Go.Proofs
open Go.Shelf
def Tryz.cloneInt_ren : Go.Shelf.Ren := ⟨fun | 5 => 30 | 7 => 59 | n => n, fun | 23 => 68 | 25 => 3 | n => n, fun | n => n⟩
theorem Tryz.cloneInt : Go.Proofs.SlLaysW.n5 Tryz.prog Tryz.cloneInt_ren := {
  mixed := by kernel_rfl
  f5 := ⟨Tryz.f30.name, by decide, Tryz.func30.trans (congrArg some (by kernel_rfl))⟩
  f7 := Tryz.func59.trans (congrArg some (by kernel_rfl))
  t4 := Tryz.underlying4
  a4 := Tryz.isAgg4
  z4 := Tryz.sizeOf4
  v4 := Tryz.zeroValue4
  t20 := Tryz.underlying20
  a20 := Tryz.isAgg20
  z20 := Tryz.sizeOf20
  v20 := Tryz.zeroValue20
  t23 := Tryz.underlying68
  a23 := Tryz.isAgg68
  z23 := Tryz.sizeOf68
  v23 := Tryz.zeroValue68 }
end Go.Proofs
namespace Go.Proofs.YtnonfmaehfmigaaGreatDoor
open Go.RowKit Go.Maps
/-- The program's maps.Clone. -/
theorem vclone_any {w : World} {b n : Nat} {f : Int → Option Int} (h : VM w b n f) :
    Calls Tryz.prog 30 #[.map (some b)] w fun e w' => e = .returned (.map (some w.heap.size)) ∧ VM w' w.heap.size n f ∧ Keeps w w' [] ∧ w.heap.size < w'.heap.size := by
  obtain ⟨D, h1, h2⟩ := h
  refine (AnyW.maps_Clone_owns Tryz.cloneInt 3 (plainElem Tryz.prog 3) b n D w h1).mono ?_
  rintro e w' ⟨rfl, g1, _, hB⟩
  exact ⟨rfl, ⟨D, g1, h2⟩, Keeps.of_below hB [], g1.lt⟩
theorem vclone_nil (w : World) : Calls Tryz.prog 30 #[.map none] w fun e w' => e = .returned (.map none) ∧ w' = w := AnyW.maps_Clone_nil Tryz.cloneInt w
end Go.Proofs.YtnonfmaehfmigaaGreatDoor

/- The program's Build: a term is laid. -/
namespace Go.Proofs.YtnonfmaehfmigaaGreatDoor
open Go.RowKit Go.Maps
set_option maxRecDepth 100000 in
set_option maxHeartbeats 3200000 in
theorem build_any (base hb : Nat) (tr : List Int) (mk : List (Int × Int)) (room : Nat) (t : Tm) (v : TV) (w : World) (L : List Nat) (H : PH) (hH : Hp w base hb L H tr mk room) (hv : VB H) (ht : Tr w (fun b => b ∉ L) t v) (hr : tRight t = true) (hf : FitR room (lay H t).1) :
    Calls Tryz.prog 10 #[.pointer (some ⟨hb, 0, none⟩), tvV v] w (LayR w base hb L (lay H t) tr mk room) := by
  obtain ⟨k, n, s, A, m, c⟩ := v
  have hK0 : Keeps w (w.alloc (.cells #[.int .i64 k, .int .i64 n, .string s, .slice A m c] 40)) [] := (Keeps.refl w []).alloc _
  have hB0 : Blk (w.alloc (.cells #[.int .i64 k, .int .i64 n, .string s, .slice A m c] 40)) w.heap.size 40 #[.int .i64 k, .int .i64 n, .string s, .slice A m c] := Blk.new _ _ _
  have HK0 := Lib.hid hK0
  have HR : Hid (∀ W, Keeps w W [] → Calls Tryz.prog 29 #[.agg #[.int .i64 k, .int .i64 n, .string s, .slice A m c]] W fun e w' => e = .returned (.bool true) ∧ Keeps W w' []) := fun W kk => by
    have h1 := tright_any t ⟨k, n, s, A, m, c⟩ W ((ht.mono (fun _ _ => trivial)).keep kk)
    rw [hr] at h1
    exact h1
  have HL : Hid (∀ W, Keeps w W [] → Calls Tryz.prog 31 #[.pointer (some ⟨hb, 0, none⟩), .agg #[.int .i64 k, .int .i64 n, .string s, .slice A m c]] W (LayR W base hb L (lay H t) tr mk room)) := fun W kk =>
    lay_any base hb tr mk room t hr ⟨k, n, s, A, m, c⟩ W L H (hH.keep kk (by simp)) hv (ht.keep kk) hf
  obtain ⟨ag, ah, vb, AA, FA, TA, MA, ca, nt, ct, nm, cm, cf, rfl, hm⟩ := hH
  have HM := Lib.hid hm
  clear ht hf hr hv hm
  unfold tvV
  go_enter Tryz.func10, Tryz.ntmps10
  go_upto_region 1 with fail
  generalize (w.alloc (.cells #[.int .i64 k, .int .i64 n, .string s, .slice A m c] 40)) = w0 at HK0 hK0 hB0 ⊢
  have HB0 := Lib.hid hB0
  have x0 := hB0.cell 0
  have x1 := hB0.cell 1
  have x2 := hB0.cell 2
  have x3 := hB0.cell 3
  clear hB0 hK0
  go_wp2_with fail
  refine (HR.out _ HK0.out).mono ?_
  rintro e w1 ⟨rfl, k1⟩
  have HK1 := Lib.hid (HK0.out.trans k1)
  have HB1 := Lib.hid (HB0.out.keep k1 (by simp))
  have HM1 := Lib.hid (HM.out.keep0 HK1.out)
  clear k1 x0 x1 x2 x3
  go_upto_region 3 with fail
  have hAA : ∀ W', Keeps w1 W' [] → (W'.cell? ⟨hb, 0, none⟩ = some (.pointer (some ⟨ag, 0, none⟩)) ∧ W'.cell? ⟨hb, 3, none⟩ = some (.map (some vb))) := fun W' kk =>
    have kb := HM1.out.blk.keep kk (by simp)
    ⟨kb.cell 0, kb.cell 3⟩
  have HAA := Lib.hid hAA
  clear hAA
  refine wp_region_th (fun W' => W'.cell? ⟨hb, 0, none⟩ = some (.pointer (some ⟨ag, 0, none⟩)) ∧ W'.cell? ⟨hb, 3, none⟩ = some (.map (some vb))) 10 [] [(0, true), (1, true), (2, true), (3, true), (5, true), (6, true), (7, true), (8, true), (4, false), (9, false), (10, false), (11, false)] (by kernel_rfl) (by kernel_rfl) (HAA.out _ (Keeps.refl _ _).drew) (fun hHeld => ?_)
  (repeat (first | (refine wpTh_take (v := ?_) rfl (by rfl) (by assumption) ?_ (by rfl) ?_; rotate_left; (focus (intro w' hSw; (try dsimp only at hSw); go_simp; (try with_reducible rfl); done)); simp only [Act.put, List.setIfInBounds_toArray, List.set_cons_zero, List.set_cons_succ]) | (refine wpTh_pure (v := ?_) rfl (by rfl) (by assumption) ?_ (by rfl) ?_; rotate_left; (focus (intro w'; go_simp; (try with_reducible rfl); done)); simp only [Act.put, List.setIfInBounds_toArray, List.set_cons_zero, List.set_cons_succ])))
  refine wpTh_go rfl (fun K hK => ?_)
  go_simp
  refine (atop_any HM1.out.ar.drew).mono ?_
  rintro e w2 ⟨rfl, rfl⟩
  refine hK.out _ _ ?_ ?_
  · exact HAA.out _ (Keeps.refl _ _).drew
  (clear hHeld; intro hHeld; clear hK K; (try simp only [Act.put, List.setIfInBounds_toArray, List.set_cons_zero, List.set_cons_succ]))
  (repeat (first | (refine wpTh_take (v := ?_) rfl (by rfl) (by assumption) ?_ (by rfl) ?_; rotate_left; (focus (intro w' hSw; (try dsimp only at hSw); go_simp; (try with_reducible rfl); done)); simp only [Act.put, List.setIfInBounds_toArray, List.set_cons_zero, List.set_cons_succ]) | (refine wpTh_pure (v := ?_) rfl (by rfl) (by assumption) ?_ (by rfl) ?_; rotate_left; (focus (intro w'; go_simp; (try with_reducible rfl); done)); simp only [Act.put, List.setIfInBounds_toArray, List.set_cons_zero, List.set_cons_succ])))
  refine wpTh_go rfl (fun K hK => ?_)
  go_simp
  refine (vclone_any (HM1.out.vars.kept (w' := w1.drew) (Keeps.refl _ []).drew (by simp))).mono ?_
  rintro e w3 ⟨rfl, _, k3, _⟩
  have HK3 := Lib.hid ((Keeps.refl w1 []).drew.trans k3)
  clear k3
  refine hK.out _ _ ?_ ?_
  · exact HAA.out _ HK3.out
  (clear hHeld; intro hHeld; clear hK K; (try simp only [Act.put, List.setIfInBounds_toArray, List.set_cons_zero, List.set_cons_succ]))
  (repeat (first | (refine wpTh_take (v := ?_) rfl (by rfl) (by assumption) ?_ (by rfl) ?_; rotate_left; (focus (intro w' hSw; (try dsimp only at hSw); go_simp; (try with_reducible rfl); done)); simp only [Act.put, List.setIfInBounds_toArray, List.set_cons_zero, List.set_cons_succ]) | (refine wpTh_pure (v := ?_) rfl (by rfl) (by assumption) ?_ (by rfl) ?_; rotate_left; (focus (intro w'; go_simp; (try with_reducible rfl); done)); simp only [Act.put, List.setIfInBounds_toArray, List.set_cons_zero, List.set_cons_succ])))
  refine wpTh_tail rfl (by decide) (fun K hK => ?_)
  go_simp
  refine hK.out _ _ ?_; clear hK K; (try simp only [Act.put, List.setIfInBounds_toArray, List.set_cons_zero, List.set_cons_succ])
  refine wpTh_last rfl (by decide) (fun K hK => ?_)
  go_simp
  refine hK.out _ _ (NoPanic.normal ?_)
  clear hK K
  have HK4 := Lib.hid (HK1.out.trans HK3.out)
  have HB4 := HB1.out.keep HK3.out (by simp)
  have x0 := HB4.cell 0
  have x1 := HB4.cell 1
  have x2 := HB4.cell 2
  have x3 := HB4.cell 3
  clear HB4 hHeld
  go_wp2_with fail
  refine (HL.out _ HK4.out).mono ?_
  rintro e w5 ⟨rfl, L2, hp2, st2⟩
  have HP2 := Lib.hid hp2
  have HS2 := Lib.hid st2
  clear hp2 st2 x0 x1 x2 x3
  go_wp2_with fail
  go_ret2
  exact ⟨rfl, L2, HP2.out, HSt.trans ⟨HK4.out.to_ _, fun _ h => .inl h⟩ HS2.out⟩
end Go.Proofs.YtnonfmaehfmigaaGreatDoor

/- What a cell comes to, its parts, and what is read of it: the plain law. No program in sight. -/
namespace Go.Proofs.YtnonfmaehfmigaaGreatDoor
section
variable {w : World} {base hb ag ah vb : Nat} {AA FA TA MA : Option Addr} {ca nt ct nm cm cf : Nat} {H : PH} {tr : List Int} {mk : List (Int × Int)} {room : Nat}
/-- A cell that means a term: its bounds, and that it is its own answer. -/
theorem rp_cell {r : Nat} (hr : r ≤ 65536) (hf : FitR r H) {c : Int} {t : Tm} (h : Rp H c t) : 0 ≤ c ∧ c < 18446744073709551616 ∧ right c = true ∧ (kindOf c ≠ 0 ∨ ∃ p : Nat, c = (p : Int) * 8 ∧ H.cells[p]? = some ((p : Int) * 8)) := by
  have key : ∃ (n : Nat) (k : Int), n ≤ 1000000 ∧ 0 ≤ k ∧ k ≤ 4 ∧ c = (n : Int) * 8 + k ∧ (k ≠ 0 ∨ ∃ p : Nat, c = (p : Int) * 8 ∧ H.cells[p]? = some ((p : Int) * 8)) := by
    have h1 := hf.1
    have h2 := hf.2.1
    cases h with
    | var p h =>
      have := (List.getElem?_eq_some_iff.1 h).1
      exact ⟨p, 0, by omega, by omega, by omega, by omega, .inr ⟨p, rfl, h⟩⟩
    | con i s h =>
      have := (List.getElem?_eq_some_iff.1 h).1
      exact ⟨i, 2, by omega, by omega, by omega, rfl, .inl (by omega)⟩
    | lis p l cs hl hcs ha h =>
      have h3 : 0 < cs.length := by omega
      have := (List.getElem?_eq_some_iff.1 (ha 0 _ (List.getElem?_eq_getElem h3))).1
      exact ⟨p, 3, by omega, by omega, by omega, rfl, .inl (by omega)⟩
    | str p i s l cs hl hg hi hcs ha h =>
      have := (List.getElem?_eq_some_iff.1 hg).1
      exact ⟨p, 1, by omega, by omega, by omega, rfl, .inl (by omega)⟩
  obtain ⟨n, k, g1, g2, g3, g4, g5⟩ := key
  have hrt : right c = true := (right_iff c).2 ⟨by omega, by omega⟩
  refine ⟨by omega, by omega, hrt, ?_⟩
  rcases g5 with g5 | g5
  · left
    unfold kindOf
    rw [if_pos hrt]
    omega
  · exact .inr g5
theorem Hm.fitR (hm : Hm w base hb ag ah vb AA FA TA MA ca nt ct nm cm cf H tr mk room) : FitR room H := ⟨hm.ar.fits, hm.few.1, hm.few.2⟩
end

/-- What a cell comes to (in so many steps). -/
def drf (H : PH) : Nat → Int → Option Int
  | 0, _ => none
  | f + 1, c => if kindOf c = 0 then (match H.cells[(numOf c).toNat]? with
      | none => none
      | some x => if x = c then some c else drf H f x) else some c
def derefP (H : PH) (c : Int) : Option Int := drf H ((numOf c).toNat + 2) c
/-- A heap in which each chain of variables ends. -/
structure HOk (H : PH) : Prop where
  right : ∀ x ∈ H.cells, right x = true
  refs : ∀ (p : Nat) x, H.cells[p]? = some x → kindOf x = 0 → numOf x ≤ p
  vars : ∀ n p, H.vars n = some p → ∃ q : Nat, p = q ∧ q < H.cells.length
  funs : ∀ x ∈ H.funs, 0 ≤ x.2 ∧ x.2 ≤ 1000
  sizes : (∀ s ∈ H.atoms, s.size ≤ 9223372036854775807) ∧ ∀ x ∈ H.funs, x.1.size ≤ 9223372036854775807
theorem num_nn {c : Int} (h0 : 0 ≤ c) (hr : right c = true) : 0 ≤ numOf c := by
  unfold numOf
  rw [if_pos hr]
  omega
theorem ref_eq {c : Int} (hr : right c = true) (hk : kindOf c = 0) : c = numOf c * 8 := by
  unfold kindOf at hk
  unfold numOf
  rw [if_pos hr] at hk ⊢
  omega
/-- How many steps are enough. -/
def needD (c : Int) : Nat := if kindOf c = 0 then (numOf c).toNat + 2 else 1
section
variable {H : PH}
theorem HOk.less (h : HOk H) (hb : ∀ x ∈ H.cells, 0 ≤ x) {c x : Int} (h0 : 0 ≤ c) (hr : Go.Proofs.YtnonfmaehfmigaaGreatDoor.right c = true) (hk : kindOf c = 0) (hx : H.cells[(numOf c).toNat]? = some x) (hne : x ≠ c) : needD x < needD c := by
  have hm := List.mem_of_getElem? hx
  have hrx := h.right x hm
  have hn := num_nn h0 hr
  unfold needD
  rw [if_pos hk]
  split
  · rename_i hkx
    have h1 := h.refs _ x hx hkx
    have h2 := ref_eq hrx hkx
    have h3 := ref_eq hr hk
    have h4 := num_nn (hb x hm) hrx
    have : numOf x ≠ numOf c := fun e => hne (by rw [h2, h3, e])
    omega
  · omega
theorem drf_fuel (h : HOk H) (hb : ∀ x ∈ H.cells, 0 ≤ x) : ∀ (f g : Nat) (c : Int), 0 ≤ c → Go.Proofs.YtnonfmaehfmigaaGreatDoor.right c = true → needD c ≤ f → needD c ≤ g → drf H f c = drf H g c := by
  intro f
  induction f with
  | zero => intro g c _ _ h1 _; unfold needD at h1; split at h1 <;> omega
  | succ f ih =>
    intro g c h0 hr h1 h2
    cases g with
    | zero => unfold needD at h2; split at h2 <;> omega
    | succ g =>
      rw [drf, drf]
      split
      · rename_i hk
        cases hx : H.cells[(numOf c).toNat]? with
        | none => rfl
        | some x =>
          simp only
          split
          · rfl
          · rename_i hne
            have hm := List.mem_of_getElem? hx
            have h3 := h.less hb h0 hr hk hx hne
            exact ih g x (hb x hm) (h.right x hm) (by omega) (by omega)
      · rfl
theorem deref_need (c : Int) : needD c ≤ (numOf c).toNat + 2 := by unfold needD; split <;> omega
theorem deref_of_non {c : Int} (hk : kindOf c ≠ 0) : derefP H c = some c := by unfold derefP; rw [drf, if_neg hk]
theorem deref_of_self {c : Int} (hk : kindOf c = 0) (hx : H.cells[(numOf c).toNat]? = some c) : derefP H c = some c := by unfold derefP; rw [drf, if_pos hk, hx]; simp
theorem deref_of_gone {c : Int} (hk : kindOf c = 0) (hx : H.cells[(numOf c).toNat]? = none) : derefP H c = none := by unfold derefP; rw [drf, if_pos hk, hx]
theorem deref_of_step (h : HOk H) (hb : ∀ x ∈ H.cells, 0 ≤ x) {c x : Int} (h0 : 0 ≤ c) (hr : Go.Proofs.YtnonfmaehfmigaaGreatDoor.right c = true) (hk : kindOf c = 0) (hx : H.cells[(numOf c).toNat]? = some x) (hne : x ≠ c) : derefP H c = derefP H x := by
  have hm := List.mem_of_getElem? hx
  have h3 := h.less hb h0 hr hk hx hne
  have h4 := deref_need c
  show drf H _ c = drf H _ x
  rw [drf, if_pos hk, hx]
  simp only
  rw [if_neg hne]
  refine drf_fuel h hb _ _ x (hb x hm) (h.right x hm) ?_ (deref_need x)
  unfold needD at h3 h4
  rw [if_pos hk] at h3 h4
  unfold needD
  omega
/-- What it comes to: a cell that is its own answer. -/
theorem deref_is (h : HOk H) (hb : ∀ x ∈ H.cells, 0 ≤ x ∧ x < 18446744073709551616) : ∀ (f : Nat) (c d : Int), needD c ≤ f → 0 ≤ c → c < 18446744073709551616 → Go.Proofs.YtnonfmaehfmigaaGreatDoor.right c = true → derefP H c = some d → 0 ≤ d ∧ d < 18446744073709551616 ∧ Go.Proofs.YtnonfmaehfmigaaGreatDoor.right d = true ∧ derefP H d = some d ∧ (kindOf d = 0 → H.cells[(numOf d).toNat]? = some d) := by
  intro f
  induction f with
  | zero => intro c d h1; unfold needD at h1; split at h1 <;> omega
  | succ f ih =>
    intro c d h1 h0 h2 hr hd
    have hb0 : ∀ x ∈ H.cells, 0 ≤ x := fun x hx => (hb x hx).1
    by_cases hk : kindOf c = 0
    · cases hx : H.cells[(numOf c).toNat]? with
      | none => rw [deref_of_gone hk hx] at hd; cases hd
      | some x =>
        by_cases hne : x = c
        · subst hne
          have h5 := deref_of_self hk hx
          rw [h5] at hd
          obtain rfl := Option.some.inj hd
          exact ⟨h0, h2, hr, h5, fun _ => hx⟩
        · rw [deref_of_step h hb0 h0 hr hk hx hne] at hd
          have hm := List.mem_of_getElem? hx
          have h3 := h.less hb0 h0 hr hk hx hne
          exact ih x d (by omega) (hb x hm).1 (hb x hm).2 (h.right x hm) hd
    · rw [deref_of_non hk] at hd
      obtain rfl := Option.some.inj hd
      exact ⟨h0, h2, hr, deref_of_non hk, fun e => absurd e hk⟩
end
/-! ### Its parts -/
def cellP (H : PH) (i : Nat) : Int := (H.cells[i]?).getD 0
def funP (H : PH) (c : Int) : Option (ByteArray × Int) := match H.cells[(numOf c).toNat]? with
  | none => none
  | some f => if kindOf f = 4 then H.funs[(numOf f).toNat]? else none
def partsP (H : PH) (c : Int) : List Int :=
  if kindOf c = 1 then (match funP H c with
    | none => []
    | some x => (List.range x.2.toNat).map fun i => cellP H ((numOf c).toNat + 1 + i))
  else (List.range 2).map fun i => cellP H ((numOf c).toNat + i)
def nameP (H : PH) (c : Int) : ByteArray := match funP H c with
  | none => ⟨#[]⟩
  | some x => x.1
theorem parts_few {H : PH} (h : HOk H) (c : Int) : (partsP H c).length ≤ 1000 := by
  unfold partsP
  split
  · cases hf : funP H c with
    | none => simp
    | some x =>
      simp only [List.length_map, List.length_range]
      have hx : x ∈ H.funs := by
        unfold funP at hf
        cases hc : H.cells[(numOf c).toNat]? with
        | none => rw [hc] at hf; cases hf
        | some f =>
          rw [hc] at hf
          simp only at hf
          split at hf
          · exact List.mem_of_getElem? hf
          · cases hf
      have := h.funs x hx
      omega
  · simp
theorem parts_cell {H : PH} (h : HOk H) (hb : ∀ x ∈ H.cells, 0 ≤ x ∧ x < 18446744073709551616) (c : Int) : ∀ x ∈ partsP H c, 0 ≤ x ∧ x < 18446744073709551616 ∧ right x = true := by
  have key : ∀ i, 0 ≤ cellP H i ∧ cellP H i < 18446744073709551616 ∧ right (cellP H i) = true := fun i => by
    unfold cellP
    cases hc : H.cells[i]? with
    | none => exact ⟨by simp, by simp, by simp [right]⟩
    | some x =>
      have hm := List.mem_of_getElem? hc
      exact ⟨(hb x hm).1, (hb x hm).2, h.right x hm⟩
  intro x hx
  unfold partsP at hx
  split at hx
  · cases hf : funP H c with
    | none => rw [hf] at hx; simp at hx
    | some y =>
      rw [hf] at hx
      simp only [List.mem_map] at hx
      obtain ⟨i, _, rfl⟩ := hx
      exact key _
  · simp only [List.mem_map] at hx
    obtain ⟨i, _, rfl⟩ := hx
    exact key _
/-! ### What is read -/
def tZ : Tm := .mk 0 0 ⟨#[]⟩ []
/-- One behind the other. -/
def rdL (step : Int → Int × Int → Tm × (Int × Int)) (l : List Int) (a : List Tm × (Int × Int)) : List Tm × (Int × Int) :=
  l.foldl (fun a x => (a.1 ++ [(step x a.2).1], (step x a.2).2)) a
theorem rdL_snoc (step : Int → Int × Int → Tm × (Int × Int)) (l : List Int) (x : Int) (a : List Tm × (Int × Int)) :
    rdL step (l ++ [x]) a = ((rdL step l a).1 ++ [(step x (rdL step l a).2).1], (step x (rdL step l a).2).2) := by unfold rdL; rw [List.foldl_append]; rfl
/-- A compound: left, what is wrong. -/
def cpd (H : PH) (step : Int → Int × Int → Tm × (Int × Int)) (d : Int) (k : Int) : Tm × (Int × Int) :=
  if kindOf d = 1 ∧ partsP H d = [] then (tZ, (k, 1))
  else (.mk (if kindOf d = 1 then 2 else 3) 0 (if kindOf d = 1 then nameP H d else ⟨#[]⟩) (rdL step (partsP H d) ([], (k, 0))).1, (rdL step (partsP H d) ([], (k, 0))).2)
/-- Of a cell's answer, as long as nothing is wrong: how many may come yet. -/
def rdC (H : PH) (step : Int → Int × Int → Tm × (Int × Int)) (d : Option Int) (k : Int) : Tm × (Int × Int) :=
  match d with
  | none => (tZ, (k, 1))
  | some d =>
    if k < 0 then (tZ, (k, 2))
    else if kindOf d = 0 then (if 999 < numOf d then (tZ, (k, 2)) else (.mk 0 (numOf d) ⟨#[]⟩ [], (k, 0)))
    else if kindOf d = 2 then (match H.atoms[(numOf d).toNat]? with
      | none => (tZ, (k, 1))
      | some a => (.mk 1 0 a [], (k, 0)))
    else if kindOf d = 4 then (tZ, (k, 1))
    else cpd H step d k
def rd (H : PH) : Nat → Int → Int × Int → Tm × (Int × Int)
  | 0, _, s => (tZ, s)
  | f + 1, c, s => if s.2 = 0 then rdC H (rd H f) (derefP H c) (s.1 - 1) else (tZ, (s.1 - 1, s.2))
/-- How many may come yet: bounds. -/
structure RdB (f : Nat) (s r : Int × Int) : Prop where
  ok : r.2 = 0 → 0 ≤ r.1 ∧ s.2 = 0
  low : min s.1 0 - 1 - 1002 * (f : Int) ≤ r.1
  up : r.1 ≤ s.1
theorem rdL_low {H : PH} {f : Nat} (ih : ∀ (c : Int) (s : Int × Int), (s.2 = 0 → 0 ≤ s.1) → s.1 < f → RdB f s (rd H f c s).2) (k : Int) (hk : 0 ≤ k) (hkf : k < f) :
    ∀ (n : Nat) (l : List Int), l.length = n → (rdL (rd H f) l ([], (k, 0))).1.length = n ∧ ((rdL (rd H f) l ([], (k, 0))).2.2 = 0 → 0 ≤ (rdL (rd H f) l ([], (k, 0))).2.1) ∧ -2 - 1002 * (f : Int) - (n : Int) ≤ (rdL (rd H f) l ([], (k, 0))).2.1 ∧ (rdL (rd H f) l ([], (k, 0))).2.1 ≤ k := by
  intro n
  induction n with
  | zero =>
    intro l hl
    obtain rfl := List.length_eq_zero_iff.1 hl
    exact ⟨rfl, fun _ => hk, by simp [rdL]; omega, by simp [rdL]⟩
  | succ n ihn =>
    intro l hl
    rcases List.eq_nil_or_concat l with rfl | ⟨m, x, rfl⟩
    · simp at hl
    · rw [List.concat_eq_append] at hl ⊢
      obtain ⟨g1, g2, g3, g4⟩ := ihn m (by simpa using hl)
      rw [rdL_snoc]
      generalize rdL (rd H f) m ([], (k, 0)) = r at g1 g2 g3 g4 ⊢
      obtain ⟨ts, left, err⟩ := r
      simp only at g1 g2 g3 g4 ⊢
      have h := ih x (left, err) g2 (by simp only; omega)
      have h1 := h.ok
      have h2 := h.low
      have h3 := h.up
      refine ⟨by simp [g1], fun e => (h1 e).1, ?_, by simp only at h3; omega⟩
      by_cases he : err = 0
      · have := g2 he
        simp only at h2
        omega
      · cases f with
        | zero => simp only [rd]; omega
        | succ f =>
          rw [rd, if_neg (by exact he)]
          simp only
          omega
theorem rd_low {H : PH} (h : HOk H) : ∀ (f : Nat) (c : Int) (s : Int × Int), (s.2 = 0 → 0 ≤ s.1) → s.1 < f → RdB f s (rd H f c s).2 := by
  intro f
  induction f with
  | zero => intro c s h1 h2; exact ⟨fun e => ⟨h1 e, e⟩, by simp only [rd]; omega, by simp only [rd]; omega⟩
  | succ f ih =>
    intro c s h1 h2
    obtain ⟨left, err⟩ := s
    simp only at h1 h2
    rw [rd]
    split
    · rename_i he
      simp only at he ⊢
      have h3 := h1 he
      have hfail : ∀ e : Int, e ≠ 0 → RdB (f + 1) (left, err) (left - 1, e) := fun e hne => ⟨fun e' => absurd e' hne, by simp only; omega, by simp only; omega⟩
      unfold rdC
      cases derefP H c with
      | none => exact hfail 1 (by omega)
      | some d =>
        simp only
        split
        · exact hfail 2 (by omega)
        · rename_i hn
          have hok : RdB (f + 1) (left, err) (left - 1, 0) := ⟨fun _ => ⟨by simp only; omega, he⟩, by simp only; omega, by simp only; omega⟩
          split
          · split
            · exact hfail 2 (by omega)
            · exact hok
          · split
            · cases H.atoms[(numOf d).toNat]? with
              | none => exact hfail 1 (by omega)
              | some a => exact hok
            · split
              · exact hfail 1 (by omega)
              · unfold cpd
                split
                · exact hfail 1 (by omega)
                · have hp := parts_few h d
                  obtain ⟨g1, g2, g3, g4⟩ := rdL_low ih (left - 1) (by omega) (by omega) (partsP H d).length (partsP H d) rfl
                  exact ⟨fun e => ⟨g2 e, he⟩, by simp only at g3 ⊢; omega, by simp only at g4 ⊢; omega⟩
    · rename_i he
      exact ⟨fun e => absurd e he, by simp only; omega, by simp only; omega⟩
/-- As many parts are read as steps are taken. -/
theorem rdL_size {H : PH} (h : HOk H) {f : Nat} (ih : ∀ (c : Int) (s : Int × Int), (s.2 = 0 → 0 ≤ s.1) → s.1 < f → (tSize (rd H f c s).1 : Int) = s.1 - (rd H f c s).2.1) (k : Int) (hk : 0 ≤ k) (hkf : k < f) :
    ∀ (n : Nat) (l : List Int), l.length = n → (tSizes (rdL (rd H f) l ([], (k, 0))).1 : Int) = k - (rdL (rd H f) l ([], (k, 0))).2.1 := by
  intro n
  induction n with
  | zero =>
    intro l hl
    obtain rfl := List.length_eq_zero_iff.1 hl
    simp [rdL, tSizes]
  | succ n ihn =>
    intro l hl
    rcases List.eq_nil_or_concat l with rfl | ⟨m, x, rfl⟩
    · simp at hl
    · rw [List.concat_eq_append] at hl ⊢
      have hm : m.length = n := by simpa using hl
      obtain ⟨_, g2, _, g4⟩ := rdL_low (rd_low h f) k hk hkf n m hm
      have g := ihn m hm
      rw [rdL_snoc]
      have e := ih x (rdL (rd H f) m ([], (k, 0))).2 g2 (by omega)
      simp only [tSizes_snoc]
      omega
theorem rd_size {H : PH} (h : HOk H) : ∀ (f : Nat) (c : Int) (s : Int × Int), 0 < f → (s.2 = 0 → 0 ≤ s.1) → s.1 < f → (tSize (rd H f c s).1 : Int) = s.1 - (rd H f c s).2.1 := by
  intro f
  induction f with
  | zero => intro c s hf; omega
  | succ f ih =>
    intro c s _ h1 h2
    have hz : (tSize tZ : Int) = 1 := rfl
    obtain ⟨left, err⟩ := s
    simp only at h1 h2
    rw [rd]
    split
    · rename_i he
      simp only at he ⊢
      have h3 := h1 he
      unfold rdC
      cases derefP H c with
      | none => simp only; omega
      | some d =>
        simp only
        split
        · simp only; omega
        · rename_i hn
          split
          · split
            · simp only; omega
            · simp [tSize, tSizes]; omega
          · split
            · cases H.atoms[(numOf d).toNat]? with
              | none => simp only; omega
              | some a => simp [tSize, tSizes]; omega
            · split
              · simp only; omega
              · unfold cpd
                split
                · simp only; omega
                · have g := rdL_size h (fun c s => ih c s (by omega)) (left - 1) (by omega) (by omega) (partsP H d).length (partsP H d) rfl
                  simp only [tSize]
                  omega
    · simp only
      omega
/-! ### A cell that means a tree -/
inductive Rg (H : PH) : Int → Tm → Prop
  | var (c d : Int) (hd : derefP H c = some d) (hk : kindOf d = 0) : Rg H c (.mk 0 (numOf d) ⟨#[]⟩ [])
  | con (c d : Int) (s : ByteArray) (hd : derefP H c = some d) (hk : kindOf d = 2) (ha : H.atoms[(numOf d).toNat]? = some s) : Rg H c (.mk 1 0 s [])
  | cmp (c d : Int) (l : List Tm) (hd : derefP H c = some d) (hk : kindOf d = 1 ∨ kindOf d = 3) (hne : kindOf d = 1 → partsP H d ≠ []) (hl : l.length = (partsP H d).length) (h : ∀ (j : Nat) t x, l[j]? = some t → (partsP H d)[j]? = some x → Rg H x t) :
      Rg H c (.mk (if kindOf d = 1 then 2 else 3) 0 (if kindOf d = 1 then nameP H d else ⟨#[]⟩) l)
theorem rdL_ok {step : Int → Int × Int → Tm × (Int × Int)} : ∀ (l : List Tm) (xs : List Int) (acc : List Tm) (k : Int), l.length = xs.length → (tSizes l : Int) ≤ k → (∀ (j : Nat) t x, l[j]? = some t → xs[j]? = some x → ∀ k', (tSize t : Int) ≤ k' → k' ≤ k → step x (k', 0) = (t, (k' - tSize t, 0))) → rdL step xs (acc, (k, 0)) = (acc ++ l, (k - tSizes l, 0))
  | [], [], acc, k, _, _, _ => by simp [rdL, tSizes]
  | [], _ :: _, _, _, h, _, _ => by simp at h
  | _ :: _, [], _, _, h, _, _ => by simp at h
  | t :: l, x :: xs, acc, k, h, hk, hs => by
    rw [tSizes] at hk
    have h1 := hs 0 t x rfl rfl k (by omega) (by omega)
    have h2 := rdL_ok (step := step) l xs (acc ++ [t]) (k - tSize t) (by simpa using h) (by omega) (fun j t' x' a b k' c d => hs (j + 1) t' x' (by simpa using a) (by simpa using b) k' c (by omega))
    unfold rdL at h2 ⊢
    rw [List.foldl_cons]
    simp only
    rw [h1]
    simp only
    rw [h2, tSizes]
    simp
    omega
theorem rd_ok {H : PH} {c : Int} {t : Tm} (h : Rg H c t) : (∀ n ∈ tV t, n ≤ 999) → ∀ (f : Nat) (k : Int), (tSize t : Int) ≤ k → k < f → rd H f c (k, 0) = (t, (k - tSize t, 0)) := by
  induction h with
  | var c d hd hk =>
    intro hv f k h1 h2
    cases f with
    | zero => omega
    | succ f =>
      have h3 := hv (numOf d) (by rw [tV, if_pos rfl]; simp)
      simp only [tSize, tSizes] at h1 ⊢
      rw [rd, if_pos rfl, hd]
      simp only [rdC]
      rw [if_neg (by omega), if_pos hk, if_neg (by omega)]
      simp
  | con c d s hd hk ha =>
    intro hv f k h1 h2
    cases f with
    | zero => omega
    | succ f =>
      simp only [tSize, tSizes] at h1 ⊢
      rw [rd, if_pos rfl, hd]
      simp only [rdC]
      rw [if_neg (by omega), if_neg (by omega), if_pos hk, ha]
      simp
  | cmp c d l hd hk hne hl h ih =>
    intro hv f k h1 h2
    cases f with
    | zero => have := tSize_pos (.mk (if kindOf d = 1 then 2 else 3) 0 (if kindOf d = 1 then nameP H d else ⟨#[]⟩) l); omega
    | succ f =>
      have hk2 : (if kindOf d = 1 then (2 : Int) else 3) ≠ 0 := by split <;> omega
      have hv' : ∀ (j : Nat) t, l[j]? = some t → ∀ n ∈ tV t, n ≤ 999 := fun j t hj n hn => hv n (by rw [tV, if_neg hk2]; exact mem_tVL.2 ⟨t, List.mem_of_getElem? hj, hn⟩)
      simp only [tSize] at h1 ⊢
      rw [rd, if_pos rfl, hd]
      simp only [rdC]
      rw [if_neg (by omega), if_neg (by omega), if_neg (by omega), if_neg (by omega)]
      unfold cpd
      rw [if_neg (fun e => hne e.1 e.2), rdL_ok l (partsP H d) [] (k - 1) hl (by omega) (fun j t x a b k' c1 c2 => ih j t x a b (hv' j t a) f k' c1 (by omega))]
      simp
      omega
end Go.Proofs.YtnonfmaehfmigaaGreatDoor
