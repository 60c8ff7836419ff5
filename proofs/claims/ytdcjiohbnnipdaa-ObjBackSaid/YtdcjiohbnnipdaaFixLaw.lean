/- What Fix makes may be: the plain law. -/
import Derived.Test.YtdcjiohbnnipdaaRound
namespace Go.Proofs.Ytdcjiohbnnipdaa
open Go.RowKit

def lets : List ByteArray := [⟨#[97]⟩, ⟨#[98]⟩, ⟨#[99]⟩, ⟨#[100]⟩]
def pOf (s : ByteArray) : ByteArray := (⟨#[112]⟩ : ByteArray) ++ s
def fixA : List ByteArray := [⟨#[97]⟩, ⟨#[98]⟩, ⟨#[110, 105, 108]⟩]
def fixF : List LFun := [⟨⟨#[102]⟩, 1⟩, ⟨⟨#[103]⟩, 2⟩]
structure PsOk (n k : Nat) (ps : List LPred) : Prop where
  names : ps.map (·.name) = (lets.take k).map pOf
  ar : ∀ p ∈ ps, 0 ≤ p.arity ∧ p.arity ≤ 8
  en : ∀ p ∈ ps, entB n p = true
  nd : dupB (entL ps) = false
  few : k ≤ 4
theorem PsOk.len {n k : Nat} {ps : List LPred} (h : PsOk n k ps) : ps.length = k := by
  have := congrArg List.length h.names
  have hk := h.few
  simp [lets] at this
  omega
theorem PsOk.nil (n : Nat) : PsOk n 0 [] := ⟨rfl, fun p hp => absurd hp (by simp), fun p hp => absurd hp (by simp), rfl, by omega⟩
theorem entL_app1 (ps : List LPred) (p : LPred) : entL (ps ++ [p]) = entL ps ++ if p.entry = 65535 then [] else [p.entry] := by
  unfold entL
  rw [List.filter_append, List.map_append]
  congr 1
  by_cases h : p.entry = 65535
  · simp [h]
  · simp [h]
theorem PsOk.step {n k : Nat} {ps : List LPred} (h : PsOk n k ps) {s : ByteArray} (hs : lets[k]? = some s) {a e : Int} (ha : 0 ≤ a ∧ a ≤ 8) (he : e = 65535 ∨ (0 ≤ e ∧ e < n)) (hd : e ≠ 65535 → e ∉ entL ps) :
    PsOk n (k + 1) (ps ++ [⟨pOf s, a, e⟩]) := by
  have hk : k < 4 := by have := (List.getElem?_eq_some_iff.1 hs).1; simpa [lets] using this
  refine ⟨?_, ?_, ?_, ?_, hk⟩
  · rw [List.map_append, h.names, List.take_add_one, hs, List.map_append]
    rfl
  · intro p hp
    rcases List.mem_append.1 hp with hp | hp
    · exact h.ar p hp
    · simp at hp; subst hp; exact ha
  · intro p hp
    rcases List.mem_append.1 hp with hp | hp
    · exact h.en p hp
    · simp at hp; subst hp
      simp only [entB, Bool.or_eq_true, Bool.and_eq_true, beq_iff_eq, decide_eq_true_eq]
      exact he
  · rw [entL_app1]
    by_cases h6 : e = 65535
    · rw [if_pos h6, List.append_nil]; exact h.nd
    · rw [if_neg h6, dupB_snoc, h.nd]
      simp [hd h6]
theorem dupB_map {α β : Type} [DecidableEq α] [DecidableEq β] (f : α → β) : ∀ l : List α, dupB (l.map f) = false → dupB l = false
  | [], _ => rfl
  | x :: l, h => by
    rw [List.map_cons, dupB, Bool.or_eq_false_iff] at h
    rw [dupB, Bool.or_eq_false_iff]
    refine ⟨?_, dupB_map f l h.2⟩
    by_cases hc : l.contains x = true
    · have hm : x ∈ l := by simpa using hc
      have : (l.map f).contains (f x) = true := by simpa using ⟨x, hm, rfl⟩
      rw [this] at h
      cases h.1
    · simpa using hc
def hasN (P n : Nat) (q : Nat) (v : Int) : Bool := if q = 3 then decide (v < 3) else if q = 4 then decide (v < 2) else if q = 7 then decide (v < P) else if q = 8 then decide (v < n) || v == 65535 else true
def argG (P n : Nat) (op : Int) (k : Nat) (v : Int) : Prop := match (kindsOf op)[k]? with
  | some q => mayOk op q.toNat v = true ∧ hasN P n q.toNat v = true
  | none => v = 0
def insG (P n : Nat) (i : LIns) : Prop := opIn i.op = true ∧ ∀ k, k < 4 → argG P n i.op k (i.arg k)
theorem codeErr_zero {o : LObj} : ∀ {l : List LIns}, (∀ i ∈ l, insErr o i = 0) → codeErr o l = 0
  | [], _ => rfl
  | i :: l, h => by rw [codeErr, if_pos (h i (by simp))]; exact codeErr_zero (fun j hj => h j (by simp [hj]))
theorem insG_err {f : LObj} {k n : Nat} (hA : f.atoms.length = 3) (hF : f.funs.length = 2) (hP : f.preds.length = k) (hC : f.code.length = n) {i : LIns} (h : insG k n i) : insErr f i = 0 := by
  refine insErr_ok h.1 ?_ ?_
  · simp only [insOk, Bool.and_eq_true, List.all_eq_true, List.mem_range]
    refine ⟨h.1, fun j hj => ?_⟩
    have hg := h.2 j hj
    unfold argG at hg
    unfold argOk
    cases hq : (kindsOf i.op)[j]? with
    | none => rw [hq] at hg; simpa using hg
    | some q => rw [hq] at hg; exact hg.1
  · intro j hj
    have hfew := kinds_few i.op
    have hg := h.2 j (by omega)
    unfold argG at hg
    rw [List.getElem?_eq_getElem hj] at hg
    unfold argHas
    rw [List.getD_eq_getElem?_getD, List.getElem?_eq_getElem hj]
    simp only [Option.getD_some]
    have h2 := hg.2
    unfold hasN at h2
    unfold hasB
    rw [hA, hF, hP, hC]
    exact h2
theorem fix_check {f : LObj} {n k : Nat} (hA : f.atoms = fixA) (hF : f.funs = fixF) (hP : PsOk n k f.preds) (hC : f.code.length = n) (hn : n ≤ 30) (h : ∀ i ∈ f.code, insG k n i) : checkE f = 0 := by
  have hpl := hP.len
  have hk := hP.few
  have hnames : ∀ j, j ≤ 4 → dupB ((lets.take j).map pOf) = false ∧ ∀ s ∈ (lets.take j).map pOf, nameOk s = true := by
    intro j hj
    match j, hj with
    | 0, _ => decide
    | 1, _ => decide
    | 2, _ => decide
    | 3, _ => decide
    | 4, _ => decide
  obtain ⟨hd, hok⟩ := hnames k hk
  have hA3 : f.atoms.length = 3 := by rw [hA]; rfl
  have hF2 : f.funs.length = 2 := by rw [hF]; rfl
  have hbig : bigO f = false := by
    rw [bigO, bigB_or, hA3, hF2, hpl, hC]
    simp only [Bool.or_eq_false_iff, decide_eq_false_iff_not]
    omega
  have hnm : namedB f = true := by
    rw [namedB, hA, hF]
    have h1 : fixA.all nameOk = true := by decide
    have h2 : fixF.all funOk = true := by decide
    rw [h1, h2]
    simp only [Bool.true_and, List.all_eq_true]
    intro p hp
    have : p.name ∈ f.preds.map (·.name) := List.mem_map.2 ⟨p, hp, rfl⟩
    rw [hP.names] at this
    have h3 := hP.ar p hp
    simp only [predOk, hok _ this, Bool.true_and, Bool.and_eq_true, decide_eq_true_eq]
    exact h3
  have hdup : dupO f = false := by
    rw [dupO, hA, hF]
    have h1 : dupB fixA = false := by decide
    have h2 : dupB fixF = false := by decide
    rw [h1, h2]
    simp only [Bool.false_or]
    refine dupB_map (fun x : LFun => x.name) _ ?_
    rw [List.map_map]
    have : (fun x : LFun => x.name) ∘ keyF = fun p : LPred => p.name := rfl
    rw [this, hP.names]
    exact hd
  have hent : entriesB f = true := by
    refine entriesB_yes ?_ hP.nd
    rw [List.all_eq_true, hC]
    exact hP.en
  rw [checkE_code hbig hnm hdup hent]
  exact codeErr_zero (fun i hi => insG_err hA3 hF2 hpl hC (h i hi))
def mostT (P n : Nat) : List Int := [1, 32, 16, 3, 2, 8, 17, P, n, 16]
theorem arg_good {op : Int} {k q P n : Nat} (hq : (kindsOf op)[k]? = some (q : Int)) (hP : P ≤ 4) (hn : n ≤ 30) {m u : Int} (hm : (mostT P n)[q]? = some m) (h0 : 0 ≤ u) (h1 : u < m) :
    argG P n op k (if q = 5 then u + 1 else u) := by
  have hr := kinds_mem op q (List.mem_of_getElem? hq)
  unfold argG
  rw [hq]
  simp only [Int.toNat_natCast]
  have key : (leastOf6 q ≤ (if q = 5 then u + 1 else u) ∧ (if q = 5 then u + 1 else u) ≤ mostOf q) ∧ hasN P n q (if q = 5 then u + 1 else u) = true := by
    have hq10 : q < 10 := by omega
    match q, hq10 with
    | 0, _ => exact absurd hr.1 (by decide)
    | 1, _ => simp [mostT, leastOf6, mostOf, mosts, hasN] at hm ⊢; omega
    | 2, _ => simp [mostT, leastOf6, mostOf, mosts, hasN] at hm ⊢; omega
    | 3, _ => simp [mostT, leastOf6, mostOf, mosts, hasN] at hm ⊢; omega
    | 4, _ => simp [mostT, leastOf6, mostOf, mosts, hasN] at hm ⊢; omega
    | 5, _ => simp [mostT, leastOf6, mostOf, mosts, hasN] at hm ⊢; omega
    | 6, _ => simp [mostT, leastOf6, mostOf, mosts, hasN] at hm ⊢; omega
    | 7, _ => simp [mostT, leastOf6, mostOf, mosts, hasN] at hm ⊢; omega
    | 8, _ => simp [mostT, leastOf6, mostOf, mosts, hasN] at hm ⊢; omega
    | 9, _ => simp [mostT, leastOf6, mostOf, mosts, hasN] at hm ⊢; omega
  refine ⟨?_, key.2⟩
  simp only [mayOk, Bool.or_eq_true, Bool.and_eq_true, decide_eq_true_eq]
  exact .inl key.1
theorem kinds26 : kindsOf 26 = [8, 8, 8, 8] := rfl
theorem arg_none {k q P n : Nat} (hq : (kindsOf 26)[k]? = some (q : Int)) : argG P n 26 k 65535 := by
  have hk : kindsOf 26 = [8, 8, 8, 8] := rfl
  have hm := List.mem_of_getElem? hq
  rw [hk] at hm
  have h8 : q = 8 := by simp at hm; omega
  subst h8
  unfold argG
  rw [hq]
  exact ⟨rfl, by simp [hasN]⟩
end Go.Proofs.Ytdcjiohbnnipdaa
