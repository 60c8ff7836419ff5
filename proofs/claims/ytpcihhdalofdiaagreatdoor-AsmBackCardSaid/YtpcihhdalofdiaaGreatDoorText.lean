/- A region that draws its order, walked in one order: what reads is taken first under a condition S on the world; what writes comes up alone; behind the last operation S isn't asked. Over any program. -/
import Derived.OrdersHeld
import Derived.StillTail
import Derived.Deep.RegionHeld3
namespace Go.Proofs.YtpcihhdalofdiaaGreatDoor
open Go

section
variable {P : Program} {ops : Array Oper} {Q : Exit → Act → World → Prop} {md : Region.Mode} {S : World → Prop}

/-- Whatever order is picked: S holds behind every operation but number n. -/
def wpAnyE (P : Program) (md : Region.Mode) (ops : Array Oper) (Q : Exit → Act → World → Prop) (S : World → Prop) (n : Nat) : Nat → Array Bool → Act → World → Prop
  | 0, listed, a, w => Region.ready md ops listed = [] ∧ Q .normal a w
  | fuel + 1, listed, a, w =>
    (Region.ready md ops listed = [] → Q .normal a w) ∧
    ∀ i ∈ Region.ready md ops listed, wpOp P ops Q i (fun a' w' => (i ≠ n → S w') ∧ wpAnyE P md ops Q S n fuel (listed.setIfInBounds i true) a' w') a w

theorem wpAny_of_E {n : Nat} : ∀ (fuel : Nat) (listed : Array Bool) (a : Act) (w : World), wpAnyE P md ops Q S n fuel listed a w → wpAny P md ops Q fuel listed a w
  | 0, _, _, _, h => h
  | fuel + 1, _, _, _, h => ⟨h.1, fun i hi => wpOp_mono (fun a' w' h' => wpAny_of_E fuel _ a' w' h'.2) (h.2 i hi)⟩

theorem wpAnyE_first {n i : Nat} {oi : Oper} {v : Value} (hi : ops[i]? = some oi) (hsel : ∀ (j : Nat) (o : Oper) cs b, ops[j]? = some o → o.op ≠ .select cs b)
    (hQ : ∀ c a w, Q (.panic c) (a.put oi.dst v) w → Q (.panic c) a w) (hs : Region.sinkB md ops n = true) (hc : Region.chainB md ops n = true) (hn : n < ops.size) (hin : i < n) :
    ∀ (fuel : Nat) (listed : Array Bool) (a : Act) (w : World), HeadInv md ops n listed →
      (∀ j oj, ops[j]? = some oj → j ≠ i → listed.getD j true = false → (∀ e ∈ oj.after, Region.binds md e = true → e.on ≠ i) → oi.apart ops oj = true) →
      i ∈ Region.ready md ops listed → YieldsIf P ops S oi v a → S w →
      wpAnyE P md ops Q S n fuel (listed.setIfInBounds i true) (a.put oi.dst v) w → wpAnyE P md ops Q S n (fuel + 1) listed a w := by
  intro fuel
  induction fuel with
  | zero =>
    intro listed a w _ _ hr hy hS H
    refine ⟨fun h => (by rw [h] at hr; cases hr), fun j hj => ?_⟩
    by_cases hji : j = i
    · subst hji; exact hy.wpOp hi hS ⟨fun _ => hS, H⟩
    · have := ready_mono hj hji
      rw [H.1] at this
      cases this
  | succ fuel ih =>
    intro listed a w inv hfree hr hy hS H
    have hun := (mem_ready.1 hr).1
    refine ⟨fun h => (by rw [h] at hr; cases hr), fun j hj => ?_⟩
    by_cases hji : j = i
    · subst hji; exact hy.wpOp hi hS ⟨fun _ => hS, H⟩
    · have hjn : j < n := by
        rcases Nat.lt_or_ge j n with h | h
        · exact h
        · exact absurd hj (tail_waits hs hc hn inv _ i rfl hin hun j h)
      have h1 := H.2 j (ready_mono hj hji)
      obtain ⟨hjun, oj, hoj, hall⟩ := mem_ready.1 hj
      have hnot : ∀ e ∈ oj.after, Region.binds md e = true → e.on ≠ i := fun e he hb heq => by
        have h1 := hall e he hb
        rw [heq, getD_both hun] at h1
        cases h1
      have h2 := wpOp_putIf hoj (hfree j oj hoj hji hjun hnot) (fun cs b => hsel i oi cs b hi) (fun cs b => hsel j oj cs b hoj) hQ hy h1
      have hfree' : ∀ k ok, ops[k]? = some ok → k ≠ i → (listed.setIfInBounds j true).getD k true = false →
          (∀ e ∈ ok.after, Region.binds md e = true → e.on ≠ i) → oi.apart ops ok = true := fun k ok hk hki hun hno => by
        refine hfree k ok hk hki ?_ hno
        by_cases hjk : j = k
        · subst hjk; exact hjun
        · rw [getD_set_ne true hjk] at hun; exact hun
      refine wpOp_mono (fun a' w' h3 => ⟨h3.2.1, ih (listed.setIfInBounds j true) a' w' (inv.set hj hjn) hfree' (ready_mono hr (Ne.symm hji)) h3.1 (h3.2.1 (by omega)) ?_⟩) h2
      rw [Array.setIfInBounds_comm _ _ hji]
      exact h3.2.2

/-- The k-th of a list of operations. -/
def nthO : List Oper → Nat → Option Oper
  | [], _ => none
  | o :: _, 0 => some o
  | _ :: l, k + 1 => nthO l k
theorem nthO_eq : ∀ (l : List Oper) (k : Nat), l.toArray[k]? = nthO l k
  | [], k => by simp [nthO]
  | o :: l, 0 => by simp [nthO]
  | o :: l, k + 1 => by have := nthO_eq l k; simp only [List.getElem?_toArray, List.getElem?_cons_succ, nthO] at this ⊢; exact this

/-- The walk in the order of a schedule: (k, true): number k is taken first; (k, false): it comes up alone. -/
def wpTx (P : Program) (l : List Oper) (Q : Exit → Act → World → Prop) (S : World → Prop) : List (Nat × Bool) → Act → World → Prop
  | [], a, w => Q .normal a w
  | (k, true) :: r, a, w => ∃ o v, nthO l k = some o ∧ YieldsIf P l.toArray S o v a ∧ S w ∧ wpTx P l Q S r (a.put o.dst v) w
  | (k, false) :: r, a, w => wpOp P l.toArray Q k (fun a' w' => (r ≠ [] → S w') ∧ wpTx P l Q S r a' w') a w

def txB (md : Region.Mode) (ops : Array Oper) (n : Nat) : List (Nat × Bool) → Array Bool → Bool
  | [], listed => (Region.ready md ops listed).isEmpty
  | (k, true) :: r, listed => decide (k < n) && (Region.ready md ops listed).contains k && Region.free md ops listed k && txB md ops n r (listed.setIfInBounds k true)
  | (k, false) :: r, listed => decide (Region.ready md ops listed = [k]) && (if k < n then !r.isEmpty else (k == n && r.isEmpty)) && txB md ops n r (listed.setIfInBounds k true)
def txAllB (md : Region.Mode) (l : List Oper) (sched : List (Nat × Bool)) : Bool :=
  Region.noSelect l.toArray && decide (0 < l.length) && Region.sinkB md l.toArray (l.length - 1) && Region.chainB md l.toArray (l.length - 1) && decide (sched.length = l.length) && txB md l.toArray (l.length - 1) sched (Array.replicate l.length false)

theorem wpAnyE_of_tx {l : List Oper} {n : Nat} (hsel : Region.noSelect l.toArray = true) (hQ : ∀ c a d v w, Q (.panic c) (Act.put a d v) w → Q (.panic c) a w) (hs : Region.sinkB md l.toArray n = true) (hc : Region.chainB md l.toArray n = true) (hn : l.toArray.size = n + 1) :
    ∀ (r : List (Nat × Bool)) (listed : Array Bool) (a : Act) (w : World), HeadInv md l.toArray n listed ∨ r = [] → txB md l.toArray n r listed = true → wpTx P l Q S r a w → wpAnyE P md l.toArray Q S n r.length listed a w
  | [], listed, a, w, _, hB, h => ⟨by simpa [txB] using hB, h⟩
  | (k, true) :: r, listed, a, w, hinv, hB, h => by
    have inv : HeadInv md l.toArray n listed := by rcases hinv with h | h; exact h; cases h
    simp only [txB, Bool.and_eq_true, decide_eq_true_eq] at hB
    obtain ⟨⟨⟨hk, hr⟩, hf⟩, hB'⟩ := hB
    obtain ⟨o, v, ho, hy, hS, h'⟩ := h
    have h0 : l.toArray[k]? = some o := (nthO_eq l k).trans ho
    have hr' : k ∈ Region.ready md l.toArray listed := by simpa using hr
    exact wpAnyE_first h0 (Region.noSelect_spec hsel) (fun c a w => hQ c a _ _ w) hs hc (by omega) hk r.length listed a w inv (Region.free_spec h0 hf) hr' hy hS
      (wpAnyE_of_tx hsel hQ hs hc hn r _ _ _ (.inl (inv.set hr' hk)) hB' h')
  | (k, false) :: r, listed, a, w, hinv, hB, h => by
    have inv : HeadInv md l.toArray n listed := by rcases hinv with h | h; exact h; cases h
    simp only [txB, Bool.and_eq_true, decide_eq_true_eq] at hB
    obtain ⟨⟨hr, hlast⟩, hB'⟩ := hB
    refine ⟨fun h1 => (by rw [hr] at h1; cases h1), fun i hi => ?_⟩
    have hik : i = k := by rw [hr] at hi; simpa using hi
    subst hik
    have h1 : i ≠ n → r ≠ [] := fun hne hr0 => by
      subst hr0
      split at hlast
      · simp at hlast
      · simp at hlast; exact hne hlast
    have h2 : HeadInv md l.toArray n (listed.setIfInBounds i true) ∨ r = [] := by
      split at hlast
      · rename_i hkn; exact .inl (inv.set hi hkn)
      · simp at hlast; exact .inr hlast.2
    exact wpOp_mono (fun a' w' h' => ⟨fun hne => h'.1 (h1 hne), wpAnyE_of_tx hsel hQ hs hc hn r _ a' w' h2 hB' h'.2⟩) h

theorem wp_region_tx {id : Nat} {l : List Oper} {a : Act} {w : World} (S : World → Prop) (sched : List (Nat × Bool)) (hm : P.follows .mixedOrders = true) (hB : txAllB .any l sched = true)
    (hS : S w.drew) (h : S w.drew → wpTx P l (NoPanic Q) S sched a w.drew) : (Code.region id l.toArray true).wp P Q a w := by
  refine wp_region_noPanic ?_
  have hQ : ∀ c a d v w, NoPanic Q (.panic c) (Act.put a d v) w → NoPanic Q (.panic c) a w := fun _ _ _ _ _ h => h
  simp only [txAllB, Bool.and_eq_true, decide_eq_true_eq] at hB
  obtain ⟨⟨⟨⟨⟨hsel, hl⟩, hs⟩, hc⟩, hlen⟩, hB⟩ := hB
  have hn : l.toArray.size = (l.length - 1) + 1 := by simp; omega
  have inv0 : HeadInv .any l.toArray (l.length - 1) (Array.replicate l.length false) :=
    ⟨by simp, fun j oj _ hl => (by rw [getD_replicate_false] at hl; cases hl), fun t _ ht => getD_in (by simpa using ht) (getD_replicate_false _ _)⟩
  have H := wpAnyE_of_tx hsel hQ hs hc hn sched _ a w.drew (.inl inv0) hB (h hS)
  rw [hlen] at H
  refine wp_region_any hm (wpAny_of_E (S := S) (n := l.length - 1) _ _ _ _ ?_)
  rw [show l.toArray.size = l.length by simp]
  exact H

theorem wpTx_take {l : List Oper} {k : Nat} {r : List (Nat × Bool)} {o : Oper} {v : Value} {a : Act} {w : World} (ho : nthO l k = some o) (hS : S w)
    (hy : ∀ w, S w → (execOp a.eval o).run P w = .ok (.value v) w) (hw : Region.wanted o (yielded l.toArray a.tmps) = true) (h : wpTx P l Q S r (a.put o.dst v) w) : wpTx P l Q S ((k, true) :: r) a w :=
  ⟨o, v, ho, .inl ⟨hw, hy⟩, hS, h⟩
theorem wpTx_skip {l : List Oper} {k : Nat} {r : List (Nat × Bool)} {o : Oper} {a : Act} {w : World} (ho : nthO l k = some o) (hS : S w)
    (hw : Region.wanted o (yielded l.toArray a.tmps) = false) (h : wpTx P l Q S r (a.put o.dst undef) w) : wpTx P l Q S ((k, true) :: r) a w :=
  ⟨o, undef, ho, .inr ⟨hw, rfl⟩, hS, h⟩
theorem wpTx_go {l : List Oper} {k : Nat} {x : Nat × Bool} {r : List (Nat × Bool)} {o : Oper} {a : Act} {w : World} (ho : nthO l k = some o)
    (h : ∀ K : Act → World → Prop, Shut (∀ a w, S w → (S w → wpTx P l Q S (x :: r) a w) → K a w) → if Region.wanted o (yielded l.toArray a.tmps) = true then Oper.wp P o a w K Q else K (a.put o.dst undef) w) : wpTx P l Q S ((k, false) :: x :: r) a w :=
  wpOp_step ((nthO_eq l k).trans ho) (fun K hK => h K (fun a w hS hW => hK a w ⟨fun _ => hS, hW hS⟩))
theorem wpTx_last {l : List Oper} {k : Nat} {o : Oper} {a : Act} {w : World} (ho : nthO l k = some o)
    (h : ∀ K : Act → World → Prop, Shut (∀ a w, Q .normal a w → K a w) → if Region.wanted o (yielded l.toArray a.tmps) = true then Oper.wp P o a w K Q else K (a.put o.dst undef) w) : wpTx P l Q S [(k, false)] a w :=
  wpOp_step ((nthO_eq l k).trans ho) (fun K hK => h K (fun a w hq => hK a w ⟨fun h => absurd rfl h, hq⟩))
end
end Go.Proofs.YtpcihhdalofdiaaGreatDoor
