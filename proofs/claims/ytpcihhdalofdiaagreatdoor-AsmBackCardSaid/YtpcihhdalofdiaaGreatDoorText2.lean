/- A region that draws its order and ends in operations that write one behind the other: as XText, S asked ahead of these alone. Over any program. -/
import Derived.Test.YtpcihhdalofdiaaGreatDoorText
namespace Go.Proofs.YtpcihhdalofdiaaGreatDoor
open Go

section
variable {P : Program} {ops : Array Oper} {Q : Exit → Act → World → Prop} {md : Region.Mode} {S : World → Prop}

/-- Whatever order is picked: S holds behind every operation ahead of number n. -/
def wpAnyF (P : Program) (md : Region.Mode) (ops : Array Oper) (Q : Exit → Act → World → Prop) (S : World → Prop) (n : Nat) : Nat → Array Bool → Act → World → Prop
  | 0, listed, a, w => Region.ready md ops listed = [] ∧ Q .normal a w
  | fuel + 1, listed, a, w =>
    (Region.ready md ops listed = [] → Q .normal a w) ∧
    ∀ i ∈ Region.ready md ops listed, wpOp P ops Q i (fun a' w' => (i < n → S w') ∧ wpAnyF P md ops Q S n fuel (listed.setIfInBounds i true) a' w') a w

theorem wpAny_of_F {n : Nat} : ∀ (fuel : Nat) (listed : Array Bool) (a : Act) (w : World), wpAnyF P md ops Q S n fuel listed a w → wpAny P md ops Q fuel listed a w
  | 0, _, _, _, h => h
  | fuel + 1, _, _, _, h => ⟨h.1, fun i hi => wpOp_mono (fun a' w' h' => wpAny_of_F fuel _ a' w' h'.2) (h.2 i hi)⟩

theorem wpAnyF_first {n i : Nat} {oi : Oper} {v : Value} (hi : ops[i]? = some oi) (hsel : ∀ (j : Nat) (o : Oper) cs b, ops[j]? = some o → o.op ≠ .select cs b)
    (hQ : ∀ c a w, Q (.panic c) (a.put oi.dst v) w → Q (.panic c) a w) (hs : Region.sinkB md ops n = true) (hc : Region.chainB md ops n = true) (hn : n < ops.size) (hin : i < n) :
    ∀ (fuel : Nat) (listed : Array Bool) (a : Act) (w : World), HeadInv md ops n listed →
      (∀ j oj, ops[j]? = some oj → j ≠ i → listed.getD j true = false → (∀ e ∈ oj.after, Region.binds md e = true → e.on ≠ i) → oi.apart ops oj = true) →
      i ∈ Region.ready md ops listed → YieldsIf P ops S oi v a → S w →
      wpAnyF P md ops Q S n fuel (listed.setIfInBounds i true) (a.put oi.dst v) w → wpAnyF P md ops Q S n (fuel + 1) listed a w := by
  intro fuel
  induction fuel with
  | zero =>
    intro listed a w _ _ hr hy hS H
    refine ⟨fun h => (by rw [h] at hr; cases hr), fun j hj => ?_⟩
    by_cases hji : j = i
    · subst hji; exact hy.wpOp hi hS ⟨fun _ => hS, H⟩
    · have := ready_mono hj hji
      rw [H.1] at this
      cases this
  | succ fuel ih =>
    intro listed a w inv hfree hr hy hS H
    have hun := (mem_ready.1 hr).1
    refine ⟨fun h => (by rw [h] at hr; cases hr), fun j hj => ?_⟩
    by_cases hji : j = i
    · subst hji; exact hy.wpOp hi hS ⟨fun _ => hS, H⟩
    · have hjn : j < n := by
        rcases Nat.lt_or_ge j n with h | h
        · exact h
        · exact absurd hj (tail_waits hs hc hn inv _ i rfl hin hun j h)
      have h1 := H.2 j (ready_mono hj hji)
      obtain ⟨hjun, oj, hoj, hall⟩ := mem_ready.1 hj
      have hnot : ∀ e ∈ oj.after, Region.binds md e = true → e.on ≠ i := fun e he hb heq => by
        have h1 := hall e he hb
        rw [heq, getD_both hun] at h1
        cases h1
      have h2 := wpOp_putIf hoj (hfree j oj hoj hji hjun hnot) (fun cs b => hsel i oi cs b hi) (fun cs b => hsel j oj cs b hoj) hQ hy h1
      have hfree' : ∀ k ok, ops[k]? = some ok → k ≠ i → (listed.setIfInBounds j true).getD k true = false →
          (∀ e ∈ ok.after, Region.binds md e = true → e.on ≠ i) → oi.apart ops ok = true := fun k ok hk hki hun hno => by
        refine hfree k ok hk hki ?_ hno
        by_cases hjk : j = k
        · subst hjk; exact hjun
        · rw [getD_set_ne true hjk] at hun; exact hun
      refine wpOp_mono (fun a' w' h3 => ⟨h3.2.1, ih (listed.setIfInBounds j true) a' w' (inv.set hj hjn) hfree' (ready_mono hr (Ne.symm hji)) h3.1 (h3.2.1 hjn) ?_⟩) h2
      rw [Array.setIfInBounds_comm _ _ hji]
      exact h3.2.2

/-- The walk in the order of a schedule: (k, true): number k is taken first; (k, false): it comes up alone. -/
def wpTy (P : Program) (l : List Oper) (Q : Exit → Act → World → Prop) (S : World → Prop) (n : Nat) : List (Nat × Bool) → Act → World → Prop
  | [], a, w => Q .normal a w
  | (k, true) :: r, a, w => ∃ o v, nthO l k = some o ∧ YieldsIf P l.toArray S o v a ∧ S w ∧ wpTy P l Q S n r (a.put o.dst v) w
  | (k, false) :: r, a, w => wpOp P l.toArray Q k (fun a' w' => (k < n → S w') ∧ wpTy P l Q S n r a' w') a w

def tyB (md : Region.Mode) (ops : Array Oper) (n : Nat) : List (Nat × Bool) → Array Bool → Bool
  | [], listed => (Region.ready md ops listed).isEmpty
  | (k, true) :: r, listed => decide (k < n) && (Region.ready md ops listed).contains k && Region.free md ops listed k && tyB md ops n r (listed.setIfInBounds k true)
  | (k, false) :: r, listed => decide (Region.ready md ops listed = [k]) && (decide (k < n) || r.all fun x => !x.2 && decide (n ≤ x.1)) && tyB md ops n r (listed.setIfInBounds k true)
def tyAllB (md : Region.Mode) (l : List Oper) (n : Nat) (sched : List (Nat × Bool)) : Bool :=
  Region.noSelect l.toArray && decide (n < l.length) && Region.sinkB md l.toArray n && Region.chainB md l.toArray n && decide (sched.length = l.length) && tyB md l.toArray n sched (Array.replicate l.length false)

theorem wpAnyF_of_ty {l : List Oper} {n : Nat} (hsel : Region.noSelect l.toArray = true) (hQ : ∀ c a d v w, Q (.panic c) (Act.put a d v) w → Q (.panic c) a w) (hs : Region.sinkB md l.toArray n = true) (hc : Region.chainB md l.toArray n = true) (hn : n < l.toArray.size) :
    ∀ (r : List (Nat × Bool)) (listed : Array Bool) (a : Act) (w : World), HeadInv md l.toArray n listed ∨ (r.all fun x => !x.2 && decide (n ≤ x.1)) = true → tyB md l.toArray n r listed = true → wpTy P l Q S n r a w → wpAnyF P md l.toArray Q S n r.length listed a w
  | [], listed, a, w, _, hB, h => ⟨by simpa [tyB] using hB, h⟩
  | (k, true) :: r, listed, a, w, hinv, hB, h => by
    have inv : HeadInv md l.toArray n listed := by
      rcases hinv with h | h
      · exact h
      · simp at h
    simp only [tyB, Bool.and_eq_true, decide_eq_true_eq] at hB
    obtain ⟨⟨⟨hk, hr⟩, hf⟩, hB'⟩ := hB
    obtain ⟨o, v, ho, hy, hS, h'⟩ := h
    have h0 : l.toArray[k]? = some o := (nthO_eq l k).trans ho
    have hr' : k ∈ Region.ready md l.toArray listed := by simpa using hr
    exact wpAnyF_first h0 (Region.noSelect_spec hsel) (fun c a w => hQ c a _ _ w) hs hc hn hk r.length listed a w inv (Region.free_spec h0 hf) hr' hy hS
      (wpAnyF_of_ty hsel hQ hs hc hn r _ _ _ (.inl (inv.set hr' hk)) hB' h')
  | (k, false) :: r, listed, a, w, hinv, hB, h => by
    simp only [tyB, Bool.and_eq_true, decide_eq_true_eq] at hB
    obtain ⟨⟨hr, hlast⟩, hB'⟩ := hB
    refine ⟨fun h1 => (by rw [hr] at h1; cases h1), fun i hi => ?_⟩
    have hik : i = k := by rw [hr] at hi; simpa using hi
    subst hik
    have h2 : HeadInv md l.toArray n (listed.setIfInBounds i true) ∨ (r.all fun x => !x.2 && decide (n ≤ x.1)) = true := by
      by_cases hkn : i < n
      · rcases hinv with h | h
        · exact .inl (h.set hi hkn)
        · simp at h
          omega
      · simp only [Bool.or_eq_true, decide_eq_true_eq] at hlast
        rcases hlast with h | h
        · exact absurd h hkn
        · exact .inr h
    exact wpOp_mono (fun a' w' h' => ⟨h'.1, wpAnyF_of_ty hsel hQ hs hc hn r _ a' w' h2 hB' h'.2⟩) h

theorem wp_region_ty {id : Nat} {l : List Oper} {a : Act} {w : World} (S : World → Prop) (n : Nat) (sched : List (Nat × Bool)) (hm : P.follows .mixedOrders = true) (hB : tyAllB .any l n sched = true)
    (hS : S w.drew) (h : S w.drew → wpTy P l (NoPanic Q) S n sched a w.drew) : (Code.region id l.toArray true).wp P Q a w := by
  refine wp_region_noPanic ?_
  have hQ : ∀ c a d v w, NoPanic Q (.panic c) (Act.put a d v) w → NoPanic Q (.panic c) a w := fun _ _ _ _ _ h => h
  simp only [tyAllB, Bool.and_eq_true, decide_eq_true_eq] at hB
  obtain ⟨⟨⟨⟨⟨hsel, hl⟩, hs⟩, hc⟩, hlen⟩, hB⟩ := hB
  have hn : n < l.toArray.size := by simpa using hl
  have inv0 : HeadInv .any l.toArray n (Array.replicate l.length false) :=
    ⟨by simp, fun j oj _ hl => (by rw [getD_replicate_false] at hl; cases hl), fun t _ ht => getD_in (by simpa using ht) (getD_replicate_false _ _)⟩
  have H := wpAnyF_of_ty hsel hQ hs hc hn sched _ a w.drew (.inl inv0) hB (h hS)
  rw [hlen] at H
  refine wp_region_any hm (wpAny_of_F (S := S) (n := n) _ _ _ _ ?_)
  rw [show l.toArray.size = l.length by simp]
  exact H

theorem wpTy_take {l : List Oper} {n k : Nat} {r : List (Nat × Bool)} {o : Oper} {v : Value} {a : Act} {w : World} (ho : nthO l k = some o) (hS : S w)
    (hy : ∀ w, S w → (execOp a.eval o).run P w = .ok (.value v) w) (hw : Region.wanted o (yielded l.toArray a.tmps) = true) (h : wpTy P l Q S n r (a.put o.dst v) w) : wpTy P l Q S n ((k, true) :: r) a w :=
  ⟨o, v, ho, .inl ⟨hw, hy⟩, hS, h⟩
theorem wpTy_skip {l : List Oper} {n k : Nat} {r : List (Nat × Bool)} {o : Oper} {a : Act} {w : World} (ho : nthO l k = some o) (hS : S w)
    (hw : Region.wanted o (yielded l.toArray a.tmps) = false) (h : wpTy P l Q S n r (a.put o.dst undef) w) : wpTy P l Q S n ((k, true) :: r) a w :=
  ⟨o, undef, ho, .inr ⟨hw, rfl⟩, hS, h⟩
theorem wpTy_go {l : List Oper} {n k : Nat} {r : List (Nat × Bool)} {o : Oper} {a : Act} {w : World} (ho : nthO l k = some o)
    (h : ∀ K : Act → World → Prop, Shut (∀ a w, S w → (S w → wpTy P l Q S n r a w) → K a w) → if Region.wanted o (yielded l.toArray a.tmps) = true then Oper.wp P o a w K Q else K (a.put o.dst undef) w) : wpTy P l Q S n ((k, false) :: r) a w :=
  wpOp_step ((nthO_eq l k).trans ho) (fun K hK => h K (fun a w hS hW => hK a w ⟨fun _ => hS, hW hS⟩))
/-- .. one of the tail: S is not asked. -/
theorem wpTy_tail {l : List Oper} {n k : Nat} {x : Nat × Bool} {r : List (Nat × Bool)} {o : Oper} {a : Act} {w : World} (ho : nthO l k = some o) (hk : n ≤ k)
    (h : ∀ K : Act → World → Prop, Shut (∀ a w, wpTy P l Q S n (x :: r) a w → K a w) → if Region.wanted o (yielded l.toArray a.tmps) = true then Oper.wp P o a w K Q else K (a.put o.dst undef) w) : wpTy P l Q S n ((k, false) :: x :: r) a w :=
  wpOp_step ((nthO_eq l k).trans ho) (fun K hK => h K (fun a w hW => hK a w ⟨fun h => absurd h (by omega), hW⟩))
theorem wpTy_last {l : List Oper} {n k : Nat} {o : Oper} {a : Act} {w : World} (ho : nthO l k = some o) (hk : n ≤ k)
    (h : ∀ K : Act → World → Prop, Shut (∀ a w, Q .normal a w → K a w) → if Region.wanted o (yielded l.toArray a.tmps) = true then Oper.wp P o a w K Q else K (a.put o.dst undef) w) : wpTy P l Q S n [(k, false)] a w :=
  wpOp_step ((nthO_eq l k).trans ho) (fun K hK => h K (fun a w hq => hK a w ⟨fun h => absurd h (by omega), hq⟩))
end
end Go.Proofs.YtpcihhdalofdiaaGreatDoor
