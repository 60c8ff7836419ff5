/- A region that draws its order and ends in operations that write one behind the other, where some operations that any world answers alike (they are known by `post`) are not awaited by the first of these. Over any program. -/
import Derived.Test.YtnonfmaehfmigaaGreatDoorText2
namespace Go.Proofs.YtnonfmaehfmigaaGreatDoor
open Go

section
variable {P : Program} {ops : Array Oper} {Q : Exit → Act → World → Prop} {md : Region.Mode} {S : World → Prop}
def sinkQ (md : Region.Mode) (ops : Array Oper) (n : Nat) (post : List Nat) : Bool :=
  (List.range n).all fun i => post.contains i || (List.range (n + 1)).any fun j => decide (i < j) && !post.contains j && Region.waitsFor md ops j i
theorem tail_waitsQ {n : Nat} {post : List Nat} {listed : Array Bool} (hs : sinkQ md ops n post = true) (hc : Region.chainB md ops n = true) (hn : n < ops.size) (inv : HeadInv md ops n listed) :
    ∀ (d i : Nat), n - i = d → i < n → post.contains i = false → listed.getD i true = false → ∀ t, n ≤ t → t ∉ Region.ready md ops listed := by
  intro d
  induction d using Nat.strongRecOn with
  | _ d ih =>
    intro i hd hi hpi hun t ht hr
    obtain ⟨_, ot, hot, hall⟩ := mem_ready.1 hr
    have htlt : t < ops.size := (Array.getElem?_eq_some_iff.1 hot).1
    by_cases htn : t = n
    · subst htn
      have h1 := List.all_eq_true.1 hs i (List.mem_range.2 hi)
      rw [hpi, Bool.false_or] at h1
      obtain ⟨j, hj, hj2⟩ := List.any_eq_true.1 h1
      simp only [Bool.and_eq_true, decide_eq_true_eq, Bool.not_eq_true'] at hj2
      obtain ⟨oj, hoj, e, he, hb, hon⟩ := Region.waitsFor_spec hj2.2
      have hjle : j ≤ t := by have := List.mem_range.1 hj; omega
      by_cases hjt : j = t
      · subst hjt
        have : oj = ot := Option.some.inj (hoj.symm.trans hot)
        subst this
        have h2 := hall e he hb
        rw [hon, getD_both hun] at h2
        cases h2
      · cases hl : listed.getD j false with
        | true =>
          have h2 := inv.closed j oj hoj hl e he hb
          rw [hon, getD_both hun] at h2
          cases h2
        | false =>
          have hjs : j < listed.size := by rw [inv.size]; omega
          exact ih (t - j) (by omega) j rfl (by omega) hj2.1.2 (getD_in hjs hl) t (Nat.le_refl _) hr
    · have h1 := List.all_eq_true.1 hc t (List.mem_range.2 htlt)
      simp only [Bool.or_eq_true, decide_eq_true_eq] at h1
      rcases h1 with h1 | h1
      · omega
      · obtain ⟨o', ho', e, he, hb, hon⟩ := Region.waitsFor_spec h1
        have : o' = ot := Option.some.inj (ho'.symm.trans hot)
        subst this
        have h2 := hall e he hb
        rw [hon, getD_both (inv.tail (t - 1) (by omega) (by omega))] at h2
        cases h2
/-- None of the tail has been. -/
def NoB (ops : Array Oper) (n : Nat) (listed : Array Bool) : Prop := ∀ t, n ≤ t → t < ops.size → listed.getD t true = false
theorem NoB.set {n i : Nat} {listed : Array Bool} (hi : i < n) : NoB ops n (listed.setIfInBounds i true) ↔ NoB ops n listed := by
  constructor
  · intro h t ht hts
    have := h t ht hts
    rwa [getD_set_ne true (by omega)] at this
  · intro h t ht hts
    rw [getD_set_ne true (by omega)]
    exact h t ht hts
/-- Whatever order is picked: S holds as long as none of the tail has been. -/
def wpAnyH (P : Program) (md : Region.Mode) (ops : Array Oper) (Q : Exit → Act → World → Prop) (S : World → Prop) (n : Nat) : Nat → Array Bool → Act → World → Prop
  | 0, listed, a, w => Region.ready md ops listed = [] ∧ Q .normal a w
  | fuel + 1, listed, a, w =>
    (Region.ready md ops listed = [] → Q .normal a w) ∧
    ∀ i ∈ Region.ready md ops listed, wpOp P ops Q i (fun a' w' => (i < n → NoB ops n listed → S w') ∧ wpAnyH P md ops Q S n fuel (listed.setIfInBounds i true) a' w') a w
theorem wpAny_of_H {n : Nat} : ∀ (fuel : Nat) (listed : Array Bool) (a : Act) (w : World), wpAnyH P md ops Q S n fuel listed a w → wpAny P md ops Q fuel listed a w
  | 0, _, _, _, h => h
  | fuel + 1, _, _, _, h => ⟨h.1, fun i hi => wpOp_mono (fun a' w' h' => wpAny_of_H fuel _ a' w' h'.2) (h.2 i hi)⟩
theorem wpAnyH_first {n i : Nat} {post : List Nat} {oi : Oper} {v : Value} (hi : ops[i]? = some oi) (hsel : ∀ (j : Nat) (o : Oper) cs b, ops[j]? = some o → o.op ≠ .select cs b)
    (hQ : ∀ c a w, Q (.panic c) (a.put oi.dst v) w → Q (.panic c) a w) (hs : sinkQ md ops n post = true) (hc : Region.chainB md ops n = true) (hn : n < ops.size) (hin : i < n) (hpi : post.contains i = false) :
    ∀ (fuel : Nat) (listed : Array Bool) (a : Act) (w : World), HeadInv md ops n listed →
      (∀ j oj, ops[j]? = some oj → j ≠ i → listed.getD j true = false → (∀ e ∈ oj.after, Region.binds md e = true → e.on ≠ i) → oi.apart ops oj = true) →
      i ∈ Region.ready md ops listed → YieldsIf P ops S oi v a → S w →
      wpAnyH P md ops Q S n fuel (listed.setIfInBounds i true) (a.put oi.dst v) w → wpAnyH P md ops Q S n (fuel + 1) listed a w := by
  intro fuel
  induction fuel with
  | zero =>
    intro listed a w _ _ hr hy hS H
    refine ⟨fun h => (by rw [h] at hr; cases hr), fun j hj => ?_⟩
    by_cases hji : j = i
    · subst hji; exact hy.wpOp hi hS ⟨fun _ _ => hS, H⟩
    · have := ready_mono hj hji
      rw [H.1] at this
      cases this
  | succ fuel ih =>
    intro listed a w inv hfree hr hy hS H
    have hun := (mem_ready.1 hr).1
    refine ⟨fun h => (by rw [h] at hr; cases hr), fun j hj => ?_⟩
    by_cases hji : j = i
    · subst hji; exact hy.wpOp hi hS ⟨fun _ _ => hS, H⟩
    · have hjn : j < n := by
        rcases Nat.lt_or_ge j n with h | h
        · exact h
        · exact absurd hj (tail_waitsQ hs hc hn inv _ i rfl hin hpi hun j h)
      have h1 := H.2 j (ready_mono hj hji)
      obtain ⟨hjun, oj, hoj, hall⟩ := mem_ready.1 hj
      have hnot : ∀ e ∈ oj.after, Region.binds md e = true → e.on ≠ i := fun e he hb heq => by
        have h1 := hall e he hb
        rw [heq, getD_both hun] at h1
        cases h1
      have h2 := wpOp_putIf hoj (hfree j oj hoj hji hjun hnot) (fun cs b => hsel i oi cs b hi) (fun cs b => hsel j oj cs b hoj) hQ hy h1
      have hfree' : ∀ k ok, ops[k]? = some ok → k ≠ i → (listed.setIfInBounds j true).getD k true = false →
          (∀ e ∈ ok.after, Region.binds md e = true → e.on ≠ i) → oi.apart ops ok = true := fun k ok hk hki hun hno => by
        refine hfree k ok hk hki ?_ hno
        by_cases hjk : j = k
        · subst hjk; exact hjun
        · rw [getD_set_ne true hjk] at hun; exact hun
      have hnb : NoB ops n (listed.setIfInBounds i true) := (NoB.set hin).2 inv.tail
      refine wpOp_mono (fun a' w' h3 => ⟨fun _ _ => h3.2.1 hjn hnb, ih (listed.setIfInBounds j true) a' w' (inv.set hj hjn) hfree' (ready_mono hr (Ne.symm hji)) h3.1 (h3.2.1 hjn hnb) ?_⟩) h2
      rw [Array.setIfInBounds_comm _ _ hji]
      exact h3.2.2
/-- .. one that any world answers alike. -/
theorem wpAnyH_pure {n i : Nat} {oi : Oper} {v : Value} (hi : ops[i]? = some oi) (hsel : ∀ (j : Nat) (o : Oper) cs b, ops[j]? = some o → o.op ≠ .select cs b)
    (hQ : ∀ c a w, Q (.panic c) (a.put oi.dst v) w → Q (.panic c) a w) (hin : i < n) :
    ∀ (fuel : Nat) (listed : Array Bool) (a : Act) (w : World), (NoB ops n listed → S w) →
      (∀ j oj, ops[j]? = some oj → j ≠ i → listed.getD j true = false → (∀ e ∈ oj.after, Region.binds md e = true → e.on ≠ i) → oi.apart ops oj = true) →
      i ∈ Region.ready md ops listed → YieldsIf P ops (fun _ => True) oi v a →
      wpAnyH P md ops Q S n fuel (listed.setIfInBounds i true) (a.put oi.dst v) w → wpAnyH P md ops Q S n (fuel + 1) listed a w := by
  intro fuel
  induction fuel with
  | zero =>
    intro listed a w hS _ hr hy H
    refine ⟨fun h => (by rw [h] at hr; cases hr), fun j hj => ?_⟩
    by_cases hji : j = i
    · subst hji; exact hy.wpOp hi trivial ⟨fun _ h => hS h, H⟩
    · have := ready_mono hj hji
      rw [H.1] at this
      cases this
  | succ fuel ih =>
    intro listed a w hS hfree hr hy H
    have hun := (mem_ready.1 hr).1
    refine ⟨fun h => (by rw [h] at hr; cases hr), fun j hj => ?_⟩
    by_cases hji : j = i
    · subst hji; exact hy.wpOp hi trivial ⟨fun _ h => hS h, H⟩
    · have h1 := H.2 j (ready_mono hj hji)
      obtain ⟨hjun, oj, hoj, hall⟩ := mem_ready.1 hj
      have hjs : j < ops.size := (Array.getElem?_eq_some_iff.1 hoj).1
      have hnot : ∀ e ∈ oj.after, Region.binds md e = true → e.on ≠ i := fun e he hb heq => by
        have h1 := hall e he hb
        rw [heq, getD_both hun] at h1
        cases h1
      have h2 := wpOp_putIf hoj (hfree j oj hoj hji hjun hnot) (fun cs b => hsel i oi cs b hi) (fun cs b => hsel j oj cs b hoj) hQ hy h1
      have hfree' : ∀ k ok, ops[k]? = some ok → k ≠ i → (listed.setIfInBounds j true).getD k true = false →
          (∀ e ∈ ok.after, Region.binds md e = true → e.on ≠ i) → oi.apart ops ok = true := fun k ok hk hki hun hno => by
        refine hfree k ok hk hki ?_ hno
        by_cases hjk : j = k
        · subst hjk; exact hjun
        · rw [getD_set_ne true hjk] at hun; exact hun
      refine wpOp_mono (fun a' w' h3 => ⟨fun hjn hb => h3.2.1 hjn ((NoB.set hin).2 hb), ih (listed.setIfInBounds j true) a' w' (fun hb => ?_) hfree' (ready_mono hr (Ne.symm hji)) h3.1 ?_⟩) h2
      · rcases Nat.lt_or_ge j n with hjn | hjn
        · exact h3.2.1 hjn ((NoB.set hin).2 ((NoB.set hjn).1 hb))
        · have := hb j hjn hjs
          have hsz : j < listed.size := by
            rcases Nat.lt_or_ge j listed.size with h | h
            · exact h
            · rw [Array.getD_eq_getD_getElem?, Array.getElem?_eq_none h] at hjun
              cases hjun
          simp [Array.getD, hsz] at this
      · rw [Array.setIfInBounds_comm _ _ hji]
        exact h3.2.2
/-- The walk in the order of a schedule: (k, true): taken first, k of `post`: in any world; (k, false): it comes up alone. -/
def wpTh (P : Program) (l : List Oper) (Q : Exit → Act → World → Prop) (S : World → Prop) (n : Nat) (post : List Nat) : List (Nat × Bool) → Act → World → Prop
  | [], a, w => Q .normal a w
  | (k, true) :: r, a, w => ∃ o v, nthO l k = some o ∧ YieldsIf P l.toArray (if post.contains k then fun _ => True else S) o v a ∧ S w ∧ wpTh P l Q S n post r (a.put o.dst v) w
  | (k, false) :: r, a, w => wpOp P l.toArray Q k (fun a' w' => (k < n → S w') ∧ wpTh P l Q S n post r a' w') a w
theorem wpAnyH_of_th {l : List Oper} {n : Nat} {post : List Nat} (hsel : Region.noSelect l.toArray = true) (hQ : ∀ c a d v w, Q (.panic c) (Act.put a d v) w → Q (.panic c) a w) (hs : sinkQ md l.toArray n post = true) (hc : Region.chainB md l.toArray n = true) (hn : n < l.toArray.size) :
    ∀ (r : List (Nat × Bool)) (listed : Array Bool) (a : Act) (w : World), HeadInv md l.toArray n listed ∨ (r.all fun x => !x.2 && decide (n ≤ x.1)) = true → tyB md l.toArray n r listed = true → wpTh P l Q S n post r a w → wpAnyH P md l.toArray Q S n r.length listed a w
  | [], listed, a, w, _, hB, h => ⟨by simpa [tyB] using hB, h⟩
  | (k, true) :: r, listed, a, w, hinv, hB, h => by
    have inv : HeadInv md l.toArray n listed := by
      rcases hinv with h | h
      · exact h
      · simp at h
    simp only [tyB, Bool.and_eq_true, decide_eq_true_eq] at hB
    obtain ⟨⟨⟨hk, hr⟩, hf⟩, hB'⟩ := hB
    obtain ⟨o, v, ho, hy, hS, h'⟩ := h
    have h0 : l.toArray[k]? = some o := (nthO_eq l k).trans ho
    have hr' : k ∈ Region.ready md l.toArray listed := by simpa using hr
    have hnext := wpAnyH_of_th hsel hQ hs hc hn r _ _ _ (.inl (inv.set hr' hk)) hB' h'
    cases hp : post.contains k with
    | false =>
      rw [hp] at hy
      exact wpAnyH_first h0 (Region.noSelect_spec hsel) (fun c a w => hQ c a _ _ w) hs hc hn hk hp r.length listed a w inv (Region.free_spec h0 hf) hr' hy hS hnext
    | true =>
      rw [hp] at hy
      exact wpAnyH_pure h0 (Region.noSelect_spec hsel) (fun c a w => hQ c a _ _ w) hk r.length listed a w (fun _ => hS) (Region.free_spec h0 hf) hr' hy hnext
  | (k, false) :: r, listed, a, w, hinv, hB, h => by
    simp only [tyB, Bool.and_eq_true, decide_eq_true_eq] at hB
    obtain ⟨⟨hr, hlast⟩, hB'⟩ := hB
    refine ⟨fun h1 => (by rw [hr] at h1; cases h1), fun i hi => ?_⟩
    have hik : i = k := by rw [hr] at hi; simpa using hi
    subst hik
    have h2 : HeadInv md l.toArray n (listed.setIfInBounds i true) ∨ (r.all fun x => !x.2 && decide (n ≤ x.1)) = true := by
      by_cases hkn : i < n
      · rcases hinv with h | h
        · exact .inl (h.set hi hkn)
        · simp at h
          omega
      · simp only [Bool.or_eq_true, decide_eq_true_eq] at hlast
        rcases hlast with h | h
        · exact absurd h hkn
        · exact .inr h
    exact wpOp_mono (fun a' w' h' => ⟨fun hk _ => h'.1 hk, wpAnyH_of_th hsel hQ hs hc hn r _ a' w' h2 hB' h'.2⟩) h
def thAllB (md : Region.Mode) (l : List Oper) (n : Nat) (post : List Nat) (sched : List (Nat × Bool)) : Bool :=
  Region.noSelect l.toArray && decide (n < l.length) && sinkQ md l.toArray n post && Region.chainB md l.toArray n && decide (sched.length = l.length) && tyB md l.toArray n sched (Array.replicate l.length false)
theorem wp_region_th {id : Nat} {l : List Oper} {a : Act} {w : World} (S : World → Prop) (n : Nat) (post : List Nat) (sched : List (Nat × Bool)) (hm : P.follows .mixedOrders = true) (hB : thAllB .any l n post sched = true)
    (hS : S w.drew) (h : S w.drew → wpTh P l (NoPanic Q) S n post sched a w.drew) : (Code.region id l.toArray true).wp P Q a w := by
  refine wp_region_noPanic ?_
  have hQ : ∀ c a d v w, NoPanic Q (.panic c) (Act.put a d v) w → NoPanic Q (.panic c) a w := fun _ _ _ _ _ h => h
  simp only [thAllB, Bool.and_eq_true, decide_eq_true_eq] at hB
  obtain ⟨⟨⟨⟨⟨hsel, hl⟩, hs⟩, hc⟩, hlen⟩, hB⟩ := hB
  have hn : n < l.toArray.size := by simpa using hl
  have inv0 : HeadInv .any l.toArray n (Array.replicate l.length false) :=
    ⟨by simp, fun j oj _ hl => (by rw [getD_replicate_false] at hl; cases hl), fun t _ ht => getD_in (by simpa using ht) (getD_replicate_false _ _)⟩
  have H := wpAnyH_of_th hsel hQ hs hc hn sched _ a w.drew (.inl inv0) hB (h hS)
  rw [hlen] at H
  refine wp_region_any hm (wpAny_of_H (S := S) (n := n) _ _ _ _ ?_)
  rw [show l.toArray.size = l.length by simp]
  exact H
theorem wpTh_take {l : List Oper} {n k : Nat} {post : List Nat} {r : List (Nat × Bool)} {o : Oper} {v : Value} {a : Act} {w : World} (ho : nthO l k = some o) (hp : post.contains k = false) (hS : S w)
    (hy : ∀ w, S w → (execOp a.eval o).run P w = .ok (.value v) w) (hw : Region.wanted o (yielded l.toArray a.tmps) = true) (h : wpTh P l Q S n post r (a.put o.dst v) w) : wpTh P l Q S n post ((k, true) :: r) a w :=
  ⟨o, v, ho, .inl ⟨hw, by rw [hp]; exact hy⟩, hS, h⟩
theorem wpTh_pure {l : List Oper} {n k : Nat} {post : List Nat} {r : List (Nat × Bool)} {o : Oper} {v : Value} {a : Act} {w : World} (ho : nthO l k = some o) (hp : post.contains k = true) (hS : S w)
    (hy : ∀ w, (execOp a.eval o).run P w = .ok (.value v) w) (hw : Region.wanted o (yielded l.toArray a.tmps) = true) (h : wpTh P l Q S n post r (a.put o.dst v) w) : wpTh P l Q S n post ((k, true) :: r) a w :=
  ⟨o, v, ho, .inl ⟨hw, by rw [hp]; exact fun w _ => hy w⟩, hS, h⟩
theorem wpTh_go {l : List Oper} {n k : Nat} {post : List Nat} {r : List (Nat × Bool)} {o : Oper} {a : Act} {w : World} (ho : nthO l k = some o)
    (h : ∀ K : Act → World → Prop, Shut (∀ a w, S w → (S w → wpTh P l Q S n post r a w) → K a w) → if Region.wanted o (yielded l.toArray a.tmps) = true then Oper.wp P o a w K Q else K (a.put o.dst undef) w) : wpTh P l Q S n post ((k, false) :: r) a w :=
  wpOp_step ((nthO_eq l k).trans ho) (fun K hK => h K (fun a w hS hW => hK a w ⟨fun _ => hS, hW hS⟩))
theorem wpTh_tail {l : List Oper} {n k : Nat} {post : List Nat} {r : List (Nat × Bool)} {o : Oper} {a : Act} {w : World} (ho : nthO l k = some o) (hk : n ≤ k)
    (h : ∀ K : Act → World → Prop, Shut (∀ a w, wpTh P l Q S n post r a w → K a w) → if Region.wanted o (yielded l.toArray a.tmps) = true then Oper.wp P o a w K Q else K (a.put o.dst undef) w) : wpTh P l Q S n post ((k, false) :: r) a w :=
  wpOp_step ((nthO_eq l k).trans ho) (fun K hK => h K (fun a w hW => hK a w ⟨fun h => absurd h (by omega), hW⟩))
theorem wpTh_last {l : List Oper} {n k : Nat} {post : List Nat} {o : Oper} {a : Act} {w : World} (ho : nthO l k = some o) (hk : n ≤ k)
    (h : ∀ K : Act → World → Prop, Shut (∀ a w, Q .normal a w → K a w) → if Region.wanted o (yielded l.toArray a.tmps) = true then Oper.wp P o a w K Q else K (a.put o.dst undef) w) : wpTh P l Q S n post [(k, false)] a w :=
  wpOp_step ((nthO_eq l k).trans ho) (fun K hK => h K (fun a w hq => hK a w ⟨fun h => absurd h (by omega), hq⟩))
end
end Go.Proofs.YtnonfmaehfmigaaGreatDoor
