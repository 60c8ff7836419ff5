/- A region that draws its order, walked along a tree: as XText, but where two operations are ready and both write, each is shown to come first. Over any program. -/
import Derived.Test.YtjbomjnkjcafcaaDoorText
namespace Go.Proofs.YtjbomjnkjcafcaaDoor
open Go

/-- take: number k is taken first; go: it comes up alone; or: one of two comes up. -/
inductive Sch where
  | done
  | take (k : Nat) (r : Sch)
  | go (k : Nat) (r : Sch)
  | or (k : Nat) (r : Sch) (j : Nat) (s : Sch)

def Sch.isDone : Sch → Bool
  | .done => true
  | _ => false
def Sch.size : Sch → Nat
  | .done => 0
  | .take _ r => r.size + 1
  | .go _ r => r.size + 1
  | .or _ r _ _ => r.size + 1

section
variable {P : Program} {ops : Array Oper} {Q : Exit → Act → World → Prop} {md : Region.Mode} {S : World → Prop}

def wpTz (P : Program) (l : List Oper) (Q : Exit → Act → World → Prop) (S : World → Prop) : Sch → Act → World → Prop
  | .done, a, w => Q .normal a w
  | .take k r, a, w => ∃ o v, nthO l k = some o ∧ YieldsIf P l.toArray S o v a ∧ S w ∧ wpTz P l Q S r (a.put o.dst v) w
  | .go k r, a, w => wpOp P l.toArray Q k (fun a' w' => (r.isDone = false → S w') ∧ wpTz P l Q S r a' w') a w
  | .or k r j s, a, w => wpOp P l.toArray Q k (fun a' w' => S w' ∧ wpTz P l Q S r a' w') a w ∧ wpOp P l.toArray Q j (fun a' w' => S w' ∧ wpTz P l Q S s a' w') a w

def tzB (md : Region.Mode) (ops : Array Oper) (n : Nat) : Sch → Array Bool → Bool
  | .done, listed => (Region.ready md ops listed).isEmpty
  | .take k r, listed => decide (k < n) && (Region.ready md ops listed).contains k && Region.free md ops listed k && tzB md ops n r (listed.setIfInBounds k true)
  | .go k r, listed => decide (Region.ready md ops listed = [k]) && (if k < n then !r.isDone else (k == n && r.isDone)) && tzB md ops n r (listed.setIfInBounds k true)
  | .or k r j s, listed => decide (Region.ready md ops listed = [k, j]) && decide (k < n) && decide (j < n) && decide (r.size = s.size) && tzB md ops n r (listed.setIfInBounds k true) && tzB md ops n s (listed.setIfInBounds j true)
def tzAllB (md : Region.Mode) (l : List Oper) (sched : Sch) : Bool :=
  Region.noSelect l.toArray && decide (0 < l.length) && Region.sinkB md l.toArray (l.length - 1) && Region.chainB md l.toArray (l.length - 1) && decide (sched.size = l.length) && tzB md l.toArray (l.length - 1) sched (Array.replicate l.length false)

theorem wpAnyE_of_tz {l : List Oper} {n : Nat} (hsel : Region.noSelect l.toArray = true) (hQ : ∀ c a d v w, Q (.panic c) (Act.put a d v) w → Q (.panic c) a w) (hs : Region.sinkB md l.toArray n = true) (hc : Region.chainB md l.toArray n = true) (hn : l.toArray.size = n + 1) :
    ∀ (r : Sch) (listed : Array Bool) (a : Act) (w : World), HeadInv md l.toArray n listed ∨ r.isDone = true → tzB md l.toArray n r listed = true → wpTz P l Q S r a w → wpAnyE P md l.toArray Q S n r.size listed a w
  | .done, listed, a, w, _, hB, h => ⟨by simpa [tzB] using hB, h⟩
  | .take k r, listed, a, w, hinv, hB, h => by
    have inv : HeadInv md l.toArray n listed := by rcases hinv with h | h; exact h; cases h
    simp only [tzB, Bool.and_eq_true, decide_eq_true_eq] at hB
    obtain ⟨⟨⟨hk, hr⟩, hf⟩, hB'⟩ := hB
    obtain ⟨o, v, ho, hy, hS, h'⟩ := h
    have h0 : l.toArray[k]? = some o := (nthO_eq l k).trans ho
    have hr' : k ∈ Region.ready md l.toArray listed := by simpa using hr
    exact wpAnyE_first h0 (Region.noSelect_spec hsel) (fun c a w => hQ c a _ _ w) hs hc (by omega) hk r.size listed a w inv (Region.free_spec h0 hf) hr' hy hS
      (wpAnyE_of_tz hsel hQ hs hc hn r _ _ _ (.inl (inv.set hr' hk)) hB' h')
  | .go k r, listed, a, w, hinv, hB, h => by
    have inv : HeadInv md l.toArray n listed := by rcases hinv with h | h; exact h; cases h
    simp only [tzB, Bool.and_eq_true, decide_eq_true_eq] at hB
    obtain ⟨⟨hr, hlast⟩, hB'⟩ := hB
    refine ⟨fun h1 => (by rw [hr] at h1; cases h1), fun i hi => ?_⟩
    have hik : i = k := by rw [hr] at hi; simpa using hi
    subst hik
    have h1 : i ≠ n → r.isDone = false := fun hne => by
      split at hlast
      · simpa using hlast
      · simp at hlast; exact absurd hlast.1 hne
    have h2 : HeadInv md l.toArray n (listed.setIfInBounds i true) ∨ r.isDone = true := by
      split at hlast
      · rename_i hkn; exact .inl (inv.set hi hkn)
      · simp at hlast; exact .inr hlast.2
    exact wpOp_mono (fun a' w' h' => ⟨fun hne => h'.1 (h1 hne), wpAnyE_of_tz hsel hQ hs hc hn r _ a' w' h2 hB' h'.2⟩) h
  | .or k r j s, listed, a, w, hinv, hB, h => by
    have inv : HeadInv md l.toArray n listed := by rcases hinv with h | h; exact h; cases h
    simp only [tzB, Bool.and_eq_true, decide_eq_true_eq] at hB
    obtain ⟨⟨⟨⟨⟨hr, hkn⟩, hjn⟩, hsz⟩, hB1⟩, hB2⟩ := hB
    refine ⟨fun h1 => (by rw [hr] at h1; cases h1), fun i hi => ?_⟩
    have hik : i = k ∨ i = j := by rw [hr] at hi; simpa using hi
    rcases hik with rfl | rfl
    · exact wpOp_mono (fun a' w' h' => ⟨fun _ => h'.1, wpAnyE_of_tz hsel hQ hs hc hn r _ a' w' (.inl (inv.set hi hkn)) hB1 h'.2⟩) h.1
    · refine wpOp_mono (fun a' w' h' => ⟨fun _ => h'.1, ?_⟩) h.2
      rw [hsz]
      exact wpAnyE_of_tz hsel hQ hs hc hn s _ a' w' (.inl (inv.set hi hjn)) hB2 h'.2

theorem wp_region_tz {id : Nat} {l : List Oper} {a : Act} {w : World} (S : World → Prop) (sched : Sch) (hm : P.follows .mixedOrders = true) (hB : tzAllB .any l sched = true)
    (hS : S w.drew) (h : S w.drew → wpTz P l (NoPanic Q) S sched a w.drew) : (Code.region id l.toArray true).wp P Q a w := by
  refine wp_region_noPanic ?_
  have hQ : ∀ c a d v w, NoPanic Q (.panic c) (Act.put a d v) w → NoPanic Q (.panic c) a w := fun _ _ _ _ _ h => h
  simp only [tzAllB, Bool.and_eq_true, decide_eq_true_eq] at hB
  obtain ⟨⟨⟨⟨⟨hsel, hl⟩, hs⟩, hc⟩, hlen⟩, hB⟩ := hB
  have hn : l.toArray.size = (l.length - 1) + 1 := by simp; omega
  have inv0 : HeadInv .any l.toArray (l.length - 1) (Array.replicate l.length false) :=
    ⟨by simp, fun j oj _ hl => (by rw [getD_replicate_false] at hl; cases hl), fun t _ ht => getD_in (by simpa using ht) (getD_replicate_false _ _)⟩
  have H := wpAnyE_of_tz hsel hQ hs hc hn sched _ a w.drew (.inl inv0) hB (h hS)
  rw [hlen] at H
  refine wp_region_any hm (wpAny_of_E (S := S) (n := l.length - 1) _ _ _ _ ?_)
  rw [show l.toArray.size = l.length by simp]
  exact H

theorem wpTz_take {l : List Oper} {k : Nat} {r : Sch} {o : Oper} {v : Value} {a : Act} {w : World} (ho : nthO l k = some o) (hS : S w)
    (hy : ∀ w, S w → (execOp a.eval o).run P w = .ok (.value v) w) (hw : Region.wanted o (yielded l.toArray a.tmps) = true) (h : wpTz P l Q S r (a.put o.dst v) w) : wpTz P l Q S (.take k r) a w :=
  ⟨o, v, ho, .inl ⟨hw, hy⟩, hS, h⟩
theorem wpTz_skip {l : List Oper} {k : Nat} {r : Sch} {o : Oper} {a : Act} {w : World} (ho : nthO l k = some o) (hS : S w)
    (hw : Region.wanted o (yielded l.toArray a.tmps) = false) (h : wpTz P l Q S r (a.put o.dst undef) w) : wpTz P l Q S (.take k r) a w :=
  ⟨o, undef, ho, .inr ⟨hw, rfl⟩, hS, h⟩
theorem wpTz_go {l : List Oper} {k : Nat} {r : Sch} {o : Oper} {a : Act} {w : World} (ho : nthO l k = some o)
    (h : ∀ K : Act → World → Prop, Shut (∀ a w, S w → (S w → wpTz P l Q S r a w) → K a w) → if Region.wanted o (yielded l.toArray a.tmps) = true then Oper.wp P o a w K Q else K (a.put o.dst undef) w) : wpTz P l Q S (.go k r) a w :=
  wpOp_step ((nthO_eq l k).trans ho) (fun K hK => h K (fun a w hS hW => hK a w ⟨fun _ => hS, hW hS⟩))
theorem wpTz_or {l : List Oper} {k j : Nat} {r s : Sch} {o p : Oper} {a : Act} {w : World} (ho : nthO l k = some o) (hp : nthO l j = some p)
    (h : ∀ K : Act → World → Prop, Shut (∀ a w, S w → (S w → wpTz P l Q S r a w) → K a w) → if Region.wanted o (yielded l.toArray a.tmps) = true then Oper.wp P o a w K Q else K (a.put o.dst undef) w)
    (h2 : ∀ K : Act → World → Prop, Shut (∀ a w, S w → (S w → wpTz P l Q S s a w) → K a w) → if Region.wanted p (yielded l.toArray a.tmps) = true then Oper.wp P p a w K Q else K (a.put p.dst undef) w) : wpTz P l Q S (.or k r j s) a w :=
  ⟨wpOp_step ((nthO_eq l k).trans ho) (fun K hK => h K (fun a w hS hW => hK a w ⟨hS, hW hS⟩)), wpOp_step ((nthO_eq l j).trans hp) (fun K hK => h2 K (fun a w hS hW => hK a w ⟨hS, hW hS⟩))⟩
theorem wpTz_last {l : List Oper} {k : Nat} {o : Oper} {a : Act} {w : World} (ho : nthO l k = some o)
    (h : ∀ K : Act → World → Prop, Shut (∀ a w, Q .normal a w → K a w) → if Region.wanted o (yielded l.toArray a.tmps) = true then Oper.wp P o a w K Q else K (a.put o.dst undef) w) : wpTz P l Q S (.go k .done) a w :=
  wpOp_step ((nthO_eq l k).trans ho) (fun K hK => h K (fun a w hq => hK a w ⟨fun h => absurd h (by simp [Sch.isDone]), hq⟩))
end
end Go.Proofs.YtjbomjnkjcafcaaDoor
