/- A region that draws its order, with operations that make a new block and may come up at several places: what reads is taken first, what calls comes up alone but for these, and these are held to come up late, at whatever addresses. Over any program. -/
import Derived.Test.YtpcihhdalofdiaaGreatDoorText2
import Derived.Test.YtpcihhdalofdiaaGreatDoorData
namespace Go.Proofs.YtpcihhdalofdiaaGreatDoor
open Go Go.RowKit

/-- An operation that makes a block: its number, where its value goes, its value, the block's type and cells. -/
structure Lt where
  k : Nat
  d : Tmp
  v : Nat → Value
  t : TypeId
  z : Array Value
def putL : List (Lt × Option Nat) → Act → Act
  | [], a => a
  | (_, none) :: L, a => putL L a
  | (x, some b) :: L, a => putL L (a.put (some x.d) (x.v b))
def setL : List (Lt × Option Nat) → Array Bool → Array Bool
  | [], s => s
  | (_, none) :: L, s => setL L s
  | (x, some _) :: L, s => setL L (s.setIfInBounds x.k true)
def undone : List (Lt × Option Nat) → Nat
  | [] => 0
  | (_, none) :: L => undone L + 1
  | (_, some _) :: L => undone L
theorem putL_app : ∀ (L M : List (Lt × Option Nat)) (a : Act), putL (L ++ M) a = putL M (putL L a)
  | [], _, _ => rfl
  | (_, none) :: L, M, a => by simp only [List.cons_append, putL]; exact putL_app L M a
  | (x, some b) :: L, M, a => by simp only [List.cons_append, putL]; exact putL_app L M _
theorem setL_app : ∀ (L M : List (Lt × Option Nat)) (s : Array Bool), setL (L ++ M) s = setL M (setL L s)
  | [], _, _ => rfl
  | (_, none) :: L, M, s => by simp only [List.cons_append, setL]; exact setL_app L M s
  | (x, some b) :: L, M, s => by simp only [List.cons_append, setL]; exact setL_app L M _
theorem undone_app : ∀ (L M : List (Lt × Option Nat)), undone (L ++ M) = undone L + undone M
  | [], M => by simp [undone]
  | (_, none) :: L, M => by simp only [List.cons_append, undone, undone_app L M]; omega
  | (x, some b) :: L, M => by simp only [List.cons_append, undone]; exact undone_app L M
theorem putL_put : ∀ (L : List (Lt × Option Nat)) (a : Act) (d : Option Tmp) (v : Value), (∀ x ∈ L, d ≠ some x.1.d) → putL L (a.put d v) = (putL L a).put d v
  | [], _, _, _, _ => rfl
  | (x, none) :: L, a, d, v, h => by simp only [putL]; exact putL_put L a d v fun y hy => h y (List.mem_cons_of_mem _ hy)
  | (x, some b) :: L, a, d, v, h => by
    simp only [putL]
    rw [Act.put_comm a v (x.v b) (x := d) (y := some x.d) (fun e he he' => h (x, some b) (by simp) (by rw [he]; exact he'.symm))]
    exact putL_put L _ d v fun y hy => h y (List.mem_cons_of_mem _ hy)
theorem setL_set : ∀ (L : List (Lt × Option Nat)) (s : Array Bool) (k : Nat), (∀ x ∈ L, k ≠ x.1.k) → setL L (s.setIfInBounds k true) = (setL L s).setIfInBounds k true
  | [], _, _, _ => rfl
  | (x, none) :: L, s, k, h => by simp only [setL]; exact setL_set L s k fun y hy => h y (List.mem_cons_of_mem _ hy)
  | (x, some b) :: L, s, k, h => by
    simp only [setL]
    rw [Array.setIfInBounds_comm _ _ (h (x, some b) (by simp))]
    exact setL_set L _ k fun y hy => h y (List.mem_cons_of_mem _ hy)
theorem setL_far : ∀ (L : List (Lt × Option Nat)) (s : Array Bool) (k : Nat) (d : Bool), (∀ x ∈ L, k ≠ x.1.k) → (setL L s).getD k d = s.getD k d
  | [], _, _, _, _ => rfl
  | (x, none) :: L, s, k, d, h => by simp only [setL]; exact setL_far L s k d fun y hy => h y (List.mem_cons_of_mem _ hy)
  | (x, some b) :: L, s, k, d, h => by
    simp only [setL]
    rw [setL_far L _ k d fun y hy => h y (List.mem_cons_of_mem _ hy), getD_set_ne d (Ne.symm (h (x, some b) (by simp)))]
theorem setL_mono : ∀ (L : List (Lt × Option Nat)) (s : Array Bool) (k : Nat), s.getD k true = true → (setL L s).getD k true = true
  | [], _, _, h => h
  | (x, none) :: L, s, k, h => by simp only [setL]; exact setL_mono L s k h
  | (x, some b) :: L, s, k, h => by
    simp only [setL]
    refine setL_mono L _ k ?_
    by_cases hk : x.k = k
    · subst hk
      rcases Nat.lt_or_ge x.k s.size with hs | hs
      · simp [hs]
      · simp [Array.getD]
    · rw [getD_set_ne true hk]; exact h

section
variable {P : Program} {ops : Array Oper} {Q : Exit → Act → World → Prop} {md : Region.Mode} {S : World → Prop}

/-- One operation apart from another: its value may be there beforehand. -/
theorem wpOp_after {j : Nat} {oi oj : Oper} {v : Value} (hj : ops[j]? = some oj) (hap : oi.apart ops oj = true) (hsj : ∀ cs b, oj.op ≠ .select cs b)
    (hQ : ∀ c a w, Q (.panic c) a w → Q (.panic c) (a.put oi.dst v) w) {K : Act → World → Prop} {a : Act} {w : World} (h : wpOp P ops Q j K a w) :
    wpOp P ops Q j (fun a' w' => ∃ a'', a' = a''.put oi.dst v ∧ K a'' w') (a.put oi.dst v) w := by
  obtain ⟨h1, h2, h3⟩ := Oper.apart_spec hap
  unfold wpOp at *
  simp only [hj] at *
  rw [wanted_put oj a oi.dst v h1]
  split
  · rename_i hw
    simp only [hw, if_true] at h
    rcases h with h | ⟨hasks, hlets⟩
    case inr => exact .inr ⟨by unfold Oper.asks at *; rw [execOp_put oj hsj a oi.dst v h1]; exact hasks, hlets⟩
    refine .inl ?_
    unfold Oper.wp at *
    rw [execOp_put oj hsj a oi.dst v h1]
    generalize (execOp a.eval oj).run P w = r at *
    cases r with
    | ok n w' =>
      cases n <;> simp only [Oper.upon] at h ⊢
      case value u => exact ⟨a.put oj.dst u, Act.put_comm a v u h2, h⟩
      case skip => exact ⟨a.put oj.dst undef, Act.put_comm a v undef h2, h⟩
      case defer d =>
        refine ⟨_, ?_, h⟩
        rw [Act.put_defers]
        exact Act.put_comm _ v undef h2
      case enter f args =>
        refine Calls.mono h fun e w'' he => ?_
        cases e with
        | returned u => exact ⟨a.put oj.dst u, Act.put_comm a v u h2, he⟩
        | panicked c => exact hQ _ _ _ he
        | outgrown => exact he
      case row row args => exact Rows.mono h fun u w'' he => ⟨a.put oj.dst u, Act.put_comm a v u h2, he⟩
    | halt x w' =>
      cases x <;> simp only [Oper.upon] at h ⊢
      case panic u => exact hQ _ _ _ h
  · rename_i hw
    simp only [hw] at h
    exact ⟨a.put oj.dst undef, Act.put_comm a v undef h2, h⟩

def farB (l : List Oper) (o : Oper) (x : Lt) : Bool :=
  match nthO l x.k with
  | some ox => decide (ox.dst = some x.d) && ox.apart l.toArray o
  | none => false
theorem farB_spec {l : List Oper} {o : Oper} {x : Lt} (h : farB l o x = true) : ∃ ox, nthO l x.k = some ox ∧ ox.dst = some x.d ∧ ox.apart l.toArray o = true := by
  unfold farB at h
  split at h
  · rename_i ox hx
    simp only [Bool.and_eq_true, decide_eq_true_eq] at h
    exact ⟨ox, hx, h.1, h.2⟩
  · cases h
theorem wpOp_afterL {l : List Oper} {j : Nat} {oj : Oper} (hj : l.toArray[j]? = some oj) (hsj : ∀ cs b, oj.op ≠ .select cs b) (hQ : ∀ c a d v w, Q (.panic c) a w → Q (.panic c) (Act.put a d v) w) :
    ∀ (L : List (Lt × Option Nat)), (∀ x ∈ L, farB l oj x.1 = true) → ∀ {K : Act → World → Prop} {a : Act} {w : World}, wpOp P l.toArray Q j K a w →
      wpOp P l.toArray Q j (fun a' w' => ∃ a'', a' = putL L a'' ∧ K a'' w') (putL L a) w
  | [], _, K, a, w, h => wpOp_mono (fun a' w' h => ⟨a', rfl, h⟩) h
  | (x, none) :: L, hf, K, a, w, h => by
    simp only [putL]
    exact wpOp_afterL hj hsj hQ L (fun y hy => hf y (List.mem_cons_of_mem _ hy)) h
  | (x, some b) :: L, hf, K, a, w, h => by
    obtain ⟨ox, _, hd, hap⟩ := farB_spec (hf (x, some b) (by simp))
    have h1 := wpOp_after (v := x.v b) hj hap hsj (fun c a w => hQ c a _ _ w) h
    rw [hd] at h1
    have h2 := wpOp_afterL hj hsj hQ L (fun y hy => hf y (List.mem_cons_of_mem _ hy)) h1
    simp only [putL]
    refine wpOp_mono (fun a' w' h3 => ?_) h2
    obtain ⟨a1, e1, a2, e2, hK⟩ := h3
    exact ⟨a2, by rw [e1, e2], hK⟩
theorem yields_putL {l : List Oper} {o : Oper} {v : Value} (hs : ∀ cs b, o.op ≠ .select cs b) : ∀ (L : List (Lt × Option Nat)), (∀ x ∈ L, farB l o x.1 = true) → ∀ {a : Act}, YieldsIf P l.toArray S o v a → YieldsIf P l.toArray S o v (putL L a)
  | [], _, _, h => h
  | (x, none) :: L, hf, a, h => by simp only [putL]; exact yields_putL hs L (fun y hy => hf y (List.mem_cons_of_mem _ hy)) h
  | (x, some b) :: L, hf, a, h => by
    obtain ⟨ox, _, hd, hap⟩ := farB_spec (hf (x, some b) (by simp))
    obtain ⟨h1, _, _⟩ := Oper.apart_spec hap
    rw [hd] at h1
    simp only [putL]
    exact yields_putL hs L (fun y hy => hf y (List.mem_cons_of_mem _ hy)) (h.of_same (execOp_put o hs a _ _ h1) (wanted_put o a _ _ h1))
theorem far_dst {l : List Oper} {o : Oper} {L : List (Lt × Option Nat)} (hf : ∀ x ∈ L, farB l o x.1 = true) : ∀ x ∈ L, o.dst ≠ some x.1.d := fun x hx e => by
  obtain ⟨ox, _, hd, hap⟩ := farB_spec (hf x hx)
  exact (Oper.apart_spec hap).2.1 _ hd e

/-- In state a, in every world that meets S, number x.k makes its block. -/
def AllocIf (P : Program) (l : List Oper) (S : World → Prop) (x : Lt) (a : Act) : Prop :=
  ∃ o, nthO l x.k = some o ∧ o.dst = some x.d ∧ Region.wanted o (yielded l.toArray a.tmps) = true ∧ ∀ w, S w → (execOp a.eval o).run P w = .ok (.value (x.v w.heap.size)) (w.alloc (.cells x.z x.t))
theorem AllocIf.wpOp {l : List Oper} {x : Lt} {a : Act} (h : AllocIf P l S x a) {K : Act → World → Prop} {w : World} (hS : S w) (hK : K (a.put (some x.d) (x.v w.heap.size)) (w.alloc (.cells x.z x.t))) : wpOp P l.toArray Q x.k K a w := by
  obtain ⟨o, ho, hd, hw, hv⟩ := h
  unfold Go.wpOp
  simp only [(nthO_eq l x.k).trans ho, hw, if_true, Oper.wp, hv w hS, Oper.upon, hd]
  exact .inl hK
theorem AllocIf.of_same {l : List Oper} {x : Lt} {a a' : Act} (h : AllocIf P l S x a) (hs : ∀ o, nthO l x.k = some o → execOp a'.eval o = execOp a.eval o ∧ Region.wanted o (yielded l.toArray a'.tmps) = Region.wanted o (yielded l.toArray a.tmps)) : AllocIf P l S x a' := by
  obtain ⟨o, ho, hd, hw, hv⟩ := h
  obtain ⟨h1, h2⟩ := hs o ho
  exact ⟨o, ho, hd, h2.trans hw, fun w hS => by rw [h1]; exact hv w hS⟩
theorem AllocIf.put {l : List Oper} {x : Lt} {a : Act} (h : AllocIf P l S x a) (hsel : Region.noSelect l.toArray = true) {o : Oper} (hf : farB l o x = true) (v : Value) : AllocIf P l S x (a.put o.dst v) := by
  refine h.of_same fun ox hox => ?_
  obtain ⟨ox', hx', _, hap⟩ := farB_spec hf
  obtain rfl : ox' = ox := Option.some.inj (hx'.symm.trans hox)
  obtain ⟨_, _, h3⟩ := Oper.apart_spec hap
  exact ⟨execOp_put ox' (fun cs b => Region.noSelect_spec hsel x.k ox' cs b ((nthO_eq l x.k).trans hox)) a o.dst v h3, wanted_put ox' a o.dst v h3⟩
theorem AllocIf.putL {l : List Oper} {x : Lt} (hsel : Region.noSelect l.toArray = true) : ∀ (L : List (Lt × Option Nat)), (∀ y ∈ L, (∃ o, nthO l y.1.k = some o ∧ o.dst = some y.1.d ∧ farB l o x = true)) → ∀ {a : Act}, AllocIf P l S x a → AllocIf P l S x (putL L a)
  | [], _, _, h => h
  | (y, none) :: L, hf, a, h => by simp only [Proofs.YtpcihhdalofdiaaGreatDoor.putL]; exact AllocIf.putL hsel L (fun z hz => hf z (List.mem_cons_of_mem _ hz)) h
  | (y, some b) :: L, hf, a, h => by
    obtain ⟨o, ho, hd, hfar⟩ := hf (y, some b) (by simp)
    simp only [Proofs.YtpcihhdalofdiaaGreatDoor.putL]
    refine AllocIf.putL hsel L (fun z hz => hf z (List.mem_cons_of_mem _ hz)) ?_
    rw [← hd]
    exact h.put hsel hfar _
/-- .. another operation behind it. -/
theorem wpOp_allocs {l : List Oper} (hsel : Region.noSelect l.toArray = true) {j : Nat} {oj : Oper} (hj : l.toArray[j]? = some oj) {L : List Lt} (hf : ∀ x ∈ L, farB l oj x = true) {K : Act → World → Prop} {a : Act} {w : World} (hA : ∀ x ∈ L, AllocIf P l S x a) (h : wpOp P l.toArray Q j K a w) :
    wpOp P l.toArray Q j (fun a' w' => (∀ x ∈ L, AllocIf P l S x a') ∧ K a' w') a w := by
  have keep : ∀ u, ∀ x ∈ L, AllocIf P l S x (a.put oj.dst u) := fun u x hx => (hA x hx).put hsel (hf x hx) u
  unfold Go.wpOp at *
  simp only [hj] at *
  split
  · rename_i hw
    simp only [hw, if_true] at h
    rcases h with h | h
    case inr => exact .inr h
    refine .inl ?_
    unfold Oper.wp at *
    generalize (execOp a.eval oj).run P w = r at *
    cases r with
    | ok n w' =>
      cases n <;> simp only [Oper.upon] at h ⊢
      case value u => exact ⟨keep u, h⟩
      case skip => exact ⟨keep _, h⟩
      case defer d =>
        refine ⟨fun x hx => ?_, h⟩
        exact ((hA x hx).of_same (a' := { a with defers := d :: a.defers }) fun o ho => ⟨rfl, rfl⟩).put hsel (hf x hx) _
      case enter f args =>
        refine Calls.mono h fun e w'' he => ?_
        cases e with
        | returned u => exact ⟨keep u, he⟩
        | panicked c => exact he
        | outgrown => exact he
      case row row args => exact Rows.mono h fun u w'' he => ⟨keep u, he⟩
    | halt x w' => cases x <;> simp only [Oper.upon] at h ⊢ <;> exact h
  · rename_i hw
    simp only [hw] at h
    exact ⟨keep _, h⟩

/-- take: number k is taken first; go: it comes up alone, but for what is open; op: from here on a block may be made; cl: all that are open have been. -/
inductive It where
  | take (k : Nat)
  | go (k : Nat)
  | op (x : Lt)
  | cl
def It.isOne : It → Nat
  | .cl => 0
  | _ => 1
def Its (r : List It) : Nat := (r.map It.isOne).sum

/-- The blocks, at whatever addresses. -/
def lates (base : Nat) (ex : List (Nat × Nat)) (K : Act → World → Prop) : List Lt → List Nat → Act → World → Prop
  | [], _, a, w => K a w
  | x :: L, used, a, w => ∀ b, base ≤ b → b ∉ used → (∀ p ∈ ex, b < p.1 ∨ p.2 ≤ b) → Blk w b x.t x.z → lates base ex K L (b :: used) (a.put (some x.d) (x.v b)) w
def wpTw (P : Program) (l : List Oper) (Q : Exit → Act → World → Prop) (S : World → Prop) (n base : Nat) (tail : List (Nat × Bool)) : List It → List (Nat × Nat) → List Lt → Act → World → Prop
  | [], _, _, a, w => wpTy P l Q S n tail a w
  | .take k :: r, ex, L, a, w => ∃ o v, nthO l k = some o ∧ YieldsIf P l.toArray S o v a ∧ wpTw P l Q S n base tail r ex L (a.put o.dst v) w
  | .go k :: r, ex, L, a, w => ∀ w', Keeps w w' [] → S w' → wpOp P l.toArray Q k (fun a' w'' => (Keeps w' w'' [] ∧ S w'') ∧ wpTw P l Q S n base tail r ((w'.heap.size, w''.heap.size) :: ex) L a' w'') a w'
  | .op x :: r, ex, L, a, w => AllocIf P l S x a ∧ wpTw P l Q S n base tail r ex (L ++ [x]) a w
  | .cl :: r, ex, L, a, w => ∀ w', Keeps w w' [] → S w' → lates base ex (wpTw P l Q S n base tail r ex []) L [] a w'

def allD : List Lt → Array Bool → Bool → (Array Bool → Bool → Bool) → Bool
  | [], s, full, f => f s full
  | x :: L, s, full, f => allD L s false f && allD L (s.setIfInBounds x.k true) full f
theorem allD_spec {f : Array Bool → Bool → Bool} : ∀ (L : List (Lt × Option Nat)) (s : Array Bool) (full : Bool), allD (L.map (·.1)) s full f = true → f (setL L s) (decide (undone L = 0) && full) = true
  | [], s, full, h => by simpa [allD, setL, undone] using h
  | (x, none) :: L, s, full, h => by
    simp only [List.map_cons, allD, Bool.and_eq_true] at h
    have := allD_spec L s false h.1
    simpa [setL, undone] using this
  | (x, some b) :: L, s, full, h => by
    simp only [List.map_cons, allD, Bool.and_eq_true] at h
    have := allD_spec L _ full h.2
    exact this
def fullS : List Lt → Array Bool → Array Bool
  | [], s => s
  | x :: L, s => fullS L (s.setIfInBounds x.k true)
theorem setL_full : ∀ (L : List (Lt × Option Nat)) (s : Array Bool), undone L = 0 → setL L s = fullS (L.map (·.1)) s
  | [], _, _ => rfl
  | (x, none) :: L, s, h => by simp [undone] at h
  | (x, some b) :: L, s, h => by simp only [setL, List.map_cons, fullS]; exact setL_full L _ (by simpa [undone] using h)

def opFar (l : List Oper) (L : List Lt) (k : Nat) : Bool :=
  match nthO l k with
  | some o => L.all fun x => farB l o x && decide (x.k ≠ k)
  | none => false
theorem opFar_spec {l : List Oper} {L : List Lt} {k : Nat} {o : Oper} (ho : nthO l k = some o) (h : opFar l L k = true) : ∀ x ∈ L, farB l o x = true ∧ k ≠ x.k := by
  unfold opFar at h
  rw [ho] at h
  simp only [List.all_eq_true, Bool.and_eq_true, decide_eq_true_eq] at h
  exact fun x hx => ⟨(h x hx).1, Ne.symm (h x hx).2⟩
/-- An operation that is opened: ready, apart from those that are open. -/
def opB (md : Region.Mode) (l : List Oper) (n : Nat) (L : List Lt) (x : Lt) (s : Array Bool) : Bool :=
  decide (x.k < n) && (Region.ready md l.toArray s).contains x.k &&
  match nthO l x.k with
  | some o => decide (o.dst = some x.d) && L.all fun y => decide (y.k ≠ x.k) && decide (y.d ≠ x.d) && farB l o y && (match nthO l y.k with | some oy => farB l oy x | none => false)
  | none => false
def twB (md : Region.Mode) (l : List Oper) (n : Nat) (tail : List (Nat × Bool)) : List It → List Lt → Array Bool → Bool
  | [], L, s => L.isEmpty && tyB md l.toArray n tail s
  | .take k :: r, L, s => decide (k < n) && (Region.ready md l.toArray s).contains k && Region.free md l.toArray s k && opFar l L k && twB md l n tail r L (s.setIfInBounds k true)
  | .go k :: r, L, s => decide (k < n) && (Region.ready md l.toArray s).contains k && opFar l L k && allD L s true (fun s' _ => (Region.ready md l.toArray s').all fun j => j == k || L.any fun x => x.k == j) && twB md l n tail r L (s.setIfInBounds k true)
  | .op x :: r, L, s => opB md l n L x s && twB md l n tail r (L ++ [x]) s
  | .cl :: r, L, s => allD L s true (fun s' full => full || (Region.ready md l.toArray s').all fun j => L.any fun x => x.k == j) && twB md l n tail r [] (fullS L s)

/-- What is known of those that are open. -/
structure Opens (md : Region.Mode) (l : List Oper) (n : Nat) (L : List Lt) (s : Array Bool) : Prop where
  ready : ∀ x ∈ L, x.k ∈ Region.ready md l.toArray s ∧ x.k < n
  ne : L.Pairwise fun x y => x.k ≠ y.k ∧ x.d ≠ y.d
  far : ∀ x ∈ L, ∀ y ∈ L, x.k ≠ y.k → ∃ o, nthO l y.k = some o ∧ o.dst = some y.d ∧ farB l o x = true
theorem Opens.nil (md : Region.Mode) (l : List Oper) (n : Nat) (s : Array Bool) : Opens md l n [] s := ⟨by simp, .nil, by simp⟩
theorem Opens.set {l : List Oper} {n : Nat} {L : List Lt} {s : Array Bool} (h : Opens md l n L s) {k : Nat} (hk : ∀ x ∈ L, k ≠ x.k) : Opens md l n L (s.setIfInBounds k true) :=
  ⟨fun x hx => ⟨ready_mono (h.ready x hx).1 (Ne.symm (hk x hx)), (h.ready x hx).2⟩, h.ne, h.far⟩
theorem Opens.snoc {l : List Oper} {n : Nat} {L : List Lt} {s : Array Bool} (h : Opens md l n L s) {x : Lt} (hB : opB md l n L x s = true) (hL : ∀ y ∈ L, ∃ o, nthO l y.k = some o ∧ o.dst = some y.d) : Opens md l n (L ++ [x]) s := by
  simp only [opB, Bool.and_eq_true, decide_eq_true_eq] at hB
  obtain ⟨⟨h1, h2⟩, h3⟩ := hB
  cases ho : nthO l x.k with
  | none => rw [ho] at h3; cases h3
  | some o =>
    rw [ho] at h3
    simp only [Bool.and_eq_true, decide_eq_true_eq, List.all_eq_true] at h3
    obtain ⟨hd, h3⟩ := h3
    refine ⟨fun y hy => ?_, ?_, fun y hy z hz hne => ?_⟩
    · rcases List.mem_append.1 hy with hy | hy
      · exact h.ready y hy
      · obtain rfl := List.mem_singleton.1 hy
        exact ⟨by simpa using h2, h1⟩
    · refine List.pairwise_append.2 ⟨h.ne, List.pairwise_singleton _ _, fun y hy z hz => ?_⟩
      obtain rfl := List.mem_singleton.1 hz
      exact (h3 y hy).1.1
    · rcases List.mem_append.1 hy with hy1 | hy1
      · rcases List.mem_append.1 hz with hz1 | hz1
        · exact h.far y hy1 z hz1 hne
        · have e := List.mem_singleton.1 hz1
          subst e
          exact ⟨o, ho, hd, (h3 y hy1).1.2⟩
      · have e := List.mem_singleton.1 hy1
        subst e
        rcases List.mem_append.1 hz with hz1 | hz1
        · obtain ⟨oz, hoz, hdz⟩ := hL z hz1
          have := (h3 z hz1).2
          rw [hoz] at this
          exact ⟨oz, hoz, hdz, this⟩
        · have e := List.mem_singleton.1 hz1
          subst e
          exact absurd rfl hne

def blocksOf : List (Lt × Option Nat) → List Nat
  | [] => []
  | (_, none) :: L => blocksOf L
  | (_, some b) :: L => b :: blocksOf L
theorem blocksOf_app : ∀ (L M : List (Lt × Option Nat)), blocksOf (L ++ M) = blocksOf L ++ blocksOf M
  | [], _ => rfl
  | (_, none) :: L, M => by simp only [List.cons_append, blocksOf]; exact blocksOf_app L M
  | (_, some b) :: L, M => by simp only [List.cons_append, blocksOf]; rw [blocksOf_app L M]
theorem blocksOf_mem : ∀ {L : List (Lt × Option Nat)} {b : Nat}, b ∈ blocksOf L → ∃ x, (x, some b) ∈ L
  | [], _, h => absurd h (by simp [blocksOf])
  | (x, none) :: L, b, h => by
    obtain ⟨y, hy⟩ := blocksOf_mem (L := L) (by simpa [blocksOf] using h)
    exact ⟨y, List.mem_cons_of_mem _ hy⟩
  | (x, some c) :: L, b, h => by
    simp only [blocksOf, List.mem_cons] at h
    rcases h with rfl | h
    · exact ⟨x, by simp⟩
    · obtain ⟨y, hy⟩ := blocksOf_mem h
      exact ⟨y, List.mem_cons_of_mem _ hy⟩
theorem lates_in {base : Nat} {ex : List (Nat × Nat)} {K : Act → World → Prop} {w : World} : ∀ (L : List (Lt × Option Nat)) (used : List Nat) (a : Act), undone L = 0 → (∀ x b, (x, some b) ∈ L → base ≤ b ∧ Blk w b x.t x.z ∧ ∀ p ∈ ex, b < p.1 ∨ p.2 ≤ b) → (∀ b ∈ blocksOf L, b ∉ used) → (blocksOf L).Nodup →
    lates base ex K (L.map (·.1)) used a w → K (putL L a) w
  | [], _, _, _, _, _, _, h => h
  | (x, none) :: L, _, _, h0, _, _, _, _ => by simp [undone] at h0
  | (x, some b) :: L, used, a, h0, hB, hu, hn, h => by
    simp only [List.map_cons, lates] at h
    simp only [blocksOf, List.nodup_cons, List.mem_cons] at hn hu
    have h1 := hB x b (by simp)
    simp only [putL]
    refine lates_in L (b :: used) _ (by simpa [undone] using h0) (fun y c hy => hB y c (List.mem_cons_of_mem _ hy)) (fun c hc hm => ?_) hn.2 (h b h1.1 (hu b (.inl rfl)) h1.2.2 h1.2.1)
    rcases List.mem_cons.1 hm with rfl | hm
    · exact hn.1 hc
    · exact hu c (.inr hc) hm
theorem setL_size : ∀ (L : List (Lt × Option Nat)) (s : Array Bool), (setL L s).size = s.size
  | [], _ => rfl
  | (_, none) :: L, s => by simp only [setL]; exact setL_size L s
  | (_, some b) :: L, s => by simp only [setL]; rw [setL_size L]; simp
theorem ready_in {l : List Oper} : ∀ (L : List (Lt × Option Nat)) (s : Array Bool) (k : Nat), (∀ x ∈ L, k ≠ x.1.k) → k ∈ Region.ready md l.toArray s → k ∈ Region.ready md l.toArray (setL L s)
  | [], _, _, _, h => h
  | (y, none) :: L, s, k, hne, h => by simp only [setL]; exact ready_in L s k (fun z hz => hne z (List.mem_cons_of_mem _ hz)) h
  | (y, some b) :: L, s, k, hne, h => by simp only [setL]; exact ready_in L _ k (fun z hz => hne z (List.mem_cons_of_mem _ hz)) (ready_mono h (hne (y, some b) (by simp)))
/-- One that has not come up: its place. -/
theorem undone_at : ∀ {L : List (Lt × Option Nat)}, undone L ≠ 0 → ∃ M x N, L = M ++ (x, none) :: N
  | [], h => absurd rfl h
  | (y, none) :: L, _ => ⟨[], y, L, rfl⟩
  | (y, some b) :: L, h => by
    obtain ⟨M, x, N, e⟩ := undone_at (L := L) (by simpa [undone] using h)
    exact ⟨(y, some b) :: M, x, N, by rw [e]; rfl⟩
theorem Opens.split {l : List Oper} {n : Nat} {s : Array Bool} {M : List (Lt × Option Nat)} {x : Lt} {o : Option Nat} {N : List (Lt × Option Nat)} (h : Opens md l n ((M ++ (x, o) :: N).map (·.1)) s) :
    (∀ y ∈ M, x.k ≠ y.1.k ∧ x.d ≠ y.1.d) ∧ (∀ y ∈ N, x.k ≠ y.1.k ∧ x.d ≠ y.1.d) := by
  have h1 := h.ne
  rw [List.map_append, List.map_cons, List.pairwise_append, List.pairwise_cons] at h1
  exact ⟨fun y hy => ⟨Ne.symm (h1.2.2 y.1 (List.mem_map_of_mem hy) x (by simp)).1, Ne.symm (h1.2.2 y.1 (List.mem_map_of_mem hy) x (by simp)).2⟩, fun y hy => h1.2.1.1 y.1 (List.mem_map_of_mem hy)⟩

theorem wpAnyF_of_tw {l : List Oper} {n base : Nat} {tail : List (Nat × Bool)} (hsel : Region.noSelect l.toArray = true) (hQ : ∀ c a d v w, Q (.panic c) (Act.put a d v) w → Q (.panic c) a w) (hQ' : ∀ c a d v w, Q (.panic c) a w → Q (.panic c) (Act.put a d v) w)
    (hs : Region.sinkB md l.toArray n = true) (hc : Region.chainB md l.toArray n = true) (hn : n < l.toArray.size) (hSk : ∀ w w', Keeps w w' [] → S w → S w') :
    ∀ (m fuel : Nat) (r : List It) (ex : List (Nat × Nat)) (L : List (Lt × Option Nat)) (s : Array Bool) (a : Act) (w wr : World), (L = [] → wr = w) → 2 * r.length + undone L ≤ m → fuel = Its r + undone L + tail.length → HeadInv md l.toArray n (setL L s) → twB md l n tail r (L.map (·.1)) s = true →
      wpTw P l Q S n base tail r ex (L.map (·.1)) a w → (∀ x ∈ L.map (·.1), AllocIf P l S x a) → Opens md l n (L.map (·.1)) s → Keeps w wr [] → S wr → base ≤ wr.heap.size → (∀ p ∈ ex, p.2 ≤ wr.heap.size) → (∀ x b, (x, some b) ∈ L → base ≤ b ∧ Blk wr b x.t x.z ∧ ∀ p ∈ ex, b < p.1 ∨ p.2 ≤ b) → (blocksOf L).Nodup → wpAnyF P md l.toArray Q S n fuel (setL L s) (putL L a) wr := by
  -- a block is made
  have alloc_step : ∀ (m fuel : Nat) (r : List It) (ex : List (Nat × Nat)) (L : List (Lt × Option Nat)) (s : Array Bool) (a : Act) (w wr : World) (i : Nat), 2 * r.length + undone L ≤ m + 1 → fuel + 1 = Its r + undone L + tail.length → HeadInv md l.toArray n (setL L s) →
      (∀ x ∈ L.map (·.1), AllocIf P l S x a) → Opens md l n (L.map (·.1)) s → Keeps w wr [] → S wr → base ≤ wr.heap.size → (∀ p ∈ ex, p.2 ≤ wr.heap.size) → (∀ x b, (x, some b) ∈ L → base ≤ b ∧ Blk wr b x.t x.z ∧ ∀ p ∈ ex, b < p.1 ∨ p.2 ≤ b) → (blocksOf L).Nodup →
      (∀ (L' : List (Lt × Option Nat)) (wr : World), L'.map (·.1) = L.map (·.1) → (L' = [] → False) → 2 * r.length + undone L' ≤ m → fuel = Its r + undone L' + tail.length → HeadInv md l.toArray n (setL L' s) → Keeps w wr [] → S wr → base ≤ wr.heap.size → (∀ p ∈ ex, p.2 ≤ wr.heap.size) → (∀ x b, (x, some b) ∈ L' → base ≤ b ∧ Blk wr b x.t x.z ∧ ∀ p ∈ ex, b < p.1 ∨ p.2 ≤ b) → (blocksOf L').Nodup → wpAnyF P md l.toArray Q S n fuel (setL L' s) (putL L' a) wr) →
      i ∈ Region.ready md l.toArray (setL L s) → ((L.map (·.1)).any fun x => x.k == i) = true →
      wpOp P l.toArray Q i (fun a' w' => (i < n → S w') ∧ wpAnyF P md l.toArray Q S n fuel ((setL L s).setIfInBounds i true) a' w') (putL L a) wr := by
    intro m fuel r ex L s a w wr i hm hf inv hA hO hk hS hb hex hblk hnd ih hi hany
    obtain ⟨x, hx0, hxi⟩ := List.any_eq_true.1 hany
    have hxi : x.k = i := by simpa using hxi
    subst hxi
    obtain ⟨⟨x', o⟩, hxL, hxe⟩ := List.mem_map.1 hx0
    have hxe : x' = x := hxe
    subst hxe
    obtain ⟨M, N, hMN⟩ := List.append_of_mem hxL
    obtain ⟨hM, hN⟩ := (hMN ▸ hO : Opens md l n ((M ++ (x', o) :: N).map (·.1)) s).split
    have hN' : ∀ y ∈ N, x'.k ≠ y.1.k := fun y hy => (hN y hy).1
    have hNd : ∀ y ∈ N, (some x'.d : Option Tmp) ≠ some y.1.d := fun y hy e => (hN y hy).2 (Option.some.inj e)
    have hri := (mem_ready.1 hi).1
    have hkn := (hO.ready x' hx0).2
    cases o with
    | some b =>
      exfalso
      rw [hMN, setL_app] at hri
      simp only [setL] at hri
      have hlt : x'.k < (setL M s).size := by
        have h1 := inv.size
        rw [setL_size] at h1 ⊢
        omega
      have := setL_mono N ((setL M s).setIfInBounds x'.k true) x'.k (by simp [hlt])
      rw [this] at hri
      cases hri
    | none =>
      have hAx : AllocIf P l S x' (putL L a) := by
        have h0 := hA x' hx0
        rw [hMN, putL_app]
        simp only [putL]
        refine AllocIf.putL hsel N (fun y hy => ?_) (AllocIf.putL hsel M (fun y hy => ?_) h0)
        · exact hO.far x' hx0 y.1 (List.mem_map_of_mem (by rw [hMN]; simp [hy])) (hN y hy).1
        · exact hO.far x' hx0 y.1 (List.mem_map_of_mem (by rw [hMN]; simp [hy])) (hM y hy).1
      refine hAx.wpOp hS ?_
      have e1 : (setL L s).setIfInBounds x'.k true = setL (M ++ (x', some wr.heap.size) :: N) s := by
        rw [hMN, setL_app, setL_app]
        simp only [setL]
        rw [setL_set N _ _ hN']
      have e2 : (putL L a).put (some x'.d) (x'.v wr.heap.size) = putL (M ++ (x', some wr.heap.size) :: N) a := by
        rw [hMN, putL_app, putL_app]
        simp only [putL]
        rw [putL_put N _ _ _ hNd]
      have kk := hk.alloc (.cells x'.z x'.t)
      have k1 : Keeps wr (wr.alloc (.cells x'.z x'.t)) [] := (Keeps.refl wr []).alloc _
      have hS' := hSk _ _ k1 hS
      have hud : undone L = undone (M ++ (x', some wr.heap.size) :: N) + 1 := by
        rw [hMN, undone_app, undone_app]
        simp only [undone]
        omega
      refine ⟨fun _ => hS', ?_⟩
      rw [e1, e2]
      refine ih (M ++ (x', some wr.heap.size) :: N) _ (by rw [hMN]; simp) (by simp) (by omega) (by omega) (by rw [← e1]; exact inv.set hi hkn) kk hS' (Nat.le_trans hb k1.size) (fun p hp => Nat.le_trans (hex p hp) k1.size) (fun y b hy => ?_) ?_
      · rw [List.mem_append, List.mem_cons] at hy
        have old : (y, some b) ∈ L → base ≤ b ∧ Blk (wr.alloc (.cells x'.z x'.t)) b y.t y.z ∧ ∀ p ∈ ex, b < p.1 ∨ p.2 ≤ b := fun hm => ⟨(hblk y b hm).1, (hblk y b hm).2.1.alloc _, (hblk y b hm).2.2⟩
        rcases hy with hy | hy | hy
        · exact old (by rw [hMN]; simp [hy])
        · injection hy with e3 e4
          injection e4 with e4
          subst e3 e4
          exact ⟨hb, Blk.new _ _ _, fun p hp => .inr (hex p hp)⟩
        · exact old (by rw [hMN]; simp [hy])
      · rw [hMN, blocksOf_app] at hnd
        rw [blocksOf_app]
        simp only [blocksOf] at hnd ⊢
        have hlow : ∀ b ∈ blocksOf M ++ blocksOf N, b < wr.heap.size := fun b hbm => by
          rw [List.mem_append] at hbm
          rcases hbm with hbm | hbm
          · obtain ⟨y, hy⟩ := blocksOf_mem hbm
            exact (hblk y b (by rw [hMN]; simp [hy])).2.1.lt
          · obtain ⟨y, hy⟩ := blocksOf_mem hbm
            exact (hblk y b (by rw [hMN]; simp [hy])).2.1.lt
        rw [List.nodup_append] at hnd ⊢
        refine ⟨hnd.1, List.nodup_cons.2 ⟨fun hm => ?_, hnd.2.1⟩, fun p hp q hq e => ?_⟩
        · have := hlow _ (List.mem_append_right _ hm); omega
        · rcases List.mem_cons.1 hq with rfl | hq
          · have := hlow p (List.mem_append_left _ hp); omega
          · exact hnd.2.2 p hp q hq e
  -- one that has not come up is ready
  have late_ready : ∀ (L : List (Lt × Option Nat)) (s : Array Bool), Opens md l n (L.map (·.1)) s → undone L ≠ 0 → Region.ready md l.toArray (setL L s) ≠ [] := by
    intro L s hO hu he
    obtain ⟨M, x, N, hMN⟩ := undone_at hu
    subst hMN
    obtain ⟨hM, hN⟩ := hO.split
    have h1 := (hO.ready x (by simp)).1
    have : x.k ∈ Region.ready md l.toArray (setL (M ++ (x, none) :: N) s) := by
      rw [setL_app]
      simp only [setL]
      exact ready_in N _ _ (fun y hy => (hN y hy).1) (ready_in M _ _ (fun y hy => (hM y hy).1) h1)
    rw [he] at this
    cases this
  intro m
  induction m with
  | zero =>
    intro fuel r ex L s a w wr hw hm hf inv hB h hA hO hk hS hb hex hblk hnd
    have hr : r = [] := List.length_eq_zero_iff.1 (by omega)
    subst hr
    simp only [twB, Bool.and_eq_true, List.isEmpty_iff, List.map_eq_nil_iff] at hB
    obtain ⟨hL, hB⟩ := hB
    subst hL
    obtain rfl : fuel = tail.length := by simpa [Its, undone] using hf
    obtain rfl := hw rfl
    exact wpAnyF_of_ty (md := md) hsel hQ hs hc hn tail s a wr (.inl inv) hB h
  | succ m ih =>
    intro fuel r ex L s a w wr hw hm hf inv hB h hA hO hk hS hb hex hblk hnd
    have step := fun (fuel : Nat) (hf : fuel + 1 = Its r + undone L + tail.length) i => alloc_step m fuel r ex L s a w wr i hm hf inv hA hO hk hS hb hex hblk hnd (fun L' wr' e1 e2 e3 e4 e5 e6 e7 e8 e9 e10 e11 => ih fuel r ex L' s a w wr' (fun e => (e2 e).elim) e3 e4 e5 (by rw [e1]; exact hB) (by rw [e1]; exact h) (by rw [e1]; exact hA) (by rw [e1]; exact hO) e6 e7 e8 e9 e10 e11)
    cases r with
    | nil =>
      simp only [twB, Bool.and_eq_true, List.isEmpty_iff, List.map_eq_nil_iff] at hB
      obtain ⟨hL, hB⟩ := hB
      subst hL
      obtain rfl : fuel = tail.length := by simpa [Its, undone] using hf
      obtain rfl := hw rfl
      exact wpAnyF_of_ty (md := md) hsel hQ hs hc hn tail s a wr (.inl inv) hB h
    | cons x r =>
      simp only [List.length_cons] at hm
      cases x with
      | take k =>
        simp only [twB, Bool.and_eq_true, decide_eq_true_eq] at hB
        obtain ⟨⟨⟨⟨hkn, hr⟩, hfr⟩, hop⟩, hB'⟩ := hB
        obtain ⟨o, v, ho, hy, h'⟩ := h
        have h0 : l.toArray[k]? = some o := (nthO_eq l k).trans ho
        have hfar := opFar_spec ho hop
        have hfarL : ∀ x ∈ L, farB l o x.1 = true := fun x hx => (hfar x.1 (List.mem_map_of_mem hx)).1
        have hneL : ∀ x ∈ L, k ≠ x.1.k := fun x hx => (hfar x.1 (List.mem_map_of_mem hx)).2
        have hr' := ready_in L s k hneL (by simpa using hr)
        have hso := Region.noSelect_spec hsel k o
        obtain ⟨fuel, rfl⟩ : ∃ f, fuel = f + 1 := ⟨Its r + undone L + tail.length, by simp only [Its, List.map_cons, List.sum_cons, It.isOne] at hf ⊢; omega⟩
        refine wpAnyF_first h0 (Region.noSelect_spec hsel) (fun c a w => hQ c a _ _ w) hs hc hn hkn fuel _ _ _ inv (fun j oj hj hne hunj hno => ?_) hr' (yields_putL (fun cs b => hso cs b h0) L hfarL hy) hS ?_
        · refine Region.free_spec h0 hfr j oj hj hne ?_ hno
          cases hg : s.getD j true with
          | false => rfl
          | true => rw [setL_mono L s j hg] at hunj; cases hunj
        · rw [← setL_set L s k hneL, ← putL_put L a o.dst v (far_dst hfarL)]
          refine ih fuel r ex L _ _ w wr hw (by omega) (by simp only [Its, List.map_cons, List.sum_cons, It.isOne] at hf ⊢; omega) ?_ hB' h' (fun x hx => (hA x hx).put hsel (hfar x hx).1 v) (hO.set fun x hx => (hfar x hx).2) hk hS hb hex hblk hnd
          rw [setL_set L s k hneL]; exact inv.set hr' hkn
      | go k =>
        simp only [twB, Bool.and_eq_true, decide_eq_true_eq] at hB
        obtain ⟨⟨⟨⟨hkn, hr⟩, hop⟩, hall⟩, hB'⟩ := hB
        have hmem : k ∈ Region.ready md l.toArray s := by simpa using hr
        obtain ⟨_, o, h0, _⟩ := mem_ready.1 hmem
        have ho : nthO l k = some o := (nthO_eq l k).symm.trans h0
        have hfar := opFar_spec ho hop
        have hfarL : ∀ x ∈ L, farB l o x.1 = true := fun x hx => (hfar x.1 (List.mem_map_of_mem hx)).1
        have hneL : ∀ x ∈ L, k ≠ x.1.k := fun x hx => (hfar x.1 (List.mem_map_of_mem hx)).2
        have hr' := ready_in L s k hneL hmem
        have hso := Region.noSelect_spec hsel k o
        obtain ⟨fuel, rfl⟩ : ∃ f, fuel = f + 1 := ⟨Its r + undone L + tail.length, by simp only [Its, List.map_cons, List.sum_cons, It.isOne] at hf ⊢; omega⟩
        refine ⟨fun he => (by rw [he] at hr'; cases hr'), fun i hi => ?_⟩
        have h1 := allD_spec L s true hall
        simp only [List.all_eq_true, Bool.or_eq_true, beq_iff_eq] at h1
        rcases h1 i hi with rfl | h1
        · have h2 := wpOp_afterL h0 (fun cs b => hso cs b h0) hQ' L hfarL (wpOp_allocs hsel h0 (fun x hx => (hfar x hx).1) hA (h wr hk hS))
          refine wpOp_mono (fun a' w' h3 => ?_) h2
          obtain ⟨a'', rfl, hA3, ⟨k3, hS3⟩, h4⟩ := h3
          refine ⟨fun _ => hS3, ?_⟩
          rw [← setL_set L s i hneL]
          refine ih fuel r ((wr.heap.size, w'.heap.size) :: ex) L _ a'' w' w' (fun _ => rfl) (by omega) (by simp only [Its, List.map_cons, List.sum_cons, It.isOne] at hf ⊢; omega) ?_ hB' h4 hA3 (hO.set fun x hx => (hfar x hx).2) (Keeps.refl _ _) hS3 (Nat.le_trans hb k3.size) (fun p hp => ?_) (fun x b hx => ⟨(hblk x b hx).1, (hblk x b hx).2.1.keep k3 (by simp), fun p hp => ?_⟩) hnd
          rotate_left
          · rcases List.mem_cons.1 hp with rfl | hp
            · exact Nat.le_refl _
            · exact Nat.le_trans (hex p hp) k3.size
          · rcases List.mem_cons.1 hp with rfl | hp
            · exact .inl (hblk x b hx).2.1.lt
            · exact (hblk x b hx).2.2 p hp
          rw [setL_set L s i hneL]; exact inv.set hi hkn
        · exact step fuel hf i hi h1
      | op x =>
        simp only [twB, Bool.and_eq_true] at hB
        obtain ⟨hAx, h'⟩ := h
        have e1 : setL L s = setL (L ++ [(x, none)]) s := by rw [setL_app]; rfl
        have e2 : putL L a = putL (L ++ [(x, none)]) a := by rw [putL_app]; rfl
        have e3 : (L ++ [(x, none)]).map (fun y : Lt × Option Nat => y.1) = L.map (fun y : Lt × Option Nat => y.1) ++ [x] := by simp
        have e4 : undone (L ++ [(x, none)]) = undone L + 1 := by rw [undone_app]; rfl
        rw [e1, e2]
        refine ih fuel r ex (L ++ [(x, none)]) s a w wr (by simp) (by omega) (by simp only [Its, List.map_cons, List.sum_cons, It.isOne] at hf ⊢; omega) (by rw [← e1]; exact inv) (by rw [e3]; exact hB.2) (by rw [e3]; exact h') (fun y hy => ?_) ?_ hk hS hb hex (fun y b hy => ?_) ?_
        · rw [e3] at hy
          rcases List.mem_append.1 hy with hy | hy
          · exact hA y hy
          · rw [List.mem_singleton.1 hy]; exact hAx
        · rw [e3]
          exact hO.snoc hB.1 fun y hy => by obtain ⟨o, ho, hd, _⟩ := hA y hy; exact ⟨o, ho, hd⟩
        · rcases List.mem_append.1 hy with hy | hy
          · exact hblk y b hy
          · simp at hy
        · rw [blocksOf_app]
          simpa [blocksOf] using hnd
      | cl =>
        simp only [twB, Bool.and_eq_true] at hB
        by_cases hu : undone L = 0
        · have h1 := lates_in L [] a hu hblk (by simp) hnd (h wr hk hS)
          refine ih fuel r ex [] (setL L s) (putL L a) wr wr (fun _ => rfl) (by simp only [undone]; omega) (by simp only [Its, List.map_cons, List.sum_cons, It.isOne, undone] at hf ⊢; omega) inv (by rw [setL_full L s hu]; exact hB.2) h1 (by simp) (Opens.nil _ _ _ _) (Keeps.refl _ _) hS hb hex (by simp) (by simp [blocksOf])
        · obtain ⟨fuel, rfl⟩ : ∃ f, fuel = f + 1 := ⟨Its r + undone L - 1 + tail.length, by simp only [Its, List.map_cons, List.sum_cons, It.isOne] at hf ⊢; omega⟩
          refine ⟨fun he => absurd he (late_ready L s hO hu), fun i hi => step fuel hf i hi ?_⟩
          have h1 := allD_spec L s true hB.1
          simp only [decide_eq_false hu, Bool.false_and, Bool.false_or, List.all_eq_true] at h1
          exact h1 i hi

def twAllB (md : Region.Mode) (l : List Oper) (n : Nat) (sched : List It) (tail : List (Nat × Bool)) : Bool :=
  Region.noSelect l.toArray && decide (n < l.length) && Region.sinkB md l.toArray n && Region.chainB md l.toArray n && decide (Its sched + tail.length = l.length) && twB md l n tail sched [] (Array.replicate l.length false)

theorem wp_region_tw {id : Nat} {l : List Oper} {a : Act} {w : World} (S : World → Prop) (n : Nat) (sched : List It) (tail : List (Nat × Bool)) (hm : P.follows .mixedOrders = true) (hB : twAllB .any l n sched tail = true)
    (hSk : ∀ w w', Keeps w w' [] → S w → S w') (hS : S w.drew) (h : S w.drew → wpTw P l (NoPanic Q) S n w.heap.size tail sched [] [] a w.drew) : (Code.region id l.toArray true).wp P Q a w := by
  refine wp_region_noPanic ?_
  have hQ : ∀ c a d v w, NoPanic Q (.panic c) (Act.put a d v) w → NoPanic Q (.panic c) a w := fun _ _ _ _ _ h => h
  have hQ' : ∀ c a d v w, NoPanic Q (.panic c) a w → NoPanic Q (.panic c) (Act.put a d v) w := fun _ _ _ _ _ h => h
  simp only [twAllB, Bool.and_eq_true, decide_eq_true_eq] at hB
  obtain ⟨⟨⟨⟨⟨hsel, hl⟩, hs⟩, hc⟩, hlen⟩, hB⟩ := hB
  have hn : n < l.toArray.size := by simpa using hl
  have inv0 : HeadInv .any l.toArray n (Array.replicate l.length false) :=
    ⟨by simp, fun j oj _ hl => (by rw [getD_replicate_false] at hl; cases hl), fun t _ ht => getD_in (by simpa using ht) (getD_replicate_false _ _)⟩
  have H := wpAnyF_of_tw (base := w.heap.size) hsel hQ hQ' hs hc hn hSk _ l.length sched [] [] (Array.replicate l.length false) a w.drew w.drew (fun _ => rfl) (Nat.le_refl _) (by simp only [undone]; omega) inv0 hB (h hS) (by simp) (Opens.nil _ _ _ _) (Keeps.refl _ _) hS (Nat.le_refl _) (by simp) (by simp) (by simp [blocksOf])
  refine wp_region_any hm (wpAny_of_F (S := S) (n := n) _ _ _ _ ?_)
  rw [show l.toArray.size = l.length by simp]
  exact H

theorem wpTw_take {l : List Oper} {n base k : Nat} {tail : List (Nat × Bool)} {r : List It} {ex : List (Nat × Nat)} {L : List Lt} {o : Oper} {v : Value} {a : Act} {w : World} (ho : nthO l k = some o)
    (hy : ∀ w, S w → (execOp a.eval o).run P w = .ok (.value v) w) (hw : Region.wanted o (yielded l.toArray a.tmps) = true) (h : wpTw P l Q S n base tail r ex L (a.put o.dst v) w) : wpTw P l Q S n base tail (.take k :: r) ex L a w :=
  ⟨o, v, ho, .inl ⟨hw, hy⟩, h⟩
theorem wpTw_skip {l : List Oper} {n base k : Nat} {tail : List (Nat × Bool)} {r : List It} {ex : List (Nat × Nat)} {L : List Lt} {o : Oper} {a : Act} {w : World} (ho : nthO l k = some o)
    (hw : Region.wanted o (yielded l.toArray a.tmps) = false) (h : wpTw P l Q S n base tail r ex L (a.put o.dst undef) w) : wpTw P l Q S n base tail (.take k :: r) ex L a w :=
  ⟨o, undef, ho, .inr ⟨hw, rfl⟩, h⟩
theorem wpTw_go {l : List Oper} {n base k : Nat} {tail : List (Nat × Bool)} {r : List It} {ex : List (Nat × Nat)} {L : List Lt} {o : Oper} {a : Act} {w : World} (ho : nthO l k = some o)
    (h : ∀ w', Keeps w w' [] → S w' → ∀ K : Act → World → Prop, Shut (∀ a w'', Keeps w' w'' [] → S w'' → (S w'' → wpTw P l Q S n base tail r ((w'.heap.size, w''.heap.size) :: ex) L a w'') → K a w'') → if Region.wanted o (yielded l.toArray a.tmps) = true then Oper.wp P o a w' K Q else K (a.put o.dst undef) w') : wpTw P l Q S n base tail (.go k :: r) ex L a w :=
  fun w' hk hS => wpOp_step ((nthO_eq l k).trans ho) (fun K hK => h w' hk hS K (fun a w'' hk2 hS2 hW => hK a w'' ⟨⟨hk2, hS2⟩, hW hS2⟩))
theorem wpTw_op {l : List Oper} {n base : Nat} {tail : List (Nat × Bool)} {r : List It} {ex : List (Nat × Nat)} {L : List Lt} {x : Lt} {o : Oper} {a : Act} {w : World} (ho : nthO l x.k = some o) (hd : o.dst = some x.d)
    (hy : ∀ w, S w → (execOp a.eval o).run P w = .ok (.value (x.v w.heap.size)) (w.alloc (.cells x.z x.t))) (hw : Region.wanted o (yielded l.toArray a.tmps) = true) (h : wpTw P l Q S n base tail r ex (L ++ [x]) a w) : wpTw P l Q S n base tail (.op x :: r) ex L a w :=
  ⟨⟨o, ho, hd, hw, hy⟩, h⟩
theorem wpTw_cl {l : List Oper} {n base : Nat} {tail : List (Nat × Bool)} {r : List It} {ex : List (Nat × Nat)} {L : List Lt} {a : Act} {w : World} (h : ∀ w', Keeps w w' [] → S w' → lates base ex (wpTw P l Q S n base tail r ex []) L [] a w') : wpTw P l Q S n base tail (.cl :: r) ex L a w := h
end
end Go.Proofs.YtpcihhdalofdiaaGreatDoor
