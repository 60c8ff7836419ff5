/- What lines make is right: the plain law of layer 9, its start. No program in sight. A draft. -/
import Derived.Test.YtpcihhdalofdiaaGreatDoorJQ06
import Derived.Test.YtpcihhdalofdiaaGreatDoorJQ01
import Derived.Test.YtpcihhdalofdiaaGreatDoorJQ02
import Derived.Test.YtpcihhdalofdiaaGreatDoorJQ05
namespace Go.Proofs.YtpcihhdalofdiaaGreatDoor

theorem idxL_at {α : Type} [DecidableEq α] (l : List α) (x : α) : (idxL l x)[idxA l x]? = some x := by
  unfold idxL idxA
  by_cases h : x ∈ l
  · rw [if_pos h, if_pos h]
    have h1 := List.idxOf_lt_length_iff.2 h
    rw [List.getElem?_eq_getElem h1, List.getElem_idxOf]
  · rw [if_neg h, if_neg h]
    simp
theorem idxL_pre {α : Type} [DecidableEq α] (l : List α) (x : α) : l <+: idxL l x := by
  unfold idxL
  split
  · exact List.prefix_refl _
  · exact List.prefix_append _ _
theorem idxL_mem {α : Type} [DecidableEq α] {l : List α} {x y : α} (h : y ∈ idxL l x) : y ∈ l ∨ y = x := by
  unfold idxL at h
  split at h
  · exact .inl h
  · rcases List.mem_append.1 h with h | h
    · exact .inl h
    · exact .inr (by simpa using h)
theorem idxL_nodup {α : Type} [DecidableEq α] {l : List α} (h : l.Nodup) (x : α) : (idxL l x).Nodup := by
  unfold idxL
  split
  · exact h
  · rename_i hn
    refine List.nodup_append.2 ⟨h, by simp, fun a ha b hb => ?_⟩
    obtain rfl := List.mem_singleton.1 hb
    rintro rfl
    exact hn ha
/-- A slash's name and number. -/
theorem slash_ok {w : Txt} {k : Int} {f : LFun} (h : slashP w k = some f) : nameOk f.name = true ∧ k ≤ f.arity ∧ f.arity ≤ 8 := by
  unfold slashP at h
  split at h
  · rename_i hc
    obtain rfl := Option.some.inj h
    refine ⟨hc.1, hc.2, ?_⟩
    simp only
    unfold numM
    split <;> omega
  · cases h
/-- The tables of what comes to be. -/
structure TabOk (o : LObj) : Prop where
  atoms : ∀ s ∈ o.atoms, nameOk s = true
  funs : ∀ f ∈ o.funs, nameOk f.name = true ∧ 1 ≤ f.arity ∧ f.arity ≤ 8
  preds : ∀ p ∈ o.preds, nameOk p.name = true ∧ 0 ≤ p.arity ∧ p.arity ≤ 8
  one : o.atoms.Nodup
  two : o.funs.Nodup
  three : (o.preds.map fun p => (⟨p.name, p.arity⟩ : LFun)).Nodup
theorem TabOk.start : TabOk ⟨[], [], [], []⟩ := ⟨by simp, by simp, by simp, by simp, by simp, by simp⟩
theorem TabOk.pred {o : LObj} (h : TabOk o) {f : LFun} (hf : nameOk f.name = true ∧ 0 ≤ f.arity ∧ f.arity ≤ 8) : TabOk (predP o f).1 := by
  unfold predP
  split
  · exact h
  · rename_i hn
    refine ⟨h.atoms, h.funs, fun p hp => ?_, h.one, h.two, ?_⟩
    · rcases List.mem_append.1 hp with hp | hp
      · exact h.preds p hp
      · obtain rfl := List.mem_singleton.1 hp
        exact hf
    · simp only [List.map_append, List.map_cons, List.map_nil]
      refine List.nodup_append.2 ⟨h.three, by simp, fun a ha b hb => ?_⟩
      obtain rfl := List.mem_singleton.1 hb
      obtain ⟨p, hp, rfl⟩ := List.mem_map.1 ha
      have := List.findIdx?_eq_none_iff.1 hn p hp
      simp only [Bool.and_eq_false_iff, decide_eq_false_iff_not] at this
      intro e
      injection e with e1 e2
      rcases this with h1 | h1
      · exact h1 e1
      · exact h1 e2
theorem TabOk.operand {o : LObj} (h : TabOk o) {op : Int} {k : Nat} {w : Txt} (hf : fitsP op k w = true) : TabOk (operandP o k w).1 := by
  unfold operandP
  unfold fitsP at hf
  split
  · rename_i h3
    rw [if_pos h3] at hf
    refine ⟨fun s hs => ?_, h.funs, h.preds, idxL_nodup h.one _, h.two, h.three⟩
    rcases idxL_mem hs with hs | rfl
    · exact h.atoms s hs
    · exact hf
  · rename_i h3
    rw [if_neg h3] at hf
    split
    · split
      · rename_i f hs
        refine ⟨h.atoms, fun g hg => ?_, h.preds, h.one, idxL_nodup h.two _, h.three⟩
        rcases idxL_mem hg with hg | rfl
        · exact h.funs g hg
        · exact slash_ok hs
      · exact h
    · split
      · split
        · rename_i f hs
          exact h.pred (slash_ok hs)
        · exact h
      · split <;> exact h
theorem TabOk.operands {op : Int} {n at_ : Nat} : ∀ (l : List (Nat × Txt)) (o : LObj) (j : Nat), TabOk o → (l.all fun x => fitsP op x.1 x.2) = true → TabOk (operandsP n at_ o j l).1
  | [], o, j, h, _ => h
  | (k, w) :: r, o, j, h, hf => by
    rw [List.all_cons, Bool.and_eq_true] at hf
    rw [operandsP]
    exact TabOk.operands r _ _ (h.operand hf.1) hf.2
/-- Another entry, the same predicates. -/
theorem TabOk.entry {o : LObj} (h : TabOk o) (i : Nat) (e : Int) : TabOk { o with preds := o.preds.modify i fun p => { p with entry := e } } := by
  have hm : ∀ (l : List LPred) (i : Nat), (l.modify i fun p => { p with entry := e }).map (fun p => (⟨p.name, p.arity⟩ : LFun)) = l.map fun p => (⟨p.name, p.arity⟩ : LFun) := by
    intro l
    induction l with
    | nil => intro i; simp
    | cons a l ih => intro i; cases i with
      | zero => simp
      | succ i => simp [ih]
  refine ⟨h.atoms, h.funs, fun p hp => ?_, h.one, h.two, by rw [hm]; exact h.three⟩
  have h1 : (⟨p.name, p.arity⟩ : LFun) ∈ o.preds.map fun p => (⟨p.name, p.arity⟩ : LFun) := by
    rw [← hm o.preds i]
    exact List.mem_map.2 ⟨p, hp, rfl⟩
  obtain ⟨q, hq, he⟩ := List.mem_map.1 h1
  injection he with e1 e2
  have := h.preds q hq
  rw [e1, e2] at this
  exact this
theorem TabOk.code {o : LObj} (h : TabOk o) (c : List LIns) : TabOk { o with code := c } := ⟨h.atoms, h.funs, h.preds, h.one, h.two, h.three⟩
theorem TabOk.line {S : AS} (h : TabOk S.o) (s : Txt) (n : Nat) : TabOk (lineP S s n).1.o := by
  unfold lineP
  split
  · unfold beginP
    split
    · exact h
    · rename_i f hs
      simp only
      split
      · exact h
      · exact (h.pred (slash_ok hs)).entry _ _
  · split
    · unfold markP
      split
      · exact h
      · split
        · exact h
        · exact h
    · unfold instrP
      simp only
      split
      · exact h
      · rename_i hc
        have hall := Classical.byContradiction fun e => hc (.inr (.inr (Bool.not_eq_true _ ▸ e)))
        exact (TabOk.operands _ _ _ h hall).code _
/-! ### No table has too much; an operand is in range -/
theorem idxI_lt {α : Type} [DecidableEq α] (l : List α) (x : α) : idxA l x < (idxL l x).length := (List.getElem?_eq_some_iff.1 (idxL_at l x)).1
theorem predP_lt (o : LObj) (f : LFun) : (predP o f).2 < (predP o f).1.preds.length := by
  unfold predP
  split
  · rename_i k hk
    exact (List.findIdx?_eq_some_iff_getElem.1 hk).1
  · simp
theorem numM_le {w : Txt} {m : Int} (h : 0 ≤ m) : -1 ≤ numM w m ∧ numM w m ≤ m := by
  unfold numM
  split <;> omega
theorem labelP_le (w : Txt) : -1 ≤ labelP w ∧ labelP w ≤ 1023 := by
  unfold labelP
  split
  · exact numM_le (by omega)
  · omega
structure OpIn (o : LObj) (op : Int) (k : Nat) (n : Int) : Prop where
  low : 0 ≤ n
  atom : k = 3 → n < o.atoms.length
  fun_ : k = 4 → n < o.funs.length
  pred : k = 7 → n < o.preds.length
  label : k = 8 → n ≤ 1023 ∨ (n = 65535 ∧ op = 26)
theorem operand_in (o : LObj) {op : Int} {k : Nat} {w : Txt} (hf : fitsP op k w = true) : OpIn (operandP o k w).1 op k (operandP o k w).2 := by
  unfold operandP
  unfold fitsP at hf
  split
  · rename_i h3
    have := idxI_lt o.atoms (wdB w)
    exact ⟨by simp only; omega, fun _ => by simp only; omega, fun _ => by omega, fun _ => by omega, fun _ => by omega⟩
  · rename_i h3
    rw [if_neg h3] at hf
    split
    · rename_i h4
      rw [if_pos h4] at hf
      cases hs : slashP w 1 with
      | none => rw [hs] at hf; cases hf
      | some f =>
        have := idxI_lt o.funs f
        exact ⟨by simp only; omega, fun _ => by omega, fun _ => by simp only; omega, fun _ => by omega, fun _ => by omega⟩
    · rename_i h4
      rw [if_neg h4] at hf
      split
      · rename_i h7
        rw [if_pos h7] at hf
        cases hs : slashP w 0 with
        | none => rw [hs] at hf; cases hf
        | some f =>
          have := predP_lt o f
          exact ⟨by simp only; omega, fun _ => by omega, fun _ => by omega, fun _ => by simp only; omega, fun _ => by omega⟩
      · rename_i h7
        rw [if_neg h7] at hf
        split
        · rename_i h8
          rw [if_pos h8] at hf
          simp only [Bool.or_eq_true, decide_eq_true_eq, Bool.and_eq_true, beq_iff_eq] at hf
          have := labelP_le w
          by_cases hw : w = [45]
          · rw [if_pos hw]
            subst hw
            have h9 : labelP [45] = -1 := rfl
            exact ⟨by simp only; omega, fun _ => by omega, fun _ => by omega, fun _ => by omega, fun _ => .inr ⟨rfl, (hf.resolve_left (by omega)).1⟩⟩
          · rw [if_neg hw]
            exact ⟨hf.resolve_right fun e => hw e.2, fun _ => by omega, fun _ => by omega, fun _ => by omega, fun _ => .inl (by simp only; omega)⟩
        · rename_i h8
          rw [if_neg h8] at hf
          exact ⟨by simpa using hf, fun _ => by omega, fun _ => by omega, fun _ => by omega, fun _ => by omega⟩
/-- Tables only grow. -/
structure TabLe (o o' : LObj) : Prop where
  atoms : o.atoms <+: o'.atoms
  funs : o.funs <+: o'.funs
  preds : o.preds.length ≤ o'.preds.length
theorem TabLe.refl (o : LObj) : TabLe o o := ⟨List.prefix_refl _, List.prefix_refl _, Nat.le_refl _⟩
theorem TabLe.trans {a b c : LObj} (h : TabLe a b) (k : TabLe b c) : TabLe a c := ⟨h.atoms.trans k.atoms, h.funs.trans k.funs, Nat.le_trans h.preds k.preds⟩
theorem OpIn.mono {o o' : LObj} {op : Int} {k : Nat} {n : Int} (h : OpIn o op k n) (l : TabLe o o') : OpIn o' op k n := by
  have h1 := l.atoms.length_le
  have h2 := l.funs.length_le
  have h3 := l.preds
  exact ⟨h.low, fun e => by have := h.atom e; omega, fun e => by have := h.fun_ e; omega, fun e => by have := h.pred e; omega, h.label⟩
theorem predP_le (o : LObj) (f : LFun) : TabLe o (predP o f).1 := by
  unfold predP
  split
  · exact TabLe.refl o
  · exact ⟨List.prefix_refl _, List.prefix_refl _, by simp⟩
theorem operandP_le (o : LObj) (k : Nat) (w : Txt) : TabLe o (operandP o k w).1 := by
  unfold operandP
  split
  · exact ⟨idxL_pre _ _, List.prefix_refl _, Nat.le_refl _⟩
  · split
    · split
      · exact ⟨List.prefix_refl _, idxL_pre _ _, Nat.le_refl _⟩
      · exact TabLe.refl o
    · split
      · split
        · exact predP_le o _
        · exact TabLe.refl o
      · split <;> exact TabLe.refl o
theorem operandsP_le {n at_ : Nat} : ∀ (l : List (Nat × Txt)) (o : LObj) (j : Nat), TabLe o (operandsP n at_ o j l).1
  | [], o, _ => TabLe.refl o
  | (k, w) :: r, o, j => by
    rw [operandsP]
    exact (operandP_le o k w).trans (operandsP_le r _ _)
/-- All operands of a line are in range. -/
theorem operands_in {op : Int} {n at_ : Nat} : ∀ (l : List (Nat × Txt)) (o : LObj) (j : Nat), (l.all fun x => fitsP op x.1 x.2) = true → (operandsP n at_ o j l).2.1.length = l.length ∧ ∀ (i : Nat) (x : Nat × Txt) (v : Int), l[i]? = some x → (operandsP n at_ o j l).2.1[i]? = some v → OpIn (operandsP n at_ o j l).1 op x.1 v
  | [], o, _, _ => ⟨rfl, fun i x v hx => by simp at hx⟩
  | (k, w) :: r, o, j, hf => by
    rw [List.all_cons, Bool.and_eq_true] at hf
    obtain ⟨g1, g2⟩ := operands_in (n := n) (at_ := at_) r (operandP o k w).1 (j + 1) hf.2
    rw [operandsP]
    simp only
    refine ⟨by rw [List.length_cons, List.length_cons, g1], fun i x v hx hv => ?_⟩
    cases i with
    | zero =>
      simp only [List.getElem?_cons_zero, Option.some.injEq] at hx hv
      subst hx
      subst hv
      exact (operand_in o hf.1).mono (operandsP_le r _ _)
    | succ i =>
      simp only [List.getElem?_cons_succ] at hx hv
      exact g2 i x v hx hv
/-! ### The code -/
def CodeIn (o : LObj) : Prop := ∀ i ∈ o.code, 0 ≤ i.op ∧ ∀ j, j < (kindsOf i.op).length → OpIn o i.op ((kindsOf i.op).getD j 0).toNat (i.arg j)
theorem CodeIn.mono {o o' : LObj} (h : CodeIn o) (l : TabLe o o') (hc : o'.code = o.code) : CodeIn o' := fun i hi => by
  rw [hc] at hi
  exact ⟨(h i hi).1, fun j hj => ((h i hi).2 j hj).mono l⟩
theorem operandP_code (o : LObj) (k : Nat) (w : Txt) : (operandP o k w).1.code = o.code := by
  unfold operandP predP
  split
  · rfl
  · split
    · split <;> rfl
    · split
      · split
        · split <;> rfl
        · rfl
      · split <;> rfl
theorem operandsP_code {n at_ : Nat} : ∀ (l : List (Nat × Txt)) (o : LObj) (j : Nat), (operandsP n at_ o j l).1.code = o.code
  | [], o, _ => rfl
  | (k, w) :: r, o, j => by
    rw [operandsP]
    exact (operandsP_code r _ _).trans (operandP_code o k w)
theorem predP_code (o : LObj) (f : LFun) : (predP o f).1.code = o.code := by
  unfold predP
  split <;> rfl
theorem CodeIn.instr {S : AS} (h : CodeIn S.o) (w : List Txt) (n : Nat) : CodeIn (instrP S w n).1.o := by
  unfold instrP
  simp only
  split
  · exact h
  · rename_i hc
    have hop : ¬ namedT (w.headD []) < 0 := fun e => hc (.inl e)
    have hlen : w.length = ((kindsOf (namedT (w.headD []))).map Int.toNat).length + 1 := Classical.byContradiction fun e => hc (.inr (.inl e))
    have hall := Classical.byContradiction fun e => hc (.inr (.inr (Bool.not_eq_true _ ▸ e)))
    generalize namedT (w.headD []) = op at hop hlen hall ⊢
    obtain ⟨g1, g2⟩ := operands_in (n := S.o.code.length) (at_ := n) _ S.o 0 hall
    have hle := operandsP_le (n := S.o.code.length) (at_ := n) (((kindsOf op).map Int.toNat).zip w.tail) S.o 0
    have hcd := operandsP_code (n := S.o.code.length) (at_ := n) (((kindsOf op).map Int.toNat).zip w.tail) S.o 0
    generalize operandsP S.o.code.length n S.o 0 (((kindsOf op).map Int.toNat).zip w.tail) = q at g1 g2 hle hcd ⊢
    intro i hi
    rcases List.mem_append.1 hi with hi | hi
    · obtain ⟨k1, k2⟩ := (h.mono hle hcd) i hi
      exact ⟨k1, fun j hj => (k2 j hj).mono ⟨List.prefix_refl _, List.prefix_refl _, Nat.le_refl _⟩⟩
    · obtain rfl := List.mem_singleton.1 hi
      refine ⟨Int.not_lt.1 hop, fun j hj => ?_⟩
      have hj' : j < (kindsOf op).length := hj
      have hfew := kinds_few op
      rw [List.length_map] at hlen
      have hz : (((kindsOf op).map Int.toNat).zip w.tail).length = (kindsOf op).length := by simp; omega
      have hx := List.getElem?_eq_getElem (l := ((kindsOf op).map Int.toNat).zip w.tail) (i := j) (by omega)
      have hv := List.getElem?_eq_getElem (l := q.2.1) (i := j) (by omega)
      have h5 := g2 j _ _ hx hv
      have h6 : (insW op q.2.1).arg j = q.2.1[j]'(by omega) := by
        rw [insW_arg op q.2.1 (by omega), List.getD_eq_getElem?_getD, hv]
        rfl
      have h7 : ((((kindsOf op).map Int.toNat).zip w.tail)[j]'(by omega)).1 = ((kindsOf op).getD j 0).toNat := by
        rw [List.getElem_zip, List.getD_eq_getElem?_getD, List.getElem?_eq_getElem hj']
        simp
      rw [h7] at h5
      show OpIn _ op _ ((insW op q.2.1).arg j)
      rw [h6]
      exact h5.mono ⟨List.prefix_refl _, List.prefix_refl _, Nat.le_refl _⟩
theorem CodeIn.line {S : AS} (h : CodeIn S.o) (s : Txt) (n : Nat) : CodeIn (lineP S s n).1.o := by
  unfold lineP
  split
  · unfold beginP
    split
    · exact h
    · rename_i f hs
      simp only
      split
      · exact h
      · refine (h.mono (predP_le S.o f) (predP_code S.o f)).mono ⟨List.prefix_refl _, List.prefix_refl _, ?_⟩ rfl
        simp
  · split
    · unfold markP
      split
      · exact h
      · split
        · exact h
        · exact h
    · exact h.instr _ _
end Go.Proofs.YtpcihhdalofdiaaGreatDoor

/- Small laws for the walks of layer 9. No program in sight. -/
namespace Go.Proofs.YtpcihhdalofdiaaGreatDoor

/-- One more operand. -/
theorem operandsP_snoc (n at_ : Nat) (k : Nat) (w : Txt) : ∀ (l : List (Nat × Txt)) (o : LObj) (j : Nat), operandsP n at_ o j (l ++ [(k, w)]) =
    ((operandP (operandsP n at_ o j l).1 k w).1, (operandsP n at_ o j l).2.1 ++ [(operandP (operandsP n at_ o j l).1 k w).2],
      (operandsP n at_ o j l).2.2 ++ (if k = 8 ∧ (operandP (operandsP n at_ o j l).1 k w).2 ≠ 65535 then [(n, j + l.length, at_)] else []))
  | [], o, j => by simp only [List.nil_append, operandsP, List.append_nil, List.length_nil, Nat.add_zero]; congr
  | (k', w') :: l, o, j => by
    rw [List.cons_append, operandsP, operandsP_snoc n at_ k w l _ (j + 1), operandsP]
    simp [Nat.add_assoc, Nat.add_comm 1]
theorem operandsP_len (n at_ : Nat) : ∀ (l : List (Nat × Txt)) (o : LObj) (j : Nat), (operandsP n at_ o j l).2.1.length = l.length
  | [], _, _ => rfl
  | (k, w) :: l, o, j => by rw [operandsP]; simp [operandsP_len n at_ l]
theorem idxL_len {α : Type} [DecidableEq α] (l : List α) (x : α) : (idxL l x).length ≤ l.length + 1 := by
  unfold idxL
  split <;> simp
/-- How much longer the tables are. -/
structure Grows (o o' : LObj) (n : Nat) : Prop where
  atoms : o'.atoms.length ≤ o.atoms.length + n
  funs : o'.funs.length ≤ o.funs.length + n
  preds : o'.preds.length ≤ o.preds.length + n
  code : o'.code = o.code
theorem predP_grows (o : LObj) (f : LFun) : Grows o (predP o f).1 1 := by
  unfold predP
  split
  · exact ⟨by simp, by simp, by simp, rfl⟩
  · exact ⟨by simp, by simp, by simp, rfl⟩
theorem operandP_grows (o : LObj) (k : Nat) (w : Txt) : Grows o (operandP o k w).1 1 := by
  have z : Grows o o 1 := ⟨by omega, by omega, by omega, rfl⟩
  unfold operandP
  split
  · exact ⟨idxL_len _ _, by simp, by simp, rfl⟩
  · split
    · split
      · exact ⟨by simp, idxL_len _ _, by simp, rfl⟩
      · exact z
    · split
      · split
        · exact predP_grows o _
        · exact z
      · split <;> exact z
theorem operandsP_grows (n at_ : Nat) : ∀ (l : List (Nat × Txt)) (o : LObj) (j : Nat), Grows o (operandsP n at_ o j l).1 l.length
  | [], o, _ => ⟨by simp [operandsP], by simp [operandsP], by simp [operandsP], rfl⟩
  | (k, w) :: l, o, j => by
    have h1 := operandP_grows o k w
    have h2 := operandsP_grows n at_ l (operandP o k w).1 (j + 1)
    rw [operandsP]
    have a1 := h1.atoms
    have a2 := h1.funs
    have a3 := h1.preds
    have b1 := h2.atoms
    have b2 := h2.funs
    have b3 := h2.preds
    simp only [List.length_cons]
    exact ⟨by omega, by omega, by omega, h2.code.trans h1.code⟩
/-- The document's look for the first, as a list's place. -/
theorem findI_idx {α : Type} (p : α → Bool) (l : List α) : findI p l = match l.findIdx? p with
    | some k => (k : Int)
    | none => -1 := by
  unfold findI
  cases h : l.findIdx? p with
  | none =>
    rw [if_neg]
    rw [List.findIdx?_eq_none_iff] at h
    simp only [List.any_eq_true, not_exists, not_and, Bool.not_eq_true]
    exact h
  | some k =>
    have h1 := List.findIdx?_eq_some_iff_findIdx_eq.1 h
    rw [if_pos]
    · simp only [h1.2]
    · refine List.any_eq_true.2 ⟨l[k]'h1.1, List.getElem_mem _, ?_⟩
      have h2 := List.findIdx?_eq_some_iff_getElem.1 h
      exact h2.2.1
theorem all_take {α : Type} {p : α → Bool} {l : List α} {j : Nat} {x : α} (hx : l[j]? = some x) (h : (l.take j).all p = true) (hp : p x = true) : (l.take (j + 1)).all p = true := by
  rw [List.take_add_one, hx, List.all_append, h]
  simp [hp]
theorem all_noA {α : Type} {p : α → Bool} {l : List α} {j : Nat} {x : α} (hx : l[j]? = some x) (hp : p x = false) : l.all p = false := by
  rw [List.all_eq_false]
  exact ⟨x, List.mem_of_getElem? hx, by simp [hp]⟩
theorem zip_at {α β : Type} {l : List α} {m : List β} {j : Nat} {x : α} {y : β} (h : l[j]? = some x) (k : m[j]? = some y) : (l.zip m)[j]? = some (x, y) := by
  rw [List.getElem?_zip_eq_some]
  exact ⟨h, k⟩
theorem take_snocA {α : Type} {l : List α} {j : Nat} {x : α} (h : l[j]? = some x) : l.take (j + 1) = l.take j ++ [x] := by
  rw [List.take_add_one, h]
  rfl
end Go.Proofs.YtpcihhdalofdiaaGreatDoor

/- Whether a word fits; a predicate's number; what a word says: the program's. Printed by gen_aspred.py. -/
namespace Go.Proofs.YtpcihhdalofdiaaGreatDoor
open Go.RowKit Go.Maps
attribute [local irreducible] numT kindsOf nameOf checkE

theorem wdB_of (s : ByteArray) : wdB s.data.toList = s := by cases s; simp [wdB]
theorem fits_3 (op : Int) (w : Txt) : fitsP op 3 w = nameOk (wdB w) := rfl
theorem fits_4 (op : Int) (w : Txt) : fitsP op 4 w = (slashP w 1).isSome := rfl
theorem fits_7 (op : Int) (w : Txt) : fitsP op 7 w = (slashP w 0).isSome := rfl
theorem fits_8 (op : Int) (w : Txt) : fitsP op 8 w = (decide (0 ≤ labelP w) || (op == 26 && w == [45])) := rfl
theorem fits_o (op : Int) {k : Nat} (w : Txt) (h : k ≠ 3 ∧ k ≠ 4 ∧ k ≠ 7 ∧ k ≠ 8) : fitsP op k w = decide (0 ≤ plainP k w) := by
  unfold fitsP
  rw [if_neg h.1, if_neg h.2.1, if_neg h.2.2.1, if_neg h.2.2.2]
theorem opnd_3 (o : LObj) (w : Txt) : operandP o 3 w = ({ o with atoms := idxL o.atoms (wdB w) }, (idxA o.atoms (wdB w) : Int)) := rfl
theorem opnd_4 (o : LObj) (w : Txt) (h : (slashP w 1).isSome = true) : operandP o 4 w = ({ o with funs := idxL o.funs (funV w) }, (idxA o.funs (funV w) : Int)) := by
  cases hs : slashP w 1 with
  | none => rw [hs] at h; cases h
  | some f =>
    obtain rfl := slash_funV hs
    unfold operandP
    rw [if_neg (by decide), if_pos rfl, hs]
theorem opnd_7 (o : LObj) (w : Txt) (h : (slashP w 0).isSome = true) : operandP o 7 w = ((predP o (funV w)).1, ((predP o (funV w)).2 : Int)) := by
  cases hs : slashP w 0 with
  | none => rw [hs] at h; cases h
  | some f =>
    obtain rfl := slash_funV hs
    unfold operandP
    rw [if_neg (by decide), if_neg (by decide), if_pos rfl, hs]
theorem opnd_8 (o : LObj) (w : Txt) : operandP o 8 w = (o, if w = [45] then 65535 else labelP w) := rfl
theorem opnd_o (o : LObj) {k : Nat} (w : Txt) (h : k ≠ 3 ∧ k ≠ 4 ∧ k ≠ 7 ∧ k ≠ 8) : operandP o k w = (o, plainP k w) := by
  unfold operandP
  rw [if_neg h.1, if_neg h.2.1, if_neg h.2.2.1, if_neg h.2.2.2]
attribute [local irreducible] fitsP operandP plainP labelP slashP

theorem dash_is (s : ByteArray) : (s.toList == [45]) = (s.data.toList == [45]) := by rw [ByteArray.toList_eq]
set_option maxRecDepth 100000 in
set_option maxHeartbeats 3200000 in
theorem fits9_any (op : Int) (k : Nat) (hk : k ≤ 100) (s : ByteArray) (hl : s.size ≤ 4294967000) (w : World) (h : St w) :
    Calls Tryz.prog 81 #[.int .i64 op, .int .i64 k, .string s] w fun e w' => e = .returned (.bool (fitsP op k s.data.toList)) ∧ Keeps w w' [] := by
  obtain ⟨K, hK⟩ : ∃ K : Int, (k : Int) = K := ⟨_, rfl⟩
  by_cases h3 : k = 3
  · subst h3
    have HV : Hid (fitsP op 3 s.data.toList = nameOk s) := Lib.hid (by rw [fits_3, wdB_of])
    have d3 : (K == 3) = true := by rw [← hK]; rfl
    have HN := Lib.hid (name_any s w)
    rw [hK]
    clear hK
    go_enter Tryz.func81, Tryz.ntmps81
    go_wp2_with fail
    refine HN.out.mono ?_
    rintro e w1 ⟨rfl, k1⟩
    go_wp2_with fail
    go_ret
    exact ⟨by rw [HV.out]; rfl, k1⟩
  have d3 : (K == 3) = false := by rw [beq_eq_false_iff_ne]; omega
  by_cases h4 : k = 4
  · subst h4
    have HV := Lib.hid (fits_4 op s.data.toList)
    have d4 : (K == 4) = true := by rw [← hK]; rfl
    have HN := Lib.hid (fun9_any s 1 (by omega) w h)
    obtain ⟨b, hb⟩ : ∃ b, (slashP s.data.toList 1).isSome = b := ⟨_, rfl⟩
    rw [hb] at HN HV
    rw [hK]
    clear hK hb h3 hk h
    go_enter Tryz.func81, Tryz.ntmps81
    go_wp2_with fail
    refine HN.out.mono ?_
    rintro e w1 ⟨rfl, k1⟩
    have HK := Lib.hid (k1.alloc (.cells #[.string (funV s.data.toList).name, .int .i64 (funV s.data.toList).arity] 77))
    clear k1
    go_wp2_with fail
    go_ret
    exact ⟨by rw [HV.out]; rfl, HK.out⟩
  have d4 : (K == 4) = false := by rw [beq_eq_false_iff_ne]; omega
  by_cases h7 : k = 7
  · subst h7
    have HV := Lib.hid (fits_7 op s.data.toList)
    have d7 : (K == 7) = true := by rw [← hK]; rfl
    have HN := Lib.hid (fun9_any s 0 (by omega) w h)
    obtain ⟨b, hb⟩ : ∃ b, (slashP s.data.toList 0).isSome = b := ⟨_, rfl⟩
    rw [hb] at HN HV
    rw [hK]
    clear hK hb h3 hk h
    go_enter Tryz.func81, Tryz.ntmps81
    go_wp2_with fail
    refine HN.out.mono ?_
    rintro e w1 ⟨rfl, k1⟩
    have HK := Lib.hid (k1.alloc (.cells #[.string (funV s.data.toList).name, .int .i64 (funV s.data.toList).arity] 77))
    clear k1
    go_wp2_with fail
    go_ret
    exact ⟨by rw [HV.out]; rfl, HK.out⟩
  have d7 : (K == 7) = false := by rw [beq_eq_false_iff_ne]; omega
  by_cases h8 : k = 8
  · subst h8
    have HV := Lib.hid (fits_8 op s.data.toList)
    have d8 : (K == 8) = true := by rw [← hK]; rfl
    have HN := Lib.hid (label9_any s (by omega) w h)
    have hdash := dash_is s
    obtain ⟨b, hb⟩ : ∃ b, (s.data.toList == [45]) = b := ⟨_, rfl⟩
    rw [hb] at HV hdash
    generalize labelP s.data.toList = v at *
    rw [hK]
    clear hK hb h3 h4 h7 hk h
    by_cases hv : 0 ≤ v
    · have HW : Hid (fitsP op 8 s.data.toList = true) := Lib.hid (by rw [HV.out, decide_eq_true hv]; rfl)
      go_enter Tryz.func81, Tryz.ntmps81
      go_wp2_with fail
      refine HN.out.mono ?_
      rintro e w1 ⟨rfl, k1⟩
      go_wp2_with fail
      go_ret
      exact ⟨by rw [HW.out]; rfl, k1⟩
    · by_cases ho : op = 26
      · have HW : Hid (fitsP op 8 s.data.toList = (decide (0 ≤ v) || b)) := Lib.hid (by rw [HV.out, ho]; simp)
        have o1 : (op == 26) = true := by simpa using ho
        clear ho
        go_enter Tryz.func81, Tryz.ntmps81
        go_wp2_with fail
        refine HN.out.mono ?_
        rintro e w1 ⟨rfl, k1⟩
        go_wp2_with fail
        go_ret
        exact ⟨by rw [HW.out]; rfl, k1⟩
      · have o1 : (op == 26) = false := by simpa using ho
        have HW : Hid (fitsP op 8 s.data.toList = decide (0 ≤ v)) := Lib.hid (by rw [HV.out, o1]; simp)
        clear ho
        go_enter Tryz.func81, Tryz.ntmps81
        go_wp2_with fail
        refine HN.out.mono ?_
        rintro e w1 ⟨rfl, k1⟩
        go_wp2_with fail
        go_ret
        exact ⟨by rw [HW.out]; rfl, k1⟩
  have d8 : (K == 8) = false := by rw [beq_eq_false_iff_ne]; omega
  have HV := Lib.hid (fits_o op s.data.toList ⟨h3, h4, h7, h8⟩)
  have HN := Lib.hid (plain9_any k hk s hl w h)
  rw [hK] at HN ⊢
  generalize plainP k s.data.toList = v at *
  clear hK h3 h4 h7 h8 hk h
  go_enter Tryz.func81, Tryz.ntmps81
  go_wp2_with fail
  refine HN.out.mono ?_
  rintro e w1 ⟨rfl, k1⟩
  go_wp2_with fail
  go_ret
  exact ⟨by rw [HV.out]; rfl, k1⟩
/-- A predicate's number, as the object's look. -/
theorem pred_find (o : LObj) (f : LFun) : (0 ≤ findI (isKey f.name f.arity) o.preds ∧ (predP o f).1 = o ∧ ((predP o f).2 : Int) = findI (isKey f.name f.arity) o.preds) ∨ (findI (isKey f.name f.arity) o.preds = -1 ∧ (predP o f).1 = { o with preds := o.preds ++ [⟨f.name, f.arity, 65535⟩] } ∧ (predP o f).2 = o.preds.length) := by
  rw [findI_idx]
  unfold predP
  have e : (fun p : LPred => decide (p.name = f.name) && decide (p.arity = f.arity)) = isKey f.name f.arity := rfl
  rw [e]
  cases h : o.preds.findIdx? (isKey f.name f.arity) with
  | some k => exact .inl ⟨by simp only; omega, rfl, rfl⟩
  | none => exact .inr ⟨rfl, rfl, rfl⟩
set_option maxRecDepth 100000 in
set_option maxHeartbeats 3200000 in
theorem predA_any {w0 w : World} {ab nl : Nat} {L : List Nat} {S : AS} (hA : As w0 w ab L nl S) (f : LFun) (hf : Fits S.o) (hn : S.o.preds.length ≤ 65000) :
    Calls Tryz.prog 75 #[.pointer (some ⟨ab, 0, none⟩), .agg #[.string f.name, .int .i64 f.arity]] w fun e w' => e = .returned (.int .i64 ((predP S.o f).2 : Nat)) ∧ ∃ L', As w0 w' ab L' nl { S with o := (predP S.o f).1 } ∧ ASt w L w' L' := by
  have HAs := Lib.hid hA
  obtain ⟨vb, AA, FA, PA, CA, UA, BA, ca, cf, cp, cc, cu, cb, hm, hL, hlt⟩ := hA
  have HL := Lib.hid hL
  have HLt := Lib.hid hlt
  have HM := Lib.hid hm
  have HN := Lib.hid hn
  have K0 : Keeps w (w.alloc (.cells #[.string f.name, .int .i64 f.arity] 77)) [] := (Keeps.refl w []).alloc _
  have HBx : Hid (Blk (w.alloc (.cells #[.string f.name, .int .i64 f.arity] 77)) w.heap.size 77 #[.string f.name, .int .i64 f.arity]) := Blk.new _ _ _
  have HM0 := Lib.hid (hm.keep0 K0)
  have HK0 := Lib.hid K0
  have HC := Lib.hid (find_any S.o f.name f.arity AA FA PA CA _ _ _ _ ca cf cp cc (w.alloc (.cells #[.string f.name, .int .i64 f.arity] 77)).drew (HM0.out.ob.keep (Keeps.refl _ _).drew) hf rfl rfl rfl rfl)
  clear hm hL hlt hn K0 hf
  obtain ⟨na, hna⟩ : ∃ n, S.o.atoms.length = n := ⟨_, rfl⟩
  obtain ⟨nf, hnf⟩ : ∃ n, S.o.funs.length = n := ⟨_, rfl⟩
  obtain ⟨n, hnl⟩ : ∃ n, S.o.preds.length = n := ⟨_, rfl⟩
  obtain ⟨nc, hnc⟩ : ∃ n, S.o.code.length = n := ⟨_, rfl⟩
  have HNl := Lib.hid hnl
  rw [hna, hnf, hnl, hnc] at HC
  have HW0 : Hid (∀ W, Keeps (w.alloc (.cells #[.string f.name, .int .i64 f.arity] 77)) W [] → ((W.cell? ⟨ab, 0, none⟩ = some (.slice AA na ca) ∧ W.cell? ⟨ab, 1, none⟩ = some (.slice FA nf cf) ∧ W.cell? ⟨ab, 2, none⟩ = some (.slice PA n cp) ∧ W.cell? ⟨ab, 3, none⟩ = some (.slice CA nc cc)) ∧ W.cell? ⟨w.heap.size, 0, none⟩ = some (.string f.name) ∧ W.cell? ⟨w.heap.size, 1, none⟩ = some (.int .i64 f.arity))) := fun W kk => by
    have b := HM0.out.blk.keep kk (by simp)
    have q0 := b.cell 0
    have q1 := b.cell 1
    have q2 := b.cell 2
    have q3 := b.cell 3
    simp only [List.getElem?_toArray, List.getElem?_cons_zero, List.getElem?_cons_succ, hna, hnf, hnl, hnc] at q0 q1 q2 q3
    exact ⟨⟨q0, q1, q2, q3⟩, (HBx.out.keep kk (by simp)).cell 0, (HBx.out.keep kk (by simp)).cell 1⟩
  clear hnl hna hnf hnc
  go_enter Tryz.func75, Tryz.ntmps75
  go_upto_region 1 with fail
  refine wp_region_tx (fun W' => ((W'.cell? ⟨ab, 0, none⟩ = some (.slice AA na ca) ∧ W'.cell? ⟨ab, 1, none⟩ = some (.slice FA nf cf) ∧ W'.cell? ⟨ab, 2, none⟩ = some (.slice PA n cp) ∧ W'.cell? ⟨ab, 3, none⟩ = some (.slice CA nc cc)) ∧ W'.cell? ⟨w.heap.size, 0, none⟩ = some (.string f.name) ∧ W'.cell? ⟨w.heap.size, 1, none⟩ = some (.int .i64 f.arity))) [(0, true), (1, true), (2, true), (3, true), (4, true), (5, true), (6, true), (7, true), (8, false), (9, false)] (by kernel_rfl) (by kernel_rfl) (HW0.out _ (Keeps.refl _ _).drew) (fun hHeld => ?_)
  (repeat (first | (refine wpTx_take (v := ?_) rfl (by assumption) ?_ (by rfl) ?_; rotate_left; (focus (intro w' hSw; (try dsimp only at hSw); go_simp; (try with_reducible rfl); done)); simp only [Act.put, List.setIfInBounds_toArray, List.set_cons_zero, List.set_cons_succ]) | (refine wpTx_skip rfl (by assumption) (by rfl) ?_; simp only [Act.put, List.setIfInBounds_toArray, List.set_cons_zero, List.set_cons_succ])))
  refine wpTx_go rfl (fun K hK => ?_)
  go_simp
  refine HC.out.mono ?_
  rintro e w1 ⟨rfl, k1'⟩
  have k1 := (Keeps.refl (w.alloc (.cells #[.string f.name, .int .i64 f.arity] 77)) []).drew.trans k1'
  clear k1'
  have HWk := Lib.hid (HW0.out _ k1)
  refine hK.out _ _ ?_ ?_
  · exact HWk.out
  (clear hHeld; intro hHeld; clear hK K; (try simp only [Act.put, List.setIfInBounds_toArray, List.set_cons_zero, List.set_cons_succ]))
  refine wpTx_last rfl (fun K hK => ?_)
  go_simp
  refine hK.out _ _ (NoPanic.normal ?_); clear hK K; (try simp only [Act.put, List.setIfInBounds_toArray, List.set_cons_zero, List.set_cons_succ])
  clear hHeld HWk HW0
  have HM1 := Lib.hid (HM0.out.keep0 k1)
  have HK1 := Lib.hid (HK0.out.trans k1)
  have HK01 := Lib.hid k1
  have q1 := HM1.out.blk.cell 2
  have f1 := HM1.out.blk.frozen 2
  simp only [List.getElem?_toArray, List.getElem?_cons_zero, List.getElem?_cons_succ, HNl.out] at q1
  clear k1 HC
  rcases pred_find S.o f with ⟨h0, h1, h2⟩ | ⟨h0, h1, h2⟩
  · have HE1 := Lib.hid h1
    have HE2 := Lib.hid h2
    clear h1 h2
    generalize findI (isKey f.name f.arity) S.o.preds = q at *
    go_wp2_with fail
    go_ret
    rw [HE1.out, HE2.out]
    exact ⟨rfl, L, HAs.out.keep0 HK1.out, ASt.of_keeps HK1.out L⟩
  · have HE1 := Lib.hid h1
    have HE2 := Lib.hid h2
    clear h1 h2
    rw [h0]
    clear h0
    have HO1 : Hid (w1.ownsRow w0.heap.size 52 3 (.slice PA n cp) n (S.o.preds.flatMap predE)) := Lib.hid (by have := HM1.out.preds; rwa [HNl.out] at this)
    have HW : Hid (∀ W, Keeps w1 W [] → ((W.cell? ⟨ab, 2, none⟩ = some (.slice PA n cp) ∧ W.cell? ⟨w.heap.size, 0, none⟩ = some (.string f.name) ∧ W.cell? ⟨w.heap.size, 1, none⟩ = some (.int .i64 f.arity)) ∧ W.frozen? ⟨ab, 2, none⟩ = false)) := fun W kk => ⟨⟨by have b := HM1.out.blk.keep kk (by simp); have := b.cell 2; simp only [List.getElem?_toArray, List.getElem?_cons_zero, List.getElem?_cons_succ, HNl.out] at this; exact this, (HBx.out.keep (HK01.out.trans kk) (by simp)).cell 0, (HBx.out.keep (HK01.out.trans kk) (by simp)).cell 1⟩, (HM1.out.blk.keep kk (by simp)).frozen 2⟩
    clear f1
    go_upto_region 4 with fail
    clear q1
    refine wp_region_tx (fun W' => ((W'.cell? ⟨ab, 2, none⟩ = some (.slice PA n cp) ∧ W'.cell? ⟨w.heap.size, 0, none⟩ = some (.string f.name) ∧ W'.cell? ⟨w.heap.size, 1, none⟩ = some (.int .i64 f.arity)) ∧ W'.frozen? ⟨ab, 2, none⟩ = false)) [(0, true), (1, true), (2, true), (3, true), (4, true), (5, true), (6, true), (7, true), (8, true), (9, true), (10, true), (11, false), (12, false), (13, true), (14, true), (15, true), (16, false)] (by kernel_rfl) (by kernel_rfl) (HW.out _ (Keeps.refl _ _).drew) (fun hHeld => ?_)
    (repeat (first | (refine wpTx_take (v := ?_) rfl (by assumption) ?_ (by rfl) ?_; rotate_left; (focus (intro w' hSw; (try dsimp only at hSw); go_simp; (try with_reducible rfl); done)); simp only [Act.put, List.setIfInBounds_toArray, List.set_cons_zero, List.set_cons_succ]) | (refine wpTx_skip rfl (by assumption) (by rfl) ?_; simp only [Act.put, List.setIfInBounds_toArray, List.set_cons_zero, List.set_cons_succ])))
    refine wpTx_go rfl (fun K hK => ?_)
    go_simp
    refine hK.out _ _ ?_ ?_
    · exact HW.out _ ((Keeps.refl _ _).drew.alloc _)
    (clear hHeld; intro hHeld; clear hK K; (try simp only [Act.put, List.setIfInBounds_toArray, List.set_cons_zero, List.set_cons_succ]))
    refine wpTx_go rfl (fun K hK => ?_)
    have K5 : Keeps w1 (w1.drew.alloc (.cells #[.string f.name, .int .i64 f.arity, .int .i64 65535] 52)) [] := (Keeps.refl w1 []).drew.alloc _
    refine step_app _ el_predA (by rfl) _ _ (by rfl) w0.heap.size PA n cp (S.o.preds.flatMap predE) (by rfl) (own_keep0 HO1.out K5) (some ⟨w1.heap.size, 0, none⟩) 1 1 (predE ⟨f.name, f.arity, 65535⟩) (by rfl) (Rd.one w1.drew _ (predE ⟨f.name, f.arity, 65535⟩)) rfl (by simp) (by simp [predE, Value.oneCell']) (by have := HN.out; have := HNl.out; omega) (Nat.le_trans HM1.out.bel.size K5.size) ?_
    intro A' c' w2 hown hgrow hat
    have HAp := Lib.hid (app_factsA K5 hown hgrow hat)
    have hB2 := HM1.out.blk.grownA K5 hgrow (own_outA HM1.out.preds HM1.out.blk (by decide))
    have hb1 := (HBx.out.keep HK01.out (by simp)).grownA K5 hgrow (fun hm => by have := (own_ltA HM.out.preds _ hm).2; omega)
    have HB2 : Hid (w2.cell? ⟨ab, 2, none⟩ = some (.slice PA S.o.preds.length cp) ∧ w2.frozen? ⟨ab, 2, none⟩ = false) := ⟨hB2.cell 2, hB2.frozen 2⟩
    have HX2 : Hid (w2.cell? ⟨w.heap.size, 0, none⟩ = some (.string f.name) ∧ w2.cell? ⟨w.heap.size, 1, none⟩ = some (.int .i64 f.arity)) := ⟨hb1.cell 0, hb1.cell 1⟩
    clear hown hgrow hat K5 hB2 hb1
    refine hK.out _ _ ?_ ?_
    · exact ⟨⟨by rw [← HNl.out]; exact HB2.out.1, HX2.out.1, HX2.out.2⟩, HB2.out.2⟩
    (clear hHeld; intro hHeld; clear hK K; (try simp only [Act.put, List.setIfInBounds_toArray, List.set_cons_zero, List.set_cons_succ]))
    (repeat (first | (refine wpTx_take (v := ?_) rfl (by assumption) ?_ (by rfl) ?_; rotate_left; (focus (intro w' hSw; (try dsimp only at hSw); go_simp; (try with_reducible rfl); done)); simp only [Act.put, List.setIfInBounds_toArray, List.set_cons_zero, List.set_cons_succ]) | (refine wpTx_skip rfl (by assumption) (by rfl) ?_; simp only [Act.put, List.setIfInBounds_toArray, List.set_cons_zero, List.set_cons_succ])))
    refine wpTx_last rfl (fun K hK => ?_)
    go_simp
    refine hK.out _ _ (NoPanic.normal ?_); clear hK K; (try simp only [Act.put, List.setIfInBounds_toArray, List.set_cons_zero, List.set_cons_succ])
    clear hHeld
    go_wp2_with fail
    go_ret
    obtain ⟨a1, a2, a3⟩ := HAp.out
    have hlen : (S.o.preds ++ [(⟨f.name, f.arity, 65535⟩ : LPred)]).length = n + 1 := by rw [List.length_append, HNl.out]; rfl
    have hz1 := HK1.out.size
    obtain ⟨L', g1, g2⟩ := HM1.out.preds_pack HL.out (fun b hb => ⟨(HLt.out b hb).1, Nat.lt_of_lt_of_le (HLt.out b hb).2 hz1⟩) a2 (A' := A') (c' := c') (l' := S.o.preds ++ [⟨f.name, f.arity, 65535⟩]) (by rw [hlen, List.flatMap_append]; simpa using a1) a3
    rw [hlen] at g1 g2
    rw [HE1.out, HE2.out, HNl.out]
    exact ⟨rfl, L', g1, (ASt.of_keeps HK1.out L).trans g2⟩
/-- What an operand leaves: its number, the object behind it. -/
def OpDone (w0 w : World) (ab nl : Nat) (L : List Nat) (S : AS) (r : LObj × Int) (e : Ending) (w' : World) : Prop := e = .returned (.int .i64 r.2) ∧ ∃ L', As w0 w' ab L' nl { S with o := r.1 } ∧ ASt w L w' L'
set_option maxRecDepth 100000 in
set_option maxHeartbeats 3200000 in
theorem operandA_any {w0 w : World} {ab nl : Nat} {L : List Nat} {S : AS} (hA : As w0 w ab L nl S) (op : Int) (k : Nat) (hk : k ≤ 100) (s : ByteArray) (hl : s.size ≤ 4294967000) (hf : Fits S.o) (hn : S.o.atoms.length ≤ 65000 ∧ S.o.funs.length ≤ 65000 ∧ S.o.preds.length ≤ 65000) (hfit : fitsP op k s.data.toList = true) :
    Calls Tryz.prog 83 #[.pointer (some ⟨ab, 0, none⟩), .int .i64 k, .string s] w (OpDone w0 w ab nl L S (operandP S.o k s.data.toList)) := by
  have HAs := Lib.hid hA
  have h := hA.st_
  obtain ⟨K, hK⟩ : ∃ K : Int, (k : Int) = K := ⟨_, rfl⟩
  by_cases h3 : k = 3
  · subst h3
    have d3 : (K == 3) = true := by rw [← hK]; rfl
    have HN := Lib.hid (indexStr_any hA s hn.1)
    rw [opnd_3, wdB_of, hK]
    clear hK hA hf hn hfit h
    go_enter Tryz.func83, Tryz.ntmps83
    go_wp2_with fail
    refine HN.out.mono ?_
    rintro e w1 ⟨rfl, hp⟩
    have HP := Lib.hid hp
    clear hp
    go_wp2_with fail
    go_ret
    exact ⟨rfl, HP.out⟩
  have d3 : (K == 3) = false := by rw [beq_eq_false_iff_ne]; omega
  by_cases h4 : k = 4
  · subst h4
    have d4 : (K == 4) = true := by rw [← hK]; rfl
    rw [fits_4] at hfit
    have HN := Lib.hid (fun9_any s 1 (by omega) w h)
    rw [opnd_4 _ _ hfit, hK]
    rw [hfit] at HN
    have HI : Hid (∀ w1, Keeps w w1 [] → _) := fun w1 (k1 : Keeps w w1 []) => indexFun_any (HAs.out.keep0 k1) (funV s.data.toList) hn.2.1
    clear hK hA hf hn hfit h hk hl
    generalize funV s.data.toList = f at *
    go_enter Tryz.func83, Tryz.ntmps83
    go_wp2_with fail
    refine HN.out.mono ?_
    rintro e w1 ⟨rfl, k1⟩
    have HK := Lib.hid (k1.alloc (.cells #[.string f.name, .int .i64 f.arity] 77))
    have HK1s := Lib.hid k1.size
    have HI1 := Lib.hid (HI.out _ HK.out.drew)
    have HBb : Hid (Blk (w1.alloc (.cells #[.string f.name, .int .i64 f.arity] 77)) w1.heap.size 77 #[.string f.name, .int .i64 f.arity]) := Blk.new _ _ _
    clear k1 HI
    go_upto_region 6 with fail
    refine wp_region_tx (fun W' => W'.cell? ⟨w1.heap.size, 0, none⟩ = some (.string f.name) ∧ W'.cell? ⟨w1.heap.size, 1, none⟩ = some (.int .i64 f.arity)) [(0, true), (1, true), (2, true), (3, true), (4, true), (5, true), (6, false), (7, false)] (by kernel_rfl) (by kernel_rfl) ⟨HBb.out.cell 0, HBb.out.cell 1⟩ (fun hHeld => ?_)
    (repeat (first | (refine wpTx_take (v := ?_) rfl (by assumption) ?_ (by rfl) ?_; rotate_left; (focus (intro w' hSw; (try dsimp only at hSw); go_simp; (try with_reducible rfl); done)); simp only [Act.put, List.setIfInBounds_toArray, List.set_cons_zero, List.set_cons_succ]) | (refine wpTx_skip rfl (by assumption) (by rfl) ?_; simp only [Act.put, List.setIfInBounds_toArray, List.set_cons_zero, List.set_cons_succ])))
    refine wpTx_go rfl (fun K hK => ?_)
    go_simp
    refine HI1.out.mono ?_
    rintro e w2 ⟨rfl, L', hp, hs⟩
    have HP := Lib.hid (And.intro hp hs)
    have hbx := HBb.out.drew.keep (w' := w2) hs.keep (fun hm => absurd (HAs.out.lt _ hm).2 (Nat.not_lt.2 HK1s.out))
    have HBx2 := Lib.hid (And.intro (hbx.cell 0) (hbx.cell 1))
    clear hp hs hbx
    refine hK.out _ _ ?_ ?_
    · exact HBx2.out
    (clear hHeld; intro hHeld; clear hK K; (try simp only [Act.put, List.setIfInBounds_toArray, List.set_cons_zero, List.set_cons_succ]))
    refine wpTx_last rfl (fun K hK => ?_)
    go_simp
    refine hK.out _ _ (NoPanic.normal ?_); clear hK K; (try simp only [Act.put, List.setIfInBounds_toArray, List.set_cons_zero, List.set_cons_succ])
    clear hHeld
    go_wp2_with fail
    go_ret
    exact ⟨rfl, L', HP.out.1, (ASt.of_keeps HK.out.drew L).trans HP.out.2⟩
  have d4 : (K == 4) = false := by rw [beq_eq_false_iff_ne]; omega
  by_cases h7 : k = 7
  · subst h7
    have d7 : (K == 7) = true := by rw [← hK]; rfl
    rw [fits_7] at hfit
    have HN := Lib.hid (fun9_any s 0 (by omega) w h)
    rw [opnd_7 _ _ hfit, hK]
    rw [hfit] at HN
    have HI : Hid (∀ w1, Keeps w w1 [] → _) := fun w1 (k1 : Keeps w w1 []) => predA_any (HAs.out.keep0 k1) (funV s.data.toList) hf hn.2.2
    clear hK hA hf hn hfit h hk hl
    generalize funV s.data.toList = f at *
    go_enter Tryz.func83, Tryz.ntmps83
    go_wp2_with fail
    refine HN.out.mono ?_
    rintro e w1 ⟨rfl, k1⟩
    have HK := Lib.hid (k1.alloc (.cells #[.string f.name, .int .i64 f.arity] 77))
    have HK1s := Lib.hid k1.size
    have HI1 := Lib.hid (HI.out _ HK.out)
    clear k1 HI
    go_wp2_with fail
    refine HI1.out.mono ?_
    rintro e w2 ⟨rfl, L', hp, hs⟩
    have HP := Lib.hid (And.intro hp hs)
    clear hp hs
    go_wp2_with fail
    go_ret
    exact ⟨rfl, L', HP.out.1, (ASt.of_keeps HK.out L).trans HP.out.2⟩
  have d7 : (K == 7) = false := by rw [beq_eq_false_iff_ne]; omega
  by_cases h8 : k = 8
  · subst h8
    have d8 : (K == 8) = true := by rw [← hK]; rfl
    have HN := Lib.hid (label9_any s (by omega) w h)
    have hdash := dash_is s
    rw [opnd_8, hK]
    clear hK hA hf hn hfit h
    by_cases hw : s.data.toList = [45]
    · have d0 : (s.toList == [45]) = true := by rw [hdash]; simpa using hw
      rw [if_pos hw]
      clear hw hdash
      go_enter Tryz.func83, Tryz.ntmps83
      go_wp2_with fail
      go_ret
      exact ⟨rfl, L, HAs.out, ASt.refl _ _⟩
    · have d0 : (s.toList == [45]) = false := by rw [hdash]; simpa using hw
      rw [if_neg hw]
      clear hw hdash
      go_enter Tryz.func83, Tryz.ntmps83
      go_wp2_with fail
      refine HN.out.mono ?_
      rintro e w1 ⟨rfl, k1⟩
      go_wp2_with fail
      go_ret
      exact ⟨rfl, L, HAs.out.keep0 k1, ASt.of_keeps k1 L⟩
  have d8 : (K == 8) = false := by rw [beq_eq_false_iff_ne]; omega
  have HN := Lib.hid (plain9_any k hk s hl w h)
  rw [opnd_o _ _ ⟨h3, h4, h7, h8⟩, hK]
  rw [hK] at HN
  clear hK hA hf hn hfit h h3 h4 h7 h8
  go_enter Tryz.func83, Tryz.ntmps83
  go_wp2_with fail
  refine HN.out.mono ?_
  rintro e w1 ⟨rfl, k1⟩
  go_wp2_with fail
  go_ret
  exact ⟨rfl, L, HAs.out.keep0 k1, ASt.of_keeps k1 L⟩
end Go.Proofs.YtpcihhdalofdiaaGreatDoor

/- Objects that may be, as their lines are told: plain facts. No program in sight. -/
namespace Go.Proofs.YtpcihhdalofdiaaGreatDoor

/-- What Check has looked at. -/
structure ObjOk (o : LObj) : Prop where
  big : bigO o = false
  atoms : ∀ s ∈ o.atoms, nameOk s = true
  funs : ∀ f ∈ o.funs, funOk f = true
  preds : ∀ p ∈ o.preds, predOk p = true
  dup : dupO o = false
  ents : entriesB o = true
  code : ∀ i ∈ o.code, insErr o i = 0
theorem codeErr_all {o : LObj} : ∀ {l : List LIns}, codeErr o l = 0 → ∀ i ∈ l, insErr o i = 0
  | [], _, i, hi => absurd hi (List.not_mem_nil)
  | x :: l, h, i, hi => by
    rw [codeErr] at h
    by_cases hx : insErr o x = 0
    · rw [if_pos hx] at h
      rcases List.mem_cons.1 hi with rfl | hi
      · exact hx
      · exact codeErr_all h i hi
    · rw [if_neg hx] at h
      exact absurd h hx
theorem codeErr_zero {o : LObj} : ∀ {l : List LIns}, (∀ i ∈ l, insErr o i = 0) → codeErr o l = 0
  | [], _ => rfl
  | x :: l, h => by rw [codeErr, if_pos (h x (by simp))]; exact codeErr_zero fun i hi => h i (by simp [hi])
theorem check_ok {o : LObj} (h : checkE o = 0) : ObjOk o := by
  unfold checkE at h
  split at h
  · cases h
  · rename_i h1
    split at h
    · cases h
    · rename_i h2
      split at h
      · cases h
      · rename_i h3
        split at h
        · cases h
        · rename_i h4
          have h2' : namedB o = true := by simpa using h2
          unfold namedB at h2'
          simp only [Bool.and_eq_true, List.all_eq_true] at h2'
          exact ⟨by simpa using h1, h2'.1, h2'.2.1, h2'.2.2, by simpa using h3, by simpa using h4, codeErr_all h⟩
theorem ok_check {o : LObj} (h : ObjOk o) : checkE o = 0 := by
  unfold checkE
  have h2 : namedB o = true := by
    unfold namedB
    simp only [Bool.and_eq_true, List.all_eq_true]
    exact ⟨h.atoms, h.funs, h.preds⟩
  rw [h.big, h2, h.dup, h.ents]
  simp [codeErr_zero h.code]
end Go.Proofs.YtpcihhdalofdiaaGreatDoor

/- Labels become places: the plain law of settle, what the uses of labels are. No program in sight. -/
namespace Go.Proofs.YtpcihhdalofdiaaGreatDoor

theorem setArg_arg {i : LIns} {k j : Nat} {v : Int} (hk : k < 4) (hj : j < 4) : (setArg i k v).arg j = if j = k then v else i.arg j := by
  match k, hk, j, hj with
  | 0, _, 0, _ => rfl
  | 0, _, 1, _ => rfl
  | 0, _, 2, _ => rfl
  | 0, _, 3, _ => rfl
  | 1, _, 0, _ => rfl
  | 1, _, 1, _ => rfl
  | 1, _, 2, _ => rfl
  | 1, _, 3, _ => rfl
  | 2, _, 0, _ => rfl
  | 2, _, 1, _ => rfl
  | 2, _, 2, _ => rfl
  | 2, _, 3, _ => rfl
  | 3, _, 0, _ => rfl
  | 3, _, 1, _ => rfl
  | 3, _, 2, _ => rfl
  | 3, _, 3, _ => rfl
def noI : LIns := ⟨0, 0, 0, 0, 0⟩
/-- A use's label is put in, where it is right. -/
def putU (S : AS) (c : List LIns) (u : Nat × Nat × Nat) : List LIns := if badUse S u = true then c else c.modify u.1 fun i => setArg i u.2.1 (((useAt S u).getD 0 : Nat) : Int)
def codeK (S : AS) (k : Nat) : List LIns := (S.uses.take k).foldl (putU S) S.o.code
theorem codeK_zero (S : AS) : codeK S 0 = S.o.code := rfl
theorem codeK_succ {S : AS} {k : Nat} {u : Nat × Nat × Nat} (h : S.uses[k]? = some u) : codeK S (k + 1) = putU S (codeK S k) u := by
  unfold codeK
  rw [take_snocA h, List.foldl_append]
  rfl
theorem putU_len (S : AS) (c : List LIns) (u : Nat × Nat × Nat) : (putU S c u).length = c.length := by
  unfold putU
  split <;> simp
theorem fold_len (S : AS) : ∀ (l : List (Nat × Nat × Nat)) (c : List LIns), (l.foldl (putU S) c).length = c.length
  | [], _ => rfl
  | u :: l, c => by rw [List.foldl_cons, fold_len S l, putU_len]
theorem codeK_len (S : AS) (k : Nat) : (codeK S k).length = S.o.code.length := fold_len S _ _
theorem putU_arg {S : AS} {c : List LIns} {u : Nat × Nat × Nat} {a b : Nat} (hu : u.2.1 < 4) (hb : b < 4) (hne : (u.1, u.2.1) ≠ (a, b)) : ((putU S c u)[a]?).map (·.arg b) = (c[a]?).map (·.arg b) := by
  unfold putU
  split
  · rfl
  · rw [List.getElem?_modify]
    by_cases h1 : u.1 = a
    · cases hc : c[a]? with
      | none => rfl
      | some i =>
        simp only [h1, if_true]
        show some ((setArg i u.2.1 (((useAt S u).getD 0 : Nat) : Int)).arg b) = some (i.arg b)
        rw [setArg_arg hu hb, if_neg (fun e => hne (by rw [h1, e]))]
    · cases hc : c[a]? with
      | none => simp [h1]
      | some i => simp [h1]
theorem fold_arg (S : AS) {a b : Nat} (hb : b < 4) : ∀ (l : List (Nat × Nat × Nat)) (c : List LIns), (∀ u ∈ l, u.2.1 < 4 ∧ (u.1, u.2.1) ≠ (a, b)) → ((l.foldl (putU S) c)[a]?).map (·.arg b) = (c[a]?).map (·.arg b)
  | [], _, _ => rfl
  | u :: l, c, h => by
    rw [List.foldl_cons, fold_arg S hb l _ (fun x hx => h x (by simp [hx])), putU_arg (h u (by simp)).1 hb (h u (by simp)).2]
/-- What is known of the uses of labels. -/
structure UsesI (S : AS) : Prop where
  here : ∀ u ∈ S.uses, u.2.1 < 4 ∧ ∃ i, S.o.code[u.1]? = some i ∧ -1 ≤ i.arg u.2.1 ∧ i.arg u.2.1 ≤ 65535
  one : (S.uses.map fun u => (u.1, u.2.1)).Nodup
theorem codeK_arg {S : AS} (h : UsesI S) {k : Nat} {u : Nat × Nat × Nat} (hu : S.uses[k]? = some u) : ∃ i, (codeK S k)[u.1]? = some i ∧ i.arg u.2.1 = (S.o.code.getD u.1 noI).arg u.2.1 ∧ -1 ≤ i.arg u.2.1 ∧ i.arg u.2.1 ≤ 65535 ∧ u.2.1 < 4 := by
  obtain ⟨h4, i, hi, hi1, hi2⟩ := h.here u (List.mem_of_getElem? hu)
  have hf := fold_arg S (a := u.1) h4 (S.uses.take k) S.o.code (fun x hx => by
    refine ⟨(h.here x (List.mem_of_mem_take hx)).1, fun e => ?_⟩
    obtain ⟨j, hj⟩ := List.getElem?_of_mem hx
    rw [List.getElem?_take] at hj
    split at hj
    · rename_i hjk
      have h1 : (S.uses.map fun u => (u.1, u.2.1))[j]? = some (u.1, u.2.1) := by rw [List.getElem?_map, hj, ← e]; rfl
      have h2 : (S.uses.map fun u => (u.1, u.2.1))[k]? = some (u.1, u.2.1) := by rw [List.getElem?_map, hu]; rfl
      have hk1 := (List.getElem?_eq_some_iff.1 h2).1
      have := (List.getElem?_inj (by omega) h.one).1 (h1.trans h2.symm)
      omega
    · cases hj)
  rw [hi] at hf
  unfold codeK
  cases hc : (List.foldl (putU S) S.o.code (S.uses.take k))[u.1]? with
  | none => rw [hc] at hf; cases hf
  | some i' =>
    rw [hc] at hf
    simp only [Option.map_some, Option.some.injEq] at hf
    refine ⟨i', rfl, ?_, by rw [hf]; exact hi1, by rw [hf]; exact hi2, h4⟩
    rw [hf, List.getD_eq_getElem?_getD, hi]
    rfl
/-! ### What is wrong -/
def useW (S : AS) (l : List (Nat × Nat × Nat)) : List (Int × Nat) := (l.filter (badUse S)).map fun u => ((10 : Int), u.2.2)
def begW (S : AS) (l : List (Nat × Nat)) : List (Int × Nat) := (badBegins S l).map fun n => ((7 : Int), n)
theorem wrongs_is (S : AS) : wrongs S = useW S S.uses ++ begW S S.begins := rfl
theorem useW_cons (S : AS) (u : Nat × Nat × Nat) (l : List (Nat × Nat × Nat)) : useW S (u :: l) = (if badUse S u = true then [((10 : Int), u.2.2)] else []) ++ useW S l := by
  unfold useW
  rw [List.filter_cons]
  split <;> rfl
/-- Is a beginning wrong, with the next one? -/
def begBad (S : AS) (b : Nat × Nat) (r : List (Nat × Nat)) : Bool := decide ((S.o.code.length : Int) ≤ entryAt S b) || (match r with
  | [] => false
  | c :: _ => decide (entryAt S c = entryAt S b))
theorem begW_cons (S : AS) (b : Nat × Nat) (r : List (Nat × Nat)) : begW S (b :: r) = (if begBad S b r = true then [((7 : Int), b.2)] else []) ++ begW S r := by
  unfold begW begBad
  cases r with
  | nil =>
    have e1 : badBegins S [b] = if (S.o.code.length : Int) ≤ entryAt S b then [b.2] else [] := rfl
    have e2 : badBegins S [] = [] := rfl
    rw [e1, e2]
    by_cases h : (S.o.code.length : Int) ≤ entryAt S b
    · rw [if_pos h]; simp [h]
    · rw [if_neg h]; simp [h]
  | cons c r =>
    rw [badBegins]
    by_cases h : (S.o.code.length : Int) ≤ entryAt S b ∨ entryAt S c = entryAt S b
    · rw [if_pos h, if_pos (by simpa using h), List.map_append]; rfl
    · rw [if_neg h, if_neg (by simpa using h), List.map_append]; rfl
/-- The worse of two. -/
def worse (e : Int × Int) (f : Int) (n : Int) : Int × Int := if e.2 < 0 ∨ n < e.2 then (f, n) else e
theorem least_cons (e : Int × Int) (f : Int) (n : Nat) (r : List (Int × Nat)) : least e ((f, n) :: r) = least (worse e f n) r := rfl
theorem least_ne {l : List (Int × Nat)} : ∀ {e : Int × Int}, e.1 ≠ 0 → (∀ x ∈ l, x.1 ≠ 0) → (least e l).1 ≠ 0 := by
  induction l with
  | nil => intro e h _; exact h
  | cons x l ih =>
    intro e h hl
    obtain ⟨f, n⟩ := x
    rw [least_cons]
    refine ih ?_ fun y hy => hl y (by simp [hy])
    unfold worse
    split
    · exact hl (f, n) (by simp)
    · exact h
theorem least_zero {l : List (Int × Nat)} (hl : ∀ x ∈ l, x.1 ≠ 0) (h : (least (0, -1) l).1 = 0) : l = [] := by
  cases l with
  | nil => rfl
  | cons x l =>
    obtain ⟨f, n⟩ := x
    rw [least_cons] at h
    exact absurd h (least_ne (by unfold worse; rw [if_pos (.inl (by decide))]; exact hl (f, n) (by simp)) fun y hy => hl y (by simp [hy]))
theorem wrongs_ne (S : AS) : ∀ x ∈ wrongs S, x.1 ≠ 0 := by
  intro x hx
  rcases List.mem_append.1 hx with h | h
  · obtain ⟨u, _, rfl⟩ := List.mem_map.1 h; exact (by decide : (10 : Int) ≠ 0)
  · obtain ⟨u, _, rfl⟩ := List.mem_map.1 h; exact (by decide : (7 : Int) ≠ 0)
/-- Where nothing is wrong, all labels are places. -/
theorem settle_good {S : AS} (h : (least (0, -1) (wrongs S)).1 = 0) : settleP S = { S.o with code := codeK S S.uses.length } := by
  have h0 := least_zero (wrongs_ne S) h
  rw [wrongs_is, List.append_eq_nil_iff] at h0
  have hb : ∀ u ∈ S.uses, badUse S u = false := fun u hu => by
    cases hq : badUse S u with
    | false => rfl
    | true =>
      have : ((10 : Int), u.2.2) ∈ useW S S.uses := List.mem_map.2 ⟨u, List.mem_filter.2 ⟨hu, hq⟩, rfl⟩
      rw [h0.1] at this
      cases this
  unfold settleP codeK
  rw [List.take_length]
  have key : ∀ (l : List (Nat × Nat × Nat)) (o : LObj), (∀ u ∈ l, badUse S u = false) → l.foldl (fun o u => { o with code := o.code.modify u.1 fun i => setArg i u.2.1 (((useAt S u).getD 0 : Nat) : Int) }) o = { o with code := l.foldl (putU S) o.code } := by
    intro l
    induction l with
    | nil => intro o _; rfl
    | cons u l ih =>
      intro o hl
      rw [List.foldl_cons, ih _ (fun x hx => hl x (by simp [hx])), List.foldl_cons]
      have : putU S o.code u = o.code.modify u.1 fun i => setArg i u.2.1 (((useAt S u).getD 0 : Nat) : Int) := if_neg (by rw [hl u (by simp)]; decide)
      rw [this]
  exact key S.uses S.o hb
/-! ### The uses of what lines make -/
theorem operand8 (o : LObj) (w : Txt) : -1 ≤ (operandP o 8 w).2 ∧ (operandP o 8 w).2 ≤ 65535 := by
  show -1 ≤ (if w = [45] then (65535 : Int) else labelP w) ∧ (if w = [45] then (65535 : Int) else labelP w) ≤ 65535
  have := labelP_le w
  split <;> omega
theorem operandsP_useI (n at_ : Nat) : ∀ (l : List (Nat × Txt)) (o : LObj) (j : Nat), (∀ u ∈ (operandsP n at_ o j l).2.2, u.1 = n ∧ j ≤ u.2.1 ∧ u.2.1 < j + l.length ∧ ∃ v, (operandsP n at_ o j l).2.1[u.2.1 - j]? = some v ∧ -1 ≤ v ∧ v ≤ 65535) ∧ ((operandsP n at_ o j l).2.2.map fun u => (u.1, u.2.1)).Nodup
  | [], o, j => ⟨fun u hu => absurd hu (List.not_mem_nil), List.nodup_nil⟩
  | (k, w) :: l, o, j => by
    obtain ⟨h1, h2⟩ := operandsP_useI n at_ l (operandP o k w).1 (j + 1)
    rw [operandsP]
    simp only
    have key : ∀ u ∈ (operandsP n at_ (operandP o k w).1 (j + 1) l).2.2, u.1 = n ∧ j ≤ u.2.1 ∧ u.2.1 < j + ((k, w) :: l).length ∧ ∃ v, ((operandP o k w).2 :: (operandsP n at_ (operandP o k w).1 (j + 1) l).2.1)[u.2.1 - j]? = some v ∧ -1 ≤ v ∧ v ≤ 65535 := fun u hu => by
      obtain ⟨g1, g2, g3, v, g4, g5⟩ := h1 u hu
      refine ⟨g1, by omega, by rw [List.length_cons]; omega, v, ?_, g5⟩
      rw [show u.2.1 - j = (u.2.1 - (j + 1)) + 1 by omega, List.getElem?_cons_succ]
      exact g4
    split
    · rename_i hc
      obtain ⟨rfl, _⟩ := hc
      refine ⟨fun u hu => ?_, ?_⟩
      · rcases List.mem_append.1 hu with hu | hu
        · obtain rfl := List.mem_singleton.1 hu
          exact ⟨rfl, Nat.le_refl _, by simp, _, by rw [Nat.sub_self, List.getElem?_cons_zero], operand8 o w⟩
        · exact key u hu
      · rw [List.map_append, List.nodup_append]
        refine ⟨by simp, h2, fun a ha b hb => ?_⟩
        simp only [List.map_cons, List.map_nil, List.mem_singleton] at ha
        subst ha
        obtain ⟨u, hu, rfl⟩ := List.mem_map.1 hb
        have := (h1 u hu).2.1
        intro e
        injection e with _ e
        omega
    · refine ⟨fun u hu => key u (by simpa using hu), by simpa using h2⟩
theorem UsesI.start : UsesI AS0 := ⟨fun _ hu => absurd hu (List.not_mem_nil), List.nodup_nil⟩
theorem UsesI.line {S : AS} (h : UsesI S) (s : Txt) (n : Nat) : UsesI (lineP S s n).1 := by
  unfold lineP
  split
  · unfold beginP
    split
    · exact h
    · simp only
      split
      · exact h
      · exact ⟨fun u hu => by
          obtain ⟨h4, i, hi, h5⟩ := h.here u hu
          refine ⟨h4, i, ?_, h5⟩
          simp only [predP_code]
          exact hi, h.one⟩
  · split
    · unfold markP
      split
      · exact h
      · split
        · exact h
        · exact ⟨h.here, h.one⟩
    · unfold instrP
      simp only
      split
      · exact h
      · rename_i hc
        have hlen := Classical.byContradiction fun e => hc (.inr (.inl e))
        generalize namedT ((splitT s).headD []) = op at hlen ⊢
        obtain ⟨g1, g2⟩ := operandsP_useI S.o.code.length n (((kindsOf op).map Int.toNat).zip (splitT s).tail) S.o 0
        have hl := operandsP_len S.o.code.length n (((kindsOf op).map Int.toNat).zip (splitT s).tail) S.o 0
        have hcd := operandsP_code (n := S.o.code.length) (at_ := n) (((kindsOf op).map Int.toNat).zip (splitT s).tail) S.o 0
        have hk4 := kinds_few op
        have hz : (((kindsOf op).map Int.toNat).zip (splitT s).tail).length ≤ 4 := by
          rw [List.length_zip, List.length_map]
          omega
        generalize operandsP S.o.code.length n S.o 0 (((kindsOf op).map Int.toNat).zip (splitT s).tail) = q at g1 g2 hl hcd ⊢
        refine ⟨fun u hu => ?_, ?_⟩
        · simp only at hu ⊢
          rw [hcd]
          rcases List.mem_append.1 hu with hu | hu
          · obtain ⟨h4, i, hi, h5⟩ := h.here u hu
            exact ⟨h4, i, by rw [List.getElem?_append_left (List.getElem?_eq_some_iff.1 hi).1]; exact hi, h5⟩
          · obtain ⟨e1, _, e3, v, e4, e5⟩ := g1 u hu
            have hu4 : u.2.1 < 4 := by omega
            refine ⟨hu4, insW op q.2.1, by rw [e1, List.getElem?_append_right (Nat.le_refl _)]; simp, ?_⟩
            rw [insW_arg op q.2.1 hu4, List.getD_eq_getElem?_getD]
            rw [Nat.sub_zero] at e4
            rw [e4]
            exact e5
        · simp only
          rw [List.map_append, List.nodup_append]
          refine ⟨h.one, g2, fun a ha b hb => ?_⟩
          obtain ⟨u, hu, rfl⟩ := List.mem_map.1 ha
          obtain ⟨u', hu', rfl⟩ := List.mem_map.1 hb
          obtain ⟨_, i, hi, _⟩ := h.here u hu
          have h1 := (List.getElem?_eq_some_iff.1 hi).1
          have h2 := (g1 u' hu').1
          intro e
          injection e with e _
          omega
end Go.Proofs.YtpcihhdalofdiaaGreatDoor

/- What lines make is an object that may be: the plain law of layer 9. No program in sight. -/
namespace Go.Proofs.YtpcihhdalofdiaaGreatDoor

theorem dup_nodup {α : Type} [DecidableEq α] : ∀ {l : List α}, l.Nodup → dupB l = false
  | [], _ => rfl
  | a :: l, h => by
    rw [dupB, dup_nodup (List.nodup_cons.1 h).2]
    simp [(List.nodup_cons.1 h).1]
theorem namedT_in {w : Txt} (h : ¬ namedT w < 0) : opIn (namedT w) = true := by
  unfold namedT at h ⊢
  split
  · rename_i h1; rw [if_pos h1] at h; omega
  · rename_i h1
    rw [if_neg h1] at h
    cases hf : (List.range 27).find? fun k : Nat => nameT (k : Int) == w with
    | none => rw [hf] at h; simp at h
    | some k =>
      have hk := List.mem_range.1 (List.mem_of_find?_eq_some hf)
      simp only [opIn, Bool.and_eq_true, decide_eq_true_eq]
      omega
/-- An operand that isn't a name or a label. -/
def PlainK (q : Nat) : Prop := q ≠ 3 ∧ q ≠ 4 ∧ q ≠ 7 ∧ q ≠ 8
theorem ofK_kinds {q : Nat} (h : PlainK q) (h1 : 1 ≤ q) (h2 : q < 10) : kindsOf (ofK q) = [(q : Int)] ∧ ofK q ≠ 26 ∧ opIn (ofK q) = true := by
  obtain ⟨a, b, c, d⟩ := h
  have : q = 1 ∨ q = 2 ∨ q = 5 ∨ q = 6 ∨ q = 9 := by omega
  rcases this with rfl | rfl | rfl | rfl | rfl <;> decide +kernel
theorem may_anyA {op op' : Int} {q : Nat} {n : Int} (h : mayOk op' q n = true) (h' : op' ≠ 26) : mayOk op q n = true := by
  unfold mayOk at h ⊢
  have : (op' == 26) = false := by simpa using h'
  rw [this] at h
  simp only [Bool.false_and, Bool.or_false] at h
  rw [h]
  rfl
theorem plainP_may {q : Nat} {w : Txt} (h : PlainK q) (h1 : 1 ≤ q) (h2 : q < 10) (h0 : 0 ≤ plainP q w) (op : Int) : mayOk op q (plainP q w) = true := by
  obtain ⟨k1, k2, k3⟩ := ofK_kinds h h1 h2
  unfold plainP at h0 ⊢
  split
  · rename_i hp
    unfold parseT at hp ⊢
    split
    · rename_i hc; rw [if_pos hc] at hp; cases hp
    · rename_i hc
      simp only [not_or, Classical.not_not] at hc
      have hok := txt_ok (i := cand opP (nameT (ofK q) ++ 32 :: w)) (by rw [hc.2]; exact hc.1)
      have hop : (cand opP (nameT (ofK q) ++ 32 :: w)).op = ofK q := by
        show namedT ((splitT (nameT (ofK q) ++ 32 :: w)).headD []) = _
        rw [splitT_word _ _ (name_op k3).2]
        exact (name_op k3).1
      simp only [insOk, Bool.and_eq_true, List.all_eq_true, List.mem_range] at hok
      have ha := hok.2 0 (by omega)
      unfold argOk at ha
      rw [hop, k1] at ha
      have ha' : mayOk (ofK q) ((q : Int)).toNat ((cand opP (nameT (ofK q) ++ 32 :: w)).arg 0) = true := ha
      rw [Int.toNat_natCast] at ha'
      exact may_anyA ha' k2
  · rename_i hp
    rw [if_neg hp] at h0
    omega
structure InsX (i : LIns) : Prop where
  op : opIn i.op = true
  plain : ∀ (j q : Nat), (kindsOf i.op)[j]? = some (q : Int) → PlainK q → mayOk i.op q (i.arg j) = true
  rest : ∀ k, k < 4 → (kindsOf i.op).length ≤ k → i.arg k = 0
theorem operandP_plain (o : LObj) {k : Nat} (w : Txt) (h : PlainK k) : (operandP o k w).2 = plainP k w := by
  unfold operandP
  rw [if_neg h.1, if_neg h.2.1, if_neg h.2.2.1, if_neg h.2.2.2]
theorem operandsP_plain {n at_ : Nat} : ∀ (l : List (Nat × Txt)) (o : LObj) (j i k : Nat) (w : Txt), l[i]? = some (k, w) → PlainK k → (operandsP n at_ o j l).2.1[i]? = some (plainP k w)
  | [], _, _, i, _, _, h, _ => by simp at h
  | (k', w') :: l, o, j, 0, k, w, h, hp => by
    simp only [List.getElem?_cons_zero, Option.some.injEq, Prod.mk.injEq] at h
    obtain ⟨rfl, rfl⟩ := h
    rw [operandsP]
    simp only [List.getElem?_cons_zero]
    rw [operandP_plain o _ hp]
  | (k', w') :: l, o, j, i + 1, k, w, h, hp => by
    rw [operandsP]
    simp only [List.getElem?_cons_succ] at h ⊢
    exact operandsP_plain l _ _ i k w h hp
/-- The uses are of labels, and all labels are used. -/
structure UsesA (S : AS) : Prop where
  kind : ∀ u ∈ S.uses, ∃ i, S.o.code[u.1]? = some i ∧ (kindsOf i.op)[u.2.1]? = some 8 ∧ i.arg u.2.1 ≠ 65535
  all : ∀ a i j, S.o.code[a]? = some i → (kindsOf i.op)[j]? = some 8 → i.arg j ≠ 65535 → ∃ u ∈ S.uses, u.1 = a ∧ u.2.1 = j
  ins : ∀ i ∈ S.o.code, InsX i
theorem operandsP_uses8 {n at_ : Nat} : ∀ (l : List (Nat × Txt)) (o : LObj) (j : Nat), (∀ u ∈ (operandsP n at_ o j l).2.2, ∃ w v, l[u.2.1 - j]? = some (8, w) ∧ (operandsP n at_ o j l).2.1[u.2.1 - j]? = some v ∧ v ≠ 65535 ∧ j ≤ u.2.1) ∧
    ∀ i w v, l[i]? = some (8, w) → (operandsP n at_ o j l).2.1[i]? = some v → v ≠ 65535 → (n, j + i, at_) ∈ (operandsP n at_ o j l).2.2
  | [], _, _ => ⟨fun u hu => absurd hu (List.not_mem_nil), fun i w v h => by simp at h⟩
  | (k, w) :: l, o, j => by
    obtain ⟨h1, h2⟩ := operandsP_uses8 (n := n) (at_ := at_) l (operandP o k w).1 (j + 1)
    rw [operandsP]
    simp only
    refine ⟨fun u hu => ?_, fun i w' v hi hv hne => ?_⟩
    · rcases List.mem_append.1 hu with hu | hu
      · split at hu
        · rename_i hc
          obtain rfl := List.mem_singleton.1 hu
          obtain ⟨rfl, hc2⟩ := hc
          exact ⟨w, _, by simp, by simp only [Nat.sub_self, List.getElem?_cons_zero], hc2, Nat.le_refl _⟩
        · cases hu
      · obtain ⟨w', v, e1, e2, e3, e4⟩ := h1 u hu
        have e5 : u.2.1 - j = (u.2.1 - (j + 1)) + 1 := by omega
        exact ⟨w', v, by rw [e5, List.getElem?_cons_succ]; exact e1, by rw [e5, List.getElem?_cons_succ]; exact e2, e3, by omega⟩
    · cases i with
      | zero =>
        simp only [List.getElem?_cons_zero, Option.some.injEq, Prod.mk.injEq] at hi hv
        obtain ⟨rfl, rfl⟩ := hi
        subst hv
        rw [if_pos ⟨rfl, hne⟩]
        exact List.mem_append.2 (.inl (by simp))
      | succ i =>
        simp only [List.getElem?_cons_succ] at hi hv
        have := h2 i w' v hi hv hne
        rw [show j + (i + 1) = j + 1 + i by omega]
        exact List.mem_append.2 (.inr this)
theorem UsesA.start : UsesA AS0 := ⟨fun _ hu => absurd hu (List.not_mem_nil), fun a i j h => by simp [AS0] at h, fun _ hi => absurd hi (List.not_mem_nil)⟩
theorem UsesA.same {S S' : AS} (h : UsesA S) (h1 : S'.uses = S.uses) (h2 : S'.o.code = S.o.code) : UsesA S' := by
  refine ⟨?_, ?_, ?_⟩
  · rw [h1, h2]; exact h.kind
  · rw [h1, h2]; exact h.all
  · rw [h2]; exact h.ins
theorem UsesA.line {S : AS} (h : UsesA S) (s : Txt) (n : Nat) : UsesA (lineP S s n).1 := by
  unfold lineP
  split
  · unfold beginP
    split
    · exact h
    · simp only
      split
      · exact h
      · exact h.same rfl (predP_code _ _)
  · split
    · unfold markP
      split
      · exact h
      · split
        · exact h
        · exact h.same rfl rfl
    · unfold instrP
      simp only
      split
      · exact h
      · rename_i hc
        have hop : ¬ namedT ((splitT s).headD []) < 0 := fun e => hc (.inl e)
        have hlen := Classical.byContradiction fun e => hc (.inr (.inl e))
        have hall := Classical.byContradiction fun e => hc (.inr (.inr (Bool.not_eq_true _ ▸ e)))
        have hin := namedT_in hop
        generalize namedT ((splitT s).headD []) = op at hlen hall hin ⊢
        rw [List.length_map] at hlen
        have hz : (((kindsOf op).map Int.toNat).zip (splitT s).tail).length = (kindsOf op).length := by simp; omega
        have hzk : ∀ (j q : Nat), (kindsOf op)[j]? = some (q : Int) → ∃ w, (((kindsOf op).map Int.toNat).zip (splitT s).tail)[j]? = some (q, w) := fun j q hq => by
          have hj := (List.getElem?_eq_some_iff.1 hq).1
          have ht : (splitT s).tail[j]? = some ((splitT s).tail[j]'(by simp; omega)) := List.getElem?_eq_getElem _
          exact ⟨_, zip_at (by rw [List.getElem?_map, hq]; rfl) ht⟩
        have hkz : ∀ (j q : Nat) (w : Txt), (((kindsOf op).map Int.toNat).zip (splitT s).tail)[j]? = some (q, w) → (kindsOf op)[j]? = some (q : Int) := fun j q w hq => by
          rw [List.getElem?_zip_eq_some] at hq
          have h1 := hq.1
          rw [List.getElem?_map] at h1
          cases hk : (kindsOf op)[j]? with
          | none => rw [hk] at h1; cases h1
          | some y =>
            rw [hk] at h1
            simp only [Option.map_some, Option.some.injEq] at h1
            have := kinds_mem op y (List.mem_of_getElem? hk)
            congr 1
            omega
        have hl := operandsP_len S.o.code.length n (((kindsOf op).map Int.toNat).zip (splitT s).tail) S.o 0
        have hcd := operandsP_code (n := S.o.code.length) (at_ := n) (((kindsOf op).map Int.toNat).zip (splitT s).tail) S.o 0
        have hpl := fun i k w => operandsP_plain (n := S.o.code.length) (at_ := n) (((kindsOf op).map Int.toNat).zip (splitT s).tail) S.o 0 i k w
        obtain ⟨hu1, hu2⟩ := operandsP_uses8 (n := S.o.code.length) (at_ := n) (((kindsOf op).map Int.toNat).zip (splitT s).tail) S.o 0
        have huI := (operandsP_useI S.o.code.length n (((kindsOf op).map Int.toNat).zip (splitT s).tail) S.o 0).1
        have hk4 := kinds_few op
        generalize operandsP S.o.code.length n S.o 0 (((kindsOf op).map Int.toNat).zip (splitT s).tail) = q at hl hcd hpl hu1 hu2 huI ⊢
        have hql : q.2.1.length = (kindsOf op).length := by rw [hl, hz]
        have harg : ∀ j v, q.2.1[j]? = some v → (insW op q.2.1).arg j = v := fun j v hv => by
          have hj := (List.getElem?_eq_some_iff.1 hv).1
          rw [insW_arg op q.2.1 (by omega), List.getD_eq_getElem?_getD, hv]
          rfl
        have hnew : InsX (insW op q.2.1) := by
          refine ⟨hin, fun j k hk hp => ?_, fun k hk4' hk => ?_⟩
          · obtain ⟨w, hw⟩ := hzk j k hk
            have h1 := hpl j k w hw hp
            rw [harg j _ h1]
            have hm := kinds_mem op _ (List.mem_of_getElem? hk)
            have hf := List.all_eq_true.1 hall _ (List.mem_of_getElem? hw)
            unfold fitsP at hf
            simp only at hf
            rw [if_neg hp.1, if_neg hp.2.1, if_neg hp.2.2.1, if_neg hp.2.2.2] at hf
            exact plainP_may hp (by omega) (by omega) (by simpa using hf) _
          · rw [insW_arg op q.2.1 hk4', List.getD_eq_getElem?_getD, List.getElem?_eq_none (by rw [hql]; exact hk)]
            rfl
        refine ⟨fun u hu => ?_, fun a i j ha hj hne => ?_, fun i hi => ?_⟩
        · simp only at hu ⊢
          rw [hcd]
          rcases List.mem_append.1 hu with hu | hu
          · obtain ⟨i, e1, e2, e3⟩ := h.kind u hu
            exact ⟨i, by rw [List.getElem?_append_left (List.getElem?_eq_some_iff.1 e1).1]; exact e1, e2, e3⟩
          · obtain ⟨w, v, e1, e2, e3, _⟩ := hu1 u hu
            have e5 := (huI u hu).1
            rw [Nat.sub_zero] at e1 e2
            refine ⟨insW op q.2.1, by rw [e5, List.getElem?_append_right (Nat.le_refl _)]; simp, hkz _ _ _ e1, ?_⟩
            rw [harg _ _ e2]
            exact e3
        · simp only at ha ⊢
          rw [hcd] at ha
          by_cases hlt : a < S.o.code.length
          · rw [List.getElem?_append_left hlt] at ha
            obtain ⟨u, hu, e1, e2⟩ := h.all a i j ha hj hne
            exact ⟨u, List.mem_append.2 (.inl hu), e1, e2⟩
          · rw [List.getElem?_append_right (by omega)] at ha
            have ha0 : a - S.o.code.length = 0 := by
              have := (List.getElem?_eq_some_iff.1 ha).1
              simp at this
              omega
            rw [ha0] at ha
            simp only [List.getElem?_cons_zero, Option.some.injEq] at ha
            subst ha
            obtain ⟨w, hw⟩ := hzk j 8 hj
            have hjl : j < q.2.1.length := by rw [hql]; exact (List.getElem?_eq_some_iff.1 hj).1
            have hv : q.2.1[j]? = some q.2.1[j] := List.getElem?_eq_getElem hjl
            rw [harg j _ hv] at hne
            have := hu2 j w _ hw hv hne
            rw [Nat.zero_add] at this
            exact ⟨_, List.mem_append.2 (.inr this), by simp only; omega, rfl⟩
        · simp only at hi
          rw [hcd] at hi
          rcases List.mem_append.1 hi with hi | hi
          · exact h.ins i hi
          · obtain rfl := List.mem_singleton.1 hi
            exact hnew
end Go.Proofs.YtpcihhdalofdiaaGreatDoor

/- Words of lines: a name with a number behind a slash; an operand that is as in an instruction's text: the document's. -/
namespace Go.Proofs.YtpcihhdalofdiaaGreatDoor
open Go.RowKit Go.Maps

/-- Where the first slash is. -/
theorem cut_is : ∀ l : Txt, ((∀ c ∈ l, c ≠ 47) ∧ cutT l = (l, [])) ∨ ∃ i : Nat, l[i]? = some 47 ∧ (∀ c ∈ l.take i, c ≠ 47) ∧ cutT l = (l.take i, l.drop (i + 1))
  | [] => .inl ⟨by simp, rfl⟩
  | c :: l => by
    by_cases h : c = 47
    · subst h
      exact .inr ⟨0, rfl, by simp, rfl⟩
    · have hb : (c != 47) = true := by simpa using h
      have e : cutT (c :: l) = (c :: (cutT l).1, (cutT l).2) := by
        unfold cutT
        rw [List.takeWhile_cons, List.dropWhile_cons, hb]
        rfl
      rw [e]
      rcases cut_is l with ⟨h1, h2⟩ | ⟨i, h1, h2, h3⟩
      · exact .inl ⟨by simp only [List.mem_cons, forall_eq_or_imp]; exact ⟨h, h1⟩, by rw [h2]⟩
      · exact .inr ⟨i + 1, by simpa using h1, by simp only [List.take_succ_cons, List.mem_cons, forall_eq_or_imp]; exact ⟨h, h2⟩, by rw [h3]; simp⟩
/-- What the document's slash hands back. -/
def slR (l : Txt) (k : Int) : ByteArray × Int := match slashP l k with
  | some f => (f.name, f.arity)
  | none => (⟨#[]⟩, -1)
theorem numM8 {l : Txt} {k : Int} (hk : 0 ≤ k) : k ≤ numM l 8 ↔ k ≤ numT l ∧ numT l ≤ 8 := by
  unfold numM
  split <;> omega
theorem numM8_is {l : Txt} (h : 0 ≤ numT l ∧ numT l ≤ 8) : numM l 8 = numT l := if_pos h
theorem slR_none {l : Txt} {k : Int} (hk : 0 ≤ k) (h : ∀ c ∈ l, c ≠ 47) : slR l k = (⟨#[]⟩, -1) := by
  rcases cut_is l with ⟨_, h2⟩ | ⟨i, h1, _⟩
  · unfold slR slashP
    rw [h2, if_neg]
    rintro ⟨_, h3⟩
    rw [numM8 hk] at h3
    have : numT ([] : Txt) = -1 := numT_size (.inl (by simp))
    simp only [this] at h3
    omega
  · exact absurd rfl (h 47 (List.mem_of_getElem? h1))
theorem slR_at {l : Txt} {k : Int} (hk : 0 ≤ k) {i : Nat} (h1 : l[i]? = some 47) (h2 : ∀ c ∈ l.take i, c ≠ 47) : slR l k = if nameOk (wdB (l.take i)) = true ∧ k ≤ numT (l.drop (i + 1)) ∧ numT (l.drop (i + 1)) ≤ 8 then (wdB (l.take i), numT (l.drop (i + 1))) else (⟨#[]⟩, -1) := by
  have hc : cutT l = (l.take i, l.drop (i + 1)) := by
    rcases cut_is l with ⟨h3, _⟩ | ⟨j, h3, h4, h5⟩
    · exact absurd rfl (h3 47 (List.mem_of_getElem? h1))
    · have : j = i := by
        rcases Nat.lt_trichotomy j i with h | h | h
        · exact absurd rfl (h2 47 (List.mem_of_getElem? (by rw [List.getElem?_take, if_pos h]; exact h3)))
        · exact h
        · exact absurd rfl (h4 47 (List.mem_of_getElem? (by rw [List.getElem?_take, if_pos h]; exact h1)))
      rw [h5, this]
  unfold slR slashP
  rw [hc]
  simp only [numM8 hk]
  by_cases h : nameOk (wdB (l.take i)) = true ∧ k ≤ numT (l.drop (i + 1)) ∧ numT (l.drop (i + 1)) ≤ 8
  · rw [if_pos h, if_pos h]
    simp only [numM8_is (l := l.drop (i + 1)) ⟨by omega, h.2.2⟩]
  · rw [if_neg h, if_neg h]
theorem extract_take (s : ByteArray) (i : Nat) : s.extract 0 i = wdB (s.data.toList.take i) := by
  rw [Lib.extract_eq]
  simp [wdB]
theorem extract_drop (s : ByteArray) (i : Nat) : s.extract i s.size = wdB (s.data.toList.drop i) := by
  rw [Lib.extract_eq]
  unfold wdB
  congr 2
  refine List.take_of_length_le ?_
  have : s.data.toList.length = s.size := rfl
  rw [List.length_drop]
  omega
theorem wdB_list (l : Txt) : (wdB l).data.toList = l := by simp [wdB]
attribute [local irreducible] numT nameOk slR

set_option maxRecDepth 100000 in
set_option maxHeartbeats 3200000 in
theorem refSlash_any (s : ByteArray) (k : Int) (hk : 0 ≤ k) (hl : s.size ≤ 4294967280) (w : World) :
    Calls Tryz.prog 53 #[.string s, .int .i64 k] w fun e w' => e = .returned (.tuple #[.string (slR s.data.toList k).1, .int .i64 (slR s.data.toList k).2]) ∧ Keeps w w' [] := by
  go_enter Tryz.func53, Tryz.ntmps53
  go_wp2_with fail
  go_loopw [6] (fun i wr => ∃ j : Nat, j ≤ s.size ∧ i = .int .i64 j ∧ Hid (∀ c ∈ s.data.toList.take j, c ≠ 47) ∧ Keeps w wr []) (fun i _ => s.size - (intOf i).toNat)
  case atStart => exact ⟨0, Nat.zero_le _, rfl, by simp [Hid], Keeps.refl _ _⟩
  case round =>
    obtain ⟨j, hj, rfl, HN, kr⟩ := hrel
    have HK := Lib.hid kr
    clear kr
    by_cases hlj : j < s.size
    · have hx := dat_at s j hlj
      have b1 : (j : Int) < (s.size : Int) := by omega
      have b0 : (0 : Int) ≤ (j : Int) := Int.natCast_nonneg _
      have hr := s[j].toNat_lt
      have HX := Lib.hid hx
      clear hx
      obtain ⟨x, hxs⟩ : ∃ x, s[j] = x := ⟨_, rfl⟩
      rw [hxs] at HX hr
      by_cases c1 : x = 47
      · have c2 : ((x.toNat : Int) == 47) = true := by rw [c1]; rfl
        have HV : Hid (slR s.data.toList k = _) := Lib.hid (slR_at hk (by rw [← c1]; exact HX.out) HN.out)
        have HNm : Hid (∀ w, Calls Tryz.prog 84 #[.string (s.extract 0 j)] w fun e w' => e = .returned (.bool (nameOk (s.extract 0 j))) ∧ w = w') := refName_any _
        have HNu : Hid (∀ w, Calls Tryz.prog 55 #[.string (s.extract (j + 1) s.size)] w fun e w' => e = .returned (.int .i64 (numT (s.data.toList.drop (j + 1)))) ∧ ∃ m, w' = w.drewN m) := Lib.hid (by
          rw [extract_drop s (j + 1)]
          have := refNum_any (wdB (s.data.toList.drop (j + 1)))
          rw [wdB_list] at this
          exact this)
        rw [← extract_take s j] at HV
        generalize numT (s.data.toList.drop (j + 1)) = v at *
        have hw : wrap64 ((j : Int) + 1) = ((j + 1 : Nat) : Int) := by unfold wrap64; omega
        have b2 : (0 : Int) ≤ ((j + 1 : Nat) : Int) := Int.natCast_nonneg _
        have b3 : ((j + 1 : Nat) : Int) ≤ (s.size : Int) := by omega
        have b4 : (j : Int) ≤ (s.size : Int) := by omega
        go_wp2_with fail
        refine (HNu.out wr).mono ?_
        rintro e w1 ⟨rfl, m, rfl⟩
        go_wp2_with fail
        refine (HNm.out _).mono ?_
        rintro e w2 ⟨rfl, hw2⟩
        subst hw2
        cases hb : nameOk (s.extract 0 j) with
        | false =>
          rw [hb] at HV
          go_wp2_with fail
          go_ret2
          exact ⟨by rw [HV.out]; rfl, HK.out.trans (Keeps.ofDrewN _ _)⟩
        | true =>
          rw [hb] at HV
          by_cases d1 : k ≤ v
          · by_cases d2 : v ≤ 8
            · go_wp2_with fail
              go_ret2
              exact ⟨by rw [HV.out, if_pos ⟨by first | trivial | rfl, by omega, by omega⟩]; rfl, HK.out.trans (Keeps.ofDrewN _ _)⟩
            · go_wp2_with fail
              go_ret2
              exact ⟨by rw [HV.out, if_neg (fun h => by omega)]; rfl, HK.out.trans (Keeps.ofDrewN _ _)⟩
          · go_wp2_with fail
            go_ret2
            exact ⟨by rw [HV.out, if_neg (fun h => by omega)]; rfl, HK.out.trans (Keeps.ofDrewN _ _)⟩
      · have c2 : ((x.toNat : Int) == 47) = false := by
          rw [beq_eq_false_iff_ne]
          intro e
          exact c1 (UInt8.toNat_inj.1 (by have : x.toNat = 47 := by omega
                                          rw [this]; rfl))
        have HN2 : Hid (∀ c ∈ s.data.toList.take (j + 1), c ≠ 47) := by
          show ∀ c ∈ s.data.toList.take (j + 1), c ≠ 47
          rw [List.take_add_one, HX.out]
          intro c hc
          rcases List.mem_append.1 hc with hc | hc
          · exact HN.out c hc
          · simp at hc
            subst hc
            exact c1
        go_wp2_with fail
        go_roundw
        case rel => exact ⟨j + 1, by omega, by go_num, HN2, HK.out⟩
        case measure => simp [intOf]; omega
    · have HV : Hid (slR s.data.toList k = (⟨#[]⟩, -1)) := Lib.hid (slR_none hk (by have := HN.out; rwa [List.take_of_length_le (by have : s.data.toList.length = s.size := rfl; omega)] at this))
      have b1 : ¬ (j : Int) < (s.size : Int) := by omega
      go_wp2_with fail
      go_ret2
      exact ⟨by rw [HV.out]; rfl, HK.out⟩
/-- An operand in an instruction's text: right just where the text is. -/
theorem plain_right {k : Nat} {w : Txt} (hp : PlainK k) (h1 : 1 ≤ k) (h2 : k < 10) : (0 ≤ plainP k w) ↔ (parseT opR (nameT (ofK k) ++ 32 :: w)).2 = 0 := by
  rw [← parse_same]
  obtain ⟨i, e, hie⟩ : ∃ i e, parseT opP (nameT (ofK k) ++ 32 :: w) = (i, e) := ⟨_, _, rfl⟩
  rw [plainP_ok hie, hie]
  simp only
  by_cases he : e = 0
  · subst he
    rw [if_pos rfl]
    refine ⟨fun _ => rfl, fun _ => ?_⟩
    obtain ⟨k1, k2, k3⟩ := ofK_kinds hp h1 h2
    have hp2 : (parseT opP (nameT (ofK k) ++ 32 :: w)).2 = 0 := by rw [hie]
    have hp3 : (parseT opP (nameT (ofK k) ++ 32 :: w)).1.a0 = i.a0 := by rw [hie]
    rw [← hp3]
    clear hie hp3
    unfold parseT at hp2 ⊢
    split
    · rename_i hc; rw [if_pos hc] at hp2; cases hp2
    · rename_i hc
      simp only [not_or, Classical.not_not] at hc
      have hok := txt_ok (i := cand opP (nameT (ofK k) ++ 32 :: w)) (by rw [hc.2]; exact hc.1)
      have hop : (cand opP (nameT (ofK k) ++ 32 :: w)).op = ofK k := by
        show namedT ((splitT (nameT (ofK k) ++ 32 :: w)).headD []) = _
        rw [splitT_word _ _ (name_op k3).2]
        exact (name_op k3).1
      simp only [insOk, Bool.and_eq_true, List.all_eq_true, List.mem_range] at hok
      have ha := hok.2 0 (by omega)
      unfold argOk at ha
      rw [hop, k1] at ha
      have ha' : mayOk (ofK k) ((k : Int)).toNat ((cand opP (nameT (ofK k) ++ 32 :: w)).arg 0) = true := ha
      rw [Int.toNat_natCast] at ha'
      have h26 : (ofK k == 26) = false := by simpa using k2
      unfold mayOk at ha'
      rw [h26] at ha'
      simp only [Bool.false_and, Bool.or_false, Bool.and_eq_true, decide_eq_true_eq] at ha'
      have hlo : 0 ≤ leastOf6 k := by unfold leastOf6; split <;> omega
      exact Int.le_trans hlo ha'.1
  · rw [if_neg he]
    constructor
    · intro h
      omega
    · intro h
      exact absurd h he
theorem ofK_at {k : Nat} (hp : PlainK k) (h1 : 1 ≤ k) (h2 : k < 10) : (#[.int .i64 0, .int .i64 6, .int .i64 5, .int .i64 0, .int .i64 0, .int .i64 9, .int .i64 15, .int .i64 0, .int .i64 0, .int .i64 24] : Array Value)[k]? = some (.int .i64 (ofK k)) := by
  obtain ⟨a, b, c, d⟩ := hp
  have : k = 1 ∨ k = 2 ∨ k = 5 ∨ k = 6 ∨ k = 9 := by omega
  rcases this with rfl | rfl | rfl | rfl | rfl <;> rfl
attribute [local irreducible] parseT plainP ofK nameOf

set_option maxHeartbeats 3200000 in
set_option maxRecDepth 100000 in
theorem refPlain_any (op : Int) (k : Nat) (hp : PlainK k) (h1 : 1 ≤ k) (h2 : k < 10) (s : ByteArray) (hl : s.size ≤ 4294967000) (w : World) :
    Calls Tryz.prog 87 #[.int .i64 op, .int .i64 k, .string s] w fun e w' => e = .returned (.tuple #[.int .i64 (parseT opR (nameT (ofK k) ++ 32 :: s.data.toList)).1.a0, .bool (decide ((parseT opR (nameT (ofK k) ++ 32 :: s.data.toList)).2 = 0))]) ∧ Keeps w w' [] := by
  have hnm := ofK_name k
  have hT : stB (nameT (ofK k) ++ 32 :: s.data.toList) = nameOf (ofK k) ++ ⟨#[32]⟩ ++ s := by
    have e1 : nameOf (ofK k) = stB (nameT (ofK k)) := (stB_of _).symm
    have e2 : (⟨#[32]⟩ : ByteArray) = stB [32] := rfl
    have e3 : s = stB s.data.toList := (stB_of s).symm
    rw [e1, e2]
    conv => rhs; rw [e3]
    rw [stB_app, stB_app]
    simp
  have hTs : (stB (nameT (ofK k) ++ 32 :: s.data.toList)).size ≤ 4294967280 := by
    have e2 : s.data.toList.length = s.size := rfl
    have e4 : (nameT (ofK k)).length = (nameOf (ofK k)).size := rfl
    rw [stB_size, List.length_append, List.length_cons, e4]
    omega
  obtain ⟨i, er, hpp⟩ : ∃ i er, parseT opR (nameT (ofK k) ++ 32 :: s.data.toList) = (i, er) := ⟨_, _, rfl⟩
  have HPa := refParse6_any (stB (nameT (ofK k) ++ 32 :: s.data.toList)) hTs
  rw [stB_list, hpp] at HPa
  rw [hpp]
  obtain ⟨nm, hnmE⟩ : ∃ nm, nameOf (ofK k) = nm := ⟨_, rfl⟩
  have HNm : Hid (∀ w, Calls Tryz.prog 71 #[.int .i64 (ofK k)] w fun e w' => e = .returned (.string nm) ∧ Keeps w w' []) := fun w => by
    have := refName6_any (ofK k) w
    rw [hnmE] at this
    exact this
  rw [hnmE] at hnm hT
  rw [hT] at HPa
  unfold insV at HPa
  dsimp only at HPa
  have HPb := Lib.hid HPa
  have hss : (nm ++ (⟨#[32]⟩ : ByteArray)).size ≤ 21 := by
    rw [ByteArray.size_append]
    have : (⟨#[32]⟩ : ByteArray).size = 1 := rfl
    omega
  have ha1 : ∀ w : World, (Op.stringOp .add nm ⟨#[32]⟩).run Tryz.prog w = .ok (.string (nm ++ ⟨#[32]⟩)) w := fun w => run_string_add_sum (P := Tryz.prog) w _ _ (by
    have : (⟨#[32]⟩ : ByteArray).size = 1 := rfl
    omega)
  have ha2 : ∀ w : World, (Op.stringOp .add (nm ++ ⟨#[32]⟩) s).run Tryz.prog w = .ok (.string (nm ++ ⟨#[32]⟩ ++ s)) w := fun w => run_string_add_sum (P := Tryz.prog) w _ _ (by omega)
  have k0 : Keeps w (w.alloc (.cells #[.int .i64 0, .int .i64 6, .int .i64 5, .int .i64 0, .int .i64 0, .int .i64 9, .int .i64 15, .int .i64 0, .int .i64 0, .int .i64 24] 3)) [] := (Keeps.refl w []).alloc _
  have HK0 := Lib.hid k0
  have hB : Blk (w.alloc (.cells #[.int .i64 0, .int .i64 6, .int .i64 5, .int .i64 0, .int .i64 0, .int .i64 9, .int .i64 15, .int .i64 0, .int .i64 0, .int .i64 24] 3)) w.heap.size 3 _ := Blk.new _ _ _
  have q0 := hB.cell k
  rw [ofK_at hp h1 h2] at q0
  have b0 : (0 : Int) ≤ (k : Int) := Int.natCast_nonneg _
  have b1 : (k : Int) < 10 := by omega
  clear hnm hT hTs hpp HPa hnmE hss hB k0 hp h1 h2
  go_enter Tryz.func87, Tryz.ntmps87
  go_wp2_with fail
  refine (HNm.out _).mono ?_
  rintro e w6 ⟨rfl, k6⟩
  have HK6 := Lib.hid (HK0.out.trans k6)
  clear k6 q0 b0 b1
  go_wp2_with fail
  refine (HPb.out _).mono ?_
  rintro e w7 ⟨rfl, k7⟩
  have HKW : Hid (Keeps w (w7.alloc (.cells #[.int .i64 i.op, .int .i64 i.a0, .int .i64 i.a1, .int .i64 i.a2, .int .i64 i.a3] 72)) []) := (HK6.out.trans k7).alloc _
  clear k7 ha1 ha2
  go_wp2_with fail
  go_ret2
  exact ⟨rfl, HKW.out⟩
end Go.Proofs.YtpcihhdalofdiaaGreatDoor

/- A predicate's number, what a word says: the document's. Printed by gen_rspred.py. -/
namespace Go.Proofs.YtpcihhdalofdiaaGreatDoor
open Go.RowKit Go.Maps
attribute [local irreducible] rsCells numT nameOf kindsOf checkE

theorem prot_app {w1 wa w2 : World} {A : Option Addr} {n c m ab : Nat} {p : Nat → Nat} (K5 : Keeps w1 wa []) (hg : wa.grownBy w2 (Value.slice A n c).ownBlock) (hh : Head wa w2 (.slice A n c) m) (hp : ∀ g ∈ ownL (.slice A 0 0), p g ≤ m) (hz : p ab = 0) (ix : Nat) (u : Value) : Prot w1 (w2.setCell ⟨ab, ix, none⟩ u) p :=
  ((Prot.of_keeps K5 p).trans (Prot.of_head hh hg (by rw [ownLA]; exact hp))).trans (Prot.setCell hz ix u)
/-- What a step leaves. -/
def RsDone (w0 w : World) (ab : Nat) (L : List Nat) (p : Nat → Nat) (S' : AS) (w' : World) : Prop := ∃ L', Rs w0 w' ab L' p S' ∧ ASt w L w' L' ∧ Prot w w' p
theorem RsDone.of_keeps {w0 w w' : World} {ab : Nat} {L : List Nat} {p : Nat → Nat} {S : AS} (h : Rs w0 w ab L p S) (k : Keeps w w' []) : RsDone w0 w ab L p S w' := ⟨L, h.keep0 k, ASt.of_keeps k L, Prot.of_keeps k p⟩
theorem RsDone.trans {w0 w w1 w' : World} {ab : Nat} {L : List Nat} {p : Nat → Nat} {S' : AS} (k : Keeps w w1 []) (h : RsDone w0 w1 ab L p S' w') : RsDone w0 w ab L p S' w' := by
  obtain ⟨L', h1, h2, h3⟩ := h
  exact ⟨L', h1, (ASt.of_keeps k L).trans h2, (Prot.of_keeps k p).trans h3⟩
set_option maxRecDepth 100000 in
set_option maxHeartbeats 6400000 in
theorem predR_any {w0 w : World} {ab : Nat} {L : List Nat} {p : Nat → Nat} {S : AS} (hA : Rs w0 w ab L p S) (f : LFun) (hf : Fits S.o) (hn : S.o.preds.length ≤ 65000) :
    Calls Tryz.prog 54 #[.pointer (some ⟨ab, 0, none⟩), .string f.name, .int .i64 f.arity] w fun e w' => e = .returned (.int .i64 ((predP S.o f).2 : Nat)) ∧ RsDone w0 w ab L p { S with o := (predP S.o f).1 } w' := by
  have HAs := Lib.hid hA
  obtain ⟨AA, FA, PA, CA, UA, BA, ca, cf, cp, cc, cu, cb, hm, hok, hL, hlt⟩ := hA
  have HOk := Lib.hid hok
  have HL := Lib.hid hL
  have HLt := Lib.hid hlt
  have HM := Lib.hid hm
  have HN := Lib.hid hn
  have HC := Lib.hid (refFind_any S.o f.name f.arity AA FA PA CA _ _ _ _ ca cf cp cc w hm.ob hf rfl rfl rfl rfl)
  have q0 := hm.c0
  have q1 := hm.c1
  have q2 := hm.c2
  have q3 := hm.c3
  clear hm hL hlt hn hf hok
  obtain ⟨na, hna⟩ : ∃ n, S.o.atoms.length = n := ⟨_, rfl⟩
  obtain ⟨nf, hnf⟩ : ∃ n, S.o.funs.length = n := ⟨_, rfl⟩
  obtain ⟨n, hnl⟩ : ∃ n, S.o.preds.length = n := ⟨_, rfl⟩
  obtain ⟨nc, hnc⟩ : ∃ n, S.o.code.length = n := ⟨_, rfl⟩
  have HNl := Lib.hid hnl
  rw [hna, hnf, hnl, hnc] at HC
  rw [hna] at q0
  rw [hnf] at q1
  rw [hnl] at q2
  rw [hnc] at q3
  clear hnl hna hnf hnc
  go_enter Tryz.func54, Tryz.ntmps54
  go_wp2_with fail
  refine HC.out.mono ?_
  rintro e w1 ⟨rfl, k1⟩
  have HM1 := Lib.hid (HM.out.keep0 k1)
  have HK1 := Lib.hid k1
  clear k1 HC q0 q1 q2 q3
  rcases pred_find S.o f with ⟨h0, h1, h2⟩ | ⟨h0, h1, h2⟩
  · have HE1 := Lib.hid h1
    have HE2 := Lib.hid h2
    clear h1 h2
    generalize findI (isKey f.name f.arity) S.o.preds = q at *
    go_wp2_with fail
    go_ret
    rw [HE1.out, HE2.out]
    exact ⟨rfl, RsDone.of_keeps HAs.out HK1.out⟩
  · have HE1 := Lib.hid h1
    have HE2 := Lib.hid h2
    clear h1 h2
    rw [h0]
    clear h0
    have HO1 : Hid (w1.ownsRow w0.heap.size 74 3 (.slice PA n cp) n (S.o.preds.flatMap predE)) := Lib.hid (by have := HM1.out.preds; rwa [HNl.out] at this)
    have q1 : w1.cell? ⟨ab, 2, none⟩ = some (.slice PA n cp) := by have := HM1.out.c2; rwa [HNl.out] at this
    have f1 := HM1.out.blk.frozen 2
    have hw : wrap64 (n : Int) = (n : Int) := by have := HN.out; have := HNl.out; unfold wrap64; omega
    go_wp2_with (at_builtin; have K5 := (Keeps.refl w1 []).alloc (.cells #[.string f.name, .int .i64 f.arity, .int .i64 65535] 74); refine wpList_app_head _ el_predR (by rfl) (.tmp 23) (.tmp 27) (by rfl) w0.heap.size PA n cp (S.o.preds.flatMap predE) (by rfl) (own_keep0 HO1.out K5) ⟨w1.heap.size, 0, none⟩ 1 1 (predE ⟨f.name, f.arity, 65535⟩) (by rfl) (Rd.one w1 _ (predE ⟨f.name, f.arity, 65535⟩)) rfl (by simp [predE, Value.oneCell']) (by have := HN.out; have := HNl.out; omega) (Nat.le_trans HM1.out.bel.size K5.size) ?_; intro A' c' w2 hown hgrow hat hhead; have HAp := Lib.hid (app_factsA K5 hown hgrow hat); have HPr : Hid (∀ u, Prot w1 (w2.setCell ⟨ab, 2, none⟩ u) p) := fun u => prot_app K5 hgrow hhead (by rw [← HNl.out]; exact HOk.out.preds) HOk.out.z 2 u; have hB2 := HM1.out.blk.grownA K5 hgrow (own_outA HM1.out.preds HM1.out.blk (by decide)); have q2 : w2.cell? ⟨ab, 2, none⟩ = some (.slice PA S.o.preds.length cp) := (hB2.cell 2).trans (rsCells_2 _ _ _ _ _ _ _); have f2 := hB2.frozen 2; clear hown hgrow hat hhead K5 hB2)
    go_ret
    obtain ⟨a1, a2, a3⟩ := HAp.out
    have hlen : (S.o.preds ++ [(⟨f.name, f.arity, 65535⟩ : LPred)]).length = n + 1 := by rw [List.length_append, HNl.out]; rfl
    have hz1 := HK1.out.size
    obtain ⟨L', g1, g2⟩ := HM1.out.preds_pack ⟨HOk.out.z, HOk.out.atoms, HOk.out.funs, HOk.out.preds, fun g hg => HOk.out.new g (Nat.le_trans hz1 hg)⟩ HL.out (fun b hb => ⟨(HLt.out b hb).1, Nat.lt_of_lt_of_le (HLt.out b hb).2 hz1⟩) a2 (A' := A') (c' := c') (l' := S.o.preds ++ [(⟨f.name, f.arity, 65535⟩ : LPred)]) (by rw [hlen, HNl.out]; omega) (by rw [hlen, List.flatMap_append]; simpa using a1) a3
    rw [hlen] at g1 g2
    rw [HE1.out, HE2.out, HNl.out]
    refine ⟨?_, RsDone.trans HK1.out ⟨L', g1, g2, HPr.out _⟩⟩
    conv => rhs; rw [← hw]
    rfl
theorem idx_found {α : Type} [DecidableEq α] {l : List α} {k : Nat} {x : α} (hx : l[k]? = some x) (hb : ∀ y ∈ l.take k, y ≠ x) : idxL l x = l ∧ idxA l x = k := by
  unfold idxL idxA
  rw [if_pos (List.mem_of_getElem? hx), if_pos (List.mem_of_getElem? hx), idx_atA hx hb]
  exact ⟨rfl, rfl⟩
theorem idx_new {α : Type} [DecidableEq α] {l : List α} {x : α} (h : ∀ y ∈ l, y ≠ x) : idxL l x = l ++ [x] ∧ idxA l x = l.length := by
  unfold idxL idxA
  rw [if_neg (fun hm => h x hm rfl), if_neg (fun hm => h x hm rfl)]
  exact ⟨rfl, rfl⟩
theorem slR_some {l : Txt} {k : Int} (h : (slashP l k).isSome = true) : slR l k = ((funV l).name, (funV l).arity) ∧ k ≤ (funV l).arity := by
  cases hs : slashP l k with
  | none => rw [hs] at h; cases h
  | some f =>
    have h1 := slash_ok hs
    have h2 := slash_funV hs
    unfold slR
    rw [hs, ← h2]
    exact ⟨rfl, h1.2.1⟩
theorem slR_no {l : Txt} {k : Int} (h : (slashP l k).isSome = false) : slR l k = (⟨#[]⟩, -1) := by
  cases hs : slashP l k with
  | none => unfold slR; rw [hs]
  | some f => rw [hs] at h; cases h
theorem label_num {l : Txt} : 0 ≤ labelP l ↔ l.head? = some 64 ∧ 1 < l.length ∧ 0 ≤ numT l.tail ∧ numT l.tail ≤ 1023 := by
  by_cases h : l.head? = some 64
  · rw [labelP_yes h]
    have hn : l.length ≤ 1 → numT l.tail = -1 := fun hl => by
      have : l.tail = [] := List.eq_nil_of_length_eq_zero (by rw [List.length_tail]; omega)
      rw [this]
      exact numT_size (.inl (by simp))
    unfold numM
    by_cases h1 : 0 ≤ numT l.tail ∧ numT l.tail ≤ 1023
    · rw [if_pos h1]
      exact ⟨fun _ => ⟨h, Classical.byContradiction fun e => by have := hn (by omega); omega, h1⟩, fun _ => h1.1⟩
    · rw [if_neg h1]
      exact ⟨fun e => by omega, fun e => absurd e.2.2 h1⟩
  · rw [labelP_no h]
    exact ⟨fun e => by omega, fun e => absurd e.1 h⟩
theorem label_val {l : Txt} (h : 0 ≤ labelP l) : labelP l = numT l.tail := by
  have h1 := label_num.1 h
  rw [labelP_yes h1.1]
  exact if_pos h1.2.2
/-- What an operand leaves: its number, whether it fits, the object behind it. -/
def OpR (w0 w : World) (ab : Nat) (L : List Nat) (p : Nat → Nat) (S : AS) (op : Int) (k : Nat) (l : Txt) (e : Ending) (w' : World) : Prop :=
  ∃ v : Int, e = .returned (.tuple #[.int .i64 v, .bool (fitsP op k l)]) ∧ (fitsP op k l = true → v = (operandP S.o k l).2 ∧ RsDone w0 w ab L p { S with o := (operandP S.o k l).1 } w') ∧ (fitsP op k l = false → RsDone w0 w ab L p S w')
attribute [local irreducible] fitsP operandP plainP labelP slashP slR

set_option maxRecDepth 100000 in
set_option maxHeartbeats 12800000 in
theorem operandR_any {w0 w : World} {ab : Nat} {L : List Nat} {p : Nat → Nat} {S : AS} (hA : Rs w0 w ab L p S) (op : Int) (k : Nat) (h1k : 1 ≤ k) (h9k : k < 10) (s : ByteArray) (hl : s.size ≤ 4294967000) (hf : Fits S.o) (hn : S.o.atoms.length ≤ 65000 ∧ S.o.funs.length ≤ 65000 ∧ S.o.preds.length ≤ 65000) :
    Calls Tryz.prog 57 #[.pointer (some ⟨ab, 0, none⟩), .int .i64 op, .int .i64 k, .string s] w (OpR w0 w ab L p S op k s.data.toList) := by
  obtain ⟨K, hK⟩ : ∃ K : Int, (k : Int) = K := ⟨_, rfl⟩
  have HAs := Lib.hid hA
  by_cases h3 : k = 3
  · subst h3
    have HV : Hid (fitsP op 3 s.data.toList = nameOk s) := Lib.hid (by rw [fits_3, wdB_of])
    have HO : Hid (operandP S.o 3 s.data.toList = ({ S.o with atoms := idxL S.o.atoms s }, (idxA S.o.atoms s : Int))) := Lib.hid (by rw [opnd_3, wdB_of])
    have d3 : (K == 3) = true := by rw [← hK]; rfl
    have HNm := Lib.hid (refName_any s)
    have HAs := Lib.hid hA
    obtain ⟨AA, FA, PA, CA, UA, BA, ca, cf, cp, cc, cu, cb, hm, hok, hL, hlt⟩ := hA
    have HOk := Lib.hid hok
    have HL := Lib.hid hL
    have HLt := Lib.hid hlt
    have HM := Lib.hid hm
    have HN := Lib.hid hn.1
    have HA := Lib.hid (Rd.of_own hm.atoms)
    have q0 := hm.c0
    clear hm hL hlt hn hf hok h1k h9k hl
    obtain ⟨n, hnl⟩ : ∃ n, S.o.atoms.length = n := ⟨_, rfl⟩
    have HNl := Lib.hid hnl
    have hn65 : n ≤ 65000 := by have := HN.out; omega
    rw [hnl] at q0
    unfold OpR
    rw [hK]
    clear hnl hK
    cases hb : nameOk s with
    | false =>
      rw [hb] at HNm HV
      go_enter Tryz.func57, Tryz.ntmps57
      go_wp2_with fail
      refine (HNm.out w).mono ?_
      rintro e w1 ⟨rfl, hw⟩
      subst hw
      go_wp2_with fail
      go_ret2
      refine ⟨0, by rw [HV.out]; rfl, ?_, ?_⟩
      · intro h
        rw [HV.out] at h
        cases h
      · intro _
        exact RsDone.of_keeps HAs.out (Keeps.refl _ _)
    | true =>
      rw [hb] at HNm HV
      go_enter Tryz.func57, Tryz.ntmps57
      go_wp2_with fail
      refine (HNm.out w).mono ?_
      rintro e w1 ⟨rfl, hw⟩
      subst hw
      go_wp2_with fail
      go_loopw [10] (fun i wr => ∃ j : Nat, j ≤ n ∧ i = .int .i64 j ∧ Hid (∀ y ∈ S.o.atoms.take j, y ≠ s) ∧ Keeps w wr []) (fun i _ => n - (intOf i).toNat)
      case atStart => exact ⟨0, Nat.zero_le _, rfl, fun y hy => by simp at hy, Keeps.refl _ _⟩
      case round =>
        obtain ⟨j, hj, rfl, HB, kr⟩ := hrel
        have HK1 := Lib.hid kr
        have HM1 := Lib.hid (HM.out.keep0 kr)
        have q1 : wr.cell? ⟨ab, 0, none⟩ = some (.slice AA n ca) := by have := HM1.out.c0; rwa [HNl.out] at this
        clear kr q0
        by_cases hlt : j < n
        · obtain ⟨x, hx⟩ := at_of HNl.out hlt
          obtain ⟨b, off, rfl, hb1, hc⟩ := (HA.out.keep HK1.out).field strE_len hx (by omega)
          have p0 : wr.cell? ⟨b, off + j, none⟩ = some (.string x) := by have := hc 0 _ rfl; simpa using this
          have HX := Lib.hid hx
          have b1 : (j : Int) < (n : Int) := by omega
          have b0 : (0 : Int) ≤ (j : Int) := Int.natCast_nonneg _
          clear hx hb1 hc
          by_cases hxs : x = s
          · subst hxs
            have HI := Lib.hid (idx_found HX.out HB.out)
            go_wp2_with fail
            go_ret2
            refine ⟨j, by rw [HV.out]; rfl, ?_, ?_⟩
            · intro _
              rw [HO.out, HI.out.1, HI.out.2]
              exact ⟨rfl, RsDone.of_keeps HAs.out HK1.out⟩
            · intro h
              rw [HV.out] at h
              cases h
          · have HB2 : Hid (∀ y ∈ S.o.atoms.take (j + 1), y ≠ s) := by
              show ∀ y ∈ S.o.atoms.take (j + 1), y ≠ s
              rw [take_snocA HX.out]
              intro y hy
              rcases List.mem_append.1 hy with hy | hy
              · exact HB.out y hy
              · obtain rfl := List.mem_singleton.1 hy
                exact hxs
            have d0 : (x.toList == s.toList) = false := by rw [str_eqA]; exact decide_eq_false hxs
            clear hxs
            go_wp2_with fail
            go_roundw
            case rel => exact ⟨j + 1, by omega, by go_num, HB2, HK1.out⟩
            case measure => simp [intOf]; omega
        · obtain rfl : n = j := by omega
          have HI := Lib.hid (idx_new (x := s) (l := S.o.atoms) (by have := HB.out; rwa [List.take_of_length_le (by rw [HNl.out]; exact Nat.le_refl _)] at this))
          have b1 : ¬ (n : Int) < (n : Int) := by omega
          clear hlt hj
          obtain ⟨w1, hw1⟩ : ∃ w1, w1 = wr := ⟨_, rfl⟩
          rw [← hw1] at HK1 HM1 q1 ⊢
          clear hw1 q1
          have HO1 : Hid (w1.ownsRow w0.heap.size 9 1 (.slice AA n ca) n (S.o.atoms.flatMap strE)) := Lib.hid (by have := HM1.out.atoms; rwa [HNl.out] at this)
          have q1 : w1.cell? ⟨ab, 0, none⟩ = some (.slice AA n ca) := by have := HM1.out.c0; rwa [HNl.out] at this
          have f1 := HM1.out.blk.frozen 0
          have hw : wrap64 (n : Int) = (n : Int) := by have := HN.out; have := HNl.out; unfold wrap64; omega
          go_wp2_with (at_builtin; have K5 := (Keeps.refl w1 []).alloc (.cells #[.string s] 9); refine wpList_app_head _ el_atomR (by rfl) (.tmp 49) (.tmp 51) (by rfl) w0.heap.size AA n ca (S.o.atoms.flatMap strE) (by rfl) (own_keep0 HO1.out K5) ⟨w1.heap.size, 0, none⟩ 1 1 (strE s) (by rfl) (Rd.one w1 _ (strE s)) rfl (by simp [strE, Value.oneCell']) (by have := HN.out; have := HNl.out; omega) (Nat.le_trans HM1.out.bel.size K5.size) ?_; intro A' c' w2 hown hgrow hat hhead; have HAp := Lib.hid (app_factsA K5 hown hgrow hat); have HPr : Hid (∀ u, Prot w1 (w2.setCell ⟨ab, 0, none⟩ u) p) := fun u => prot_app K5 hgrow hhead (by rw [← HNl.out]; exact HOk.out.atoms) HOk.out.z 0 u; have hB2 := HM1.out.blk.grownA K5 hgrow (own_outA HM1.out.atoms HM1.out.blk (by decide)); have q2 : w2.cell? ⟨ab, 0, none⟩ = some (.slice AA S.o.atoms.length ca) := (hB2.cell 0).trans (rsCells_0 _ _ _ _ _ _ _); have f2 := hB2.frozen 0; clear hown hgrow hat hhead K5 hB2)
          go_ret2
          obtain ⟨a1, a2, a3⟩ := HAp.out
          have hlen : (S.o.atoms ++ [s]).length = n + 1 := by rw [List.length_append, HNl.out]; rfl
          have hz1 := HK1.out.size
          obtain ⟨L', g1, g2⟩ := HM1.out.atoms_pack ⟨HOk.out.z, HOk.out.atoms, HOk.out.funs, HOk.out.preds, fun g hg => HOk.out.new g (Nat.le_trans hz1 hg)⟩ HL.out (fun b hb => ⟨(HLt.out b hb).1, Nat.lt_of_lt_of_le (HLt.out b hb).2 hz1⟩) a2 (A' := A') (c' := c') (l' := S.o.atoms ++ [s]) (by rw [hlen, HNl.out]; omega) (by rw [hlen, List.flatMap_append]; simpa using a1) a3
          rw [hlen] at g1 g2
          refine ⟨n, ?_, ?_, ?_⟩
          · rw [HV.out]
            first
              | rfl
              | (conv => rhs; rw [← hw]
                 rfl)
          · intro _
            rw [HO.out, HI.out.1, HI.out.2, HNl.out]
            exact ⟨rfl, RsDone.trans HK1.out ⟨L', g1, g2, HPr.out _⟩⟩
          · intro h
            rw [HV.out] at h
            cases h
  have d3 : (K == 3) = false := by rw [beq_eq_false_iff_ne]; omega
  by_cases h4 : k = 4
  · subst h4
    have HV := Lib.hid (fits_4 op s.data.toList)
    have d4 : (K == 4) = true := by rw [← hK]; rfl
    have HSl := Lib.hid (refSlash_any s 1 (by omega) (by omega) w)
    have HA0 := Lib.hid hA
    obtain ⟨AA, FA, PA, CA, UA, BA, ca, cf, cp, cc, cu, cb, hm, hok, hL, hlt⟩ := hA
    have HOk := Lib.hid hok
    have HL := Lib.hid hL
    have HLt := Lib.hid hlt
    have HM := Lib.hid hm
    have HN := Lib.hid hn.2.1
    have HA := Lib.hid (Rd.of_own hm.funs)
    clear hm hL hlt hn hf hok h1k h9k hl
    obtain ⟨n, hnl⟩ : ∃ n, S.o.funs.length = n := ⟨_, rfl⟩
    have HNl := Lib.hid hnl
    have hn65 : n ≤ 65000 := by have := HN.out; omega
    unfold OpR
    rw [hK]
    clear hnl hK
    cases hb : (slashP s.data.toList 1).isSome with
    | false =>
      rw [hb] at HV
      rw [slR_no hb] at HSl
      clear hb
      go_enter Tryz.func57, Tryz.ntmps57
      go_wp2_with fail
      refine HSl.out.mono ?_
      rintro e w1 ⟨rfl, k1⟩
      have HK1 := Lib.hid k1
      have q1 : w1.cell? ⟨ab, 1, none⟩ = some (.slice FA n cf) := by have := (HM.out.keep0 k1).c1; rwa [HNl.out] at this
      clear k1
      go_wp2_with fail
      go_loopw [13] (fun i wr => i = .int .i64 0 ∧ wr = w1) (fun _ _ => 0)
      case atStart => exact ⟨rfl, rfl⟩
      case round =>
        obtain ⟨rfl, rfl⟩ := hrel
        by_cases hlt : 0 < n
        · have b1 : (0 : Int) < (n : Int) := by omega
          go_wp2_with fail
          go_ret2
          refine ⟨_, by rw [HV.out]; rfl, ?_, ?_⟩
          · intro h
            rw [HV.out] at h
            cases h
          · intro _
            exact RsDone.of_keeps HAs.out HK1.out
        · have b1 : ¬ (0 : Int) < (n : Int) := by omega
          go_wp2_with fail
          go_ret2
          refine ⟨_, by rw [HV.out]; rfl, ?_, ?_⟩
          · intro h
            rw [HV.out] at h
            cases h
          · intro _
            exact RsDone.of_keeps HAs.out HK1.out
    | true =>
      have HO := Lib.hid (opnd_4 S.o s.data.toList hb)
      rw [hb] at HV
      have hs := slR_some hb
      rw [hs.1] at HSl
      have hge := hs.2
      clear hb hs
      generalize funV s.data.toList = f at *
      obtain ⟨fn, fa⟩ := f
      dsimp only at HSl hge
      have d9 : (0 : Int) < fa := by omega
      go_enter Tryz.func57, Tryz.ntmps57
      go_wp2_with fail
      refine HSl.out.mono ?_
      rintro e w1' ⟨rfl, k1⟩
      have HK0 := Lib.hid k1
      clear k1
      go_wp2_with fail
      go_loopw [13] (fun i wr => ∃ j : Nat, j ≤ n ∧ i = .int .i64 j ∧ Hid (∀ y ∈ S.o.funs.take j, y ≠ ⟨fn, fa⟩) ∧ Keeps w wr []) (fun i _ => n - (intOf i).toNat)
      case atStart => exact ⟨0, Nat.zero_le _, rfl, fun y hy => by simp at hy, HK0.out⟩
      case round =>
        obtain ⟨j, hj, rfl, HB, kr⟩ := hrel
        have HK1 := Lib.hid kr
        have HM1 := Lib.hid (HM.out.keep0 kr)
        have q1 : wr.cell? ⟨ab, 1, none⟩ = some (.slice FA n cf) := by have := HM1.out.c1; rwa [HNl.out] at this
        clear kr
        by_cases hlt : j < n
        · obtain ⟨x, hx⟩ := at_of HNl.out hlt
          obtain ⟨b, off, rfl, hb1, hc⟩ := (HA.out.keep HK1.out).field funE_len hx (by omega)
          have p0 : wr.cell? ⟨b, off + j * 2, none⟩ = some (.string x.name) := by have := hc 0 _ rfl; simpa using this
          have p1 : wr.cell? ⟨b, off + j * 2 + 1, none⟩ = some (.int .i64 x.arity) := by have := hc 1 _ rfl; simpa using this
          have HX := Lib.hid hx
          have b1 : (j : Int) < (n : Int) := by omega
          have b0 : (0 : Int) ≤ (j : Int) := Int.natCast_nonneg _
          clear hx hb1 hc
          by_cases hxs : x = ⟨fn, fa⟩
          · subst hxs
            have HI := Lib.hid (idx_found HX.out HB.out)
            go_wp2_with fail
            go_ret2
            refine ⟨j, by rw [HV.out]; rfl, ?_, ?_⟩
            · intro _
              rw [HO.out, HI.out.1, HI.out.2]
              exact ⟨rfl, RsDone.of_keeps HAs.out HK1.out⟩
            · intro h
              rw [HV.out] at h
              cases h
          · have HB2 : Hid (∀ y ∈ S.o.funs.take (j + 1), y ≠ ⟨fn, fa⟩) := by
              show ∀ y ∈ S.o.funs.take (j + 1), y ≠ ⟨fn, fa⟩
              rw [take_snocA HX.out]
              intro y hy
              rcases List.mem_append.1 hy with hy | hy
              · exact HB.out y hy
              · obtain rfl := List.mem_singleton.1 hy
                exact hxs
            obtain ⟨xn, xa⟩ := x
            dsimp only at p0 p1
            by_cases hn1 : xn = fn
            · have d0 : (xn.toList == fn.toList) = true := by rw [str_eqA]; exact decide_eq_true hn1
              have d1 : (xa == fa) = false := by rw [beq_eq_false_iff_ne]; rintro rfl; exact hxs (by rw [hn1])
              clear hxs
              go_wp2_with fail
              go_roundw
              case rel => exact ⟨j + 1, by omega, by go_num, HB2, HK1.out⟩
              case measure => simp [intOf]; omega
            · have d0 : (xn.toList == fn.toList) = false := by rw [str_eqA]; exact decide_eq_false hn1
              clear hxs
              go_wp2_with fail
              go_roundw
              case rel => exact ⟨j + 1, by omega, by go_num, HB2, HK1.out⟩
              case measure => simp [intOf]; omega
        · obtain rfl : n = j := by omega
          have HI := Lib.hid (idx_new (x := ⟨fn, fa⟩) (l := S.o.funs) (by have := HB.out; rwa [List.take_of_length_le (by rw [HNl.out]; exact Nat.le_refl _)] at this))
          have b1 : ¬ (n : Int) < (n : Int) := by omega
          clear hlt hj
          obtain ⟨w1, hw1⟩ : ∃ w1, w1 = wr := ⟨_, rfl⟩
          rw [← hw1] at HK1 HM1 q1 ⊢
          clear hw1 q1
          have HO1 : Hid (w1.ownsRow w0.heap.size 76 2 (.slice FA n cf) n (S.o.funs.flatMap funE)) := Lib.hid (by have := HM1.out.funs; rwa [HNl.out] at this)
          have q1 : w1.cell? ⟨ab, 1, none⟩ = some (.slice FA n cf) := by have := HM1.out.c1; rwa [HNl.out] at this
          have f1 := HM1.out.blk.frozen 1
          have hw : wrap64 (n : Int) = (n : Int) := by have := HN.out; have := HNl.out; unfold wrap64; omega
          go_wp2_with (at_builtin; have K5 := (Keeps.refl w1 []).alloc (.cells #[.string fn, .int .i64 fa] 76); refine wpList_app_head _ el_funR (by rfl) (.tmp 104) (.tmp 108) (by rfl) w0.heap.size FA n cf (S.o.funs.flatMap funE) (by rfl) (own_keep0 HO1.out K5) ⟨w1.heap.size, 0, none⟩ 1 1 (funE ⟨fn, fa⟩) (by rfl) (Rd.one w1 _ (funE ⟨fn, fa⟩)) rfl (by simp [funE, Value.oneCell']) (by have := HN.out; have := HNl.out; omega) (Nat.le_trans HM1.out.bel.size K5.size) ?_; intro A' c' w2 hown hgrow hat hhead; have HAp := Lib.hid (app_factsA K5 hown hgrow hat); have HPr : Hid (∀ u, Prot w1 (w2.setCell ⟨ab, 1, none⟩ u) p) := fun u => prot_app K5 hgrow hhead (by rw [← HNl.out]; exact HOk.out.funs) HOk.out.z 1 u; have hB2 := HM1.out.blk.grownA K5 hgrow (own_outA HM1.out.funs HM1.out.blk (by decide)); have q2 : w2.cell? ⟨ab, 1, none⟩ = some (.slice FA S.o.funs.length cf) := (hB2.cell 1).trans (rsCells_1 _ _ _ _ _ _ _); have f2 := hB2.frozen 1; clear hown hgrow hat hhead K5 hB2)
          go_ret2
          obtain ⟨a1, a2, a3⟩ := HAp.out
          have hlen : (S.o.funs ++ [(⟨fn, fa⟩ : LFun)]).length = n + 1 := by rw [List.length_append, HNl.out]; rfl
          have hz1 := HK1.out.size
          obtain ⟨L', g1, g2⟩ := HM1.out.funs_pack ⟨HOk.out.z, HOk.out.atoms, HOk.out.funs, HOk.out.preds, fun g hg => HOk.out.new g (Nat.le_trans hz1 hg)⟩ HL.out (fun b hb => ⟨(HLt.out b hb).1, Nat.lt_of_lt_of_le (HLt.out b hb).2 hz1⟩) a2 (A' := A') (c' := c') (l' := S.o.funs ++ [(⟨fn, fa⟩ : LFun)]) (by rw [hlen, HNl.out]; omega) (by rw [hlen, List.flatMap_append]; simpa using a1) a3
          rw [hlen] at g1 g2
          refine ⟨n, ?_, ?_, ?_⟩
          · rw [HV.out]
            first
              | rfl
              | (conv => rhs; rw [← hw]
                 rfl)
          · intro _
            rw [HO.out, HI.out.1, HI.out.2, HNl.out]
            exact ⟨rfl, RsDone.trans HK1.out ⟨L', g1, g2, HPr.out _⟩⟩
          · intro h
            rw [HV.out] at h
            cases h
  have d4 : (K == 4) = false := by rw [beq_eq_false_iff_ne]; omega
  by_cases h7 : k = 7
  · subst h7
    have HV := Lib.hid (fits_7 op s.data.toList)
    have d7 : (K == 7) = true := by rw [← hK]; rfl
    have HSl := Lib.hid (refSlash_any s 0 (by omega) (by omega) w)
    unfold OpR
    rw [hK]
    cases hb : (slashP s.data.toList 0).isSome with
    | false =>
      rw [hb] at HV
      rw [slR_no hb] at HSl
      clear hK hA hf hn hb
      go_enter Tryz.func57, Tryz.ntmps57
      go_wp2_with fail
      refine HSl.out.mono ?_
      rintro e w1 ⟨rfl, k1⟩
      have HK1 := Lib.hid k1
      clear k1
      go_wp2_with fail
      go_ret2
      refine ⟨0, by rw [HV.out]; rfl, ?_, ?_⟩
      · intro h
        rw [HV.out] at h
        cases h
      · intro _
        exact RsDone.of_keeps HAs.out HK1.out
    | true =>
      have HO := Lib.hid (opnd_7 S.o s.data.toList hb)
      rw [hb] at HV
      have hs := slR_some hb
      rw [hs.1] at HSl
      have hge := hs.2
      have HP : Hid (∀ w1, Keeps w w1 [] → _) := fun w1 (k1 : Keeps w w1 []) => predR_any (HAs.out.keep0 k1) (funV s.data.toList) hf hn.2.2
      clear hK hA hf hn hb hs
      generalize funV s.data.toList = f at *
      dsimp only at HSl
      obtain ⟨fn, fa⟩ := f
      dsimp only at HSl hge HP
      have d9 : ¬ fa < 0 := by omega
      go_enter Tryz.func57, Tryz.ntmps57
      go_wp2_with fail
      refine HSl.out.mono ?_
      rintro e w1 ⟨rfl, k1⟩
      have HK1 := Lib.hid k1
      have HP1 := Lib.hid (HP.out w1 k1)
      clear k1 HP
      go_wp2_with fail
      refine HP1.out.mono ?_
      rintro e w2 ⟨rfl, hd⟩
      have HD := Lib.hid hd
      clear hd
      go_wp2_with fail
      go_ret2
      refine ⟨_, by rw [HV.out]; rfl, ?_, ?_⟩
      · intro _
        rw [HO.out]
        exact ⟨rfl, RsDone.trans HK1.out HD.out⟩
      · intro h
        rw [HV.out] at h
        cases h
  have d7 : (K == 7) = false := by rw [beq_eq_false_iff_ne]; omega
  by_cases h8 : k = 8
  · subst h8
    have d8 : (K == 8) = true := by rw [← hK]; rfl
    have HV := Lib.hid (fits_8 op s.data.toList)
    have hdash := dash_is s
    have hop8 := opnd_8 S.o s.data.toList
    have hln := label_num (l := s.data.toList)
    have hlv := label_val (l := s.data.toList)
    have hsz : s.data.toList.length = s.size := rfl
    unfold OpR
    rw [hK]
    by_cases hA1 : op = 26 ∧ s.data.toList = [45]
    · have d0 : (op == 26) = true := by simpa using hA1.1
      have d1 : (s.toList == [45]) = true := by rw [hdash]; simpa using hA1.2
      have HF : Hid (fitsP op 8 s.data.toList = true) := Lib.hid (by rw [HV.out, hA1.1, hA1.2]; simp)
      rw [if_pos hA1.2] at hop8
      have HO := Lib.hid hop8
      clear hK hA hf hn hdash hop8 hln hlv hA1
      go_enter Tryz.func57, Tryz.ntmps57
      go_wp2_with fail
      go_ret2
      refine ⟨65535, by rw [HF.out]; rfl, ?_, ?_⟩
      · intro _
        rw [HO.out]
        exact ⟨rfl, RsDone.of_keeps HAs.out (Keeps.refl _ _)⟩
      · intro h
        rw [HF.out] at h
        cases h
    have hF : fitsP op 8 s.data.toList = decide (0 ≤ labelP s.data.toList) := by
      rw [HV.out]
      by_cases h1 : op = 26
      · have h2 : s.data.toList ≠ [45] := fun e => hA1 ⟨h1, e⟩
        have h3 : (s.data.toList == [45]) = false := by simpa using h2
        rw [h3]
        simp
      · have h3 : (op == 26) = false := by simpa using h1
        rw [h3]
        simp
    have HO : Hid (0 ≤ labelP s.data.toList → operandP S.o 8 s.data.toList = (S.o, numT s.data.toList.tail)) := Lib.hid (fun h0 => by
      rw [hop8, if_neg, hlv h0]
      intro e
      have := (hln.1 h0).1
      rw [e] at this
      simp at this)
    have hD : (op == 26) = false ∨ ((op == 26) = true ∧ (s.toList == [45]) = false) := by
      by_cases h1 : op = 26
      · right
        have h2 : s.data.toList ≠ [45] := fun e => hA1 ⟨h1, e⟩
        exact ⟨by simpa using h1, by rw [hdash]; simpa using h2⟩
      · left
        simpa using h1
    clear HV hdash hop8 hlv hA1 hK hA hf hn h1k h9k
    by_cases hz : 1 < s.size
    · have b0 : (0 : Int) < (s.size : Int) := by omega
      have b1 : (1 : Int) < (s.size : Int) := by omega
      have b2 : (1 : Int) ≤ (s.size : Int) := by omega
      have hx := dat_at s 0 (by omega)
      obtain ⟨x, hxs⟩ : ∃ x, s[0] = x := ⟨_, rfl⟩
      rw [hxs] at hx
      have hhd : s.data.toList.head? = some x := by rw [List.head?_eq_getElem?]; exact hx
      by_cases hc : x = 64
      · have c1 : ((x.toNat : Int) == 64) = true := by rw [hc]; rfl
        have HNu : Hid (∀ w, Calls Tryz.prog 55 #[.string (s.extract 1 s.size)] w fun e w' => e = .returned (.int .i64 (numT s.data.toList.tail)) ∧ ∃ m, w' = w.drewN m) := Lib.hid (by
          rw [extract1 s]
          have := refNum_any (stB s.data.toList.tail)
          rw [stB_list] at this
          exact this)
        rw [hhd, hc, hsz] at hln
        simp only [true_and, hz] at hln
        clear hx hhd hc
        generalize numT s.data.toList.tail = v at *
        have HLn := Lib.hid hln
        have HF := Lib.hid hF
        clear hln hF
        rcases hD with d0 | ⟨d0, d1⟩
        · by_cases hv : 0 ≤ v
          · go_enter Tryz.func57, Tryz.ntmps57
            go_wp2_with fail
            refine (HNu.out w).mono ?_
            rintro e w1 ⟨rfl, m, rfl⟩
            go_wp2_with fail
            go_ret2
            refine ⟨v, ?_, ?_, ?_⟩
            · rw [HF.out, decide_eq_decide.2 (HLn.out.trans (show (0 ≤ v ∧ v ≤ 1023) ↔ v ≤ 1023 from ⟨fun h => h.2, fun h => ⟨hv, h⟩⟩))]
              rfl
            · intro h
              rw [HF.out, decide_eq_true_eq] at h
              rw [HO.out h]
              exact ⟨rfl, RsDone.of_keeps HAs.out (Keeps.ofDrewN _ _)⟩
            · intro _
              exact RsDone.of_keeps HAs.out (Keeps.ofDrewN _ _)
          · go_enter Tryz.func57, Tryz.ntmps57
            go_wp2_with fail
            refine (HNu.out w).mono ?_
            rintro e w1 ⟨rfl, m, rfl⟩
            go_wp2_with fail
            go_ret2
            have hfl : fitsP op 8 s.data.toList = false := by rw [HF.out, decide_eq_false_iff_not, HLn.out]; omega
            refine ⟨v, ?_, ?_, ?_⟩
            · rw [hfl]
              rfl
            · intro h
              rw [hfl] at h
              cases h
            · intro _
              exact RsDone.of_keeps HAs.out (Keeps.ofDrewN _ _)
        · by_cases hv : 0 ≤ v
          · go_enter Tryz.func57, Tryz.ntmps57
            go_wp2_with fail
            refine (HNu.out w).mono ?_
            rintro e w1 ⟨rfl, m, rfl⟩
            go_wp2_with fail
            go_ret2
            refine ⟨v, ?_, ?_, ?_⟩
            · rw [HF.out, decide_eq_decide.2 (HLn.out.trans (show (0 ≤ v ∧ v ≤ 1023) ↔ v ≤ 1023 from ⟨fun h => h.2, fun h => ⟨hv, h⟩⟩))]
              rfl
            · intro h
              rw [HF.out, decide_eq_true_eq] at h
              rw [HO.out h]
              exact ⟨rfl, RsDone.of_keeps HAs.out (Keeps.ofDrewN _ _)⟩
            · intro _
              exact RsDone.of_keeps HAs.out (Keeps.ofDrewN _ _)
          · go_enter Tryz.func57, Tryz.ntmps57
            go_wp2_with fail
            refine (HNu.out w).mono ?_
            rintro e w1 ⟨rfl, m, rfl⟩
            go_wp2_with fail
            go_ret2
            have hfl : fitsP op 8 s.data.toList = false := by rw [HF.out, decide_eq_false_iff_not, HLn.out]; omega
            refine ⟨v, ?_, ?_, ?_⟩
            · rw [hfl]
              rfl
            · intro h
              rw [hfl] at h
              cases h
            · intro _
              exact RsDone.of_keeps HAs.out (Keeps.ofDrewN _ _)
      · have c1 : ((x.toNat : Int) == 64) = false := by
          rw [beq_eq_false_iff_ne]
          intro e
          exact hc (UInt8.toNat_inj.1 (by have h9 : x.toNat = 64 := by omega
                                          rw [h9]; rfl))
        have HF : Hid (fitsP op 8 s.data.toList = false) := Lib.hid (by
          rw [hF, decide_eq_false_iff_not, hln, hhd]
          intro h
          exact hc (Option.some.inj h.1))
        clear hx hhd hc hln hF
        rcases hD with d0 | ⟨d0, d1⟩
        · go_enter Tryz.func57, Tryz.ntmps57
          go_wp2_with fail
          go_ret2
          refine ⟨-1, ?_, ?_, ?_⟩
          · rw [HF.out]
            rfl
          · intro h
            rw [HF.out] at h
            cases h
          · intro _
            exact RsDone.of_keeps HAs.out (Keeps.refl _ _)
        · go_enter Tryz.func57, Tryz.ntmps57
          go_wp2_with fail
          go_ret2
          refine ⟨-1, ?_, ?_, ?_⟩
          · rw [HF.out]
            rfl
          · intro h
            rw [HF.out] at h
            cases h
          · intro _
            exact RsDone.of_keeps HAs.out (Keeps.refl _ _)
    · have b1 : ¬ (1 : Int) < (s.size : Int) := by omega
      have HF : Hid (fitsP op 8 s.data.toList = false) := Lib.hid (by
        rw [hF, decide_eq_false_iff_not, hln, hsz]
        intro h
        exact hz h.2.1)
      clear hln hF
      rcases hD with d0 | ⟨d0, d1⟩
      · go_enter Tryz.func57, Tryz.ntmps57
        go_wp2_with fail
        go_ret2
        refine ⟨-1, ?_, ?_, ?_⟩
        · rw [HF.out]
          rfl
        · intro h
          rw [HF.out] at h
          cases h
        · intro _
          exact RsDone.of_keeps HAs.out (Keeps.refl _ _)
      · go_enter Tryz.func57, Tryz.ntmps57
        go_wp2_with fail
        go_ret2
        refine ⟨-1, ?_, ?_, ?_⟩
        · rw [HF.out]
          rfl
        · intro h
          rw [HF.out] at h
          cases h
        · intro _
          exact RsDone.of_keeps HAs.out (Keeps.refl _ _)
  have d8 : (K == 8) = false := by rw [beq_eq_false_iff_ne]; omega
  have hpk : PlainK k := ⟨h3, h4, h7, h8⟩
  have HV := Lib.hid (fits_o op s.data.toList ⟨h3, h4, h7, h8⟩)
  have HO := Lib.hid (opnd_o S.o s.data.toList ⟨h3, h4, h7, h8⟩)
  have HPl := Lib.hid (refPlain_any op k hpk h1k h9k s hl w)
  obtain ⟨pi, pe, hpp⟩ : ∃ i e, parseT opR (nameT (ofK k) ++ 32 :: s.data.toList) = (i, e) := ⟨_, _, rfl⟩
  have hpr := plain_right (w := s.data.toList) hpk h1k h9k
  have hpv := plainP_ok (k := k) (w := s.data.toList) (i := pi) (e := pe) (by rw [parse_same]; exact hpp)
  rw [hpp] at hpr HPl
  dsimp only at hpr HPl
  have HPr := Lib.hid hpr
  have HPv := Lib.hid hpv
  unfold OpR
  rw [hK] at HPl ⊢
  clear hK hA hf hn hpk hpp hpr hpv h3 h4 h7 h8 h1k h9k hl
  go_enter Tryz.func57, Tryz.ntmps57
  go_wp2_with fail
  refine HPl.out.mono ?_
  rintro e w1 ⟨rfl, k1⟩
  have HK1 := Lib.hid k1
  clear k1
  go_wp2_with fail
  go_ret2
  refine ⟨pi.a0, ?_, ?_, ?_⟩
  · rw [HV.out, decide_eq_decide.2 HPr.out]
    rfl
  · intro h
    rw [HV.out, decide_eq_true_eq] at h
    rw [HO.out, HPv.out, if_pos (HPr.out.1 h)]
    exact ⟨rfl, RsDone.of_keeps HAs.out HK1.out⟩
  · intro _
    exact RsDone.of_keeps HAs.out HK1.out
end Go.Proofs.YtpcihhdalofdiaaGreatDoor

/- A predicate begins; a label; is there too much: the program's. Printed by gen_asbegin.py. -/
namespace Go.Proofs.YtpcihhdalofdiaaGreatDoor
open Go.RowKit Go.Maps
attribute [local irreducible] numT kindsOf nameOf checkE fitsP operandP plainP labelP slashP

def isBeg (p : Nat) (b : Nat × Nat) : Bool := b.1 == p
theorem beg1_any (p : Nat) (b : Nat × Nat) (g : Nat) (w : World) (hg : Blk w g 3 #[.int .i64 p]) :
    Calls Tryz.prog 77 #[.agg #[.int .i64 b.1, .int .i64 b.2], .pointer (some ⟨g, 0, none⟩)] w fun e w' => e = .returned (.bool (isBeg p b)) ∧ Keeps w w' [] := by
  have k1 := (hg.alloc (.cells #[.int .i64 b.1, .int .i64 b.2] 108)).cell 0
  have HK : Hid (Keeps w (w.alloc (.cells #[.int .i64 b.1, .int .i64 b.2] 108)) []) := (Keeps.refl w []).alloc _
  obtain ⟨x, hx⟩ : ∃ x : Int, (b.1 : Int) = x := ⟨_, rfl⟩
  obtain ⟨y, hy⟩ : ∃ y : Int, (p : Int) = y := ⟨_, rfl⟩
  have HV : Hid (isBeg p b = (x == y)) := Lib.hid (by
    unfold isBeg
    rw [← hx, ← hy, Bool.eq_iff_iff, beq_iff_eq, beq_iff_eq]
    omega)
  rw [hx, hy] at k1
  rw [hx] at HK ⊢
  clear hg hx hy
  go_enter Tryz.func77, Tryz.ntmps77
  go_wp2_with fail
  go_ret
  exact ⟨by rw [HV.out]; rfl, HK.out⟩
set_option maxRecDepth 100000 in
set_option maxHeartbeats 3200000 in
theorem begIdx_any (p g : Nat) (A : Option Addr) (n c : Nat) (l : List (Nat × Nat)) (w : World) (hl : l.length = n) (hn : n ≤ 1000000) (hA : Rd w A (l.flatMap begE)) (hg : Blk w g 3 #[.int .i64 p]) :
    Calls Tryz.prog 108 #[.slice A n c, .func (.func 77) #[] #[.pointer (some ⟨g, 0, none⟩)]] w fun e w' => e = .returned (.int .i64 (findI (isBeg p) l)) ∧ Keeps w w' [] := by
  have HL := Lib.hid hl
  have HA := Lib.hid hA
  have HG := Lib.hid hg
  clear hl hA hg
  go_enter Tryz.func108, Tryz.ntmps108
  go_wp2_with fail
  go_loopw [8] (fun i wr => ∃ k : Nat, k ≤ n ∧ i = .int .i64 k ∧ Hid (∀ y ∈ l.take k, isBeg p y = false) ∧ Keeps w wr []) (fun i _ => n - (intOf i).toNat)
  case atStart => exact ⟨0, Nat.zero_le _, rfl, fun y hy => by simp at hy, Keeps.refl _ _⟩
  case round =>
    obtain ⟨k, hk, rfl, HB, kr⟩ := hrel
    have HK := Lib.hid kr
    clear kr
    by_cases hlt : k < n
    · obtain ⟨x, hx⟩ := at_of HL.out hlt
      obtain ⟨b, off, rfl, hb, hc⟩ := (HA.out).field begE_len hx (by omega)
      have HX := Lib.hid hx
      have q0 : wr.cell? ⟨b, off + k * 2, none⟩ = some (.int .i64 x.1) := (HK.out.cell0 hb).trans (hc 0 _ rfl)
      have q1 : wr.cell? ⟨b, off + k * 2 + 1, none⟩ = some (.int .i64 x.2) := (HK.out.cell0 hb).trans (hc 1 _ rfl)
      have HC := Lib.hid (beg1_any p x g wr (HG.out.keep HK.out (by simp)))
      clear hx hc
      have b0 : (0 : Int) ≤ (k : Int) := Int.natCast_nonneg _
      have b1 : (k : Int) < (n : Int) := by omega
      cases hp : isBeg p x with
      | true =>
        have HI : Hid (findI (isBeg p) l = (k : Int)) := findI_some HX.out hp HB.out
        rw [hp] at HC
        clear hp
        go_wp2_with (go_at_call 77; refine HC.out.mono ?_; rintro e w' ⟨rfl, k2⟩)
        go_ret
        exact ⟨by rw [HI.out]; rfl, HK.out.trans k2⟩
      | false =>
        have HB2 : Hid (∀ y ∈ l.take (k + 1), isBeg p y = false) := take_snoc_all HX.out hp HB.out
        rw [hp] at HC
        clear hp
        go_wp2_with (go_at_call 77; refine HC.out.mono ?_; rintro e w' ⟨rfl, k2⟩)
        go_roundw
        case rel => exact ⟨k + 1, by omega, by go_num, HB2, HK.out.trans k2⟩
        case measure => simp [intOf]; omega
    · obtain rfl : n = k := by omega
      have HI : Hid (findI (isBeg p) l = -1) := findI_none (by have := HB.out; rwa [List.take_of_length_le (by rw [HL.out]; omega)] at this)
      go_wp2_with fail
      go_ret
      exact ⟨by rw [HI.out]; rfl, HK.out⟩
theorem begHas_any (p g : Nat) (A : Option Addr) (n c : Nat) (l : List (Nat × Nat)) (w : World) (hl : l.length = n) (hn : n ≤ 1000000) (hA : Rd w A (l.flatMap begE)) (hg : Blk w g 3 #[.int .i64 p]) :
    Calls Tryz.prog 76 #[.slice A n c, .func (.func 77) #[] #[.pointer (some ⟨g, 0, none⟩)]] w fun e w' => e = .returned (.bool (l.any (isBeg p))) ∧ Keeps w w' [] := by
  have HC := Lib.hid (begIdx_any p g A n c l w hl hn hA hg)
  have HV := Lib.hid (findI_nonneg (isBeg p) l)
  generalize findI (isBeg p) l = v at *
  clear hl hA hg
  go_enter Tryz.func76, Tryz.ntmps76
  go_wp2_with fail
  refine HC.out.mono ?_
  rintro e w1 ⟨rfl, k1⟩
  go_wp2_with fail
  go_ret
  exact ⟨by rw [← HV.out]; rfl, k1⟩
/-- A line's end: what is wrong; where nothing is, the object behind it. -/
def LnDone (w0 w : World) (ab nl : Nat) (L : List Nat) (r : AS × Int) (e : Ending) (w' : World) : Prop := e = .returned (.int .i64 r.2) ∧ ∃ L' S', As w0 w' ab L' nl S' ∧ ASt w L w' L' ∧ (r.2 = 0 → S' = r.1)
/-- A predicate that has begun is among those that have. -/
def InvB (S : AS) : Prop := ∀ (k : Nat) (p : LPred), S.o.preds[k]? = some p → p.entry ≠ 65535 → S.begins.any (isBeg k) = true
theorem InvB.pred {S : AS} (h : InvB S) (f : LFun) : InvB { S with o := (predP S.o f).1 } := by
  intro k p hk he
  unfold predP at hk
  split at hk
  · exact h k p hk he
  · simp only at hk
    by_cases hl : k < S.o.preds.length
    · rw [List.getElem?_append_left hl] at hk
      exact h k p hk he
    · rw [List.getElem?_append_right (by omega)] at hk
      cases hm : k - S.o.preds.length with
      | zero =>
        rw [hm] at hk
        simp at hk
        subst hk
        exact absurd rfl he
      | succ j => rw [hm] at hk; simp at hk
theorem set_flat2 (x : LPred) (v : Int) : ∀ (l : List LPred) (k : Nat), l[k]? = some x → (l.flatMap predE).set (k * 3 + 2) (.int .i64 v) = (l.modify k fun p => { p with entry := v }).flatMap predE
  | [], k, h => by simp at h
  | y :: l, 0, h => by
    simp at h
    subst h
    rfl
  | y :: l, k + 1, h => by
    have ih := set_flat2 x v l k (by simpa using h)
    rw [List.flatMap_cons, List.modify_succ_cons, List.flatMap_cons, ← ih, List.set_append_right _ _ (by rw [predE_len]; omega), predE_len, show (k + 1) * 3 + 2 - 3 = k * 3 + 2 by omega]
set_option maxRecDepth 100000 in
set_option maxHeartbeats 3200000 in
theorem beginA_any {w0 w : World} {ab nl : Nat} {L : List Nat} {S : AS} (hA : As w0 w ab L nl S) (hI : InvB S) (s : ByteArray) (hl : s.size ≤ 4294967000) (line : Nat) (hf : Fits S.o) (hn : S.o.preds.length ≤ 65000 ∧ S.begins.length ≤ 1000000 ∧ S.o.code.length ≤ 65000) :
    Calls Tryz.prog 47 #[.pointer (some ⟨ab, 0, none⟩), .string s, .int .i64 line] w (LnDone w0 w ab nl L (beginP S s.data.toList line)) := by
  have HAs := Lib.hid hA
  have h := hA.st_
  have HN := Lib.hid (fun9_any s 0 (by omega) w h)
  cases hs : slashP s.data.toList 0 with
  | none =>
    have HV : Hid (beginP S s.data.toList line = (S, 17)) := Lib.hid (by unfold beginP; rw [hs])
    rw [hs] at HN
    clear hs hA h hI hf hn hl
    dsimp only [Option.isSome] at HN
    go_enter Tryz.func47, Tryz.ntmps47
    go_wp2_with fail
    refine HN.out.mono ?_
    rintro e w1 ⟨rfl, k1⟩
    have HK := Lib.hid (k1.alloc (.cells #[.string (funV s.data.toList).name, .int .i64 (funV s.data.toList).arity] 77))
    clear k1
    go_wp2_with fail
    go_ret
    exact ⟨by rw [HV.out]; rfl, L, S, HAs.out.keep0 HK.out, ASt.of_keeps HK.out L, fun h0 => by rw [HV.out] at h0; cases h0⟩
  | some f =>
    have hfv := slash_funV hs
    rw [hs, ← hfv] at HN
    dsimp only [Option.isSome] at HN
    have HV : Hid (beginP S s.data.toList line = if S.begins.any (isBeg (predP S.o f).2) then (S, 11) else ({ S with o := { (predP S.o f).1 with preds := (predP S.o f).1.preds.modify (predP S.o f).2 fun p => { p with entry := (S.o.code.length : Int) } }, begins := S.begins ++ [((predP S.o f).2, line)] }, 0)) := Lib.hid (by unfold beginP; rw [hs]; rfl)
    have HP : Hid (∀ w1, Keeps w w1 [] → _) := fun w1 (k1 : Keeps w w1 []) => predA_any (hA.keep0 k1) f hf hn.1
    have hIp := hI.pred f
    have hlt := predP_lt S.o f
    have hgr := predP_grows S.o f
    obtain ⟨o1, ho1⟩ : ∃ o1, (predP S.o f).1 = o1 := ⟨_, rfl⟩
    obtain ⟨p, hp⟩ : ∃ p, (predP S.o f).2 = p := ⟨_, rfl⟩
    rw [ho1, hp] at hlt HV
    rw [ho1, hp] at HP
    rw [ho1] at hIp hgr
    have hcode : S.o.code.length = o1.code.length := by rw [hgr.code]
    rw [hcode] at HV
    have gP := hgr.preds
    clear hs hfv hA h hI hf hl ho1 hp hgr
    obtain ⟨x, hx⟩ : ∃ x, o1.preds[p]? = some x := ⟨_, List.getElem?_eq_getElem hlt⟩
    have HX := Lib.hid hx
    have HIp := Lib.hid hIp
    have HN3 := Lib.hid hn
    have HLt := Lib.hid hlt
    have HgP := Lib.hid gP
    have HCd := Lib.hid hcode
    clear hx hIp hn hcode gP
    have hmf : ∀ (fn : Fn) (first cap : Array Value) (w : World), (Instr.makeFunc fn first cap).run Tryz.prog w = .ok (.func fn first cap) w := fun _ _ _ _ => rfl
    have mixed : Tryz.prog.follows .mixedOrders = true := by kernel_rfl
    go_enter Tryz.func47, Tryz.ntmps47
    go_wp2_with fail
    refine HN.out.mono ?_
    rintro e w1 ⟨rfl, k1⟩
    have HK := Lib.hid (k1.alloc (.cells #[.string f.name, .int .i64 f.arity] 77))
    have HP1 := Lib.hid (HP.out _ HK.out)
    clear k1 HP
    go_wp2_with fail
    refine HP1.out.mono ?_
    rintro e w2 ⟨rfl, L2, hA2, hs2⟩
    have k2 : Keeps w2 (w2.alloc (.cells #[.int .i64 p] 3)) [] := (Keeps.refl w2 []).alloc _
    have HGp : Hid (Blk (w2.alloc (.cells #[.int .i64 p] 3)) w2.heap.size 3 #[.int .i64 p]) := Blk.new _ _ _
    have HG0 := Lib.hid (fun hm => Nat.lt_irrefl _ (hA2.lt w2.heap.size hm).2)
    have hA3 := hA2.keep0 k2
    have HA3 := Lib.hid hA3
    have HS3 := Lib.hid (((ASt.of_keeps HK.out L).trans hs2).trans (ASt.of_keeps k2 L2))
    clear hA2 hs2 k2 HP1
    obtain ⟨vb, AA, FA, PA, CA, UA, BA, ca, cf, cp, cc, cu, cb, hm, hL, hlt3⟩ := hA3
    have HM := Lib.hid hm
    have HL := Lib.hid hL
    have HLt3 := Lib.hid hlt3
    clear hm hL hlt3
    obtain ⟨g, hPA, hcap⟩ := own_atA HM.out.preds (by have := HLt.out; simp only; omega)
    subst hPA
    obtain ⟨b, off, e0, hb, hc⟩ := (Rd.of_own HM.out.preds).field predE_len HX.out (by omega)
    injection e0 with e0
    injection e0 with e0 e1
    subst e0 e1
    have q2 := HM.out.blk.cell 2
    have q6 := HM.out.blk.cell 6
    have q3 := HM.out.blk.cell 3
    have y2 := hc 2 _ rfl
    have z0 := HGp.out.cell 0
    have b0 : (0 : Int) ≤ (p : Int) := Int.natCast_nonneg _
    have b1 : (p : Int) < (o1.preds.length : Int) := by have := HLt.out; omega
    obtain ⟨cur, hbk, _⟩ := own_block HM.out.preds
    have hfz := hbk.frozen (p * 3 + 2)
    clear hbk
    simp only [List.getElem?_toArray, List.getElem?_cons_zero, List.getElem?_cons_succ, Nat.zero_add] at q2 q6 q3 y2
    have HFz := Lib.hid hfz
    have HY2 := Lib.hid y2
    have HF5 : Hid (∀ W, Keeps (w2.alloc (.cells #[.int .i64 p] 3)) W [] → W.cell? ⟨ab, 2, none⟩ = some (.slice (some ⟨g, 0, none⟩) o1.preds.length cp) ∧ W.cell? ⟨ab, 6, none⟩ = some (.slice BA S.begins.length cb) ∧ W.cell? ⟨w2.heap.size, 0, none⟩ = some (.int .i64 p) ∧ W.cell? ⟨g, p * 3 + 2, none⟩ = some (.int .i64 x.entry)) := fun W kk => by
      have b := HM.out.blk.keep kk (by simp)
      have q2 := b.cell 2
      have q6 := b.cell 6
      simp only [List.getElem?_toArray, List.getElem?_cons_zero, List.getElem?_cons_succ] at q2 q6
      exact ⟨q2, q6, (HGp.out.keep kk (by simp)).cell 0, (kk.cell0 (block_lt_of_cell HY2.out)).trans HY2.out⟩
    have HCF := Lib.hid (begHas_any p w2.heap.size BA S.begins.length cb S.begins (w2.alloc (.cells #[.int .i64 p] 3)).drew rfl HN3.out.2.1 (Rd.of_own HM.out.begins) HGp.out)
    clear hc hb q2 q6 q3 y2 z0 hfz
    by_cases hx : x.entry = 65535
    · have d0 : (x.entry == 65535) = true := by simpa using hx
      have d1 : (x.entry != 65535) = false := by simpa using hx
      cases hany : S.begins.any (isBeg p) with
      | true =>
        rw [hany] at HCF HV
        have HV2 : Hid (beginP S s.data.toList line = (S, 11)) := HV.out.trans (if_pos rfl)
        clear hany hx
        go_upto_region 5 with fail
        refine wp_region_tx (fun W' => W'.cell? ⟨ab, 2, none⟩ = some (.slice (some ⟨g, 0, none⟩) o1.preds.length cp) ∧ W'.cell? ⟨ab, 6, none⟩ = some (.slice BA S.begins.length cb) ∧ W'.cell? ⟨w2.heap.size, 0, none⟩ = some (.int .i64 p) ∧ W'.cell? ⟨g, p * 3 + 2, none⟩ = some (.int .i64 x.entry)) [(0, true), (1, true), (2, true), (3, true), (4, true), (5, true), (6, true), (7, true), (8, true), (9, true), (10, true), (11, true), (12, true), (13, true), (14, true), (15, true), (16, false), (17, false)] (by kernel_rfl) (by kernel_rfl) (HF5.out _ (Keeps.refl _ _).drew) (fun hHeld => ?_)
        (repeat (first | (refine wpTx_take (v := ?_) rfl (by assumption) ?_ (by rfl) ?_; rotate_left; (focus (intro w' hSw; (try dsimp only at hSw); go_simp; (try with_reducible rfl); done)); simp only [Act.put, List.setIfInBounds_toArray, List.set_cons_zero, List.set_cons_succ]) | (refine wpTx_skip rfl (by assumption) (by rfl) ?_; simp only [Act.put, List.setIfInBounds_toArray, List.set_cons_zero, List.set_cons_succ])))
        refine wpTx_go rfl (fun K hK => ?_)
        go_simp
        refine HCF.out.mono ?_
        rintro e w4 ⟨rfl, k4'⟩
        have k4 : Keeps (w2.alloc (.cells #[.int .i64 p] 3)) w4 [] := (Keeps.refl _ []).drew.trans k4'
        clear k4'
        have HF5w := Lib.hid (HF5.out _ k4)
        refine hK.out _ _ ?_ ?_
        · exact HF5w.out
        (clear hHeld; intro hHeld; clear hK K; (try simp only [Act.put, List.setIfInBounds_toArray, List.set_cons_zero, List.set_cons_succ]))
        refine wpTx_last rfl (fun K hK => ?_)
        go_simp
        refine hK.out _ _ (NoPanic.normal ?_); clear hK K; (try simp only [Act.put, List.setIfInBounds_toArray, List.set_cons_zero, List.set_cons_succ])
        clear hHeld HF5w
        go_wp2_with fail
        go_ret
        exact ⟨by rw [HV2.out]; rfl, L2, _, HA3.out.keep0 k4, HS3.out.trans (ASt.of_keeps k4 L2), fun h0 => by rw [HV2.out] at h0; cases h0⟩
      | false =>
        rw [hany] at HCF HV
        have HV2 := Lib.hid (HV.out.trans (if_neg Bool.false_ne_true))
        clear hany hx
        go_upto_region 5 with fail
        refine wp_region_tx (fun W' => W'.cell? ⟨ab, 2, none⟩ = some (.slice (some ⟨g, 0, none⟩) o1.preds.length cp) ∧ W'.cell? ⟨ab, 6, none⟩ = some (.slice BA S.begins.length cb) ∧ W'.cell? ⟨w2.heap.size, 0, none⟩ = some (.int .i64 p) ∧ W'.cell? ⟨g, p * 3 + 2, none⟩ = some (.int .i64 x.entry)) [(0, true), (1, true), (2, true), (3, true), (4, true), (5, true), (6, true), (7, true), (8, true), (9, true), (10, true), (11, true), (12, true), (13, true), (14, true), (15, true), (16, false), (17, false)] (by kernel_rfl) (by kernel_rfl) (HF5.out _ (Keeps.refl _ _).drew) (fun hHeld => ?_)
        (repeat (first | (refine wpTx_take (v := ?_) rfl (by assumption) ?_ (by rfl) ?_; rotate_left; (focus (intro w' hSw; (try dsimp only at hSw); go_simp; (try with_reducible rfl); done)); simp only [Act.put, List.setIfInBounds_toArray, List.set_cons_zero, List.set_cons_succ]) | (refine wpTx_skip rfl (by assumption) (by rfl) ?_; simp only [Act.put, List.setIfInBounds_toArray, List.set_cons_zero, List.set_cons_succ])))
        refine wpTx_go rfl (fun K hK => ?_)
        go_simp
        refine HCF.out.mono ?_
        rintro e w4 ⟨rfl, k4'⟩
        have k4 : Keeps (w2.alloc (.cells #[.int .i64 p] 3)) w4 [] := (Keeps.refl _ []).drew.trans k4'
        clear k4'
        have HF5w := Lib.hid (HF5.out _ k4)
        refine hK.out _ _ ?_ ?_
        · exact HF5w.out
        (clear hHeld; intro hHeld; clear hK K; (try simp only [Act.put, List.setIfInBounds_toArray, List.set_cons_zero, List.set_cons_succ]))
        refine wpTx_last rfl (fun K hK => ?_)
        go_simp
        refine hK.out _ _ (NoPanic.normal ?_); clear hK K; (try simp only [Act.put, List.setIfInBounds_toArray, List.set_cons_zero, List.set_cons_succ])
        clear hHeld HF5w
        have HM4 := Lib.hid (HM.out.keep0 k4)
        have HS4 := Lib.hid (HS3.out.trans (ASt.of_keeps k4 L2))
        have HZ4 := Lib.hid k4.size
        have HF7 : Hid ((w4.drew.cell? ⟨ab, 2, none⟩ = some (.slice (some ⟨g, 0, none⟩) o1.preds.length cp) ∧ w4.drew.cell? ⟨ab, 3, none⟩ = some (.slice CA o1.code.length cc) ∧ w4.drew.cell? ⟨w2.heap.size, 0, none⟩ = some (.int .i64 p) ∧ w4.drew.cell? ⟨g, p * 3 + 2, none⟩ = some (.int .i64 x.entry)) ∧ w4.drew.frozen? ⟨g, p * 3 + 2, none⟩ = false) := by
          have b := HM.out.blk.keep k4 (by simp)
          have q2 := b.cell 2
          have q3 := b.cell 3
          simp only [List.getElem?_toArray, List.getElem?_cons_zero, List.getElem?_cons_succ] at q2 q3
          exact ⟨⟨q2, q3, (HGp.out.keep k4 (by simp)).cell 0, (k4.cell0 (block_lt_of_cell HY2.out)).trans HY2.out⟩, (k4.frozen (p := ⟨g, p * 3 + 2, none⟩) (block_lt_of_cell HY2.out) (by simp)).trans HFz.out⟩
        have HG4 := Lib.hid (HGp.out.keep k4 (by simp))
        clear k4 HCF HF5 d0 d1
        go_upto_region 7 with fail
        refine wp_region_tx (fun W' => (W'.cell? ⟨ab, 2, none⟩ = some (.slice (some ⟨g, 0, none⟩) o1.preds.length cp) ∧ W'.cell? ⟨ab, 3, none⟩ = some (.slice CA o1.code.length cc) ∧ W'.cell? ⟨w2.heap.size, 0, none⟩ = some (.int .i64 p) ∧ W'.cell? ⟨g, p * 3 + 2, none⟩ = some (.int .i64 x.entry)) ∧ W'.frozen? ⟨g, p * 3 + 2, none⟩ = false) [(0, true), (1, true), (2, true), (3, true), (4, true), (5, true), (6, true), (7, true), (8, true), (9, true), (10, true), (11, true), (12, true), (13, true), (14, false)] (by kernel_rfl) (by kernel_rfl) HF7.out (fun hHeld => ?_)
        (repeat (first | (refine wpTx_take (v := ?_) rfl (by assumption) ?_ (by rfl) ?_; rotate_left; (focus (intro w' hSw; (try dsimp only at hSw); go_simp; (try with_reducible rfl); done)); simp only [Act.put, List.setIfInBounds_toArray, List.set_cons_zero, List.set_cons_succ]) | (refine wpTx_skip rfl (by assumption) (by rfl) ?_; simp only [Act.put, List.setIfInBounds_toArray, List.set_cons_zero, List.set_cons_succ])))
        refine wpTx_last rfl (fun K hK => ?_)
        go_simp
        refine hK.out _ _ (NoPanic.normal ?_); clear hK K; (try simp only [Act.put, List.setIfInBounds_toArray, List.set_cons_zero, List.set_cons_succ])
        clear hHeld HF7
        have hgm : g ∈ ownL (.slice (some ⟨g, 0, none⟩) 0 0) := by simp [ownL, Value.ownBlock]
        have k5 : Keeps w4 (w4.setCell ⟨g, p * 3 + 2, none⟩ (.int .i64 o1.code.length)).drew (ownL (.slice (some ⟨g, 0, none⟩) 0 0)) := ((Keeps.refl w4 _).setCell (.inl hgm) _).drew
        have HM5 := Lib.hid (HM4.out.preds_in (l' := o1.preds.modify p fun q => { q with entry := (o1.code.length : Int) }) k5 (by simp) (by
          have h1 := own_cellA HM4.out.preds (p * 3 + 2) (.int .i64 o1.code.length)
          rw [set_flat2 x _ _ _ HX.out] at h1
          exact h1))
        have HG5 := Lib.hid (HG4.out.keep k5 (fun hm => (HG0.out (HL.out _ (by unfold asL; simp [hm])))))
        have HS5 : Hid (ASt w4 L2 (w4.setCell ⟨g, p * 3 + 2, none⟩ (.int .i64 o1.code.length)).drew L2) := ⟨k5.more (fun b _ hb => HL.out b (by unfold asL; simp [hb])), fun b hb => .inl hb⟩
        have hz5 := k5.size
        have HZ5 := Lib.hid hz5
        clear k5 hgm hz5
        generalize (w4.setCell ⟨g, p * 3 + 2, none⟩ (.int .i64 o1.code.length)).drew = w5 at *
        obtain ⟨n, hnl⟩ : ∃ n, S.begins.length = n := ⟨_, rfl⟩
        have HNl := Lib.hid hnl
        clear hnl
        have HO5 : Hid (w5.ownsRow w0.heap.size 108 2 (.slice BA n cb) n (S.begins.flatMap begE)) := Lib.hid (by have := HM5.out.begins; rw [HNl.out] at this; exact this)
        have HF8 : Hid (∀ W, Keeps w5 W [] → (W.cell? ⟨ab, 6, none⟩ = some (.slice BA n cb) ∧ W.cell? ⟨w2.heap.size, 0, none⟩ = some (.int .i64 p)) ∧ W.frozen? ⟨ab, 6, none⟩ = false) := fun W kk => by
          have b := HM5.out.blk.keep kk (by simp)
          have q6 := b.cell 6
          simp only [List.getElem?_toArray, List.getElem?_cons_zero, List.getElem?_cons_succ, HNl.out] at q6
          exact ⟨⟨q6, (HG5.out.keep kk (by simp)).cell 0⟩, b.frozen 6⟩
        go_upto_region 8 with fail
        refine wp_region_tx (fun W' => (W'.cell? ⟨ab, 6, none⟩ = some (.slice BA n cb) ∧ W'.cell? ⟨w2.heap.size, 0, none⟩ = some (.int .i64 p)) ∧ W'.frozen? ⟨ab, 6, none⟩ = false) [(0, true), (1, true), (2, true), (3, true), (4, true), (5, true), (6, true), (7, true), (8, false), (9, false), (10, true), (11, true), (12, false)] (by kernel_rfl) (by kernel_rfl) (HF8.out _ (Keeps.refl _ _).drew) (fun hHeld => ?_)
        (repeat (first | (refine wpTx_take (v := ?_) rfl (by assumption) ?_ (by rfl) ?_; rotate_left; (focus (intro w' hSw; (try dsimp only at hSw); go_simp; (try with_reducible rfl); done)); simp only [Act.put, List.setIfInBounds_toArray, List.set_cons_zero, List.set_cons_succ]) | (refine wpTx_skip rfl (by assumption) (by rfl) ?_; simp only [Act.put, List.setIfInBounds_toArray, List.set_cons_zero, List.set_cons_succ])))
        refine wpTx_go rfl (fun K hK => ?_)
        go_simp
        refine hK.out _ _ ?_ ?_
        · exact HF8.out _ ((Keeps.refl _ _).drew.alloc _)
        (clear hHeld; intro hHeld; clear hK K; (try simp only [Act.put, List.setIfInBounds_toArray, List.set_cons_zero, List.set_cons_succ]))
        refine wpTx_go rfl (fun K hK => ?_)
        have K5 : Keeps w5 (w5.drew.alloc (.cells #[.int .i64 p, .int .i64 line] 108)) [] := (Keeps.refl w5 []).drew.alloc _
        refine step_app _ el_begA (by rfl) _ _ (by rfl) w0.heap.size BA n cb (S.begins.flatMap begE) (by rfl) (own_keep0 HO5.out K5) (some ⟨w5.heap.size, 0, none⟩) 1 1 (begE (p, line)) (by rfl) (Rd.one w5.drew _ (begE (p, line))) rfl (by simp) (by simp [begE, Value.oneCell']) (by have := HN3.out; have := HNl.out; omega) (Nat.le_trans HM5.out.bel.size K5.size) ?_
        intro A' c' w6 hown hgrow hat
        have HAp := Lib.hid (app_factsA K5 hown hgrow hat)
        have hB6 := HM5.out.blk.grownA K5 hgrow (own_outA HM5.out.begins HM5.out.blk (by decide))
        have hb1 := HG5.out.grownA K5 hgrow (fun hm => HG0.out (HL.out _ (by unfold asL; simp [hm])))
        have HB6 : Hid (w6.cell? ⟨ab, 6, none⟩ = some (.slice BA S.begins.length cb) ∧ w6.frozen? ⟨ab, 6, none⟩ = false) := ⟨hB6.cell 6, hB6.frozen 6⟩
        have HX6 : Hid (w6.cell? ⟨w2.heap.size, 0, none⟩ = some (.int .i64 p)) := hb1.cell 0
        clear hown hgrow hat K5 hB6 hb1
        refine hK.out _ _ ?_ ?_
        · exact ⟨⟨by rw [← HNl.out]; exact HB6.out.1, HX6.out⟩, HB6.out.2⟩
        (clear hHeld; intro hHeld; clear hK K; (try simp only [Act.put, List.setIfInBounds_toArray, List.set_cons_zero, List.set_cons_succ]))
        (repeat (first | (refine wpTx_take (v := ?_) rfl (by assumption) ?_ (by rfl) ?_; rotate_left; (focus (intro w' hSw; (try dsimp only at hSw); go_simp; (try with_reducible rfl); done)); simp only [Act.put, List.setIfInBounds_toArray, List.set_cons_zero, List.set_cons_succ]) | (refine wpTx_skip rfl (by assumption) (by rfl) ?_; simp only [Act.put, List.setIfInBounds_toArray, List.set_cons_zero, List.set_cons_succ])))
        refine wpTx_last rfl (fun K hK => ?_)
        go_simp
        refine hK.out _ _ (NoPanic.normal ?_); clear hK K; (try simp only [Act.put, List.setIfInBounds_toArray, List.set_cons_zero, List.set_cons_succ])
        clear hHeld
        go_wp2_with fail
        go_ret
        obtain ⟨a1, a2, a3⟩ := HAp.out
        have hlen : (S.begins ++ [(p, line)]).length = n + 1 := by rw [List.length_append, HNl.out]; rfl
        obtain ⟨L', g1, g2⟩ := HM5.out.begins_pack HL.out (fun b hb => ⟨(HLt3.out b hb).1, Nat.lt_of_lt_of_le (HLt3.out b hb).2 (Nat.le_trans HZ4.out HZ5.out)⟩) a2 (A' := A') (c' := c') (l' := S.begins ++ [(p, line)]) (by rw [hlen, List.flatMap_append]; simpa using a1) a3
        rw [hlen] at g1 g2
        exact ⟨by rw [HV2.out]; rfl, L', _, g1, (HS4.out.trans HS5.out).trans g2, fun _ => by rw [HV2.out]⟩
    · have d0 : (x.entry == 65535) = false := by simpa using hx
      have d1 : (x.entry != 65535) = true := by simpa using hx
      have HV2 : Hid (beginP S s.data.toList line = (S, 11)) := HV.out.trans (if_pos (HIp.out p x HX.out hx))
      clear hx
      go_upto_region 5 with fail
      refine wp_region_tx (fun W' => W'.cell? ⟨ab, 2, none⟩ = some (.slice (some ⟨g, 0, none⟩) o1.preds.length cp) ∧ W'.cell? ⟨ab, 6, none⟩ = some (.slice BA S.begins.length cb) ∧ W'.cell? ⟨w2.heap.size, 0, none⟩ = some (.int .i64 p) ∧ W'.cell? ⟨g, p * 3 + 2, none⟩ = some (.int .i64 x.entry)) [(0, true), (1, true), (2, true), (3, true), (4, true), (5, true), (6, true), (7, true), (8, true), (9, true), (10, true), (11, true), (12, true), (13, true), (14, true), (15, true), (16, false), (17, false)] (by kernel_rfl) (by kernel_rfl) (HF5.out _ (Keeps.refl _ _).drew) (fun hHeld => ?_)
      (repeat (first | (refine wpTx_take (v := ?_) rfl (by assumption) ?_ (by rfl) ?_; rotate_left; (focus (intro w' hSw; (try dsimp only at hSw); go_simp; (try with_reducible rfl); done)); simp only [Act.put, List.setIfInBounds_toArray, List.set_cons_zero, List.set_cons_succ]) | (refine wpTx_skip rfl (by assumption) (by rfl) ?_; simp only [Act.put, List.setIfInBounds_toArray, List.set_cons_zero, List.set_cons_succ])))
      refine wpTx_go rfl (fun K hK => ?_)
      go_simp
      refine hK.out _ _ ?_ ?_
      · exact HF5.out _ (Keeps.refl _ _).drew
      (clear hHeld; intro hHeld; clear hK K; (try simp only [Act.put, List.setIfInBounds_toArray, List.set_cons_zero, List.set_cons_succ]))
      refine wpTx_last rfl (fun K hK => ?_)
      go_simp
      refine hK.out _ _ (NoPanic.normal ?_); clear hK K; (try simp only [Act.put, List.setIfInBounds_toArray, List.set_cons_zero, List.set_cons_succ])
      clear hHeld
      go_wp2_with fail
      go_ret
      exact ⟨by rw [HV2.out]; rfl, L2, _, HA3.out.keep0 (Keeps.refl _ _).drew, HS3.out.trans (ASt.of_keeps (Keeps.refl _ _).drew L2), fun h0 => by rw [HV2.out] at h0; cases h0⟩
/-! ### mark -/
set_option maxRecDepth 100000 in
set_option maxHeartbeats 3200000 in
theorem markA_any {w0 w : World} {ab nl : Nat} {L : List Nat} {S : AS} (hA : As w0 w ab L nl S) (hnl : nl ≤ 1000000) (s : ByteArray) (hl : s.size ≤ 4294967000) (hn : S.o.code.length ≤ 65000) :
    Calls Tryz.prog 49 #[.pointer (some ⟨ab, 0, none⟩), .string s] w (LnDone w0 w ab (nl + 1) L (markP S s.data.toList)) := by
  have HAs := Lib.hid hA
  have HN := Lib.hid (label9_any s (by omega) w hA.st_)
  have hle := labelP_le s.data.toList
  obtain ⟨v, hv⟩ : ∃ v, labelP s.data.toList = v := ⟨_, rfl⟩
  rw [hv] at HN hle
  have HV : Hid (markP S s.data.toList = if v < 0 then (S, 17) else if (S.labels v).isSome then (S, 11) else ({ S with labels := fun n => if n = v then some S.o.code.length else S.labels n }, 0)) := Lib.hid (by unfold markP; rw [hv])
  have hi : I64A v := ⟨by omega, by omega⟩
  obtain ⟨vb, AA, FA, PA, CA, UA, BA, ca, cf, cp, cc, cu, cb, hm, hL, hlt⟩ := hA
  have HM := Lib.hid hm
  have HL := Lib.hid hL
  have HLt := Lib.hid hlt
  have HI := Lib.hid hi
  have HNC := Lib.hid hn
  have HNL := Lib.hid hnl
  clear hm hL hlt hn hnl hv hi
  go_enter Tryz.func49, Tryz.ntmps49
  go_wp2_with fail
  refine HN.out.mono ?_
  rintro e w1 ⟨rfl, k1⟩
  have HM1 := Lib.hid (HM.out.keep0 k1)
  have HK1 := Lib.hid k1
  have q4 := HM1.out.blk.cell 4
  have q3 := HM1.out.blk.cell 3
  have hlk := HM1.out.labels.look HI.out
  simp only [List.getElem?_toArray, List.getElem?_cons_zero, List.getElem?_cons_succ] at q4 q3
  clear k1 HN
  by_cases hv : v < 0
  · have HV2 := Lib.hid (HV.out.trans (if_pos hv))
    generalize (S.labels v).isSome = b at *
    go_wp2_with fail
    go_ret
    exact ⟨by rw [HV2.out]; rfl, L, S, (HAs.out.keep0 HK1.out).more (by omega), ASt.of_keeps HK1.out L, fun h0 => by rw [HV2.out] at h0; cases h0⟩
  · cases hb : (S.labels v).isSome with
    | true =>
      rw [hb] at hlk
      have HV2 : Hid (markP S s.data.toList = (S, 11)) := (HV.out.trans (if_neg hv)).trans (by rw [hb]; exact if_pos rfl)
      clear hb
      go_wp2_with fail
      go_ret
      exact ⟨by rw [HV2.out]; rfl, L, S, (HAs.out.keep0 HK1.out).more (by omega), ASt.of_keeps HK1.out L, fun h0 => by rw [HV2.out] at h0; cases h0⟩
    | false =>
      rw [hb] at hlk
      have HV2 : Hid (markP S s.data.toList = ({ S with labels := fun n => if n = v then some S.o.code.length else S.labels n }, 0)) := (HV.out.trans (if_neg hv)).trans (by rw [hb]; exact if_neg Bool.false_ne_true)
      clear hb
      obtain ⟨nc, hnc⟩ : ∃ n, S.o.code.length = n := ⟨_, rfl⟩
      rw [hnc] at q3 HNC
      obtain ⟨w2, hst, hlm, k2⟩ := (HM1.out.keep0 (Keeps.refl w1 []).drew).labels.put HNL.out (x := v) (p := nc) HI.out (by have := HNC.out; omega)
      have HF : Hid ((w1.drew.cell? ⟨ab, 4, none⟩ = some (.map (some vb)) ∧ w1.drew.cell? ⟨ab, 3, none⟩ = some (.slice CA nc cc))) := ⟨q4, q3⟩
      have HLM := Lib.hid hlm
      have HK2 := Lib.hid k2
      have HNc := Lib.hid hnc
      clear hlm k2 hnc HNC
      go_upto_region 7 with fail
      clear q4 q3 hlk
      refine wp_region_tx (fun W' => (W'.cell? ⟨ab, 4, none⟩ = some (.map (some vb)) ∧ W'.cell? ⟨ab, 3, none⟩ = some (.slice CA nc cc))) [(0, true), (1, true), (2, true), (3, true), (4, true), (5, true), (6, true), (7, true), (8, true), (9, true), (10, true), (11, false)] (by kernel_rfl) (by kernel_rfl) HF.out (fun hHeld => ?_)
      (repeat (first | (refine wpTx_take (v := ?_) rfl (by assumption) ?_ (by rfl) ?_; rotate_left; (focus (intro w' hSw; (try dsimp only at hSw); go_simp; (try with_reducible rfl); done)); simp only [Act.put, List.setIfInBounds_toArray, List.set_cons_zero, List.set_cons_succ]) | (refine wpTx_skip rfl (by assumption) (by rfl) ?_; simp only [Act.put, List.setIfInBounds_toArray, List.set_cons_zero, List.set_cons_succ])))
      refine wpTx_last rfl (fun K hK => ?_)
      go_simp
      refine hK.out _ _ (NoPanic.normal ?_); clear hK K; (try simp only [Act.put, List.setIfInBounds_toArray, List.set_cons_zero, List.set_cons_succ])
      clear hHeld hst
      go_wp2_with fail
      go_ret
      refine ⟨by rw [HV2.out]; rfl, L, _, ⟨_, _, _, _, _, _, _, _, _, _, _, _, _, (HM1.out.keep0 (Keeps.refl w1 []).drew).labels_ HK2.out HLM.out, HL.out, fun b hb => ⟨(HLt.out b hb).1, Nat.lt_of_lt_of_le (HLt.out b hb).2 (Nat.le_trans HK1.out.size HK2.out.size)⟩⟩, ?_, fun _ => by rw [HV2.out, HNc.out]⟩
      exact (ASt.of_keeps HK1.out L).trans ⟨(Keeps.refl w1 L).drew.trans (HK2.out.more (fun b _ hb => by simp at hb; subst hb; exact HL.out _ (by unfold asL; simp))), fun b hb => .inl hb⟩
/-! ### full -/
set_option maxRecDepth 100000 in
set_option maxHeartbeats 3200000 in
theorem fullA_any {w0 w : World} {ab nl : Nat} {L : List Nat} {S : AS} (hA : As w0 w ab L nl S) :
    Calls Tryz.prog 19 #[.pointer (some ⟨ab, 0, none⟩)] w fun e w' => e = .returned (.bool (fullP S.o)) ∧ Keeps w w' [] := by
  unfold fullP
  obtain ⟨vb, AA, FA, PA, CA, UA, BA, ca, cf, cp, cc, cu, cb, hm, hL, hlt⟩ := hA
  have q0 := hm.blk.cell 0
  have q1 := hm.blk.cell 1
  have q2 := hm.blk.cell 2
  have q3 := hm.blk.cell 3
  clear hm hL hlt
  generalize S.o.atoms.length = na at *
  generalize S.o.funs.length = nf at *
  generalize S.o.preds.length = n at *
  generalize S.o.code.length = nc at *
  simp only [List.getElem?_toArray, List.getElem?_cons_zero, List.getElem?_cons_succ] at q0 q1 q2 q3
  have HW : Hid ((w.drew.cell? ⟨ab, 0, none⟩ = some (.slice AA na ca) ∧ w.drew.cell? ⟨ab, 1, none⟩ = some (.slice FA nf cf) ∧ w.drew.cell? ⟨ab, 2, none⟩ = some (.slice PA n cp) ∧ w.drew.cell? ⟨ab, 3, none⟩ = some (.slice CA nc cc))) := ⟨q0, q1, q2, q3⟩
  clear q0 q1 q2 q3
  obtain ⟨M, hM⟩ : ∃ M : Int, max (na : Int) (nf : Int) = M := ⟨_, rfl⟩
  have hM2 : (256 < na ∨ 256 < nf) ↔ (256 : Int) < M := by omega
  have HI : Hid ((decide (256 < na) || decide (256 < nf) || decide (64 < n) || decide (1024 < nc)) = (decide (256 < M) || (decide (64 < (n : Int)) || decide (1024 < (nc : Int))))) := Lib.hid (by rw [Bool.eq_iff_iff]; simp only [Bool.or_eq_true, decide_eq_true_eq]; omega)
  clear hM2
  cases d1 : decide (256 < M) <;> cases d2 : decide (64 < (n : Int)) <;> cases d3 : decide (1024 < (nc : Int)) <;>
    (rw [d1, d2, d3] at HI
     go_enter Tryz.func19, Tryz.ntmps19
     go_upto_region 1 with fail
     refine wp_region_tx (fun W' => (W'.cell? ⟨ab, 0, none⟩ = some (.slice AA na ca) ∧ W'.cell? ⟨ab, 1, none⟩ = some (.slice FA nf cf) ∧ W'.cell? ⟨ab, 2, none⟩ = some (.slice PA n cp) ∧ W'.cell? ⟨ab, 3, none⟩ = some (.slice CA nc cc))) [(0, true), (1, true), (2, true), (3, true), (4, true), (5, true), (6, true), (7, true), (8, true), (9, true), (10, true), (11, true), (12, true), (13, true), (14, true), (15, true), (16, true), (17, true), (18, true), (19, true), (20, true), (21, true), (22, true), (23, true), (24, true), (25, true), (26, true), (27, true), (28, true), (29, true), (30, true), (31, true), (32, true), (33, true), (34, false)] (by kernel_rfl) (by kernel_rfl) HW.out (fun hHeld => ?_)
     (repeat (first | (refine wpTx_take (v := ?_) rfl (by assumption) ?_ (by rfl) ?_; rotate_left; (focus (intro w' hSw; (try dsimp only at hSw); go_simp; (try with_reducible rfl); done)); simp only [Act.put, List.setIfInBounds_toArray, List.set_cons_zero, List.set_cons_succ]) | (refine wpTx_skip rfl (by assumption) (by rfl) ?_; simp only [Act.put, List.setIfInBounds_toArray, List.set_cons_zero, List.set_cons_succ])))
     refine wpTx_last rfl (fun K hK => ?_)
     go_simp
     refine hK.out _ _ (NoPanic.normal ?_); clear hK K; (try simp only [Act.put, List.setIfInBounds_toArray, List.set_cons_zero, List.set_cons_succ])
     clear hHeld
     go_wp2_with fail
     go_ret
     exact ⟨by rw [HI.out]; rfl, (Keeps.refl w []).drew⟩)
end Go.Proofs.YtpcihhdalofdiaaGreatDoor
