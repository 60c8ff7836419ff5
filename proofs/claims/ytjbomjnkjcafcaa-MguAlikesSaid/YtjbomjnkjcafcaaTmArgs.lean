/- A term that came in, read off memory. -/
import Derived.Test.YtjbomjnkjcafcaaTmRd
import Derived.Test.YtjbomjnkjcafcaaLift
import Derived.Lib.SmallJoins
import Derived.Deep.Slices
import Derived.Deep.Fields
namespace Go.Proofs.Ytjbomjnkjcafcaa
open Go.Joins Go.ChangeShapes Go.WideShapes Go.ChangeAt Go.RowKit Go.Deep

theorem Tr.leaf' (w : World) (k n : Int) (s : ByteArray) (hs : s.size ≤ 9223372036854775807) : Tr w (fun _ => True) (.mk k n s []) ⟨k, n, s, none, 0, 0⟩ :=
  .mk k n s [] none 0 [] rfl Rd.nil (fun b off e => by cases e) (fun _ => rfl) ⟨hs, by simp⟩ (fun j t v h => by simp at h)
/-- The elements of a row of trees. -/
theorem trees_of {w : World} {a : Addr} {len : Nat} (hi : ∀ i, i < len → ∃ cs', w.cells? 0 (a.add (i * 4)) 4 = some cs' ∧ ∃ t v, cs' = tvE v ∧ Tr w (fun _ => True) t v) :
    ∃ (l : List Tm) (vs : List TV), l.length = len ∧ Trs w (fun _ => True) l vs ∧ Rd w (some a) (vs.flatMap tvE) := by
  have hall : ∀ i, ∃ o : Tm × TV, i < len → Tr w (fun _ => True) o.1 o.2 ∧ ∀ j, j < 4 → w.cell? ((a.add (i * 4)).add j) = (tvE o.2)[j]? := fun i => by
    by_cases hlt : i < len
    · obtain ⟨cs', hc, t, v, rfl, ht⟩ := hi i hlt
      obtain ⟨_, _, hat⟩ := World.cells?_some hc
      exact ⟨(t, v), fun _ => ⟨ht, hat⟩⟩
    · exact ⟨(.mk 0 0 ⟨#[]⟩ [], ⟨0, 0, ⟨#[]⟩, none, 0, 0⟩), fun h => absurd h hlt⟩
  obtain ⟨f, hf⟩ := Classical.axiomOfChoice hall
  refine ⟨(List.range len).map fun i => (f i).1, (List.range len).map fun i => (f i).2, by simp, ⟨by simp, fun j t v h1 h2 => ?_⟩, ?_⟩
  · have hj : j < len := by have := (List.getElem?_eq_some_iff.1 h1).1; simpa using this
    have := (hf j hj).1
    simp [hj] at h1 h2
    rw [← h1, ← h2]
    exact this
  · intro k hk
    rw [length_flat tvE_len, List.length_map, List.length_range] at hk
    have hq : k / 4 < len := (Nat.div_lt_iff_lt_mul (by omega)).2 hk
    have hr : k % 4 < 4 := Nat.mod_lt _ (by omega)
    have hspot : a.spot = none := by
      have h1 := (hf 0 (Nat.lt_of_le_of_lt (Nat.zero_le _) hq)).2 0 (by omega)
      have : ∃ v, w.cell? ((a.add (0 * 4)).add 0) = some v := ⟨_, h1.trans (List.getElem?_eq_getElem (by rw [tvE_len]; omega))⟩
      obtain ⟨v, hv⟩ := this
      have h0 := World.cell?_spot hv
      simpa [Addr.add] using h0
    obtain ⟨bk, off, spot⟩ := a
    simp only at hspot
    subst hspot
    have hcell := (hf (k / 4) hq).2 (k % 4) hr
    have hv : (tvE (f (k / 4)).2)[k % 4]? = some ((tvE (f (k / 4)).2)[k % 4]'(by rw [tvE_len]; exact hr)) := List.getElem?_eq_getElem (by rw [tvE_len]; exact hr)
    have hk2 : k / 4 * 4 + k % 4 = k := by rw [Nat.mul_comm]; exact Nat.div_add_mod k 4
    rw [hv] at hcell
    simp only [add_lit] at hcell
    rw [Nat.add_assoc, hk2] at hcell
    refine ⟨bk, off, _, rfl, World.block_lt_of_cell? w _ hcell, hcell, ?_⟩
    have hlen : k / 4 < ((List.range len).map fun i => (f i).2).length := by simpa using hq
    have := getElem?_flat tvE_len ((List.range len).map fun i => (f i).2) (k / 4) hlen (k % 4) hr
    rw [hk2] at this
    rw [this]
    simp only [List.getElem_map, List.getElem_range]
    exact hv
section
variable {H : Type} {enc : TypeId × Value → H} {w : World}
/-- A struct of four fields, and how much fuel is left. -/
theorem four_fields {P : Program} {t : TypeId} {a b c d : Field} {fuel : Nat} {cs : List Value} {y : DataW H × List MemPlace} (ht : P.underlying t = some (.struct #[a, b, c, d])) (h : DataW.trod enc P w 0 (fun _ => true) true fuel t cs = some y) :
    ∃ n y0 y1 y2 y3, fuel = n + 1 ∧ cs.length = P.cellsOf t ∧ DataW.trod enc P w 0 (fun _ => true) true n a.type ((cs.drop a.offset).take (P.cellsOf a.type)) = some y0 ∧ DataW.trod enc P w 0 (fun _ => true) true n b.type ((cs.drop b.offset).take (P.cellsOf b.type)) = some y1 ∧
      DataW.trod enc P w 0 (fun _ => true) true n c.type ((cs.drop c.offset).take (P.cellsOf c.type)) = some y2 ∧ DataW.trod enc P w 0 (fun _ => true) true n d.type ((cs.drop d.offset).take (P.cellsOf d.type)) = some y3 := by
  obtain ⟨xs, n, rfl, _, hl, hlen, hf⟩ := DataW.trod_struct ht h
  match xs, hlen, hf with
  | [y0, y1, y2, y3], _, hf => exact ⟨n, y0, y1, y2, y3, rfl, hl, by simpa using hf 0 a rfl, by simpa using hf 1 b rfl, by simpa using hf 2 c rfl, by simpa using hf 3 d rfl⟩
set_option maxRecDepth 100000 in
theorem tree_of : ∀ (fuel : Nat) (cs : List Value) (y : DataW H × List MemPlace), DataW.trod enc Try.prog w 0 (fun _ => true) true fuel 24 cs = some y → ∃ t v, cs = tvE v ∧ Tr w (fun _ => True) t v := by
  intro fuel
  induction fuel using Nat.strongRecOn with
  | _ fuel ih =>
    intro cs y h
    obtain ⟨n, y0, y1, y2, y3, rfl, hl, h0, h1, h2, h3⟩ := four_fields Try.underlying24 h
    have e : Try.prog.cellsOf 24 = 4 := by kernel_rfl
    have e0 : Try.prog.cellsOf 3 = 1 := by kernel_rfl
    have e1 : Try.prog.cellsOf 9 = 1 := by kernel_rfl
    have e2 : Try.prog.cellsOf 22 = 1 := by kernel_rfl
    replace hl := hl.trans e
    match cs, hl, h0, h1, h2, h3 with
    | [c0, c1, c2, c3], _, h0, h1, h2, h3 =>
      simp only [e0, e1, e2, List.drop, List.take] at h0 h1 h2 h3
      obtain ⟨x0, q0, _, _⟩ := DataW.trod_int Try.underlying3 h0
      obtain ⟨x1, q1, _, _⟩ := DataW.trod_int Try.underlying3 h1
      obtain ⟨x2, q2, _, z2⟩ := DataW.trod_string Try.underlying9 h2
      simp only [List.cons.injEq, and_true] at q0 q1 q2
      subst q0 q1 q2
      have z2' : x2.size ≤ 9223372036854775807 := by unfold maxLen at z2; omega
      rcases DataW.trod_slice Try.underlying22 h3 with ⟨hcs, _⟩ | ⟨a, len, cap, elems, rest, n2, rfl, hcs, _, _, hlc, hcm, hel, hi, _, _⟩
      · simp only [List.cons.injEq, and_true] at hcs
        subst hcs
        exact ⟨.mk x0 x1 x2 [], ⟨x0, x1, x2, none, 0, 0⟩, rfl, Tr.leaf' w x0 x1 x2 z2'⟩
      · simp only [List.cons.injEq, and_true] at hcs
        subst hcs
        obtain ⟨l, vs, hll, hT, hR⟩ := trees_of (w := w) (a := a) (len := len) (fun i hlt => by
          have hb := hi i hlt
          rw [List.getElem?_eq_getElem (by omega : i < elems.length), e] at hb
          obtain ⟨cs', hc, ht⟩ := Option.bind_eq_some_iff.1 hb
          obtain ⟨t, v, hv, htr⟩ := ih n2 (by omega) cs' _ ht
          exact ⟨cs', hc, t, v, hv, htr⟩)
        subst hll
        have hlm : l.length ≤ 9223372036854775807 := by unfold maxLen at hcm; omega
        exact ⟨.mk x0 x1 x2 l, ⟨x0, x1, x2, some a, l.length, cap⟩, rfl, .mk x0 x1 x2 l (some a) cap vs hT.len hR (fun _ _ _ _ => trivial) (fun h => by cases h) ⟨z2', hlm⟩ hT.at_⟩
theorem tree_arg {v : Value} {d : DataW H} {p : List MemPlace} (h : DataW.Trod enc Try.prog w 0 (fun _ => true) true 24 v d p) : ∃ t x, v = tvV x ∧ Tr w (fun _ => True) t x := by
  obtain ⟨fuel, h⟩ := h
  obtain ⟨t, x, hv, ht⟩ := tree_of fuel _ _ h
  refine ⟨t, x, ?_, ht⟩
  cases v with
  | agg c =>
    obtain ⟨l⟩ := c
    simp only [Value.cells] at hv
    subst hv
    rfl
  | _ => have := congrArg List.length hv; simp [Value.cells, tvE] at this
end
end Go.Proofs.Ytjbomjnkjcafcaa
