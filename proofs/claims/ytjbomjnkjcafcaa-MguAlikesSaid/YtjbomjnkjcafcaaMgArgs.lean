/- A row of terms that came in. -/
import Derived.Test.YtjbomjnkjcafcaaTmArgs
namespace Go.Proofs.Ytjbomjnkjcafcaa
open Go.Joins Go.ChangeShapes Go.WideShapes Go.ChangeAt Go.RowKit Go.Deep

section
variable {H : Type} {enc : TypeId × Value → H} {w : World}
theorem trees_arg {a : Option Addr} {len cap : Nat} {d : DataW H} {p : List MemPlace} (h : DataW.Trod enc Try.prog w 0 (fun _ => true) true 22 (.slice a len cap) d p) : ∃ (l : List Tm) (vs : List TV), l.length = len ∧ Trs w (fun _ => True) l vs ∧ Rd w a (vs.flatMap tvE) := by
  obtain ⟨fuel, hf⟩ := h
  have e : Try.prog.cellsOf 24 = 4 := by kernel_rfl
  rcases DataW.trod_slice Try.underlying22 hf with ⟨hcs, _⟩ | ⟨a', len', cap', elems, rest, n2, rfl, hcs, _, _, hlc, hcm, hel, hi, _, _⟩
  · simp only [Value.cells, List.cons.injEq, and_true, Value.slice.injEq] at hcs
    obtain ⟨rfl, rfl, rfl⟩ := hcs
    exact ⟨[], [], rfl, Trs.nil, Rd.nil⟩
  · simp only [Value.cells, List.cons.injEq, and_true, Value.slice.injEq] at hcs
    obtain ⟨rfl, rfl, rfl⟩ := hcs
    exact trees_of (w := w) (a := a') (len := len) (fun i hlt => by
      have hb := hi i hlt
      rw [List.getElem?_eq_getElem (by omega : i < elems.length), e] at hb
      obtain ⟨cs', hc, ht⟩ := Option.bind_eq_some_iff.1 hb
      obtain ⟨t, v, hv, htr⟩ := tree_of n2 cs' _ ht
      exact ⟨cs', hc, t, v, hv, htr⟩)
end
end Go.Proofs.Ytjbomjnkjcafcaa
