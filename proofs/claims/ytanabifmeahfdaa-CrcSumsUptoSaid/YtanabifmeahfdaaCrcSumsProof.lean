/- CrcSums: for all slices of bytes of which all the parts together are of bulk at most 1048576 the law returns true, and they read behind the call as before. -/
import Derived.Test.YtanabifmeahfdaaCrcSums
import Derived.Test.YtanabifmeahfdaaBulk
import Derived.Test.YtanabifmeahfdaaLift
namespace Go.Proofs.Ytanabifmeahfdaa
open Go.ChangeShapes Go.WideShapes Go.ChangeAt Go.RowKit

theorem rowBulk {H : Type} (A : Option Addr) (L C : Nat) (zs : List Int) (h1 : L ≤ C) (h2 : zs.length = C) (h3 : A = none → C = 0) : L ≤ Rows.uptoBulk (Deep.intRow (H := H) .u8 A L zs) := by
  unfold Deep.intRow
  split
  · have := h3 rfl; omega
  · have := Bulk.slice_le (H := H) (lits .u8 (zs.take L)) (lits .u8 (zs.drop L))
    simp only [lits, List.length_map, List.length_take, List.length_drop] at this ⊢
    omega

theorem flatten_len {n : Nat} (f : Nat → List Int) : (((List.range n).map f)).flatten.length = ((List.range n).map fun r => (f r).length).sum := by
  rw [List.length_flatten, List.map_map]
  rfl

theorem sums_contract (H : Type) (enc : TypeId × Value → H) (W : World) (base : Nat) (args : Array Value) (ds gs : List (DataW H)) (before : List MemPlace)
    (hval : ∀ (j : Nat) t v, Try.f3.params[j]? = some t → args[j]? = some v → Value.okWide Try.prog W .any base t v)
    (hW : DataW.Whole enc Try.prog Try.f3.params.toList Rows.crcSumsSpec.vars false W args.toList ds gs before) (hk : Rows.uptoSmall H (ds ++ gs) = true) :
    Calls Try.prog 3 args W fun e W' => ∃ v, e = .returned v ∧ Rows.crcSumsSpec.post enc Try.prog Try.f3 false true false false W args v W' := by
  have hW' := hW
  obtain ⟨p, q, hA0, hV, rfl, hfz, hnd⟩ := hW
  have hA : DataW.TrodAll enc Try.prog W 0 (fun _ => true) true Try.f3.params.toList args.toList ds p := hA0
  rw [Try.params3] at hA hval
  obtain ⟨v0, vs0, d0, ds0, p0, q0, hargs, rfl, rfl, h0, r0⟩ := trodAll_cons hA
  obtain ⟨rfl, rfl, rfl⟩ := trodAll_nil r0
  obtain rfl : args = #[v0] := by cases args; simp_all
  obtain ⟨rfl, rfl⟩ := trodVars_none hV
  obtain ⟨a0, len0, cap0, rfl⟩ := okWide_slice Try.underlying22 (hval 0 22 v0 rfl rfl)
  have k0 := h0
  have lt0 : ∀ x ∈ p0, x.block < W.heap.size := by obtain ⟨m, hm⟩ := k0; exact DataW.trod_lt m _ _ _ hm
  have hbound := Bulk.bound hk
  obtain ⟨ps, w0, w1, w2, w3, w4⟩ : ∃ ps : List (List Int), ps.length = len0 ∧ Whole W W.heap.size a0 ps ∧ len0 ≤ cap0 ∧ cap0 ≤ 9223372036854775807 ∧ (ps.take 20).flatten.length ≤ 1048576 := by
    obtain ⟨fuel, hf⟩ := h0
    rcases Deep.open_int_rows Try.underlying22 Try.underlying23 Try.underlying5 (by kernel_rfl) (by kernel_rfl) hf with ⟨hcs, _⟩ | ⟨x, len, cap, A, L, C, Z, hcs, _, hl, hm, hx, hcell⟩
    · simp [Value.cells] at hcs
      obtain ⟨rfl, rfl, rfl⟩ := hcs
      exact ⟨[], rfl, fun k hk => absurd hk (by simp), by omega, by omega, by simp⟩
    · simp [Value.cells] at hcs
      obtain ⟨rfl, rfl, rfl⟩ := hcs
      simp only [Prod.mk.injEq] at hx
      obtain ⟨hx1, _⟩ := hx
      unfold maxLen at hm
      refine ⟨(List.range len0).map fun r => (Z r).take (L r), by simp, ?_, hl, hm, ?_⟩
      · intro k hk
        rw [List.length_map, List.length_range] at hk
        obtain ⟨c1, c2, c3, c4, c5, c6, c7⟩ := hcell k (by omega)
        unfold maxLen at c3
        obtain ⟨b, off, spot⟩ := x
        have hspot : spot = none := by
          have h0 := World.cell?_spot (hcell 0 (by omega)).1
          simpa [Addr.add] using h0
        subst hspot
        rw [add_lit] at c1
        have hlt : b < W.heap.size := World.block_lt_of_cell? W _ c1
        have hlen : ((Z k).take (L k)).length = L k := by rw [List.length_take]; omega
        refine ⟨b, off, A k, C k, (Z k).take (L k), rfl, hlt, by rw [hlen]; exact c1, by simp [hk], ?_, ?_, by rw [hlen]; omega, c6⟩
        · intro i hi
          cases hAk : A k with
          | none => have := c6 hAk; rw [hlen] at hi; omega
          | some a' =>
            have hn := nums_of_cells (K := .u8) c2 c4 (fun i hi => (c7 a' hAk).2 i hi)
            exact hn i hi
        · intro y hy
          exact wf_u8 (c5 y (List.mem_of_mem_take hy))
      · refine Nat.le_trans (flatten_take_le _ _) ?_
        rw [flatten_len]
        have h1 : ((List.range len0).map fun r => ((Z r).take (L r)).length).sum ≤ Rows.uptoBulkAll ((List.range len0).map fun r => Deep.intRow (H := H) .u8 (A r) (L r) (Z r)) := by
          refine Bulk.sum_le _ _ _ (fun r hr => ?_)
          obtain ⟨c1, c2, c3, c4, c5, c6, c7⟩ := hcell r (by omega)
          have := rowBulk (H := H) (A r) (L r) (C r) (Z r) c2 c4 c6
          rw [List.length_take]
          omega
        rw [hx1] at hbound
        simp only [List.append_nil, Rows.uptoBulkAll] at hbound
        have h2 := Bulk.slice_elems (H := H) ((List.range len0).map fun r => Deep.intRow .u8 (A r) (L r) (Z r)) ((List.range (cap0 - len0)).map fun j => Deep.intRow .u8 (A (len0 + j)) (L (len0 + j)) (Z (len0 + j)))
        omega
  clear hA0
  refine (sums_main a0 len0 cap0 ps W w0 (by omega) w2 w3 w1 w4).mono fun e W' ⟨he, bel⟩ => ?_
  subst he
  exact ⟨_, rfl, _, _, _, [], _, [], hW', trodAll_mk1 (shut_bool Try.underlying4 _), (trodAll_cons_mk (Below.trod laidOut (by kernel_rfl) (of_decide_eq_true (by kernel_rfl)) k0 bel lt0) trodAll_mk0), rfl, bel.frame _, fun h => by cases h⟩

set_option maxRecDepth 100000 in
theorem sums_lifted (os : Os) (started : os.Started) (H : Type) (enc : TypeId × Value → H) (F : Stop.Interp) :
    ReturnsInHanded {} Try.checked os 3 .any ((Rows.OpenSpec.upto Rows.crcSumsSpec).pre6 enc Try.prog Try.f3 Rows.crcSumsUptoRow.domain false) (((Rows.OpenSpec.upto Rows.crcSumsSpec).at F).post enc Try.prog Try.f3 false true false false) := by
  refine returnsInHanded_of_cond (C := Try.checked) (s := Rows.OpenSpec.upto Rows.crcSumsSpec) (k := Rows.uptoSmall) rfl own started (by kernel_rfl) Try.func3
    (OpenSpec.witness (enc := enc) (C := Try.checked) (s := Rows.OpenSpec.upto Rows.crcSumsSpec) (k := Rows.uptoSmall) rfl false ⟨#[], #[.slice none 0 0], []⟩ 8 (by kernel_rfl) (by kernel_rfl) (by kernel_rfl)
      (x := ([.nil], [], [])) (by kernel_rfl) rfl (by kernel_rfl)) ?_
  intro W base args ds gs before hval hW _ hk _
  exact sums_contract H enc W base args ds gs before hval hW hk

theorem crcSums_holds : Rows.CrcSumsUptoSaid :=
  OpenClaim.holds_of_cond 3 Try.f3 rfl rfl rfl rfl rfl rfl rfl ⟨rfl, rfl, rfl, rfl, rfl⟩ rfl rfl rfl rfl rfl (by kernel_rfl) Try.func3 (by kernel_rfl)
    (of_decide_eq_true (by kernel_rfl)) (by unfold Func.isWrapper; first | (rw [if_pos (by decide +kernel)]; kernel_rfl) | (rw [if_neg (by decide +kernel)]; exact ⟨rfl, rfl⟩))
    (fun os started H enc _ F => sums_lifted os started H enc F)
#print axioms crcSums_holds
end Go.Proofs.Ytanabifmeahfdaa
