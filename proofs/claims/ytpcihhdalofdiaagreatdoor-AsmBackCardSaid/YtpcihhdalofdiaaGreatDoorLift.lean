/- What arguments that came in give: slices of numbers, slices of slices of numbers. -/
import Derived.Test.YtpcihhdalofdiaaGreatDoorAppend
import Derived.ProofKit
import Derived.OpenShut
import Derived.SizedLaws
import Derived.JoinedCond
import Derived.Deep.Matrix
namespace Go.Proofs.YtpcihhdalofdiaaGreatDoor
open Go.ChangeShapes Go.WideShapes Go.ChangeAt Go.RowKit

theorem own : ownKnob Tryz.prog.godebug = none := by kernel_rfl
theorem laidOut : laidOutB Tryz.prog = true := by kernel_rfl

theorem wf_u8 {x : Int} (h : (Lit.int .u8 x).wf = true) : 0 ≤ x ∧ x < 256 := by
  simp [Lit.wf, IntKind.min, IntKind.max, IntKind.signed, IntKind.bits] at h
  omega
theorem wf_u32 {x : Int} (h : (Lit.int .u32 x).wf = true) : 0 ≤ x ∧ x < 4294967296 := by
  simp [Lit.wf, IntKind.min, IntKind.max, IntKind.signed, IntKind.bits] at h
  omega
theorem wf_i64 {x : Int} (h : (Lit.int .i64 x).wf = true) : -9223372036854775808 ≤ x ∧ x ≤ 9223372036854775807 := by
  simp [Lit.wf, IntKind.min, IntKind.max, IntKind.signed, IntKind.bits] at h
  omega
theorem wf_u64 {x : Int} (h : (Lit.int .u64 x).wf = true) : 0 ≤ x ∧ x < 18446744073709551616 := by
  simp [Lit.wf, IntKind.min, IntKind.max, IntKind.signed, IntKind.bits] at h
  omega

/-- What a slice of numbers that came in gives. -/
theorem nums_of_cells {K : IntKind} {w : World} {x : Addr} {zs : List Int} {len cap : Nat} (hl : len ≤ cap) (hz : zs.length = cap)
    (hcell : ∀ i, i < cap → w.cell? (x.add i) = some (.int K (zs.getD i 0))) : Nums K w w.heap.size (some x) (zs.take len) := by
  intro k hk
  rw [List.length_take] at hk
  have hc := hcell k (by omega)
  obtain ⟨b, off, spot⟩ := x
  have hspot : spot = none := by
    have h0 := World.cell?_spot (hcell 0 (by omega))
    simpa [Addr.add] using h0
  subst hspot
  rw [add_lit] at hc
  have hlt : b < w.heap.size := World.block_lt_of_cell? w _ hc
  refine ⟨b, off, zs[k], rfl, hlt, ?_, ?_⟩
  · rw [hc]
    simp [List.getD, List.getElem?_eq_getElem (show k < zs.length by omega)]
  · rw [List.getElem?_take, if_pos (by omega)]
    exact List.getElem?_eq_getElem (by omega)
end Go.Proofs.YtpcihhdalofdiaaGreatDoor
