/- ObjDecodes: for every slice of bytes the law returns true, and they read behind the call as before. -/
import Derived.Test.YtdcjiohbnnipdaaDecodes
import Derived.Test.YtdcjiohbnnipdaaObjArgs
namespace Go.Proofs.Ytdcjiohbnnipdaa
open Go.ChangeShapes Go.WideShapes Go.ChangeAt Go.RowKit Go.ChangeMaps

set_option maxRecDepth 100000 in
theorem decodes_lifted (os : Os) (started : os.Started) (H : Type) (enc : TypeId × Value → H) :
    ReturnsInHanded {} Try.checked os 3 .any (Rows.objDecodesSpec.pre6 enc Try.prog Try.f3 Rows.objDecodesRow.domain false) (Rows.objDecodesSpec.post enc Try.prog Try.f3 false true false false) := by
  refine returnsInHanded_of_change (C := Try.checked) own started (by kernel_rfl) Try.func3
    (ChangeSpec.witness6 (enc := enc) (C := Try.checked) false ⟨#[], #[.slice none 0 0], []⟩ 8 (by kernel_rfl) (by kernel_rfl) (by kernel_rfl) (by kernel_rfl)) ?_
  intro W base args ds gs before hval0 hW hcnd _
  have hval : ∀ (j : Nat) t v, Try.f3.params[j]? = some t → args[j]? = some v → Value.okWide Try.prog W .any base t v := hval0
  have hW' := hW
  obtain ⟨p, q, hA0, hV, rfl, hfz, hnd⟩ := hW
  have hA : DataW.TrodAll enc Try.prog W 0 (fun _ => true) true Try.f3.params.toList args.toList ds p := hA0
  rw [Try.params3] at hA hval
  obtain ⟨v0, vs0, d0, ds0, p0, q0, hargs, rfl, rfl, h0, r0⟩ := trodAll_cons hA
  obtain ⟨rfl, rfl, rfl⟩ := trodAll_nil r0
  obtain rfl : args = #[v0] := by cases args; simp_all
  obtain ⟨rfl, rfl⟩ := trodVars_none hV
  obtain ⟨A0, len0, cap0, rfl⟩ := okWide_slice Try.underlying22 (hval 0 22 v0 rfl rfl)
  have k0 := h0
  have lt0 : ∀ x ∈ p0, x.block < W.heap.size := by obtain ⟨m, hm⟩ := k0; exact DataW.trod_lt m _ _ _ hm
  obtain ⟨L, r1, r2, r3, r4, r5, _⟩ : ∃ l : List Int, l.length = len0 ∧ Rd W A0 (l.flatMap fun x => [Value.int .u8 x]) ∧ (A0 = none → cap0 = 0) ∧ (∀ x ∈ l, 0 ≤ x ∧ x < 256) ∧ len0 ≤ cap0 ∧ cap0 ≤ maxLen := by
    obtain ⟨fuel, hf⟩ := h0
    exact list_of (encE := fun x => [Value.int .u8 x]) (sz := 1) (fun _ => rfl) (by omega) 0 (fun x => 0 ≤ x ∧ x < 256) Try.underlying22 (by kernel_rfl) (fun h => by
      obtain ⟨x, q, _, z⟩ := DataW.trod_int Try.underlying5 h
      exact ⟨x, q, wf_u8 z⟩) hf
  have hL : (L.flatMap fun x => [Value.int .u8 x]) = u8s L := by rw [u8s, List.map_eq_flatMap]
  rw [hL] at r2
  clear hA0 hval0
  refine (decodes_any A0 len0 cap0 L W r1 r5 r3 r2 r4).mono fun e W' ⟨he, k⟩ => ?_
  have bel := k.toBelow
  subst he
  exact ⟨_, rfl, _, _, _, [], _, [], hW', trodAll_mk1 (shut_bool Try.underlying4 _), (trodAll_cons_mk (Below.trod laidOut (by kernel_rfl) (of_decide_eq_true (by kernel_rfl)) k0 bel lt0) trodAll_mk0), rfl, bel.frame _, fun h => by cases h⟩

theorem objDecodes_holds : Rows.ObjDecodesSaid :=
  OpenClaim.holds_of_wide 3 Try.f3 rfl rfl rfl rfl rfl rfl rfl ⟨rfl, rfl, rfl, rfl, rfl⟩ rfl rfl rfl rfl rfl (by kernel_rfl) Try.func3 (by kernel_rfl)
    (of_decide_eq_true (by kernel_rfl)) (by unfold Func.isWrapper; first | (rw [if_pos (by decide +kernel)]; kernel_rfl) | (rw [if_neg (by decide +kernel)]; exact ⟨rfl, rfl⟩))
    (fun os started H enc _ => decodes_lifted os started H enc)
#print axioms objDecodes_holds
end Go.Proofs.Ytdcjiohbnnipdaa
