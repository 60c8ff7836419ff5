/- AreaActs: for every room and every list of acts the law returns true, and they read behind the call as before. -/
import Derived.Test.YtanabifmeahfdaaAreaActs
import Derived.Test.YtanabifmeahfdaaAreaActsArgs
namespace Go.Proofs.Ytanabifmeahfdaa
open Go.ChangeShapes Go.WideShapes Go.ChangeAt Go.RowKit

theorem acts_any (room : Int) (A : Option Addr) (m c : Nat) (ops : List Act4) (w : World) (hl : ops.length = m) (hm : m ≤ 9223372036854775807) (hA : Acts w w.heap.size A ops) :
    Calls Try.prog 6 #[.int .i64 room, .slice A m c] w fun e w' => e = .returned (.bool true) ∧ Below w.heap.size w w' := by
  have hU0 : 0 ≤ IntKind.u64.wrap room := by simp only [IntKind.wrap, IntKind.bits, IntKind.signed, Bool.false_and, Bool.false_eq_true, if_false]; omega
  exact acts_main room A m c ops w hl hm hA (IntKind.u64.wrap room) rfl hU0 (IntKind.u64.wrap room % 20).toNat (by omega) (by omega)

set_option maxRecDepth 100000 in
theorem acts_lifted (os : Os) (started : os.Started) (H : Type) (enc : TypeId × Value → H) :
    ReturnsInHanded {} Try.checked os 6 .any (Rows.areaActsSpec.pre6 enc Try.prog Try.f6 Rows.areaActsRow.domain false) (Rows.areaActsSpec.post enc Try.prog Try.f6 false true false false) := by
  refine returnsInHanded_of_change (C := Try.checked) own started (by kernel_rfl) Try.func6
    (ChangeSpec.witness6 (enc := enc) (C := Try.checked) false ⟨#[], #[.int .i64 0, .slice none 0 0], []⟩ 8 (by kernel_rfl) (by kernel_rfl) (by kernel_rfl) (by kernel_rfl)) ?_
  intro W base args ds gs before hval0 hW hcnd _
  have hval : ∀ (j : Nat) t v, Try.f6.params[j]? = some t → args[j]? = some v → Value.okWide Try.prog W .any base t v := hval0
  have hW' := hW
  obtain ⟨p, q, hA0, hV, rfl, hfz, hnd⟩ := hW
  have hA : DataW.TrodAll enc Try.prog W 0 (fun _ => true) true Try.f6.params.toList args.toList ds p := hA0
  rw [Try.params6] at hA hval
  obtain ⟨v0, vs0, d0, ds0, p0, q0, hargs, rfl, rfl, h0, r0⟩ := trodAll_cons hA
  obtain ⟨v1, vs1, d1, ds1, p1, q1, rfl, rfl, rfl, h1, r1⟩ := trodAll_cons r0
  obtain ⟨rfl, rfl, rfl⟩ := trodAll_nil r1
  obtain rfl : args = #[v0, v1] := by cases args; simp_all
  obtain ⟨rfl, rfl⟩ := trodVars_none hV
  obtain ⟨a0, rfl, rfl, rfl, w0⟩ := open_int Try.underlying3 (hval 0 3 v0 rfl rfl) h0
  obtain ⟨a1, len1, cap1, rfl⟩ := okWide_slice Try.underlying45 (hval 1 45 v1 rfl rfl)
  have k1 := h1
  have lt1 : ∀ x ∈ p1, x.block < W.heap.size := by obtain ⟨m, hm⟩ := k1; exact DataW.trod_lt m _ _ _ hm
  obtain ⟨ops, o1, o2, o3⟩ : ∃ ops : List Act4, ops.length = len1 ∧ len1 ≤ 9223372036854775807 ∧ Acts W W.heap.size a1 ops := by
    obtain ⟨fuel, hf⟩ := h1
    exact acts_of hf
  clear hA0 hval0
  refine (acts_any a0 a1 len1 cap1 ops W o1 o2 o3).mono fun e W' ⟨he, bel⟩ => ?_
  subst he
  exact ⟨_, rfl, _, _, _, [], _, [], hW', trodAll_mk1 (shut_bool Try.underlying4 _), (trodAll_cons_mk (shut_int Try.underlying3 w0) (trodAll_cons_mk (Below.trod laidOut (by kernel_rfl) (of_decide_eq_true (by kernel_rfl)) k1 bel lt1) trodAll_mk0)), rfl, bel.frame _, fun h => by cases h⟩

theorem areaActs_holds : Rows.AreaActsSaid :=
  OpenClaim.holds_of_wide 6 Try.f6 rfl rfl rfl rfl rfl rfl rfl ⟨rfl, rfl, rfl, rfl, rfl⟩ rfl rfl rfl rfl rfl (by kernel_rfl) Try.func6 (by kernel_rfl)
    (of_decide_eq_true (by kernel_rfl)) (by unfold Func.isWrapper; first | (rw [if_pos (by decide +kernel)]; kernel_rfl) | (rw [if_neg (by decide +kernel)]; exact ⟨rfl, rfl⟩))
    (fun os started H enc _ => acts_lifted os started H enc)
#print axioms areaActs_holds
end Go.Proofs.Ytanabifmeahfdaa
