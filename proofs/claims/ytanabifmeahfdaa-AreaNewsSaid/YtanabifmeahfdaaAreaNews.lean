/- AreaNews: for every number the law returns true. No condition. -/
import Derived.Test.YtanabifmeahfdaaAreaB
import Derived.Test.YtanabifmeahfdaaLift
namespace Go.Proofs.Ytanabifmeahfdaa
open Go.ChangeShapes Go.WideShapes Go.ChangeAt Go.RowKit

set_option maxHeartbeats 1600000 in
theorem news_no (room : Int) (w : World) (h : room < 0 ∨ 65536 < room) :
    Calls Try.prog 5 #[.int .i64 room] w fun e w' => e = .returned (.bool true) ∧ Below w.heap.size w w' := by
  have HH := Lib.hid h
  rcases h with h | h
  · have d1 : decide (0 ≤ room) = false := by simpa using h
    go_enter Try.func5, Try.ntmps5
    go_wp2_with fail
    refine (new_no room _ HH.out).mono ?_
    rintro e w' ⟨rfl, rfl⟩
    go_wp2_with fail
    refine (get_nil 0 _).mono ?_
    rintro e w' ⟨rfl, rfl⟩
    go_wp2_with fail
    refine (areaTold_any _).mono ?_
    rintro e w1 ⟨rfl, hb⟩
    go_wp2_with (first | (go_at_call 15; refine (top_nil _).mono ?_; rintro e w' ⟨rfl, rfl⟩) | (go_at_call 14; refine (free_nil _).mono ?_; rintro e w' ⟨rfl, rfl⟩) | (go_at_call 16; refine (push_nil _ _).mono ?_; rintro e w' ⟨rfl, rfl⟩) | (go_at_call 17; refine (set_nil _ _ _).mono ?_; rintro e w' ⟨rfl, rfl⟩) | (go_at_call 18; refine (cut_nil _ _).mono ?_; rintro e w' ⟨rfl, rfl⟩) | (go_at_call 19; refine (cells_nil _).mono ?_; rintro e w' ⟨rfl, rfl⟩))
    go_ret
    exact ⟨rfl, hb⟩
  · have d1 : decide (0 ≤ room) = true := by simp; omega
    have d2 : decide (room ≤ 65536) = false := by simp; omega
    go_enter Try.func5, Try.ntmps5
    go_wp2_with fail
    refine (new_no room _ HH.out).mono ?_
    rintro e w' ⟨rfl, rfl⟩
    go_wp2_with fail
    refine (get_nil 0 _).mono ?_
    rintro e w' ⟨rfl, rfl⟩
    go_wp2_with fail
    refine (areaTold_any _).mono ?_
    rintro e w1 ⟨rfl, hb⟩
    go_wp2_with (first | (go_at_call 15; refine (top_nil _).mono ?_; rintro e w' ⟨rfl, rfl⟩) | (go_at_call 14; refine (free_nil _).mono ?_; rintro e w' ⟨rfl, rfl⟩) | (go_at_call 16; refine (push_nil _ _).mono ?_; rintro e w' ⟨rfl, rfl⟩) | (go_at_call 17; refine (set_nil _ _ _).mono ?_; rintro e w' ⟨rfl, rfl⟩) | (go_at_call 18; refine (cut_nil _ _).mono ?_; rintro e w' ⟨rfl, rfl⟩) | (go_at_call 19; refine (cells_nil _).mono ?_; rintro e w' ⟨rfl, rfl⟩))
    go_ret
    exact ⟨rfl, hb⟩

set_option maxHeartbeats 1600000 in
theorem news_yes (room : Nat) (w : World) (h : room ≤ 65536) :
    Calls Try.prog 5 #[.int .i64 room] w fun e w' => e = .returned (.bool true) ∧ Below w.heap.size w w' := by
  have d1 : decide (0 ≤ (room : Int)) = true := by simp
  have d2 : decide ((room : Int) ≤ 65536) = true := by simp; omega
  go_enter Try.func5, Try.ntmps5
  go_wp2_with fail
  refine (new_yes room _ h).mono ?_
  rintro e w1 ⟨g, q, rfl, a1, hb1⟩
  go_wp2_with fail
  refine (get_nil 0 _).mono ?_
  rintro e w' ⟨rfl, rfl⟩
  go_wp2_with fail
  refine (areaTold_any _).mono ?_
  rintro e w2 ⟨rfl, hb2⟩
  have hs := a1.lt
  have a2 := a1.keep (S := []) (Keeps.of_below hb2 _) (by simp) (by simp)
  go_wp2_with fail
  refine (free_any a2).mono ?_
  rintro e w3 ⟨rfl, rfl⟩
  simp only [List.length_nil, Int.natCast_zero, Int.sub_zero]
  go_wp2_with (first | (go_at_call 15; refine (top_nil _).mono ?_; rintro e w' ⟨rfl, rfl⟩) | (go_at_call 14; refine (free_nil _).mono ?_; rintro e w' ⟨rfl, rfl⟩) | (go_at_call 16; refine (push_nil _ _).mono ?_; rintro e w' ⟨rfl, rfl⟩) | (go_at_call 17; refine (set_nil _ _ _).mono ?_; rintro e w' ⟨rfl, rfl⟩) | (go_at_call 18; refine (cut_nil _ _).mono ?_; rintro e w' ⟨rfl, rfl⟩) | (go_at_call 19; refine (cells_nil _).mono ?_; rintro e w' ⟨rfl, rfl⟩))
  go_ret
  exact ⟨rfl, (hb1.trans (hb2.mono hb1.size)).drew⟩

theorem news_any (room : Int) (w : World) :
    Calls Try.prog 5 #[.int .i64 room] w fun e w' => e = .returned (.bool true) ∧ Below w.heap.size w w' := by
  by_cases h : 0 ≤ room ∧ room ≤ 65536
  · obtain ⟨n, rfl⟩ := Int.eq_ofNat_of_zero_le h.1
    exact news_yes n w (by omega)
  · exact news_no room w (by omega)

set_option maxRecDepth 100000 in
theorem news_lifted (os : Os) (started : os.Started) (H : Type) (enc : TypeId × Value → H) :
    ReturnsInHanded {} Try.checked os 5 .any (Rows.areaNewsSpec.pre6 enc Try.prog Try.f5 Rows.areaNewsRow.domain false) (Rows.areaNewsSpec.post enc Try.prog Try.f5 false true false false) := by
  refine returnsInHanded_of_change (C := Try.checked) own started (by kernel_rfl) Try.func5
    (ChangeSpec.witness6 (enc := enc) (C := Try.checked) false ⟨#[], #[.int .i64 0], []⟩ 8 (by kernel_rfl) (by kernel_rfl) (by kernel_rfl) (by kernel_rfl)) ?_
  intro W base args ds gs before hval0 hW hcnd _
  have hval : ∀ (j : Nat) t v, Try.f5.params[j]? = some t → args[j]? = some v → Value.okWide Try.prog W .any base t v := hval0
  have hW' := hW
  obtain ⟨p, q, hA0, hV, rfl, hfz, hnd⟩ := hW
  have hA : DataW.TrodAll enc Try.prog W 0 (fun _ => true) true Try.f5.params.toList args.toList ds p := hA0
  rw [Try.params5] at hA hval
  obtain ⟨v0, vs0, d0, ds0, p0, q0, hargs, rfl, rfl, h0, r0⟩ := trodAll_cons hA
  obtain ⟨rfl, rfl, rfl⟩ := trodAll_nil r0
  obtain rfl : args = #[v0] := by cases args; simp_all
  obtain ⟨rfl, rfl⟩ := trodVars_none hV
  obtain ⟨a0, rfl, rfl, rfl, w0⟩ := open_int Try.underlying3 (hval 0 3 v0 rfl rfl) h0
  clear hA0 hval0
  refine (news_any a0 W).mono fun e W' ⟨he, bel⟩ => ?_
  subst he
  exact ⟨_, rfl, _, _, _, [], _, [], hW', trodAll_mk1 (shut_bool Try.underlying4 _), (trodAll_cons_mk (shut_int Try.underlying3 w0) trodAll_mk0), rfl, bel.frame _, fun h => by cases h⟩

theorem areaNews_holds : Rows.AreaNewsSaid :=
  OpenClaim.holds_of_wide 5 Try.f5 rfl rfl rfl rfl rfl rfl rfl ⟨rfl, rfl, rfl, rfl, rfl⟩ rfl rfl rfl rfl rfl (by kernel_rfl) Try.func5 (by kernel_rfl)
    (of_decide_eq_true (by kernel_rfl)) (by unfold Func.isWrapper; first | (rw [if_pos (by decide +kernel)]; kernel_rfl) | (rw [if_neg (by decide +kernel)]; exact ⟨rfl, rfl⟩))
    (fun os started H enc _ => news_lifted os started H enc)
#print axioms areaNews_holds
end Go.Proofs.Ytanabifmeahfdaa
