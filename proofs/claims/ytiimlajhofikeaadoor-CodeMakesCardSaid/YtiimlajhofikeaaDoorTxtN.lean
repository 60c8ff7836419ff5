/- CodeRights: the walk. -/
import Derived.Test.YtiimlajhofikeaaDoorTxtM
namespace Go.Proofs.YtiimlajhofikeaaDoor
open Go.RowKit

attribute [local irreducible] kindsOf nameOf insTxt namedT opP insOk
set_option maxRecDepth 100000 in
set_option maxHeartbeats 3200000 in
theorem codeRights_any (i : LIns) (w : World) (h : St w) :
    Calls Tryd.prog 3 #[insV i] w fun e w' => e = .returned (.bool true) ∧ Keeps w w' [] := by
  have hf := kinds_few i.op
  have HTo := Lib.hid (insTo6_any i)
  have HR := Lib.hid (right6_any i)
  have HRR := Lib.hid (refRight6_any i)
  have HK := Lib.hid (kindsF_any i.op)
  have HRK := Lib.hid (refKindsF_any i.op)
  have HN : Hid (∀ w, Calls Tryd.prog 13 #[.int .i64 i.op] w fun e w' => e = .returned (.string (nameOf i.op)) ∧ Keeps w w' []) := name6_any i.op
  have HRN := Lib.hid (refName_any i.op)
  have HT := Lib.hid (ptext_any i)
  have HRT := Lib.hid (refText_any i)
  generalize hko : kindsOf i.op = ks at *
  generalize nameOf i.op = nm at *
  generalize stB (insTxt i) = tx at *
  generalize insOk i = ok at *
  obtain ⟨op, a0, a1, a2, a3⟩ := i
  unfold insV at *
  unfold KindsF at HK HRK
  rw [hko] at HK HRK
  have HSt : Hid (St (w.alloc (.cells #[.int .i64 op, .int .i64 a0, .int .i64 a1, .int .i64 a2, .int .i64 a3] 24))) := h.keep ((Keeps.refl w []).alloc _)
  have HB : Hid (Blk (w.alloc (.cells #[.int .i64 op, .int .i64 a0, .int .i64 a1, .int .i64 a2, .int .i64 a3] 24)) w.heap.size 24 #[.int .i64 op, .int .i64 a0, .int .i64 a1, .int .i64 a2, .int .i64 a3]) := Blk.new _ _ _
  have HK0 : Hid (Keeps w (w.alloc (.cells #[.int .i64 op, .int .i64 a0, .int .i64 a1, .int .i64 a2, .int .i64 a3] 24)) []) := (Keeps.refl w []).alloc _
  clear h hko
  go_enter Tryd.func3, Tryd.ntmps3
  go_upto_region 1 with fail
  generalize w.heap.size = xb at *
  generalize w.alloc (.cells #[.int .i64 op, .int .i64 a0, .int .i64 a1, .int .i64 a2, .int .i64 a3] 24) = w1 at *
  have HP : Hid (∀ W', Keeps w1 W' [] → (W'.cell? ⟨xb, 0, none⟩ = some (.int .i64 op) ∧ W'.cell? ⟨xb, 1, none⟩ = some (.int .i64 a0) ∧ W'.cell? ⟨xb, 2, none⟩ = some (.int .i64 a1) ∧ W'.cell? ⟨xb, 3, none⟩ = some (.int .i64 a2) ∧ W'.cell? ⟨xb, 4, none⟩ = some (.int .i64 a3))) := fun W' k => by
    have b := HB.out.keep k (by simp)
    exact ⟨b.cell 0, b.cell 1, b.cell 2, b.cell 3, b.cell 4⟩
  refine wp_region_tx (fun W' => W'.cell? ⟨xb, 0, none⟩ = some (.int .i64 op) ∧ W'.cell? ⟨xb, 1, none⟩ = some (.int .i64 a0) ∧ W'.cell? ⟨xb, 2, none⟩ = some (.int .i64 a1) ∧ W'.cell? ⟨xb, 3, none⟩ = some (.int .i64 a2) ∧ W'.cell? ⟨xb, 4, none⟩ = some (.int .i64 a3)) [(0, false), (1, true), (2, true), (5, true), (3, false), (4, false), (6, false), (7, true), (8, true), (9, true), (10, true), (11, true), (13, true), (14, true), (12, false), (15, false), (16, false), (17, true), (18, true), (19, true), (20, true), (22, true), (23, true), (21, false), (24, false), (25, true), (26, true), (27, true), (28, true), (31, true), (29, false), (30, false), (32, false), (33, true), (34, true), (35, false)] (by kernel_rfl) (by kernel_rfl) (by exact HP.out _ (Keeps.refl _ []).drew) (fun hHeld => ?_)
  refine wpTx_go rfl (fun K hK => ?_)
  go_simp
  refine (told6_any _ (HSt.out.keep (Keeps.refl _ []).drew)).mono ?_
  rintro e w20 ⟨rfl, k20⟩
  have K20 : Keeps w1 w20 [] := ((Keeps.refl w1 []).drew).trans k20
  refine hK.out _ _ ?_ ?_
  · exact HP.out _ K20
  (clear hHeld; intro hHeld; clear hK K)
  (repeat (first | (refine wpTx_take (v := ?_) rfl (by assumption) ?_ (by rfl) ?_; rotate_left; (focus (intro w' hSw; (try dsimp only at hSw); go_simp; (try with_reducible rfl); done)); simp only [Act.put, List.setIfInBounds_toArray, List.set_cons_zero, List.set_cons_succ]) | (refine wpTx_skip rfl (by assumption) (by rfl) ?_; simp only [Act.put, List.setIfInBounds_toArray, List.set_cons_zero, List.set_cons_succ])))
  refine wpTx_go rfl (fun K hK => ?_)
  go_simp
  refine (HTo.out _).mono ?_
  rintro e w21 ⟨rfl, k21⟩
  have K21 : Keeps w1 w21 [] := K20.trans k21
  refine hK.out _ _ ?_ ?_
  · exact HP.out _ K21
  (clear hHeld; intro hHeld; clear hK K)
  (repeat (first | (refine wpTx_take (v := ?_) rfl (by assumption) ?_ (by rfl) ?_; rotate_left; (focus (intro w' hSw; (try dsimp only at hSw); go_simp; (try with_reducible rfl); done)); simp only [Act.put, List.setIfInBounds_toArray, List.set_cons_zero, List.set_cons_succ]) | (refine wpTx_skip rfl (by assumption) (by rfl) ?_; simp only [Act.put, List.setIfInBounds_toArray, List.set_cons_zero, List.set_cons_succ])))
  refine wpTx_go rfl (fun K hK => ?_)
  go_simp
  refine (HR.out _).mono ?_
  rintro e w22 ⟨rfl, k22⟩
  have K22 : Keeps w1 w22 [] := K21.trans k22
  refine hK.out _ _ ?_ ?_
  · exact HP.out _ K22
  (clear hHeld; intro hHeld; clear hK K; (try simp only [Act.put, List.setIfInBounds_toArray, List.set_cons_zero, List.set_cons_succ]))
  (repeat (first | (refine wpTx_take (v := ?_) rfl (by assumption) ?_ (by rfl) ?_; rotate_left; (focus (intro w' hSw; (try dsimp only at hSw); go_simp; (try with_reducible rfl); done)); simp only [Act.put, List.setIfInBounds_toArray, List.set_cons_zero, List.set_cons_succ]) | (refine wpTx_skip rfl (by assumption) (by rfl) ?_; simp only [Act.put, List.setIfInBounds_toArray, List.set_cons_zero, List.set_cons_succ])))
  refine wpTx_go rfl (fun K hK => ?_)
  go_simp
  refine (HRR.out _).mono ?_
  rintro e w23 ⟨rfl, k23⟩
  have K23 : Keeps w1 w23 [] := K22.trans k23
  refine hK.out _ _ ?_ ?_
  · exact HP.out _ K23
  (clear hHeld; intro hHeld; clear hK K; (try simp only [Act.put, List.setIfInBounds_toArray, List.set_cons_zero, List.set_cons_succ]))
  (repeat (first | (refine wpTx_take (v := ?_) rfl (by assumption) ?_ (by rfl) ?_; rotate_left; (focus (intro w' hSw; (try dsimp only at hSw); go_simp; (try with_reducible rfl); done)); simp only [Act.put, List.setIfInBounds_toArray, List.set_cons_zero, List.set_cons_succ]) | (refine wpTx_skip rfl (by assumption) (by rfl) ?_; simp only [Act.put, List.setIfInBounds_toArray, List.set_cons_zero, List.set_cons_succ])))
  refine wpTx_go rfl (fun K hK => ?_)
  go_simp
  refine (HK.out _).mono ?_
  rintro e w24 ⟨A, ca, rfl, hA, k24, _⟩
  have K24 : Keeps w1 w24 [] := K23.trans k24
  refine hK.out _ _ ?_ ?_
  · exact HP.out _ K24
  (clear hHeld; intro hHeld; clear hK K; (try simp only [Act.put, List.setIfInBounds_toArray, List.set_cons_zero, List.set_cons_succ]))
  (repeat (first | (refine wpTx_take (v := ?_) rfl (by assumption) ?_ (by rfl) ?_; rotate_left; (focus (intro w' hSw; (try dsimp only at hSw); go_simp; (try with_reducible rfl); done)); simp only [Act.put, List.setIfInBounds_toArray, List.set_cons_zero, List.set_cons_succ]) | (refine wpTx_skip rfl (by assumption) (by rfl) ?_; simp only [Act.put, List.setIfInBounds_toArray, List.set_cons_zero, List.set_cons_succ])))
  refine wpTx_go rfl (fun K hK => ?_)
  go_simp
  refine (HRK.out _).mono ?_
  rintro e w25 ⟨B, cb, rfl, hB, k25, _⟩
  have K25 : Keeps w1 w25 [] := K24.trans k25
  refine hK.out _ _ ?_ ?_
  · exact HP.out _ K25
  (clear hHeld; intro hHeld; clear hK K; (try simp only [Act.put, List.setIfInBounds_toArray, List.set_cons_zero, List.set_cons_succ]))
  (repeat (first | (refine wpTx_take (v := ?_) rfl (by assumption) ?_ (by rfl) ?_; rotate_left; (focus (intro w' hSw; (try dsimp only at hSw); go_simp; (try with_reducible rfl); done)); simp only [Act.put, List.setIfInBounds_toArray, List.set_cons_zero, List.set_cons_succ]) | (refine wpTx_skip rfl (by assumption) (by rfl) ?_; simp only [Act.put, List.setIfInBounds_toArray, List.set_cons_zero, List.set_cons_succ])))
  refine wpTx_go rfl (fun K hK => ?_)
  go_simp
  refine (ints_same ks A B ks.length ca cb _ rfl (by omega) ((hA.keep (fun p hp => k25.cell hp (by simp))).more k25.size) hB).mono ?_
  rintro e w26 ⟨rfl, m26, rfl⟩
  have K26 : Keeps w1 (w25.drewN m26) [] := K25.trans (Keeps.ofDrewN _ _)
  refine hK.out _ _ ?_ ?_
  · exact HP.out _ K26
  (clear hHeld; intro hHeld; clear hK K; (try simp only [Act.put, List.setIfInBounds_toArray, List.set_cons_zero, List.set_cons_succ]))
  (repeat (first | (refine wpTx_take (v := ?_) rfl (by assumption) ?_ (by rfl) ?_; rotate_left; (focus (intro w' hSw; (try dsimp only at hSw); go_simp; (try with_reducible rfl); done)); simp only [Act.put, List.setIfInBounds_toArray, List.set_cons_zero, List.set_cons_succ]) | (refine wpTx_skip rfl (by assumption) (by rfl) ?_; simp only [Act.put, List.setIfInBounds_toArray, List.set_cons_zero, List.set_cons_succ])))
  refine wpTx_go rfl (fun K hK => ?_)
  go_simp
  refine (HN.out _).mono ?_
  rintro e w27 ⟨rfl, k27⟩
  have K27 : Keeps w1 w27 [] := K26.trans k27
  refine hK.out _ _ ?_ ?_
  · exact HP.out _ K27
  (clear hHeld; intro hHeld; clear hK K; (try simp only [Act.put, List.setIfInBounds_toArray, List.set_cons_zero, List.set_cons_succ]))
  (repeat (first | (refine wpTx_take (v := ?_) rfl (by assumption) ?_ (by rfl) ?_; rotate_left; (focus (intro w' hSw; (try dsimp only at hSw); go_simp; (try with_reducible rfl); done)); simp only [Act.put, List.setIfInBounds_toArray, List.set_cons_zero, List.set_cons_succ]) | (refine wpTx_skip rfl (by assumption) (by rfl) ?_; simp only [Act.put, List.setIfInBounds_toArray, List.set_cons_zero, List.set_cons_succ])))
  refine wpTx_go rfl (fun K hK => ?_)
  go_simp
  refine (HRN.out _).mono ?_
  rintro e w28 ⟨rfl, k28⟩
  have K28 : Keeps w1 w28 [] := K27.trans k28
  refine hK.out _ _ ?_ ?_
  · exact HP.out _ K28
  (clear hHeld; intro hHeld; clear hK K; (try simp only [Act.put, List.setIfInBounds_toArray, List.set_cons_zero, List.set_cons_succ]))
  (repeat (first | (refine wpTx_take (v := ?_) rfl (by assumption) ?_ (by rfl) ?_; rotate_left; (focus (intro w' hSw; (try dsimp only at hSw); go_simp; (try with_reducible rfl); done)); simp only [Act.put, List.setIfInBounds_toArray, List.set_cons_zero, List.set_cons_succ]) | (refine wpTx_skip rfl (by assumption) (by rfl) ?_; simp only [Act.put, List.setIfInBounds_toArray, List.set_cons_zero, List.set_cons_succ])))
  refine wpTx_go rfl (fun K hK => ?_)
  go_simp
  refine (HTo.out _).mono ?_
  rintro e w29 ⟨rfl, k29⟩
  have K29 : Keeps w1 w29 [] := K28.trans k29
  refine hK.out _ _ ?_ ?_
  · exact HP.out _ K29
  (clear hHeld; intro hHeld; clear hK K)
  (repeat (first | (refine wpTx_take (v := ?_) rfl (by assumption) ?_ (by rfl) ?_; rotate_left; (focus (intro w' hSw; (try dsimp only at hSw); go_simp; (try with_reducible rfl); done)); simp only [Act.put, List.setIfInBounds_toArray, List.set_cons_zero, List.set_cons_succ]) | (refine wpTx_skip rfl (by assumption) (by rfl) ?_; simp only [Act.put, List.setIfInBounds_toArray, List.set_cons_zero, List.set_cons_succ])))
  refine wpTx_go rfl (fun K hK => ?_)
  go_simp
  refine (HT.out _ (HSt.out.keep K29).tab).mono ?_
  rintro e w30 ⟨rfl, k30⟩
  have K30 : Keeps w1 w30 [] := K29.trans k30
  refine hK.out _ _ ?_ ?_
  · exact HP.out _ K30
  (clear hHeld; intro hHeld; clear hK K; (try simp only [Act.put, List.setIfInBounds_toArray, List.set_cons_zero, List.set_cons_succ]))
  (repeat (first | (refine wpTx_take (v := ?_) rfl (by assumption) ?_ (by rfl) ?_; rotate_left; (focus (intro w' hSw; (try dsimp only at hSw); go_simp; (try with_reducible rfl); done)); simp only [Act.put, List.setIfInBounds_toArray, List.set_cons_zero, List.set_cons_succ]) | (refine wpTx_skip rfl (by assumption) (by rfl) ?_; simp only [Act.put, List.setIfInBounds_toArray, List.set_cons_zero, List.set_cons_succ])))
  refine wpTx_go rfl (fun K hK => ?_)
  go_simp
  refine (HRT.out _).mono ?_
  rintro e w31 ⟨rfl, k31⟩
  have K31 : Keeps w1 w31 [] := K30.trans k31
  refine hK.out _ _ ?_ ?_
  · exact HP.out _ K31
  (clear hHeld; intro hHeld; clear hK K; (try simp only [Act.put, List.setIfInBounds_toArray, List.set_cons_zero, List.set_cons_succ]))
  (repeat (first | (refine wpTx_take (v := ?_) rfl (by assumption) ?_ (by rfl) ?_; rotate_left; (focus (intro w' hSw; (try dsimp only at hSw); go_simp; (try with_reducible rfl); done)); simp only [Act.put, List.setIfInBounds_toArray, List.set_cons_zero, List.set_cons_succ]) | (refine wpTx_skip rfl (by assumption) (by rfl) ?_; simp only [Act.put, List.setIfInBounds_toArray, List.set_cons_zero, List.set_cons_succ])))
  refine wpTx_last rfl (fun K hK => ?_)
  go_simp
  refine hK.out _ _ (NoPanic.normal ?_); clear hK K; (try simp only [Act.put, List.setIfInBounds_toArray, List.set_cons_zero, List.set_cons_succ])
  go_wp2_with fail
  go_ret
  exact ⟨by simp, HK0.out.trans K31⟩
end Go.Proofs.YtiimlajhofikeaaDoor
