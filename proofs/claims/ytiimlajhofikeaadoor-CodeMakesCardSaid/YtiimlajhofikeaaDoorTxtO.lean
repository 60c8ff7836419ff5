/- CodeTexts: the walks, in four cases. Printed by gen_codetexts.py. -/
import Derived.Test.YtiimlajhofikeaaDoorTxtL
import Derived.Laws.StructEq
namespace Go.Proofs.YtiimlajhofikeaaDoor
open Go.RowKit

set_option maxRecDepth 100000 in
set_option maxHeartbeats 3200000 in
theorem codeTexts_0_0 (io i0 i1 i2 i3 jo j0 j1 j2 j3 nmd : Int) (s T : ByteArray) (w : World) (h : St w) (hs : s.size ≤ 200)
    (HPs : ∀ w, St w → Calls Tryd.prog 20 #[.string s] w fun e w' => e = .returned (.tuple #[.agg #[.int .i64 jo, .int .i64 j0, .int .i64 j1, .int .i64 j2, .int .i64 j3], .int .i64 0]) ∧ Keeps w w' [])
    (HRs : ∀ w, Calls Tryd.prog 21 #[.string s] w fun e w' => e = .returned (.tuple #[.agg #[.int .i64 jo, .int .i64 j0, .int .i64 j1, .int .i64 j2, .int .i64 j3], .bool true]) ∧ Keeps w w' [])
    (HTo : ∀ w, Calls Tryd.prog 8 #[.agg #[.int .i64 io, .int .i64 i0, .int .i64 i1, .int .i64 i2, .int .i64 i3]] w fun e w' => e = .returned (.agg #[.int .i64 io, .int .i64 i0, .int .i64 i1, .int .i64 i2, .int .i64 i3]) ∧ Keeps w w' [])
    (HTi : ∀ w, St w → Calls Tryd.prog 15 #[.agg #[.int .i64 io, .int .i64 i0, .int .i64 i1, .int .i64 i2, .int .i64 i3]] w fun e w' => e = .returned (.string T) ∧ Keeps w w' [])
    (HPT : ∀ w, St w → Calls Tryd.prog 20 #[.string T] w fun e w' => e = .returned (.tuple #[.agg #[.int .i64 io, .int .i64 i0, .int .i64 i1, .int .i64 i2, .int .i64 i3], .int .i64 0]) ∧ Keeps w w' [])
    (HFj : ∀ w, Calls Tryd.prog 18 #[.agg #[.int .i64 jo, .int .i64 j0, .int .i64 j1, .int .i64 j2, .int .i64 j3]] w fun e w' => e = .returned (.agg #[.int .i64 jo, .int .i64 j0, .int .i64 j1, .int .i64 j2, .int .i64 j3]) ∧ Keeps w w' [])
    (HFm : ∀ w, Calls Tryd.prog 18 #[.agg #[.int .i64 io, .int .i64 i0, .int .i64 i1, .int .i64 i2, .int .i64 i3]] w fun e w' => e = .returned (.agg #[.int .i64 io, .int .i64 i0, .int .i64 i1, .int .i64 i2, .int .i64 i3]) ∧ Keeps w w' [])
    (HNm : ∀ w, Calls Tryd.prog 22 #[.string s] w fun e w' => e = .returned (.int .i64 nmd) ∧ Keeps w w' [])
    (HRN : ∀ w, Calls Tryd.prog 23 #[.string s] w fun e w' => e = .returned (.int .i64 nmd) ∧ Keeps w w' [])
    (HRR : ∀ w, Calls Tryd.prog 9 #[.agg #[.int .i64 io, .int .i64 i0, .int .i64 i1, .int .i64 i2, .int .i64 i3]] w fun e w' => e = .returned (.bool true) ∧ Keeps w w' [])
    (HTj : ∀ w, St w → Calls Tryd.prog 15 #[.agg #[.int .i64 jo, .int .i64 j0, .int .i64 j1, .int .i64 j2, .int .i64 j3]] w fun e w' => e = .returned (.string s) ∧ Keeps w w' [])
    : Calls Tryd.prog 5 #[.agg #[.int .i64 io, .int .i64 i0, .int .i64 i1, .int .i64 i2, .int .i64 i3], .string s] w fun e w' => e = .returned (.bool true) ∧ Keeps w w' [] := by
  have d0 : decide (200 < (s.size : Int)) = false := by simp; omega
  have HSt := Lib.hid h
  replace HPs := Lib.hid HPs
  replace HRs := Lib.hid HRs
  replace HTo := Lib.hid HTo
  replace HTi := Lib.hid HTi
  replace HPT := Lib.hid HPT
  replace HFj := Lib.hid HFj
  replace HFm := Lib.hid HFm
  replace HNm := Lib.hid HNm
  replace HRN := Lib.hid HRN
  replace HRR := Lib.hid HRR
  replace HTj := Lib.hid HTj
  have heqi := fun w => ins_arr_eq w i0 i1 i2 i3 i0 i1 i2 i3
  have heqj := fun w => ins_arr_eq w j0 j1 j2 j3 j0 j1 j2 j3
  have HB0 : Hid (Blk (w.alloc (.cells #[.int .i64 io, .int .i64 i0, .int .i64 i1, .int .i64 i2, .int .i64 i3] 24)) w.heap.size 24 #[.int .i64 io, .int .i64 i0, .int .i64 i1, .int .i64 i2, .int .i64 i3]) := Blk.new _ _ _
  have HK0 : Hid (Keeps w (w.alloc (.cells #[.int .i64 io, .int .i64 i0, .int .i64 i1, .int .i64 i2, .int .i64 i3] 24)) []) := (Keeps.refl w []).alloc _
  clear h
  go_enter Tryd.func5, Tryd.ntmps5
  go_wp2_with fail
  clear d0 hs
  refine (HPs.out _ (HSt.out.keep HK0.out)).mono ?_
  rintro e w1 ⟨rfl, k1⟩
  have HB1 : Hid (Blk (w1.alloc (.cells #[.int .i64 jo, .int .i64 j0, .int .i64 j1, .int .i64 j2, .int .i64 j3] 27)) w1.heap.size 27 #[.int .i64 jo, .int .i64 j0, .int .i64 j1, .int .i64 j2, .int .i64 j3]) := Blk.new _ _ _
  have HA1 := Lib.hid ((HB0.out.keep k1 (by simp)).alloc (.cells #[.int .i64 jo, .int .i64 j0, .int .i64 j1, .int .i64 j2, .int .i64 j3] 27))
  have HK1 := Lib.hid ((HK0.out.trans k1).alloc (.cells #[.int .i64 jo, .int .i64 j0, .int .i64 j1, .int .i64 j2, .int .i64 j3] 27))
  clear k1 HB0 HK0
  go_wp2_with fail
  refine (HRs.out _).mono ?_
  rintro e w2 ⟨rfl, k2⟩
  have HB2 : Hid (Blk (w2.alloc (.cells #[.int .i64 jo, .int .i64 j0, .int .i64 j1, .int .i64 j2, .int .i64 j3] 24)) w2.heap.size 24 #[.int .i64 jo, .int .i64 j0, .int .i64 j1, .int .i64 j2, .int .i64 j3]) := Blk.new _ _ _
  have HA2 := Lib.hid ((HA1.out.keep k2 (by simp)).alloc (.cells #[.int .i64 jo, .int .i64 j0, .int .i64 j1, .int .i64 j2, .int .i64 j3] 24))
  have HJ2 := Lib.hid ((HB1.out.keep k2 (by simp)).alloc (.cells #[.int .i64 jo, .int .i64 j0, .int .i64 j1, .int .i64 j2, .int .i64 j3] 24))
  have HK2 := Lib.hid ((HK1.out.trans k2).alloc (.cells #[.int .i64 jo, .int .i64 j0, .int .i64 j1, .int .i64 j2, .int .i64 j3] 24))
  have q0 := HA2.out.cell 0
  have q1 := HA2.out.cell 1
  have q2 := HA2.out.cell 2
  have q3 := HA2.out.cell 3
  have q4 := HA2.out.cell 4
  clear k2 HB1 HA1 HK1
  go_wp2_with fail
  refine (HTo.out _).mono ?_
  rintro e w3 ⟨rfl, k3⟩
  have HK3 := Lib.hid (HK2.out.trans k3)
  have HF3 := Lib.hid k3
  clear k3 q0 q1 q2 q3 q4 HK2
  go_wp2_with fail
  refine (HTi.out _ (HSt.out.keep HK3.out)).mono ?_
  rintro e w4 ⟨rfl, k4⟩
  have HK4 := Lib.hid (HK3.out.trans k4)
  have HF4 := Lib.hid (HF3.out.trans k4)
  clear k4 HK3 HF3
  go_wp2_with fail
  refine (HPT.out _ (HSt.out.keep HK4.out)).mono ?_
  rintro e w5 ⟨rfl, k5⟩
  have HB5 : Hid (Blk (w5.alloc (.cells #[.int .i64 io, .int .i64 i0, .int .i64 i1, .int .i64 i2, .int .i64 i3] 27)) w5.heap.size 27 #[.int .i64 io, .int .i64 i0, .int .i64 i1, .int .i64 i2, .int .i64 i3]) := Blk.new _ _ _
  have HK5 := Lib.hid ((HK4.out.trans k5).alloc (.cells #[.int .i64 io, .int .i64 i0, .int .i64 i1, .int .i64 i2, .int .i64 i3] 27))
  have HF5 := Lib.hid ((HF4.out.trans k5).alloc (.cells #[.int .i64 io, .int .i64 i0, .int .i64 i1, .int .i64 i2, .int .i64 i3] 27))
  have HA5 := Lib.hid (HA2.out.keep HF5.out (by simp))
  have HJ5 := Lib.hid (HJ2.out.keep HF5.out (by simp))
  have HR5 := Lib.hid (HB2.out.keep HF5.out (by simp))
  clear k5 HK4 HF4 HF5 HA2 HJ2 HB2
  go_upto_region 7 with fail
  generalize w5.heap.size = xm at *
  generalize w5.alloc (.cells #[.int .i64 io, .int .i64 i0, .int .i64 i1, .int .i64 i2, .int .i64 i3] 27) = w6 at *
  generalize w.heap.size = xi at *
  generalize w1.heap.size = xj at *
  generalize w2.heap.size = xk at *
  clear w3 w4 w5 w2 w1
  have HP : Hid (∀ W', Keeps w6 W' [] → (W'.cell? ⟨xi, 0, none⟩ = some (.int .i64 io) ∧ W'.cell? ⟨xi, 1, none⟩ = some (.int .i64 i0) ∧ W'.cell? ⟨xi, 2, none⟩ = some (.int .i64 i1) ∧ W'.cell? ⟨xi, 3, none⟩ = some (.int .i64 i2) ∧ W'.cell? ⟨xi, 4, none⟩ = some (.int .i64 i3) ∧ W'.cell? ⟨xj, 0, none⟩ = some (.int .i64 jo) ∧ W'.cell? ⟨xj, 1, none⟩ = some (.int .i64 j0) ∧ W'.cell? ⟨xj, 2, none⟩ = some (.int .i64 j1) ∧ W'.cell? ⟨xj, 3, none⟩ = some (.int .i64 j2) ∧ W'.cell? ⟨xj, 4, none⟩ = some (.int .i64 j3) ∧ W'.cell? ⟨xk, 0, none⟩ = some (.int .i64 jo) ∧ W'.cell? ⟨xk, 1, none⟩ = some (.int .i64 j0) ∧ W'.cell? ⟨xk, 2, none⟩ = some (.int .i64 j1) ∧ W'.cell? ⟨xk, 3, none⟩ = some (.int .i64 j2) ∧ W'.cell? ⟨xk, 4, none⟩ = some (.int .i64 j3) ∧ W'.cell? ⟨xm, 0, none⟩ = some (.int .i64 io) ∧ W'.cell? ⟨xm, 1, none⟩ = some (.int .i64 i0) ∧ W'.cell? ⟨xm, 2, none⟩ = some (.int .i64 i1) ∧ W'.cell? ⟨xm, 3, none⟩ = some (.int .i64 i2) ∧ W'.cell? ⟨xm, 4, none⟩ = some (.int .i64 i3))) := fun W' k => by
    have b0 := HA5.out.keep k (by simp)
    have b1 := HJ5.out.keep k (by simp)
    have b2 := HR5.out.keep k (by simp)
    have b3 := HB5.out.keep k (by simp)
    exact ⟨b0.cell 0, b0.cell 1, b0.cell 2, b0.cell 3, b0.cell 4, b1.cell 0, b1.cell 1, b1.cell 2, b1.cell 3, b1.cell 4, b2.cell 0, b2.cell 1, b2.cell 2, b2.cell 3, b2.cell 4, b3.cell 0, b3.cell 1, b3.cell 2, b3.cell 3, b3.cell 4⟩
  refine wp_region_tx (fun W' => W'.cell? ⟨xi, 0, none⟩ = some (.int .i64 io) ∧ W'.cell? ⟨xi, 1, none⟩ = some (.int .i64 i0) ∧ W'.cell? ⟨xi, 2, none⟩ = some (.int .i64 i1) ∧ W'.cell? ⟨xi, 3, none⟩ = some (.int .i64 i2) ∧ W'.cell? ⟨xi, 4, none⟩ = some (.int .i64 i3) ∧ W'.cell? ⟨xj, 0, none⟩ = some (.int .i64 jo) ∧ W'.cell? ⟨xj, 1, none⟩ = some (.int .i64 j0) ∧ W'.cell? ⟨xj, 2, none⟩ = some (.int .i64 j1) ∧ W'.cell? ⟨xj, 3, none⟩ = some (.int .i64 j2) ∧ W'.cell? ⟨xj, 4, none⟩ = some (.int .i64 j3) ∧ W'.cell? ⟨xk, 0, none⟩ = some (.int .i64 jo) ∧ W'.cell? ⟨xk, 1, none⟩ = some (.int .i64 j0) ∧ W'.cell? ⟨xk, 2, none⟩ = some (.int .i64 j1) ∧ W'.cell? ⟨xk, 3, none⟩ = some (.int .i64 j2) ∧ W'.cell? ⟨xk, 4, none⟩ = some (.int .i64 j3) ∧ W'.cell? ⟨xm, 0, none⟩ = some (.int .i64 io) ∧ W'.cell? ⟨xm, 1, none⟩ = some (.int .i64 i0) ∧ W'.cell? ⟨xm, 2, none⟩ = some (.int .i64 i1) ∧ W'.cell? ⟨xm, 3, none⟩ = some (.int .i64 i2) ∧ W'.cell? ⟨xm, 4, none⟩ = some (.int .i64 i3)) [(0, false), (1, true), (2, true), (3, true), (5, true), (4, false), (6, false), (7, true), (8, true), (9, true), (10, true), (11, true), (12, true), (13, true), (14, true), (15, true), (16, true), (17, true), (18, true), (19, true), (20, true), (21, true), (22, true), (23, true), (25, true), (24, false), (26, false), (27, true), (28, true), (29, true), (30, true), (31, true), (32, true), (33, false), (34, true), (35, false)] (by kernel_rfl) (by kernel_rfl) (by exact HP.out _ (Keeps.refl _ []).drew) (fun hHeld => ?_)
  refine wpTx_go rfl (fun K hK => ?_)
  go_simp
  refine (told6_any _ (HSt.out.keep (HK5.out.trans (Keeps.refl _ []).drew))).mono ?_
  rintro e w20 ⟨rfl, k20⟩
  have K20 : Keeps w6 w20 [] := ((Keeps.refl w6 []).drew).trans k20
  refine hK.out _ _ ?_ ?_
  · exact HP.out _ K20
  (clear hHeld; intro hHeld; clear hK K)
  (repeat (first | (refine wpTx_take (v := ?_) rfl (by assumption) ?_ (by rfl) ?_; rotate_left; (focus (intro w' hSw; (try dsimp only at hSw); go_simp; (try with_reducible rfl); done)); simp only [Act.put, List.setIfInBounds_toArray, List.set_cons_zero, List.set_cons_succ]) | (refine wpTx_skip rfl (by assumption) (by rfl) ?_; simp only [Act.put, List.setIfInBounds_toArray, List.set_cons_zero, List.set_cons_succ])))
  refine wpTx_go rfl (fun K hK => ?_)
  go_simp
  refine (HFj.out _).mono ?_
  rintro e w21 ⟨rfl, k21⟩
  have K21 : Keeps w6 w21 [] := K20.trans k21
  refine hK.out _ _ ?_ ?_
  · exact HP.out _ K21
  (clear hHeld; intro hHeld; clear hK K; (try simp only [Act.put, List.setIfInBounds_toArray, List.set_cons_zero, List.set_cons_succ]))
  (repeat (first | (refine wpTx_take (v := ?_) rfl (by assumption) ?_ (by rfl) ?_; rotate_left; (focus (intro w' hSw; (try dsimp only at hSw); go_simp; (try with_reducible rfl); done)); simp only [Act.put, List.setIfInBounds_toArray, List.set_cons_zero, List.set_cons_succ]) | (refine wpTx_skip rfl (by assumption) (by rfl) ?_; simp only [Act.put, List.setIfInBounds_toArray, List.set_cons_zero, List.set_cons_succ])))
  refine wpTx_go rfl (fun K hK => ?_)
  go_simp
  refine hK.out _ _ ?_ ?_
  · exact HP.out _ K21
  (clear hHeld; intro hHeld; clear hK K; (try simp only [Act.put, List.setIfInBounds_toArray, List.set_cons_zero, List.set_cons_succ]))
  (repeat (first | (refine wpTx_take (v := ?_) rfl (by assumption) ?_ (by rfl) ?_; rotate_left; (focus (intro w' hSw; (try dsimp only at hSw); go_simp; (try with_reducible rfl); done)); simp only [Act.put, List.setIfInBounds_toArray, List.set_cons_zero, List.set_cons_succ]) | (refine wpTx_skip rfl (by assumption) (by rfl) ?_; simp only [Act.put, List.setIfInBounds_toArray, List.set_cons_zero, List.set_cons_succ])))
  refine wpTx_go rfl (fun K hK => ?_)
  go_simp
  refine (HNm.out _).mono ?_
  rintro e w22 ⟨rfl, k22⟩
  have K22 : Keeps w6 w22 [] := K21.trans k22
  refine hK.out _ _ ?_ ?_
  · exact HP.out _ K22
  (clear hHeld; intro hHeld; clear hK K; (try simp only [Act.put, List.setIfInBounds_toArray, List.set_cons_zero, List.set_cons_succ]))
  (repeat (first | (refine wpTx_take (v := ?_) rfl (by assumption) ?_ (by rfl) ?_; rotate_left; (focus (intro w' hSw; (try dsimp only at hSw); go_simp; (try with_reducible rfl); done)); simp only [Act.put, List.setIfInBounds_toArray, List.set_cons_zero, List.set_cons_succ]) | (refine wpTx_skip rfl (by assumption) (by rfl) ?_; simp only [Act.put, List.setIfInBounds_toArray, List.set_cons_zero, List.set_cons_succ])))
  refine wpTx_go rfl (fun K hK => ?_)
  go_simp
  refine (HRN.out _).mono ?_
  rintro e w23 ⟨rfl, k23⟩
  have K23 : Keeps w6 w23 [] := K22.trans k23
  refine hK.out _ _ ?_ ?_
  · exact HP.out _ K23
  (clear hHeld; intro hHeld; clear hK K; (try simp only [Act.put, List.setIfInBounds_toArray, List.set_cons_zero, List.set_cons_succ]))
  (repeat (first | (refine wpTx_take (v := ?_) rfl (by assumption) ?_ (by rfl) ?_; rotate_left; (focus (intro w' hSw; (try dsimp only at hSw); go_simp; (try with_reducible rfl); done)); simp only [Act.put, List.setIfInBounds_toArray, List.set_cons_zero, List.set_cons_succ]) | (refine wpTx_skip rfl (by assumption) (by rfl) ?_; simp only [Act.put, List.setIfInBounds_toArray, List.set_cons_zero, List.set_cons_succ])))
  refine wpTx_go rfl (fun K hK => ?_)
  go_simp
  refine (HRR.out _).mono ?_
  rintro e w24 ⟨rfl, k24⟩
  have K24 : Keeps w6 w24 [] := K23.trans k24
  refine hK.out _ _ ?_ ?_
  · exact HP.out _ K24
  (clear hHeld; intro hHeld; clear hK K; (try simp only [Act.put, List.setIfInBounds_toArray, List.set_cons_zero, List.set_cons_succ]))
  (repeat (first | (refine wpTx_take (v := ?_) rfl (by assumption) ?_ (by rfl) ?_; rotate_left; (focus (intro w' hSw; (try dsimp only at hSw); go_simp; (try with_reducible rfl); done)); simp only [Act.put, List.setIfInBounds_toArray, List.set_cons_zero, List.set_cons_succ]) | (refine wpTx_skip rfl (by assumption) (by rfl) ?_; simp only [Act.put, List.setIfInBounds_toArray, List.set_cons_zero, List.set_cons_succ])))
  refine wpTx_last rfl (fun K hK => ?_)
  go_simp
  refine hK.out _ _ (NoPanic.normal ?_); clear hK K; (try simp only [Act.put, List.setIfInBounds_toArray, List.set_cons_zero, List.set_cons_succ])
  go_upto_region 9 with fail
  have K19 : Keeps w6 (World.drew w24) [] := K24.drew
  refine wp_region_tx (fun W' => W'.cell? ⟨xi, 0, none⟩ = some (.int .i64 io) ∧ W'.cell? ⟨xi, 1, none⟩ = some (.int .i64 i0) ∧ W'.cell? ⟨xi, 2, none⟩ = some (.int .i64 i1) ∧ W'.cell? ⟨xi, 3, none⟩ = some (.int .i64 i2) ∧ W'.cell? ⟨xi, 4, none⟩ = some (.int .i64 i3) ∧ W'.cell? ⟨xj, 0, none⟩ = some (.int .i64 jo) ∧ W'.cell? ⟨xj, 1, none⟩ = some (.int .i64 j0) ∧ W'.cell? ⟨xj, 2, none⟩ = some (.int .i64 j1) ∧ W'.cell? ⟨xj, 3, none⟩ = some (.int .i64 j2) ∧ W'.cell? ⟨xj, 4, none⟩ = some (.int .i64 j3) ∧ W'.cell? ⟨xk, 0, none⟩ = some (.int .i64 jo) ∧ W'.cell? ⟨xk, 1, none⟩ = some (.int .i64 j0) ∧ W'.cell? ⟨xk, 2, none⟩ = some (.int .i64 j1) ∧ W'.cell? ⟨xk, 3, none⟩ = some (.int .i64 j2) ∧ W'.cell? ⟨xk, 4, none⟩ = some (.int .i64 j3) ∧ W'.cell? ⟨xm, 0, none⟩ = some (.int .i64 io) ∧ W'.cell? ⟨xm, 1, none⟩ = some (.int .i64 i0) ∧ W'.cell? ⟨xm, 2, none⟩ = some (.int .i64 i1) ∧ W'.cell? ⟨xm, 3, none⟩ = some (.int .i64 i2) ∧ W'.cell? ⟨xm, 4, none⟩ = some (.int .i64 i3)) [(0, true), (1, true), (2, true), (3, true), (5, true), (4, false), (6, false), (7, true), (8, true), (9, true), (10, true), (11, true), (12, true), (14, true), (13, false), (15, true), (16, true), (17, true), (18, false)] (by kernel_rfl) (by kernel_rfl) (by exact HP.out _ K19) (fun hHeld => ?_)
  (repeat (first | (refine wpTx_take (v := ?_) rfl (by assumption) ?_ (by rfl) ?_; rotate_left; (focus (intro w' hSw; (try dsimp only at hSw); go_simp; (try with_reducible rfl); done)); simp only [Act.put, List.setIfInBounds_toArray, List.set_cons_zero, List.set_cons_succ]) | (refine wpTx_skip rfl (by assumption) (by rfl) ?_; simp only [Act.put, List.setIfInBounds_toArray, List.set_cons_zero, List.set_cons_succ])))
  refine wpTx_go rfl (fun K hK => ?_)
  go_simp
  refine (HFm.out _).mono ?_
  rintro e w25 ⟨rfl, k25⟩
  have K25 : Keeps w6 w25 [] := K19.trans k25
  refine hK.out _ _ ?_ ?_
  · exact HP.out _ K25
  (clear hHeld; intro hHeld; clear hK K; (try simp only [Act.put, List.setIfInBounds_toArray, List.set_cons_zero, List.set_cons_succ]))
  (repeat (first | (refine wpTx_take (v := ?_) rfl (by assumption) ?_ (by rfl) ?_; rotate_left; (focus (intro w' hSw; (try dsimp only at hSw); go_simp; (try with_reducible rfl); done)); simp only [Act.put, List.setIfInBounds_toArray, List.set_cons_zero, List.set_cons_succ]) | (refine wpTx_skip rfl (by assumption) (by rfl) ?_; simp only [Act.put, List.setIfInBounds_toArray, List.set_cons_zero, List.set_cons_succ])))
  refine wpTx_go rfl (fun K hK => ?_)
  go_simp
  refine hK.out _ _ ?_ ?_
  · exact HP.out _ K25
  (clear hHeld; intro hHeld; clear hK K; (try simp only [Act.put, List.setIfInBounds_toArray, List.set_cons_zero, List.set_cons_succ]))
  (repeat (first | (refine wpTx_take (v := ?_) rfl (by assumption) ?_ (by rfl) ?_; rotate_left; (focus (intro w' hSw; (try dsimp only at hSw); go_simp; (try with_reducible rfl); done)); simp only [Act.put, List.setIfInBounds_toArray, List.set_cons_zero, List.set_cons_succ]) | (refine wpTx_skip rfl (by assumption) (by rfl) ?_; simp only [Act.put, List.setIfInBounds_toArray, List.set_cons_zero, List.set_cons_succ])))
  refine wpTx_go rfl (fun K hK => ?_)
  go_simp
  refine (HTj.out _ (HSt.out.keep (HK5.out.trans K25))).mono ?_
  rintro e w26 ⟨rfl, k26⟩
  have K26 : Keeps w6 w26 [] := K25.trans k26
  refine hK.out _ _ ?_ ?_
  · exact HP.out _ K26
  (clear hHeld; intro hHeld; clear hK K; (try simp only [Act.put, List.setIfInBounds_toArray, List.set_cons_zero, List.set_cons_succ]))
  (repeat (first | (refine wpTx_take (v := ?_) rfl (by assumption) ?_ (by rfl) ?_; rotate_left; (focus (intro w' hSw; (try dsimp only at hSw); go_simp; (try with_reducible rfl); done)); simp only [Act.put, List.setIfInBounds_toArray, List.set_cons_zero, List.set_cons_succ]) | (refine wpTx_skip rfl (by assumption) (by rfl) ?_; simp only [Act.put, List.setIfInBounds_toArray, List.set_cons_zero, List.set_cons_succ])))
  refine wpTx_last rfl (fun K hK => ?_)
  go_simp
  refine hK.out _ _ (NoPanic.normal ?_); clear hK K; (try simp only [Act.put, List.setIfInBounds_toArray, List.set_cons_zero, List.set_cons_succ])
  go_wp2_with fail
  go_ret
  exact ⟨by simp, HK5.out.trans K26⟩

set_option maxRecDepth 100000 in
set_option maxHeartbeats 3200000 in
theorem codeTexts_0_17 (io i0 i1 i2 i3 jo j0 j1 j2 j3 mo m0 m1 m2 m3 nmd : Int) (s T : ByteArray) (w : World) (h : St w) (hs : s.size ≤ 200)
    (HPs : ∀ w, St w → Calls Tryd.prog 20 #[.string s] w fun e w' => e = .returned (.tuple #[.agg #[.int .i64 jo, .int .i64 j0, .int .i64 j1, .int .i64 j2, .int .i64 j3], .int .i64 0]) ∧ Keeps w w' [])
    (HRs : ∀ w, Calls Tryd.prog 21 #[.string s] w fun e w' => e = .returned (.tuple #[.agg #[.int .i64 jo, .int .i64 j0, .int .i64 j1, .int .i64 j2, .int .i64 j3], .bool true]) ∧ Keeps w w' [])
    (HTo : ∀ w, Calls Tryd.prog 8 #[.agg #[.int .i64 io, .int .i64 i0, .int .i64 i1, .int .i64 i2, .int .i64 i3]] w fun e w' => e = .returned (.agg #[.int .i64 io, .int .i64 i0, .int .i64 i1, .int .i64 i2, .int .i64 i3]) ∧ Keeps w w' [])
    (HTi : ∀ w, St w → Calls Tryd.prog 15 #[.agg #[.int .i64 io, .int .i64 i0, .int .i64 i1, .int .i64 i2, .int .i64 i3]] w fun e w' => e = .returned (.string T) ∧ Keeps w w' [])
    (HPT : ∀ w, St w → Calls Tryd.prog 20 #[.string T] w fun e w' => e = .returned (.tuple #[.agg #[.int .i64 mo, .int .i64 m0, .int .i64 m1, .int .i64 m2, .int .i64 m3], .int .i64 17]) ∧ Keeps w w' [])
    (HFj : ∀ w, Calls Tryd.prog 18 #[.agg #[.int .i64 jo, .int .i64 j0, .int .i64 j1, .int .i64 j2, .int .i64 j3]] w fun e w' => e = .returned (.agg #[.int .i64 jo, .int .i64 j0, .int .i64 j1, .int .i64 j2, .int .i64 j3]) ∧ Keeps w w' [])
    (HNm : ∀ w, Calls Tryd.prog 22 #[.string s] w fun e w' => e = .returned (.int .i64 nmd) ∧ Keeps w w' [])
    (HRN : ∀ w, Calls Tryd.prog 23 #[.string s] w fun e w' => e = .returned (.int .i64 nmd) ∧ Keeps w w' [])
    (HRR : ∀ w, Calls Tryd.prog 9 #[.agg #[.int .i64 io, .int .i64 i0, .int .i64 i1, .int .i64 i2, .int .i64 i3]] w fun e w' => e = .returned (.bool false) ∧ Keeps w w' [])
    (HTj : ∀ w, St w → Calls Tryd.prog 15 #[.agg #[.int .i64 jo, .int .i64 j0, .int .i64 j1, .int .i64 j2, .int .i64 j3]] w fun e w' => e = .returned (.string s) ∧ Keeps w w' [])
    : Calls Tryd.prog 5 #[.agg #[.int .i64 io, .int .i64 i0, .int .i64 i1, .int .i64 i2, .int .i64 i3], .string s] w fun e w' => e = .returned (.bool true) ∧ Keeps w w' [] := by
  have d0 : decide (200 < (s.size : Int)) = false := by simp; omega
  have HSt := Lib.hid h
  replace HPs := Lib.hid HPs
  replace HRs := Lib.hid HRs
  replace HTo := Lib.hid HTo
  replace HTi := Lib.hid HTi
  replace HPT := Lib.hid HPT
  replace HFj := Lib.hid HFj
  replace HNm := Lib.hid HNm
  replace HRN := Lib.hid HRN
  replace HRR := Lib.hid HRR
  replace HTj := Lib.hid HTj
  have heqj := fun w => ins_arr_eq w j0 j1 j2 j3 j0 j1 j2 j3
  have HB0 : Hid (Blk (w.alloc (.cells #[.int .i64 io, .int .i64 i0, .int .i64 i1, .int .i64 i2, .int .i64 i3] 24)) w.heap.size 24 #[.int .i64 io, .int .i64 i0, .int .i64 i1, .int .i64 i2, .int .i64 i3]) := Blk.new _ _ _
  have HK0 : Hid (Keeps w (w.alloc (.cells #[.int .i64 io, .int .i64 i0, .int .i64 i1, .int .i64 i2, .int .i64 i3] 24)) []) := (Keeps.refl w []).alloc _
  clear h
  go_enter Tryd.func5, Tryd.ntmps5
  go_wp2_with fail
  clear d0 hs
  refine (HPs.out _ (HSt.out.keep HK0.out)).mono ?_
  rintro e w1 ⟨rfl, k1⟩
  have HB1 : Hid (Blk (w1.alloc (.cells #[.int .i64 jo, .int .i64 j0, .int .i64 j1, .int .i64 j2, .int .i64 j3] 27)) w1.heap.size 27 #[.int .i64 jo, .int .i64 j0, .int .i64 j1, .int .i64 j2, .int .i64 j3]) := Blk.new _ _ _
  have HA1 := Lib.hid ((HB0.out.keep k1 (by simp)).alloc (.cells #[.int .i64 jo, .int .i64 j0, .int .i64 j1, .int .i64 j2, .int .i64 j3] 27))
  have HK1 := Lib.hid ((HK0.out.trans k1).alloc (.cells #[.int .i64 jo, .int .i64 j0, .int .i64 j1, .int .i64 j2, .int .i64 j3] 27))
  clear k1 HB0 HK0
  go_wp2_with fail
  refine (HRs.out _).mono ?_
  rintro e w2 ⟨rfl, k2⟩
  have HB2 : Hid (Blk (w2.alloc (.cells #[.int .i64 jo, .int .i64 j0, .int .i64 j1, .int .i64 j2, .int .i64 j3] 24)) w2.heap.size 24 #[.int .i64 jo, .int .i64 j0, .int .i64 j1, .int .i64 j2, .int .i64 j3]) := Blk.new _ _ _
  have HA2 := Lib.hid ((HA1.out.keep k2 (by simp)).alloc (.cells #[.int .i64 jo, .int .i64 j0, .int .i64 j1, .int .i64 j2, .int .i64 j3] 24))
  have HJ2 := Lib.hid ((HB1.out.keep k2 (by simp)).alloc (.cells #[.int .i64 jo, .int .i64 j0, .int .i64 j1, .int .i64 j2, .int .i64 j3] 24))
  have HK2 := Lib.hid ((HK1.out.trans k2).alloc (.cells #[.int .i64 jo, .int .i64 j0, .int .i64 j1, .int .i64 j2, .int .i64 j3] 24))
  have q0 := HA2.out.cell 0
  have q1 := HA2.out.cell 1
  have q2 := HA2.out.cell 2
  have q3 := HA2.out.cell 3
  have q4 := HA2.out.cell 4
  clear k2 HB1 HA1 HK1
  go_wp2_with fail
  refine (HTo.out _).mono ?_
  rintro e w3 ⟨rfl, k3⟩
  have HK3 := Lib.hid (HK2.out.trans k3)
  have HF3 := Lib.hid k3
  clear k3 q0 q1 q2 q3 q4 HK2
  go_wp2_with fail
  refine (HTi.out _ (HSt.out.keep HK3.out)).mono ?_
  rintro e w4 ⟨rfl, k4⟩
  have HK4 := Lib.hid (HK3.out.trans k4)
  have HF4 := Lib.hid (HF3.out.trans k4)
  clear k4 HK3 HF3
  go_wp2_with fail
  refine (HPT.out _ (HSt.out.keep HK4.out)).mono ?_
  rintro e w5 ⟨rfl, k5⟩
  have HB5 : Hid (Blk (w5.alloc (.cells #[.int .i64 mo, .int .i64 m0, .int .i64 m1, .int .i64 m2, .int .i64 m3] 27)) w5.heap.size 27 #[.int .i64 mo, .int .i64 m0, .int .i64 m1, .int .i64 m2, .int .i64 m3]) := Blk.new _ _ _
  have HK5 := Lib.hid ((HK4.out.trans k5).alloc (.cells #[.int .i64 mo, .int .i64 m0, .int .i64 m1, .int .i64 m2, .int .i64 m3] 27))
  have HF5 := Lib.hid ((HF4.out.trans k5).alloc (.cells #[.int .i64 mo, .int .i64 m0, .int .i64 m1, .int .i64 m2, .int .i64 m3] 27))
  have HA5 := Lib.hid (HA2.out.keep HF5.out (by simp))
  have HJ5 := Lib.hid (HJ2.out.keep HF5.out (by simp))
  have HR5 := Lib.hid (HB2.out.keep HF5.out (by simp))
  clear k5 HK4 HF4 HF5 HA2 HJ2 HB2
  go_upto_region 7 with fail
  generalize w5.heap.size = xm at *
  generalize w5.alloc (.cells #[.int .i64 mo, .int .i64 m0, .int .i64 m1, .int .i64 m2, .int .i64 m3] 27) = w6 at *
  generalize w.heap.size = xi at *
  generalize w1.heap.size = xj at *
  generalize w2.heap.size = xk at *
  clear w3 w4 w5 w2 w1
  have HP : Hid (∀ W', Keeps w6 W' [] → (W'.cell? ⟨xi, 0, none⟩ = some (.int .i64 io) ∧ W'.cell? ⟨xi, 1, none⟩ = some (.int .i64 i0) ∧ W'.cell? ⟨xi, 2, none⟩ = some (.int .i64 i1) ∧ W'.cell? ⟨xi, 3, none⟩ = some (.int .i64 i2) ∧ W'.cell? ⟨xi, 4, none⟩ = some (.int .i64 i3) ∧ W'.cell? ⟨xj, 0, none⟩ = some (.int .i64 jo) ∧ W'.cell? ⟨xj, 1, none⟩ = some (.int .i64 j0) ∧ W'.cell? ⟨xj, 2, none⟩ = some (.int .i64 j1) ∧ W'.cell? ⟨xj, 3, none⟩ = some (.int .i64 j2) ∧ W'.cell? ⟨xj, 4, none⟩ = some (.int .i64 j3) ∧ W'.cell? ⟨xk, 0, none⟩ = some (.int .i64 jo) ∧ W'.cell? ⟨xk, 1, none⟩ = some (.int .i64 j0) ∧ W'.cell? ⟨xk, 2, none⟩ = some (.int .i64 j1) ∧ W'.cell? ⟨xk, 3, none⟩ = some (.int .i64 j2) ∧ W'.cell? ⟨xk, 4, none⟩ = some (.int .i64 j3) ∧ W'.cell? ⟨xm, 0, none⟩ = some (.int .i64 mo) ∧ W'.cell? ⟨xm, 1, none⟩ = some (.int .i64 m0) ∧ W'.cell? ⟨xm, 2, none⟩ = some (.int .i64 m1) ∧ W'.cell? ⟨xm, 3, none⟩ = some (.int .i64 m2) ∧ W'.cell? ⟨xm, 4, none⟩ = some (.int .i64 m3))) := fun W' k => by
    have b0 := HA5.out.keep k (by simp)
    have b1 := HJ5.out.keep k (by simp)
    have b2 := HR5.out.keep k (by simp)
    have b3 := HB5.out.keep k (by simp)
    exact ⟨b0.cell 0, b0.cell 1, b0.cell 2, b0.cell 3, b0.cell 4, b1.cell 0, b1.cell 1, b1.cell 2, b1.cell 3, b1.cell 4, b2.cell 0, b2.cell 1, b2.cell 2, b2.cell 3, b2.cell 4, b3.cell 0, b3.cell 1, b3.cell 2, b3.cell 3, b3.cell 4⟩
  refine wp_region_tx (fun W' => W'.cell? ⟨xi, 0, none⟩ = some (.int .i64 io) ∧ W'.cell? ⟨xi, 1, none⟩ = some (.int .i64 i0) ∧ W'.cell? ⟨xi, 2, none⟩ = some (.int .i64 i1) ∧ W'.cell? ⟨xi, 3, none⟩ = some (.int .i64 i2) ∧ W'.cell? ⟨xi, 4, none⟩ = some (.int .i64 i3) ∧ W'.cell? ⟨xj, 0, none⟩ = some (.int .i64 jo) ∧ W'.cell? ⟨xj, 1, none⟩ = some (.int .i64 j0) ∧ W'.cell? ⟨xj, 2, none⟩ = some (.int .i64 j1) ∧ W'.cell? ⟨xj, 3, none⟩ = some (.int .i64 j2) ∧ W'.cell? ⟨xj, 4, none⟩ = some (.int .i64 j3) ∧ W'.cell? ⟨xk, 0, none⟩ = some (.int .i64 jo) ∧ W'.cell? ⟨xk, 1, none⟩ = some (.int .i64 j0) ∧ W'.cell? ⟨xk, 2, none⟩ = some (.int .i64 j1) ∧ W'.cell? ⟨xk, 3, none⟩ = some (.int .i64 j2) ∧ W'.cell? ⟨xk, 4, none⟩ = some (.int .i64 j3) ∧ W'.cell? ⟨xm, 0, none⟩ = some (.int .i64 mo) ∧ W'.cell? ⟨xm, 1, none⟩ = some (.int .i64 m0) ∧ W'.cell? ⟨xm, 2, none⟩ = some (.int .i64 m1) ∧ W'.cell? ⟨xm, 3, none⟩ = some (.int .i64 m2) ∧ W'.cell? ⟨xm, 4, none⟩ = some (.int .i64 m3)) [(0, false), (1, true), (2, true), (3, true), (5, true), (4, false), (6, false), (7, true), (8, true), (9, true), (10, true), (11, true), (12, true), (13, true), (14, true), (15, true), (16, true), (17, true), (18, true), (19, true), (20, true), (21, true), (22, true), (23, true), (25, true), (24, false), (26, false), (27, true), (28, true), (29, true), (30, true), (31, true), (32, true), (33, false), (34, true), (35, false)] (by kernel_rfl) (by kernel_rfl) (by exact HP.out _ (Keeps.refl _ []).drew) (fun hHeld => ?_)
  refine wpTx_go rfl (fun K hK => ?_)
  go_simp
  refine (told6_any _ (HSt.out.keep (HK5.out.trans (Keeps.refl _ []).drew))).mono ?_
  rintro e w20 ⟨rfl, k20⟩
  have K20 : Keeps w6 w20 [] := ((Keeps.refl w6 []).drew).trans k20
  refine hK.out _ _ ?_ ?_
  · exact HP.out _ K20
  (clear hHeld; intro hHeld; clear hK K)
  (repeat (first | (refine wpTx_take (v := ?_) rfl (by assumption) ?_ (by rfl) ?_; rotate_left; (focus (intro w' hSw; (try dsimp only at hSw); go_simp; (try with_reducible rfl); done)); simp only [Act.put, List.setIfInBounds_toArray, List.set_cons_zero, List.set_cons_succ]) | (refine wpTx_skip rfl (by assumption) (by rfl) ?_; simp only [Act.put, List.setIfInBounds_toArray, List.set_cons_zero, List.set_cons_succ])))
  refine wpTx_go rfl (fun K hK => ?_)
  go_simp
  refine (HFj.out _).mono ?_
  rintro e w21 ⟨rfl, k21⟩
  have K21 : Keeps w6 w21 [] := K20.trans k21
  refine hK.out _ _ ?_ ?_
  · exact HP.out _ K21
  (clear hHeld; intro hHeld; clear hK K; (try simp only [Act.put, List.setIfInBounds_toArray, List.set_cons_zero, List.set_cons_succ]))
  (repeat (first | (refine wpTx_take (v := ?_) rfl (by assumption) ?_ (by rfl) ?_; rotate_left; (focus (intro w' hSw; (try dsimp only at hSw); go_simp; (try with_reducible rfl); done)); simp only [Act.put, List.setIfInBounds_toArray, List.set_cons_zero, List.set_cons_succ]) | (refine wpTx_skip rfl (by assumption) (by rfl) ?_; simp only [Act.put, List.setIfInBounds_toArray, List.set_cons_zero, List.set_cons_succ])))
  refine wpTx_go rfl (fun K hK => ?_)
  go_simp
  refine hK.out _ _ ?_ ?_
  · exact HP.out _ K21
  (clear hHeld; intro hHeld; clear hK K; (try simp only [Act.put, List.setIfInBounds_toArray, List.set_cons_zero, List.set_cons_succ]))
  (repeat (first | (refine wpTx_take (v := ?_) rfl (by assumption) ?_ (by rfl) ?_; rotate_left; (focus (intro w' hSw; (try dsimp only at hSw); go_simp; (try with_reducible rfl); done)); simp only [Act.put, List.setIfInBounds_toArray, List.set_cons_zero, List.set_cons_succ]) | (refine wpTx_skip rfl (by assumption) (by rfl) ?_; simp only [Act.put, List.setIfInBounds_toArray, List.set_cons_zero, List.set_cons_succ])))
  refine wpTx_go rfl (fun K hK => ?_)
  go_simp
  refine (HNm.out _).mono ?_
  rintro e w22 ⟨rfl, k22⟩
  have K22 : Keeps w6 w22 [] := K21.trans k22
  refine hK.out _ _ ?_ ?_
  · exact HP.out _ K22
  (clear hHeld; intro hHeld; clear hK K; (try simp only [Act.put, List.setIfInBounds_toArray, List.set_cons_zero, List.set_cons_succ]))
  (repeat (first | (refine wpTx_take (v := ?_) rfl (by assumption) ?_ (by rfl) ?_; rotate_left; (focus (intro w' hSw; (try dsimp only at hSw); go_simp; (try with_reducible rfl); done)); simp only [Act.put, List.setIfInBounds_toArray, List.set_cons_zero, List.set_cons_succ]) | (refine wpTx_skip rfl (by assumption) (by rfl) ?_; simp only [Act.put, List.setIfInBounds_toArray, List.set_cons_zero, List.set_cons_succ])))
  refine wpTx_go rfl (fun K hK => ?_)
  go_simp
  refine (HRN.out _).mono ?_
  rintro e w23 ⟨rfl, k23⟩
  have K23 : Keeps w6 w23 [] := K22.trans k23
  refine hK.out _ _ ?_ ?_
  · exact HP.out _ K23
  (clear hHeld; intro hHeld; clear hK K; (try simp only [Act.put, List.setIfInBounds_toArray, List.set_cons_zero, List.set_cons_succ]))
  (repeat (first | (refine wpTx_take (v := ?_) rfl (by assumption) ?_ (by rfl) ?_; rotate_left; (focus (intro w' hSw; (try dsimp only at hSw); go_simp; (try with_reducible rfl); done)); simp only [Act.put, List.setIfInBounds_toArray, List.set_cons_zero, List.set_cons_succ]) | (refine wpTx_skip rfl (by assumption) (by rfl) ?_; simp only [Act.put, List.setIfInBounds_toArray, List.set_cons_zero, List.set_cons_succ])))
  refine wpTx_go rfl (fun K hK => ?_)
  go_simp
  refine (HRR.out _).mono ?_
  rintro e w24 ⟨rfl, k24⟩
  have K24 : Keeps w6 w24 [] := K23.trans k24
  refine hK.out _ _ ?_ ?_
  · exact HP.out _ K24
  (clear hHeld; intro hHeld; clear hK K; (try simp only [Act.put, List.setIfInBounds_toArray, List.set_cons_zero, List.set_cons_succ]))
  (repeat (first | (refine wpTx_take (v := ?_) rfl (by assumption) ?_ (by rfl) ?_; rotate_left; (focus (intro w' hSw; (try dsimp only at hSw); go_simp; (try with_reducible rfl); done)); simp only [Act.put, List.setIfInBounds_toArray, List.set_cons_zero, List.set_cons_succ]) | (refine wpTx_skip rfl (by assumption) (by rfl) ?_; simp only [Act.put, List.setIfInBounds_toArray, List.set_cons_zero, List.set_cons_succ])))
  refine wpTx_last rfl (fun K hK => ?_)
  go_simp
  refine hK.out _ _ (NoPanic.normal ?_); clear hK K; (try simp only [Act.put, List.setIfInBounds_toArray, List.set_cons_zero, List.set_cons_succ])
  go_upto_region 9 with fail
  have K19 : Keeps w6 (World.drew w24) [] := K24.drew
  refine wp_region_tx (fun W' => W'.cell? ⟨xi, 0, none⟩ = some (.int .i64 io) ∧ W'.cell? ⟨xi, 1, none⟩ = some (.int .i64 i0) ∧ W'.cell? ⟨xi, 2, none⟩ = some (.int .i64 i1) ∧ W'.cell? ⟨xi, 3, none⟩ = some (.int .i64 i2) ∧ W'.cell? ⟨xi, 4, none⟩ = some (.int .i64 i3) ∧ W'.cell? ⟨xj, 0, none⟩ = some (.int .i64 jo) ∧ W'.cell? ⟨xj, 1, none⟩ = some (.int .i64 j0) ∧ W'.cell? ⟨xj, 2, none⟩ = some (.int .i64 j1) ∧ W'.cell? ⟨xj, 3, none⟩ = some (.int .i64 j2) ∧ W'.cell? ⟨xj, 4, none⟩ = some (.int .i64 j3) ∧ W'.cell? ⟨xk, 0, none⟩ = some (.int .i64 jo) ∧ W'.cell? ⟨xk, 1, none⟩ = some (.int .i64 j0) ∧ W'.cell? ⟨xk, 2, none⟩ = some (.int .i64 j1) ∧ W'.cell? ⟨xk, 3, none⟩ = some (.int .i64 j2) ∧ W'.cell? ⟨xk, 4, none⟩ = some (.int .i64 j3) ∧ W'.cell? ⟨xm, 0, none⟩ = some (.int .i64 mo) ∧ W'.cell? ⟨xm, 1, none⟩ = some (.int .i64 m0) ∧ W'.cell? ⟨xm, 2, none⟩ = some (.int .i64 m1) ∧ W'.cell? ⟨xm, 3, none⟩ = some (.int .i64 m2) ∧ W'.cell? ⟨xm, 4, none⟩ = some (.int .i64 m3)) [(0, true), (1, true), (2, true), (3, true), (4, true), (5, true), (6, true), (7, true), (8, true), (9, true), (10, true), (11, true), (12, true), (14, true), (13, false), (15, true), (16, true), (17, true), (18, false)] (by kernel_rfl) (by kernel_rfl) (by exact HP.out _ K19) (fun hHeld => ?_)
  (repeat (first | (refine wpTx_take (v := ?_) rfl (by assumption) ?_ (by rfl) ?_; rotate_left; (focus (intro w' hSw; (try dsimp only at hSw); go_simp; (try with_reducible rfl); done)); simp only [Act.put, List.setIfInBounds_toArray, List.set_cons_zero, List.set_cons_succ]) | (refine wpTx_skip rfl (by assumption) (by rfl) ?_; simp only [Act.put, List.setIfInBounds_toArray, List.set_cons_zero, List.set_cons_succ])))
  refine wpTx_go rfl (fun K hK => ?_)
  go_simp
  refine (HTj.out _ (HSt.out.keep (HK5.out.trans K19))).mono ?_
  rintro e w25 ⟨rfl, k25⟩
  have K25 : Keeps w6 w25 [] := K19.trans k25
  refine hK.out _ _ ?_ ?_
  · exact HP.out _ K25
  (clear hHeld; intro hHeld; clear hK K; (try simp only [Act.put, List.setIfInBounds_toArray, List.set_cons_zero, List.set_cons_succ]))
  (repeat (first | (refine wpTx_take (v := ?_) rfl (by assumption) ?_ (by rfl) ?_; rotate_left; (focus (intro w' hSw; (try dsimp only at hSw); go_simp; (try with_reducible rfl); done)); simp only [Act.put, List.setIfInBounds_toArray, List.set_cons_zero, List.set_cons_succ]) | (refine wpTx_skip rfl (by assumption) (by rfl) ?_; simp only [Act.put, List.setIfInBounds_toArray, List.set_cons_zero, List.set_cons_succ])))
  refine wpTx_last rfl (fun K hK => ?_)
  go_simp
  refine hK.out _ _ (NoPanic.normal ?_); clear hK K; (try simp only [Act.put, List.setIfInBounds_toArray, List.set_cons_zero, List.set_cons_succ])
  go_wp2_with fail
  go_ret
  exact ⟨by simp, HK5.out.trans K25⟩

set_option maxRecDepth 100000 in
set_option maxHeartbeats 3200000 in
theorem codeTexts_17_0 (io i0 i1 i2 i3 jo j0 j1 j2 j3 nmd : Int) (s T : ByteArray) (w : World) (h : St w) (hs : s.size ≤ 200)
    (HPs : ∀ w, St w → Calls Tryd.prog 20 #[.string s] w fun e w' => e = .returned (.tuple #[.agg #[.int .i64 jo, .int .i64 j0, .int .i64 j1, .int .i64 j2, .int .i64 j3], .int .i64 17]) ∧ Keeps w w' [])
    (HRs : ∀ w, Calls Tryd.prog 21 #[.string s] w fun e w' => e = .returned (.tuple #[.agg #[.int .i64 jo, .int .i64 j0, .int .i64 j1, .int .i64 j2, .int .i64 j3], .bool false]) ∧ Keeps w w' [])
    (HTo : ∀ w, Calls Tryd.prog 8 #[.agg #[.int .i64 io, .int .i64 i0, .int .i64 i1, .int .i64 i2, .int .i64 i3]] w fun e w' => e = .returned (.agg #[.int .i64 io, .int .i64 i0, .int .i64 i1, .int .i64 i2, .int .i64 i3]) ∧ Keeps w w' [])
    (HTi : ∀ w, St w → Calls Tryd.prog 15 #[.agg #[.int .i64 io, .int .i64 i0, .int .i64 i1, .int .i64 i2, .int .i64 i3]] w fun e w' => e = .returned (.string T) ∧ Keeps w w' [])
    (HPT : ∀ w, St w → Calls Tryd.prog 20 #[.string T] w fun e w' => e = .returned (.tuple #[.agg #[.int .i64 io, .int .i64 i0, .int .i64 i1, .int .i64 i2, .int .i64 i3], .int .i64 0]) ∧ Keeps w w' [])
    (HFj : ∀ w, Calls Tryd.prog 18 #[.agg #[.int .i64 jo, .int .i64 j0, .int .i64 j1, .int .i64 j2, .int .i64 j3]] w fun e w' => e = .returned (.agg #[.int .i64 jo, .int .i64 j0, .int .i64 j1, .int .i64 j2, .int .i64 j3]) ∧ Keeps w w' [])
    (HFm : ∀ w, Calls Tryd.prog 18 #[.agg #[.int .i64 io, .int .i64 i0, .int .i64 i1, .int .i64 i2, .int .i64 i3]] w fun e w' => e = .returned (.agg #[.int .i64 io, .int .i64 i0, .int .i64 i1, .int .i64 i2, .int .i64 i3]) ∧ Keeps w w' [])
    (HNm : ∀ w, Calls Tryd.prog 22 #[.string s] w fun e w' => e = .returned (.int .i64 nmd) ∧ Keeps w w' [])
    (HRN : ∀ w, Calls Tryd.prog 23 #[.string s] w fun e w' => e = .returned (.int .i64 nmd) ∧ Keeps w w' [])
    (HRR : ∀ w, Calls Tryd.prog 9 #[.agg #[.int .i64 io, .int .i64 i0, .int .i64 i1, .int .i64 i2, .int .i64 i3]] w fun e w' => e = .returned (.bool true) ∧ Keeps w w' [])
    : Calls Tryd.prog 5 #[.agg #[.int .i64 io, .int .i64 i0, .int .i64 i1, .int .i64 i2, .int .i64 i3], .string s] w fun e w' => e = .returned (.bool true) ∧ Keeps w w' [] := by
  have d0 : decide (200 < (s.size : Int)) = false := by simp; omega
  have HSt := Lib.hid h
  replace HPs := Lib.hid HPs
  replace HRs := Lib.hid HRs
  replace HTo := Lib.hid HTo
  replace HTi := Lib.hid HTi
  replace HPT := Lib.hid HPT
  replace HFj := Lib.hid HFj
  replace HFm := Lib.hid HFm
  replace HNm := Lib.hid HNm
  replace HRN := Lib.hid HRN
  replace HRR := Lib.hid HRR
  have heqi := fun w => ins_arr_eq w i0 i1 i2 i3 i0 i1 i2 i3
  have heqj := fun w => ins_arr_eq w j0 j1 j2 j3 j0 j1 j2 j3
  have HB0 : Hid (Blk (w.alloc (.cells #[.int .i64 io, .int .i64 i0, .int .i64 i1, .int .i64 i2, .int .i64 i3] 24)) w.heap.size 24 #[.int .i64 io, .int .i64 i0, .int .i64 i1, .int .i64 i2, .int .i64 i3]) := Blk.new _ _ _
  have HK0 : Hid (Keeps w (w.alloc (.cells #[.int .i64 io, .int .i64 i0, .int .i64 i1, .int .i64 i2, .int .i64 i3] 24)) []) := (Keeps.refl w []).alloc _
  clear h
  go_enter Tryd.func5, Tryd.ntmps5
  go_wp2_with fail
  clear d0 hs
  refine (HPs.out _ (HSt.out.keep HK0.out)).mono ?_
  rintro e w1 ⟨rfl, k1⟩
  have HB1 : Hid (Blk (w1.alloc (.cells #[.int .i64 jo, .int .i64 j0, .int .i64 j1, .int .i64 j2, .int .i64 j3] 27)) w1.heap.size 27 #[.int .i64 jo, .int .i64 j0, .int .i64 j1, .int .i64 j2, .int .i64 j3]) := Blk.new _ _ _
  have HA1 := Lib.hid ((HB0.out.keep k1 (by simp)).alloc (.cells #[.int .i64 jo, .int .i64 j0, .int .i64 j1, .int .i64 j2, .int .i64 j3] 27))
  have HK1 := Lib.hid ((HK0.out.trans k1).alloc (.cells #[.int .i64 jo, .int .i64 j0, .int .i64 j1, .int .i64 j2, .int .i64 j3] 27))
  clear k1 HB0 HK0
  go_wp2_with fail
  refine (HRs.out _).mono ?_
  rintro e w2 ⟨rfl, k2⟩
  have HB2 : Hid (Blk (w2.alloc (.cells #[.int .i64 jo, .int .i64 j0, .int .i64 j1, .int .i64 j2, .int .i64 j3] 24)) w2.heap.size 24 #[.int .i64 jo, .int .i64 j0, .int .i64 j1, .int .i64 j2, .int .i64 j3]) := Blk.new _ _ _
  have HA2 := Lib.hid ((HA1.out.keep k2 (by simp)).alloc (.cells #[.int .i64 jo, .int .i64 j0, .int .i64 j1, .int .i64 j2, .int .i64 j3] 24))
  have HJ2 := Lib.hid ((HB1.out.keep k2 (by simp)).alloc (.cells #[.int .i64 jo, .int .i64 j0, .int .i64 j1, .int .i64 j2, .int .i64 j3] 24))
  have HK2 := Lib.hid ((HK1.out.trans k2).alloc (.cells #[.int .i64 jo, .int .i64 j0, .int .i64 j1, .int .i64 j2, .int .i64 j3] 24))
  have q0 := HA2.out.cell 0
  have q1 := HA2.out.cell 1
  have q2 := HA2.out.cell 2
  have q3 := HA2.out.cell 3
  have q4 := HA2.out.cell 4
  clear k2 HB1 HA1 HK1
  go_wp2_with fail
  refine (HTo.out _).mono ?_
  rintro e w3 ⟨rfl, k3⟩
  have HK3 := Lib.hid (HK2.out.trans k3)
  have HF3 := Lib.hid k3
  clear k3 q0 q1 q2 q3 q4 HK2
  go_wp2_with fail
  refine (HTi.out _ (HSt.out.keep HK3.out)).mono ?_
  rintro e w4 ⟨rfl, k4⟩
  have HK4 := Lib.hid (HK3.out.trans k4)
  have HF4 := Lib.hid (HF3.out.trans k4)
  clear k4 HK3 HF3
  go_wp2_with fail
  refine (HPT.out _ (HSt.out.keep HK4.out)).mono ?_
  rintro e w5 ⟨rfl, k5⟩
  have HB5 : Hid (Blk (w5.alloc (.cells #[.int .i64 io, .int .i64 i0, .int .i64 i1, .int .i64 i2, .int .i64 i3] 27)) w5.heap.size 27 #[.int .i64 io, .int .i64 i0, .int .i64 i1, .int .i64 i2, .int .i64 i3]) := Blk.new _ _ _
  have HK5 := Lib.hid ((HK4.out.trans k5).alloc (.cells #[.int .i64 io, .int .i64 i0, .int .i64 i1, .int .i64 i2, .int .i64 i3] 27))
  have HF5 := Lib.hid ((HF4.out.trans k5).alloc (.cells #[.int .i64 io, .int .i64 i0, .int .i64 i1, .int .i64 i2, .int .i64 i3] 27))
  have HA5 := Lib.hid (HA2.out.keep HF5.out (by simp))
  have HJ5 := Lib.hid (HJ2.out.keep HF5.out (by simp))
  have HR5 := Lib.hid (HB2.out.keep HF5.out (by simp))
  clear k5 HK4 HF4 HF5 HA2 HJ2 HB2
  go_upto_region 7 with fail
  generalize w5.heap.size = xm at *
  generalize w5.alloc (.cells #[.int .i64 io, .int .i64 i0, .int .i64 i1, .int .i64 i2, .int .i64 i3] 27) = w6 at *
  generalize w.heap.size = xi at *
  generalize w1.heap.size = xj at *
  generalize w2.heap.size = xk at *
  clear w3 w4 w5 w2 w1
  have HP : Hid (∀ W', Keeps w6 W' [] → (W'.cell? ⟨xi, 0, none⟩ = some (.int .i64 io) ∧ W'.cell? ⟨xi, 1, none⟩ = some (.int .i64 i0) ∧ W'.cell? ⟨xi, 2, none⟩ = some (.int .i64 i1) ∧ W'.cell? ⟨xi, 3, none⟩ = some (.int .i64 i2) ∧ W'.cell? ⟨xi, 4, none⟩ = some (.int .i64 i3) ∧ W'.cell? ⟨xj, 0, none⟩ = some (.int .i64 jo) ∧ W'.cell? ⟨xj, 1, none⟩ = some (.int .i64 j0) ∧ W'.cell? ⟨xj, 2, none⟩ = some (.int .i64 j1) ∧ W'.cell? ⟨xj, 3, none⟩ = some (.int .i64 j2) ∧ W'.cell? ⟨xj, 4, none⟩ = some (.int .i64 j3) ∧ W'.cell? ⟨xk, 0, none⟩ = some (.int .i64 jo) ∧ W'.cell? ⟨xk, 1, none⟩ = some (.int .i64 j0) ∧ W'.cell? ⟨xk, 2, none⟩ = some (.int .i64 j1) ∧ W'.cell? ⟨xk, 3, none⟩ = some (.int .i64 j2) ∧ W'.cell? ⟨xk, 4, none⟩ = some (.int .i64 j3) ∧ W'.cell? ⟨xm, 0, none⟩ = some (.int .i64 io) ∧ W'.cell? ⟨xm, 1, none⟩ = some (.int .i64 i0) ∧ W'.cell? ⟨xm, 2, none⟩ = some (.int .i64 i1) ∧ W'.cell? ⟨xm, 3, none⟩ = some (.int .i64 i2) ∧ W'.cell? ⟨xm, 4, none⟩ = some (.int .i64 i3))) := fun W' k => by
    have b0 := HA5.out.keep k (by simp)
    have b1 := HJ5.out.keep k (by simp)
    have b2 := HR5.out.keep k (by simp)
    have b3 := HB5.out.keep k (by simp)
    exact ⟨b0.cell 0, b0.cell 1, b0.cell 2, b0.cell 3, b0.cell 4, b1.cell 0, b1.cell 1, b1.cell 2, b1.cell 3, b1.cell 4, b2.cell 0, b2.cell 1, b2.cell 2, b2.cell 3, b2.cell 4, b3.cell 0, b3.cell 1, b3.cell 2, b3.cell 3, b3.cell 4⟩
  refine wp_region_tx (fun W' => W'.cell? ⟨xi, 0, none⟩ = some (.int .i64 io) ∧ W'.cell? ⟨xi, 1, none⟩ = some (.int .i64 i0) ∧ W'.cell? ⟨xi, 2, none⟩ = some (.int .i64 i1) ∧ W'.cell? ⟨xi, 3, none⟩ = some (.int .i64 i2) ∧ W'.cell? ⟨xi, 4, none⟩ = some (.int .i64 i3) ∧ W'.cell? ⟨xj, 0, none⟩ = some (.int .i64 jo) ∧ W'.cell? ⟨xj, 1, none⟩ = some (.int .i64 j0) ∧ W'.cell? ⟨xj, 2, none⟩ = some (.int .i64 j1) ∧ W'.cell? ⟨xj, 3, none⟩ = some (.int .i64 j2) ∧ W'.cell? ⟨xj, 4, none⟩ = some (.int .i64 j3) ∧ W'.cell? ⟨xk, 0, none⟩ = some (.int .i64 jo) ∧ W'.cell? ⟨xk, 1, none⟩ = some (.int .i64 j0) ∧ W'.cell? ⟨xk, 2, none⟩ = some (.int .i64 j1) ∧ W'.cell? ⟨xk, 3, none⟩ = some (.int .i64 j2) ∧ W'.cell? ⟨xk, 4, none⟩ = some (.int .i64 j3) ∧ W'.cell? ⟨xm, 0, none⟩ = some (.int .i64 io) ∧ W'.cell? ⟨xm, 1, none⟩ = some (.int .i64 i0) ∧ W'.cell? ⟨xm, 2, none⟩ = some (.int .i64 i1) ∧ W'.cell? ⟨xm, 3, none⟩ = some (.int .i64 i2) ∧ W'.cell? ⟨xm, 4, none⟩ = some (.int .i64 i3)) [(0, false), (1, true), (2, true), (3, true), (5, true), (4, false), (6, false), (7, true), (8, true), (9, true), (10, true), (11, true), (12, true), (13, true), (14, true), (15, true), (16, true), (17, true), (18, true), (19, true), (20, true), (21, true), (22, true), (23, true), (25, true), (24, false), (26, false), (27, true), (28, true), (29, true), (30, true), (31, true), (32, true), (33, false), (34, true), (35, false)] (by kernel_rfl) (by kernel_rfl) (by exact HP.out _ (Keeps.refl _ []).drew) (fun hHeld => ?_)
  refine wpTx_go rfl (fun K hK => ?_)
  go_simp
  refine (told6_any _ (HSt.out.keep (HK5.out.trans (Keeps.refl _ []).drew))).mono ?_
  rintro e w20 ⟨rfl, k20⟩
  have K20 : Keeps w6 w20 [] := ((Keeps.refl w6 []).drew).trans k20
  refine hK.out _ _ ?_ ?_
  · exact HP.out _ K20
  (clear hHeld; intro hHeld; clear hK K)
  (repeat (first | (refine wpTx_take (v := ?_) rfl (by assumption) ?_ (by rfl) ?_; rotate_left; (focus (intro w' hSw; (try dsimp only at hSw); go_simp; (try with_reducible rfl); done)); simp only [Act.put, List.setIfInBounds_toArray, List.set_cons_zero, List.set_cons_succ]) | (refine wpTx_skip rfl (by assumption) (by rfl) ?_; simp only [Act.put, List.setIfInBounds_toArray, List.set_cons_zero, List.set_cons_succ])))
  refine wpTx_go rfl (fun K hK => ?_)
  go_simp
  refine (HFj.out _).mono ?_
  rintro e w21 ⟨rfl, k21⟩
  have K21 : Keeps w6 w21 [] := K20.trans k21
  refine hK.out _ _ ?_ ?_
  · exact HP.out _ K21
  (clear hHeld; intro hHeld; clear hK K; (try simp only [Act.put, List.setIfInBounds_toArray, List.set_cons_zero, List.set_cons_succ]))
  (repeat (first | (refine wpTx_take (v := ?_) rfl (by assumption) ?_ (by rfl) ?_; rotate_left; (focus (intro w' hSw; (try dsimp only at hSw); go_simp; (try with_reducible rfl); done)); simp only [Act.put, List.setIfInBounds_toArray, List.set_cons_zero, List.set_cons_succ]) | (refine wpTx_skip rfl (by assumption) (by rfl) ?_; simp only [Act.put, List.setIfInBounds_toArray, List.set_cons_zero, List.set_cons_succ])))
  refine wpTx_go rfl (fun K hK => ?_)
  go_simp
  refine hK.out _ _ ?_ ?_
  · exact HP.out _ K21
  (clear hHeld; intro hHeld; clear hK K; (try simp only [Act.put, List.setIfInBounds_toArray, List.set_cons_zero, List.set_cons_succ]))
  (repeat (first | (refine wpTx_take (v := ?_) rfl (by assumption) ?_ (by rfl) ?_; rotate_left; (focus (intro w' hSw; (try dsimp only at hSw); go_simp; (try with_reducible rfl); done)); simp only [Act.put, List.setIfInBounds_toArray, List.set_cons_zero, List.set_cons_succ]) | (refine wpTx_skip rfl (by assumption) (by rfl) ?_; simp only [Act.put, List.setIfInBounds_toArray, List.set_cons_zero, List.set_cons_succ])))
  refine wpTx_go rfl (fun K hK => ?_)
  go_simp
  refine (HNm.out _).mono ?_
  rintro e w22 ⟨rfl, k22⟩
  have K22 : Keeps w6 w22 [] := K21.trans k22
  refine hK.out _ _ ?_ ?_
  · exact HP.out _ K22
  (clear hHeld; intro hHeld; clear hK K; (try simp only [Act.put, List.setIfInBounds_toArray, List.set_cons_zero, List.set_cons_succ]))
  (repeat (first | (refine wpTx_take (v := ?_) rfl (by assumption) ?_ (by rfl) ?_; rotate_left; (focus (intro w' hSw; (try dsimp only at hSw); go_simp; (try with_reducible rfl); done)); simp only [Act.put, List.setIfInBounds_toArray, List.set_cons_zero, List.set_cons_succ]) | (refine wpTx_skip rfl (by assumption) (by rfl) ?_; simp only [Act.put, List.setIfInBounds_toArray, List.set_cons_zero, List.set_cons_succ])))
  refine wpTx_go rfl (fun K hK => ?_)
  go_simp
  refine (HRN.out _).mono ?_
  rintro e w23 ⟨rfl, k23⟩
  have K23 : Keeps w6 w23 [] := K22.trans k23
  refine hK.out _ _ ?_ ?_
  · exact HP.out _ K23
  (clear hHeld; intro hHeld; clear hK K; (try simp only [Act.put, List.setIfInBounds_toArray, List.set_cons_zero, List.set_cons_succ]))
  (repeat (first | (refine wpTx_take (v := ?_) rfl (by assumption) ?_ (by rfl) ?_; rotate_left; (focus (intro w' hSw; (try dsimp only at hSw); go_simp; (try with_reducible rfl); done)); simp only [Act.put, List.setIfInBounds_toArray, List.set_cons_zero, List.set_cons_succ]) | (refine wpTx_skip rfl (by assumption) (by rfl) ?_; simp only [Act.put, List.setIfInBounds_toArray, List.set_cons_zero, List.set_cons_succ])))
  refine wpTx_go rfl (fun K hK => ?_)
  go_simp
  refine (HRR.out _).mono ?_
  rintro e w24 ⟨rfl, k24⟩
  have K24 : Keeps w6 w24 [] := K23.trans k24
  refine hK.out _ _ ?_ ?_
  · exact HP.out _ K24
  (clear hHeld; intro hHeld; clear hK K; (try simp only [Act.put, List.setIfInBounds_toArray, List.set_cons_zero, List.set_cons_succ]))
  (repeat (first | (refine wpTx_take (v := ?_) rfl (by assumption) ?_ (by rfl) ?_; rotate_left; (focus (intro w' hSw; (try dsimp only at hSw); go_simp; (try with_reducible rfl); done)); simp only [Act.put, List.setIfInBounds_toArray, List.set_cons_zero, List.set_cons_succ]) | (refine wpTx_skip rfl (by assumption) (by rfl) ?_; simp only [Act.put, List.setIfInBounds_toArray, List.set_cons_zero, List.set_cons_succ])))
  refine wpTx_last rfl (fun K hK => ?_)
  go_simp
  refine hK.out _ _ (NoPanic.normal ?_); clear hK K; (try simp only [Act.put, List.setIfInBounds_toArray, List.set_cons_zero, List.set_cons_succ])
  go_upto_region 9 with fail
  have K19 : Keeps w6 (World.drew w24) [] := K24.drew
  refine wp_region_tx (fun W' => W'.cell? ⟨xi, 0, none⟩ = some (.int .i64 io) ∧ W'.cell? ⟨xi, 1, none⟩ = some (.int .i64 i0) ∧ W'.cell? ⟨xi, 2, none⟩ = some (.int .i64 i1) ∧ W'.cell? ⟨xi, 3, none⟩ = some (.int .i64 i2) ∧ W'.cell? ⟨xi, 4, none⟩ = some (.int .i64 i3) ∧ W'.cell? ⟨xj, 0, none⟩ = some (.int .i64 jo) ∧ W'.cell? ⟨xj, 1, none⟩ = some (.int .i64 j0) ∧ W'.cell? ⟨xj, 2, none⟩ = some (.int .i64 j1) ∧ W'.cell? ⟨xj, 3, none⟩ = some (.int .i64 j2) ∧ W'.cell? ⟨xj, 4, none⟩ = some (.int .i64 j3) ∧ W'.cell? ⟨xk, 0, none⟩ = some (.int .i64 jo) ∧ W'.cell? ⟨xk, 1, none⟩ = some (.int .i64 j0) ∧ W'.cell? ⟨xk, 2, none⟩ = some (.int .i64 j1) ∧ W'.cell? ⟨xk, 3, none⟩ = some (.int .i64 j2) ∧ W'.cell? ⟨xk, 4, none⟩ = some (.int .i64 j3) ∧ W'.cell? ⟨xm, 0, none⟩ = some (.int .i64 io) ∧ W'.cell? ⟨xm, 1, none⟩ = some (.int .i64 i0) ∧ W'.cell? ⟨xm, 2, none⟩ = some (.int .i64 i1) ∧ W'.cell? ⟨xm, 3, none⟩ = some (.int .i64 i2) ∧ W'.cell? ⟨xm, 4, none⟩ = some (.int .i64 i3)) [(0, true), (1, true), (2, true), (3, true), (5, true), (4, false), (6, false), (7, true), (8, true), (9, true), (10, true), (11, true), (12, true), (13, true), (14, true), (15, true), (16, true), (17, true), (18, false)] (by kernel_rfl) (by kernel_rfl) (by exact HP.out _ K19) (fun hHeld => ?_)
  (repeat (first | (refine wpTx_take (v := ?_) rfl (by assumption) ?_ (by rfl) ?_; rotate_left; (focus (intro w' hSw; (try dsimp only at hSw); go_simp; (try with_reducible rfl); done)); simp only [Act.put, List.setIfInBounds_toArray, List.set_cons_zero, List.set_cons_succ]) | (refine wpTx_skip rfl (by assumption) (by rfl) ?_; simp only [Act.put, List.setIfInBounds_toArray, List.set_cons_zero, List.set_cons_succ])))
  refine wpTx_go rfl (fun K hK => ?_)
  go_simp
  refine (HFm.out _).mono ?_
  rintro e w25 ⟨rfl, k25⟩
  have K25 : Keeps w6 w25 [] := K19.trans k25
  refine hK.out _ _ ?_ ?_
  · exact HP.out _ K25
  (clear hHeld; intro hHeld; clear hK K; (try simp only [Act.put, List.setIfInBounds_toArray, List.set_cons_zero, List.set_cons_succ]))
  (repeat (first | (refine wpTx_take (v := ?_) rfl (by assumption) ?_ (by rfl) ?_; rotate_left; (focus (intro w' hSw; (try dsimp only at hSw); go_simp; (try with_reducible rfl); done)); simp only [Act.put, List.setIfInBounds_toArray, List.set_cons_zero, List.set_cons_succ]) | (refine wpTx_skip rfl (by assumption) (by rfl) ?_; simp only [Act.put, List.setIfInBounds_toArray, List.set_cons_zero, List.set_cons_succ])))
  refine wpTx_go rfl (fun K hK => ?_)
  go_simp
  refine hK.out _ _ ?_ ?_
  · exact HP.out _ K25
  (clear hHeld; intro hHeld; clear hK K; (try simp only [Act.put, List.setIfInBounds_toArray, List.set_cons_zero, List.set_cons_succ]))
  (repeat (first | (refine wpTx_take (v := ?_) rfl (by assumption) ?_ (by rfl) ?_; rotate_left; (focus (intro w' hSw; (try dsimp only at hSw); go_simp; (try with_reducible rfl); done)); simp only [Act.put, List.setIfInBounds_toArray, List.set_cons_zero, List.set_cons_succ]) | (refine wpTx_skip rfl (by assumption) (by rfl) ?_; simp only [Act.put, List.setIfInBounds_toArray, List.set_cons_zero, List.set_cons_succ])))
  refine wpTx_last rfl (fun K hK => ?_)
  go_simp
  refine hK.out _ _ (NoPanic.normal ?_); clear hK K; (try simp only [Act.put, List.setIfInBounds_toArray, List.set_cons_zero, List.set_cons_succ])
  go_wp2_with fail
  go_ret
  exact ⟨by simp, HK5.out.trans K25⟩

set_option maxRecDepth 100000 in
set_option maxHeartbeats 3200000 in
theorem codeTexts_17_17 (io i0 i1 i2 i3 jo j0 j1 j2 j3 mo m0 m1 m2 m3 nmd : Int) (s T : ByteArray) (w : World) (h : St w) (hs : s.size ≤ 200)
    (HPs : ∀ w, St w → Calls Tryd.prog 20 #[.string s] w fun e w' => e = .returned (.tuple #[.agg #[.int .i64 jo, .int .i64 j0, .int .i64 j1, .int .i64 j2, .int .i64 j3], .int .i64 17]) ∧ Keeps w w' [])
    (HRs : ∀ w, Calls Tryd.prog 21 #[.string s] w fun e w' => e = .returned (.tuple #[.agg #[.int .i64 jo, .int .i64 j0, .int .i64 j1, .int .i64 j2, .int .i64 j3], .bool false]) ∧ Keeps w w' [])
    (HTo : ∀ w, Calls Tryd.prog 8 #[.agg #[.int .i64 io, .int .i64 i0, .int .i64 i1, .int .i64 i2, .int .i64 i3]] w fun e w' => e = .returned (.agg #[.int .i64 io, .int .i64 i0, .int .i64 i1, .int .i64 i2, .int .i64 i3]) ∧ Keeps w w' [])
    (HTi : ∀ w, St w → Calls Tryd.prog 15 #[.agg #[.int .i64 io, .int .i64 i0, .int .i64 i1, .int .i64 i2, .int .i64 i3]] w fun e w' => e = .returned (.string T) ∧ Keeps w w' [])
    (HPT : ∀ w, St w → Calls Tryd.prog 20 #[.string T] w fun e w' => e = .returned (.tuple #[.agg #[.int .i64 mo, .int .i64 m0, .int .i64 m1, .int .i64 m2, .int .i64 m3], .int .i64 17]) ∧ Keeps w w' [])
    (HFj : ∀ w, Calls Tryd.prog 18 #[.agg #[.int .i64 jo, .int .i64 j0, .int .i64 j1, .int .i64 j2, .int .i64 j3]] w fun e w' => e = .returned (.agg #[.int .i64 jo, .int .i64 j0, .int .i64 j1, .int .i64 j2, .int .i64 j3]) ∧ Keeps w w' [])
    (HNm : ∀ w, Calls Tryd.prog 22 #[.string s] w fun e w' => e = .returned (.int .i64 nmd) ∧ Keeps w w' [])
    (HRN : ∀ w, Calls Tryd.prog 23 #[.string s] w fun e w' => e = .returned (.int .i64 nmd) ∧ Keeps w w' [])
    (HRR : ∀ w, Calls Tryd.prog 9 #[.agg #[.int .i64 io, .int .i64 i0, .int .i64 i1, .int .i64 i2, .int .i64 i3]] w fun e w' => e = .returned (.bool false) ∧ Keeps w w' [])
    : Calls Tryd.prog 5 #[.agg #[.int .i64 io, .int .i64 i0, .int .i64 i1, .int .i64 i2, .int .i64 i3], .string s] w fun e w' => e = .returned (.bool true) ∧ Keeps w w' [] := by
  have d0 : decide (200 < (s.size : Int)) = false := by simp; omega
  have HSt := Lib.hid h
  replace HPs := Lib.hid HPs
  replace HRs := Lib.hid HRs
  replace HTo := Lib.hid HTo
  replace HTi := Lib.hid HTi
  replace HPT := Lib.hid HPT
  replace HFj := Lib.hid HFj
  replace HNm := Lib.hid HNm
  replace HRN := Lib.hid HRN
  replace HRR := Lib.hid HRR
  have heqj := fun w => ins_arr_eq w j0 j1 j2 j3 j0 j1 j2 j3
  have HB0 : Hid (Blk (w.alloc (.cells #[.int .i64 io, .int .i64 i0, .int .i64 i1, .int .i64 i2, .int .i64 i3] 24)) w.heap.size 24 #[.int .i64 io, .int .i64 i0, .int .i64 i1, .int .i64 i2, .int .i64 i3]) := Blk.new _ _ _
  have HK0 : Hid (Keeps w (w.alloc (.cells #[.int .i64 io, .int .i64 i0, .int .i64 i1, .int .i64 i2, .int .i64 i3] 24)) []) := (Keeps.refl w []).alloc _
  clear h
  go_enter Tryd.func5, Tryd.ntmps5
  go_wp2_with fail
  clear d0 hs
  refine (HPs.out _ (HSt.out.keep HK0.out)).mono ?_
  rintro e w1 ⟨rfl, k1⟩
  have HB1 : Hid (Blk (w1.alloc (.cells #[.int .i64 jo, .int .i64 j0, .int .i64 j1, .int .i64 j2, .int .i64 j3] 27)) w1.heap.size 27 #[.int .i64 jo, .int .i64 j0, .int .i64 j1, .int .i64 j2, .int .i64 j3]) := Blk.new _ _ _
  have HA1 := Lib.hid ((HB0.out.keep k1 (by simp)).alloc (.cells #[.int .i64 jo, .int .i64 j0, .int .i64 j1, .int .i64 j2, .int .i64 j3] 27))
  have HK1 := Lib.hid ((HK0.out.trans k1).alloc (.cells #[.int .i64 jo, .int .i64 j0, .int .i64 j1, .int .i64 j2, .int .i64 j3] 27))
  clear k1 HB0 HK0
  go_wp2_with fail
  refine (HRs.out _).mono ?_
  rintro e w2 ⟨rfl, k2⟩
  have HB2 : Hid (Blk (w2.alloc (.cells #[.int .i64 jo, .int .i64 j0, .int .i64 j1, .int .i64 j2, .int .i64 j3] 24)) w2.heap.size 24 #[.int .i64 jo, .int .i64 j0, .int .i64 j1, .int .i64 j2, .int .i64 j3]) := Blk.new _ _ _
  have HA2 := Lib.hid ((HA1.out.keep k2 (by simp)).alloc (.cells #[.int .i64 jo, .int .i64 j0, .int .i64 j1, .int .i64 j2, .int .i64 j3] 24))
  have HJ2 := Lib.hid ((HB1.out.keep k2 (by simp)).alloc (.cells #[.int .i64 jo, .int .i64 j0, .int .i64 j1, .int .i64 j2, .int .i64 j3] 24))
  have HK2 := Lib.hid ((HK1.out.trans k2).alloc (.cells #[.int .i64 jo, .int .i64 j0, .int .i64 j1, .int .i64 j2, .int .i64 j3] 24))
  have q0 := HA2.out.cell 0
  have q1 := HA2.out.cell 1
  have q2 := HA2.out.cell 2
  have q3 := HA2.out.cell 3
  have q4 := HA2.out.cell 4
  clear k2 HB1 HA1 HK1
  go_wp2_with fail
  refine (HTo.out _).mono ?_
  rintro e w3 ⟨rfl, k3⟩
  have HK3 := Lib.hid (HK2.out.trans k3)
  have HF3 := Lib.hid k3
  clear k3 q0 q1 q2 q3 q4 HK2
  go_wp2_with fail
  refine (HTi.out _ (HSt.out.keep HK3.out)).mono ?_
  rintro e w4 ⟨rfl, k4⟩
  have HK4 := Lib.hid (HK3.out.trans k4)
  have HF4 := Lib.hid (HF3.out.trans k4)
  clear k4 HK3 HF3
  go_wp2_with fail
  refine (HPT.out _ (HSt.out.keep HK4.out)).mono ?_
  rintro e w5 ⟨rfl, k5⟩
  have HB5 : Hid (Blk (w5.alloc (.cells #[.int .i64 mo, .int .i64 m0, .int .i64 m1, .int .i64 m2, .int .i64 m3] 27)) w5.heap.size 27 #[.int .i64 mo, .int .i64 m0, .int .i64 m1, .int .i64 m2, .int .i64 m3]) := Blk.new _ _ _
  have HK5 := Lib.hid ((HK4.out.trans k5).alloc (.cells #[.int .i64 mo, .int .i64 m0, .int .i64 m1, .int .i64 m2, .int .i64 m3] 27))
  have HF5 := Lib.hid ((HF4.out.trans k5).alloc (.cells #[.int .i64 mo, .int .i64 m0, .int .i64 m1, .int .i64 m2, .int .i64 m3] 27))
  have HA5 := Lib.hid (HA2.out.keep HF5.out (by simp))
  have HJ5 := Lib.hid (HJ2.out.keep HF5.out (by simp))
  have HR5 := Lib.hid (HB2.out.keep HF5.out (by simp))
  clear k5 HK4 HF4 HF5 HA2 HJ2 HB2
  go_upto_region 7 with fail
  generalize w5.heap.size = xm at *
  generalize w5.alloc (.cells #[.int .i64 mo, .int .i64 m0, .int .i64 m1, .int .i64 m2, .int .i64 m3] 27) = w6 at *
  generalize w.heap.size = xi at *
  generalize w1.heap.size = xj at *
  generalize w2.heap.size = xk at *
  clear w3 w4 w5 w2 w1
  have HP : Hid (∀ W', Keeps w6 W' [] → (W'.cell? ⟨xi, 0, none⟩ = some (.int .i64 io) ∧ W'.cell? ⟨xi, 1, none⟩ = some (.int .i64 i0) ∧ W'.cell? ⟨xi, 2, none⟩ = some (.int .i64 i1) ∧ W'.cell? ⟨xi, 3, none⟩ = some (.int .i64 i2) ∧ W'.cell? ⟨xi, 4, none⟩ = some (.int .i64 i3) ∧ W'.cell? ⟨xj, 0, none⟩ = some (.int .i64 jo) ∧ W'.cell? ⟨xj, 1, none⟩ = some (.int .i64 j0) ∧ W'.cell? ⟨xj, 2, none⟩ = some (.int .i64 j1) ∧ W'.cell? ⟨xj, 3, none⟩ = some (.int .i64 j2) ∧ W'.cell? ⟨xj, 4, none⟩ = some (.int .i64 j3) ∧ W'.cell? ⟨xk, 0, none⟩ = some (.int .i64 jo) ∧ W'.cell? ⟨xk, 1, none⟩ = some (.int .i64 j0) ∧ W'.cell? ⟨xk, 2, none⟩ = some (.int .i64 j1) ∧ W'.cell? ⟨xk, 3, none⟩ = some (.int .i64 j2) ∧ W'.cell? ⟨xk, 4, none⟩ = some (.int .i64 j3) ∧ W'.cell? ⟨xm, 0, none⟩ = some (.int .i64 mo) ∧ W'.cell? ⟨xm, 1, none⟩ = some (.int .i64 m0) ∧ W'.cell? ⟨xm, 2, none⟩ = some (.int .i64 m1) ∧ W'.cell? ⟨xm, 3, none⟩ = some (.int .i64 m2) ∧ W'.cell? ⟨xm, 4, none⟩ = some (.int .i64 m3))) := fun W' k => by
    have b0 := HA5.out.keep k (by simp)
    have b1 := HJ5.out.keep k (by simp)
    have b2 := HR5.out.keep k (by simp)
    have b3 := HB5.out.keep k (by simp)
    exact ⟨b0.cell 0, b0.cell 1, b0.cell 2, b0.cell 3, b0.cell 4, b1.cell 0, b1.cell 1, b1.cell 2, b1.cell 3, b1.cell 4, b2.cell 0, b2.cell 1, b2.cell 2, b2.cell 3, b2.cell 4, b3.cell 0, b3.cell 1, b3.cell 2, b3.cell 3, b3.cell 4⟩
  refine wp_region_tx (fun W' => W'.cell? ⟨xi, 0, none⟩ = some (.int .i64 io) ∧ W'.cell? ⟨xi, 1, none⟩ = some (.int .i64 i0) ∧ W'.cell? ⟨xi, 2, none⟩ = some (.int .i64 i1) ∧ W'.cell? ⟨xi, 3, none⟩ = some (.int .i64 i2) ∧ W'.cell? ⟨xi, 4, none⟩ = some (.int .i64 i3) ∧ W'.cell? ⟨xj, 0, none⟩ = some (.int .i64 jo) ∧ W'.cell? ⟨xj, 1, none⟩ = some (.int .i64 j0) ∧ W'.cell? ⟨xj, 2, none⟩ = some (.int .i64 j1) ∧ W'.cell? ⟨xj, 3, none⟩ = some (.int .i64 j2) ∧ W'.cell? ⟨xj, 4, none⟩ = some (.int .i64 j3) ∧ W'.cell? ⟨xk, 0, none⟩ = some (.int .i64 jo) ∧ W'.cell? ⟨xk, 1, none⟩ = some (.int .i64 j0) ∧ W'.cell? ⟨xk, 2, none⟩ = some (.int .i64 j1) ∧ W'.cell? ⟨xk, 3, none⟩ = some (.int .i64 j2) ∧ W'.cell? ⟨xk, 4, none⟩ = some (.int .i64 j3) ∧ W'.cell? ⟨xm, 0, none⟩ = some (.int .i64 mo) ∧ W'.cell? ⟨xm, 1, none⟩ = some (.int .i64 m0) ∧ W'.cell? ⟨xm, 2, none⟩ = some (.int .i64 m1) ∧ W'.cell? ⟨xm, 3, none⟩ = some (.int .i64 m2) ∧ W'.cell? ⟨xm, 4, none⟩ = some (.int .i64 m3)) [(0, false), (1, true), (2, true), (3, true), (5, true), (4, false), (6, false), (7, true), (8, true), (9, true), (10, true), (11, true), (12, true), (13, true), (14, true), (15, true), (16, true), (17, true), (18, true), (19, true), (20, true), (21, true), (22, true), (23, true), (25, true), (24, false), (26, false), (27, true), (28, true), (29, true), (30, true), (31, true), (32, true), (33, false), (34, true), (35, false)] (by kernel_rfl) (by kernel_rfl) (by exact HP.out _ (Keeps.refl _ []).drew) (fun hHeld => ?_)
  refine wpTx_go rfl (fun K hK => ?_)
  go_simp
  refine (told6_any _ (HSt.out.keep (HK5.out.trans (Keeps.refl _ []).drew))).mono ?_
  rintro e w20 ⟨rfl, k20⟩
  have K20 : Keeps w6 w20 [] := ((Keeps.refl w6 []).drew).trans k20
  refine hK.out _ _ ?_ ?_
  · exact HP.out _ K20
  (clear hHeld; intro hHeld; clear hK K)
  (repeat (first | (refine wpTx_take (v := ?_) rfl (by assumption) ?_ (by rfl) ?_; rotate_left; (focus (intro w' hSw; (try dsimp only at hSw); go_simp; (try with_reducible rfl); done)); simp only [Act.put, List.setIfInBounds_toArray, List.set_cons_zero, List.set_cons_succ]) | (refine wpTx_skip rfl (by assumption) (by rfl) ?_; simp only [Act.put, List.setIfInBounds_toArray, List.set_cons_zero, List.set_cons_succ])))
  refine wpTx_go rfl (fun K hK => ?_)
  go_simp
  refine (HFj.out _).mono ?_
  rintro e w21 ⟨rfl, k21⟩
  have K21 : Keeps w6 w21 [] := K20.trans k21
  refine hK.out _ _ ?_ ?_
  · exact HP.out _ K21
  (clear hHeld; intro hHeld; clear hK K; (try simp only [Act.put, List.setIfInBounds_toArray, List.set_cons_zero, List.set_cons_succ]))
  (repeat (first | (refine wpTx_take (v := ?_) rfl (by assumption) ?_ (by rfl) ?_; rotate_left; (focus (intro w' hSw; (try dsimp only at hSw); go_simp; (try with_reducible rfl); done)); simp only [Act.put, List.setIfInBounds_toArray, List.set_cons_zero, List.set_cons_succ]) | (refine wpTx_skip rfl (by assumption) (by rfl) ?_; simp only [Act.put, List.setIfInBounds_toArray, List.set_cons_zero, List.set_cons_succ])))
  refine wpTx_go rfl (fun K hK => ?_)
  go_simp
  refine hK.out _ _ ?_ ?_
  · exact HP.out _ K21
  (clear hHeld; intro hHeld; clear hK K; (try simp only [Act.put, List.setIfInBounds_toArray, List.set_cons_zero, List.set_cons_succ]))
  (repeat (first | (refine wpTx_take (v := ?_) rfl (by assumption) ?_ (by rfl) ?_; rotate_left; (focus (intro w' hSw; (try dsimp only at hSw); go_simp; (try with_reducible rfl); done)); simp only [Act.put, List.setIfInBounds_toArray, List.set_cons_zero, List.set_cons_succ]) | (refine wpTx_skip rfl (by assumption) (by rfl) ?_; simp only [Act.put, List.setIfInBounds_toArray, List.set_cons_zero, List.set_cons_succ])))
  refine wpTx_go rfl (fun K hK => ?_)
  go_simp
  refine (HNm.out _).mono ?_
  rintro e w22 ⟨rfl, k22⟩
  have K22 : Keeps w6 w22 [] := K21.trans k22
  refine hK.out _ _ ?_ ?_
  · exact HP.out _ K22
  (clear hHeld; intro hHeld; clear hK K; (try simp only [Act.put, List.setIfInBounds_toArray, List.set_cons_zero, List.set_cons_succ]))
  (repeat (first | (refine wpTx_take (v := ?_) rfl (by assumption) ?_ (by rfl) ?_; rotate_left; (focus (intro w' hSw; (try dsimp only at hSw); go_simp; (try with_reducible rfl); done)); simp only [Act.put, List.setIfInBounds_toArray, List.set_cons_zero, List.set_cons_succ]) | (refine wpTx_skip rfl (by assumption) (by rfl) ?_; simp only [Act.put, List.setIfInBounds_toArray, List.set_cons_zero, List.set_cons_succ])))
  refine wpTx_go rfl (fun K hK => ?_)
  go_simp
  refine (HRN.out _).mono ?_
  rintro e w23 ⟨rfl, k23⟩
  have K23 : Keeps w6 w23 [] := K22.trans k23
  refine hK.out _ _ ?_ ?_
  · exact HP.out _ K23
  (clear hHeld; intro hHeld; clear hK K; (try simp only [Act.put, List.setIfInBounds_toArray, List.set_cons_zero, List.set_cons_succ]))
  (repeat (first | (refine wpTx_take (v := ?_) rfl (by assumption) ?_ (by rfl) ?_; rotate_left; (focus (intro w' hSw; (try dsimp only at hSw); go_simp; (try with_reducible rfl); done)); simp only [Act.put, List.setIfInBounds_toArray, List.set_cons_zero, List.set_cons_succ]) | (refine wpTx_skip rfl (by assumption) (by rfl) ?_; simp only [Act.put, List.setIfInBounds_toArray, List.set_cons_zero, List.set_cons_succ])))
  refine wpTx_go rfl (fun K hK => ?_)
  go_simp
  refine (HRR.out _).mono ?_
  rintro e w24 ⟨rfl, k24⟩
  have K24 : Keeps w6 w24 [] := K23.trans k24
  refine hK.out _ _ ?_ ?_
  · exact HP.out _ K24
  (clear hHeld; intro hHeld; clear hK K; (try simp only [Act.put, List.setIfInBounds_toArray, List.set_cons_zero, List.set_cons_succ]))
  (repeat (first | (refine wpTx_take (v := ?_) rfl (by assumption) ?_ (by rfl) ?_; rotate_left; (focus (intro w' hSw; (try dsimp only at hSw); go_simp; (try with_reducible rfl); done)); simp only [Act.put, List.setIfInBounds_toArray, List.set_cons_zero, List.set_cons_succ]) | (refine wpTx_skip rfl (by assumption) (by rfl) ?_; simp only [Act.put, List.setIfInBounds_toArray, List.set_cons_zero, List.set_cons_succ])))
  refine wpTx_last rfl (fun K hK => ?_)
  go_simp
  refine hK.out _ _ (NoPanic.normal ?_); clear hK K; (try simp only [Act.put, List.setIfInBounds_toArray, List.set_cons_zero, List.set_cons_succ])
  go_upto_region 9 with fail
  have K19 : Keeps w6 (World.drew w24) [] := K24.drew
  refine wp_region_tx (fun W' => W'.cell? ⟨xi, 0, none⟩ = some (.int .i64 io) ∧ W'.cell? ⟨xi, 1, none⟩ = some (.int .i64 i0) ∧ W'.cell? ⟨xi, 2, none⟩ = some (.int .i64 i1) ∧ W'.cell? ⟨xi, 3, none⟩ = some (.int .i64 i2) ∧ W'.cell? ⟨xi, 4, none⟩ = some (.int .i64 i3) ∧ W'.cell? ⟨xj, 0, none⟩ = some (.int .i64 jo) ∧ W'.cell? ⟨xj, 1, none⟩ = some (.int .i64 j0) ∧ W'.cell? ⟨xj, 2, none⟩ = some (.int .i64 j1) ∧ W'.cell? ⟨xj, 3, none⟩ = some (.int .i64 j2) ∧ W'.cell? ⟨xj, 4, none⟩ = some (.int .i64 j3) ∧ W'.cell? ⟨xk, 0, none⟩ = some (.int .i64 jo) ∧ W'.cell? ⟨xk, 1, none⟩ = some (.int .i64 j0) ∧ W'.cell? ⟨xk, 2, none⟩ = some (.int .i64 j1) ∧ W'.cell? ⟨xk, 3, none⟩ = some (.int .i64 j2) ∧ W'.cell? ⟨xk, 4, none⟩ = some (.int .i64 j3) ∧ W'.cell? ⟨xm, 0, none⟩ = some (.int .i64 mo) ∧ W'.cell? ⟨xm, 1, none⟩ = some (.int .i64 m0) ∧ W'.cell? ⟨xm, 2, none⟩ = some (.int .i64 m1) ∧ W'.cell? ⟨xm, 3, none⟩ = some (.int .i64 m2) ∧ W'.cell? ⟨xm, 4, none⟩ = some (.int .i64 m3)) [(0, true), (1, true), (2, true), (3, true), (4, true), (5, true), (6, true), (7, true), (8, true), (9, true), (10, true), (11, true), (12, true), (13, true), (14, true), (15, true), (16, true), (17, true), (18, false)] (by kernel_rfl) (by kernel_rfl) (by exact HP.out _ K19) (fun hHeld => ?_)
  (repeat (first | (refine wpTx_take (v := ?_) rfl (by assumption) ?_ (by rfl) ?_; rotate_left; (focus (intro w' hSw; (try dsimp only at hSw); go_simp; (try with_reducible rfl); done)); simp only [Act.put, List.setIfInBounds_toArray, List.set_cons_zero, List.set_cons_succ]) | (refine wpTx_skip rfl (by assumption) (by rfl) ?_; simp only [Act.put, List.setIfInBounds_toArray, List.set_cons_zero, List.set_cons_succ])))
  refine wpTx_last rfl (fun K hK => ?_)
  go_simp
  refine hK.out _ _ (NoPanic.normal ?_); clear hK K; (try simp only [Act.put, List.setIfInBounds_toArray, List.set_cons_zero, List.set_cons_succ])
  go_wp2_with fail
  go_ret
  exact ⟨by simp, HK5.out.trans K19⟩

end Go.Proofs.YtiimlajhofikeaaDoor
