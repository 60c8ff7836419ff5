/- TermRights: the walk. -/
import Derived.Test.YtjbomjnkjcafcaaDoorTmTold
import Derived.Test.YtjbomjnkjcafcaaDoorTmTo
import Derived.Test.YtjbomjnkjcafcaaDoorTmSame
namespace Go.Proofs.YtjbomjnkjcafcaaDoor
open Go.RowKit

set_option maxRecDepth 100000 in
set_option maxHeartbeats 3200000 in
theorem termRights_any (t : Tm) (v : TV) (w : World) (ht : Tr w (fun _ => True) t v) (h : St w) :
    Calls Tryd.prog 3 #[tvV v] w fun e w' => e = .returned (.bool true) ∧ Keeps w w' [] := by
  have HT := Lib.hid ht
  have HSt := Lib.hid h
  have HK0 : Hid (Keeps w (w.alloc (.cells #[.int .i64 v.k, .int .i64 v.n, .string v.s, .slice v.A v.len v.c] 24)) []) := (Keeps.refl w []).alloc _
  have HB0 : Hid (Blk (w.alloc (.cells #[.int .i64 v.k, .int .i64 v.n, .string v.s, .slice v.A v.len v.c] 24)) w.heap.size 24 #[.int .i64 v.k, .int .i64 v.n, .string v.s, .slice v.A v.len v.c]) := Blk.new _ _ _
  have hfw := few_any t v _ 30 200 (ht.keep HK0.out) (by omega) (by omega) (by omega) (by omega)
  have HSz : Hid (0 ≤ tFew t 30 200 → tSize t ≤ 200) := fun h0 => by have := tFew_size t 30 200 h0; omega
  obtain ⟨r, hr⟩ : ∃ r, tFew t 30 200 = r := ⟨_, rfl⟩
  rw [hr] at hfw HSz
  unfold tvV at hfw ⊢
  have HF := Lib.hid hfw
  clear hfw hr ht h
  go_enter Tryd.func3, Tryd.ntmps3
  go_wp2_with fail
  refine HF.out.mono ?_
  rintro e w1 ⟨rfl, k1⟩
  have HK1 := Lib.hid (HK0.out.trans k1)
  have HB1 := Lib.hid (HB0.out.keep k1 (by simp))
  clear k1 HK0 HB0 HF
  by_cases hneg : r < 0
  · have d0 : decide (r < 0) = true := by simpa using hneg
    go_wp2_with fail
    refine (told3_any _ (HSt.out.keep HK1.out)).mono ?_
    rintro e w2 ⟨rfl, k2⟩
    go_wp2_with fail
    go_ret
    exact ⟨rfl, HK1.out.trans k2⟩
  · have d0 : decide (r < 0) = false := by simpa using hneg
    have hsz : tSize t ≤ 200 := HSz.out (by omega)
    have hb := HB1.out
    have q0 := hb.cell 0
    have q1 := hb.cell 1
    have q2 := hb.cell 2
    have q3 := hb.cell 3
    have hto := tmTo_any t v w1 (HT.out.keep HK1.out) (by omega)
    unfold tvV TDone at hto
    have HTo := Lib.hid hto
    clear hb hto hneg
    go_wp2_with fail
    refine HTo.out.mono ?_
    rintro e w2 ⟨x, rfl, hx, k2⟩
    have HX : Hid (Tr (w2.alloc (.cells #[.int .i64 x.k, .int .i64 x.n, .string x.s, .slice x.A x.len x.c] 29)) (fun _ => True) t x) := (hx.mono fun _ _ => trivial).keep ((Keeps.refl w2 []).alloc _)
    have HB2 := Lib.hid ((HB1.out.keep k2 (by simp)).alloc (.cells #[.int .i64 x.k, .int .i64 x.n, .string x.s, .slice x.A x.len x.c] 29))
    have HX2 : Hid (Blk (w2.alloc (.cells #[.int .i64 x.k, .int .i64 x.n, .string x.s, .slice x.A x.len x.c] 29)) w2.heap.size 29 #[.int .i64 x.k, .int .i64 x.n, .string x.s, .slice x.A x.len x.c]) := Blk.new _ _ _
    have HK2 := Lib.hid ((HK1.out.trans k2).alloc (.cells #[.int .i64 x.k, .int .i64 x.n, .string x.s, .slice x.A x.len x.c] 29))
    unfold tvV
    clear hx k2 HB1 HTo q0 q1 q2 q3 HK1
    go_upto_region 4 with fail
    generalize w2.heap.size = xb at *
    generalize w2.alloc (.cells #[.int .i64 x.k, .int .i64 x.n, .string x.s, .slice x.A x.len x.c] 29) = w6 at *
    have HP : Hid (∀ W', Keeps w6 W' [] → (W'.cell? ⟨w.heap.size, 0, none⟩ = some (.int .i64 v.k) ∧ W'.cell? ⟨w.heap.size, 1, none⟩ = some (.int .i64 v.n) ∧ W'.cell? ⟨w.heap.size, 2, none⟩ = some (.string v.s) ∧ W'.cell? ⟨w.heap.size, 3, none⟩ = some (.slice v.A v.len v.c) ∧ W'.cell? ⟨xb, 0, none⟩ = some (.int .i64 x.k) ∧ W'.cell? ⟨xb, 1, none⟩ = some (.int .i64 x.n) ∧ W'.cell? ⟨xb, 2, none⟩ = some (.string x.s) ∧ W'.cell? ⟨xb, 3, none⟩ = some (.slice x.A x.len x.c))) := fun W' k => by
      have b0 := HB2.out.keep k (by simp)
      have b1 := HX2.out.keep k (by simp)
      exact ⟨b0.cell 0, b0.cell 1, b0.cell 2, b0.cell 3, b1.cell 0, b1.cell 1, b1.cell 2, b1.cell 3⟩
    have HV6 := Lib.hid (HT.out.keep HK2.out)
    have HRt : Hid (∀ w, Tr w (fun _ => True) t x → Calls Tryd.prog 9 #[.agg #[.int .i64 x.k, .int .i64 x.n, .string x.s, .slice x.A x.len x.c]] w fun e w' => e = .returned (.bool (tRight t)) ∧ Keeps w w' []) := fun w h => right_any t x w h
    have HRR : Hid (∀ w, Tr w (fun _ => True) t v → Calls Tryd.prog 10 #[.agg #[.int .i64 v.k, .int .i64 v.n, .string v.s, .slice v.A v.len v.c]] w fun e w' => e = .returned (.bool (tRight t)) ∧ Keeps w w' []) := fun w h => refRightT_any t v w h
    have HFr : Hid (∀ w, Tr w (fun _ => True) t x → Calls Tryd.prog 12 #[.agg #[.int .i64 x.k, .int .i64 x.n, .string x.s, .slice x.A x.len x.c]] w (TDone [] (fun b => w.heap.size ≤ b) w t)) := fun w h => tmFrom_any t x w h (by omega)
    have HSm : Hid (∀ u w, Tr w (fun _ => True) t u → Tr w (fun _ => True) t v → Calls Tryd.prog 11 #[.agg #[.int .i64 u.k, .int .i64 u.n, .string u.s, .slice u.A u.len u.c], .agg #[.int .i64 v.k, .int .i64 v.n, .string v.s, .slice v.A v.len v.c]] w fun e w' => e = .returned (.bool true) ∧ Keeps w w' []) := fun u w h1 h2 => by
      have := refSame_any t t u v w h1 h2
      rw [(tSame_iff t t).2 rfl] at this
      exact this
    generalize tRight t = rt at *
    refine wp_region_tx (fun W' => W'.cell? ⟨w.heap.size, 0, none⟩ = some (.int .i64 v.k) ∧ W'.cell? ⟨w.heap.size, 1, none⟩ = some (.int .i64 v.n) ∧ W'.cell? ⟨w.heap.size, 2, none⟩ = some (.string v.s) ∧ W'.cell? ⟨w.heap.size, 3, none⟩ = some (.slice v.A v.len v.c) ∧ W'.cell? ⟨xb, 0, none⟩ = some (.int .i64 x.k) ∧ W'.cell? ⟨xb, 1, none⟩ = some (.int .i64 x.n) ∧ W'.cell? ⟨xb, 2, none⟩ = some (.string x.s) ∧ W'.cell? ⟨xb, 3, none⟩ = some (.slice x.A x.len x.c)) [(0, false), (1, true), (2, true), (4, true), (3, false), (5, false), (6, true), (7, true), (8, true), (9, true), (11, true), (10, false), (12, false), (13, true), (14, false)] (by kernel_rfl) (by kernel_rfl) (by exact HP.out _ (Keeps.refl _ []).drew) (fun hHeld => ?_)
    refine wpTx_go rfl (fun K hK => ?_)
    go_simp
    refine (told3_any _ (HSt.out.keep (HK2.out.trans (Keeps.refl _ []).drew))).mono ?_
    rintro e w20 ⟨rfl, k20⟩
    have K20 : Keeps w6 w20 [] := ((Keeps.refl w6 []).drew).trans k20
    refine hK.out _ _ ?_ ?_
    · exact HP.out _ K20
    (clear hHeld; intro hHeld; clear hK K; (try simp only [Act.put, List.setIfInBounds_toArray, List.set_cons_zero, List.set_cons_succ]))
    (repeat (first | (refine wpTx_take (v := ?_) rfl (by assumption) ?_ (by rfl) ?_; rotate_left; (focus (intro w' hSw; (try dsimp only at hSw); go_simp; (try with_reducible rfl); done)); simp only [Act.put, List.setIfInBounds_toArray, List.set_cons_zero, List.set_cons_succ]) | (refine wpTx_skip rfl (by assumption) (by rfl) ?_; simp only [Act.put, List.setIfInBounds_toArray, List.set_cons_zero, List.set_cons_succ])))
    refine wpTx_go rfl (fun K hK => ?_)
    go_simp
    refine (HRt.out _ (HX.out.keep K20)).mono ?_
    rintro e w21 ⟨rfl, k21⟩
    have K21 : Keeps w6 w21 [] := K20.trans k21
    refine hK.out _ _ ?_ ?_
    · exact HP.out _ K21
    (clear hHeld; intro hHeld; clear hK K)
    refine wpTx_go rfl (fun K hK => ?_)
    go_simp
    refine (HRR.out _ (HV6.out.keep K21)).mono ?_
    rintro e w22 ⟨rfl, k22⟩
    have K22 : Keeps w6 w22 [] := K21.trans k22
    refine hK.out _ _ ?_ ?_
    · exact HP.out _ K22
    (clear hHeld; intro hHeld; clear hK K; (try simp only [Act.put, List.setIfInBounds_toArray, List.set_cons_zero, List.set_cons_succ]))
    (repeat (first | (refine wpTx_take (v := ?_) rfl (by assumption) ?_ (by rfl) ?_; rotate_left; (focus (intro w' hSw; (try dsimp only at hSw); go_simp; (try with_reducible rfl); done)); simp only [Act.put, List.setIfInBounds_toArray, List.set_cons_zero, List.set_cons_succ]) | (refine wpTx_skip rfl (by assumption) (by rfl) ?_; simp only [Act.put, List.setIfInBounds_toArray, List.set_cons_zero, List.set_cons_succ])))
    refine wpTx_go rfl (fun K hK => ?_)
    go_simp
    refine (HFr.out _ (HX.out.keep K22)).mono ?_
    rintro e w23 ⟨u, rfl, hu, k23⟩
    have K23 : Keeps w6 w23 [] := K22.trans k23
    have HU := Lib.hid (hu.mono fun _ _ => trivial : Tr w23 (fun _ => True) t u)
    unfold tvV
    clear hu
    refine hK.out _ _ ?_ ?_
    · exact HP.out _ K23
    (clear hHeld; intro hHeld; clear hK K)
    refine wpTx_go rfl (fun K hK => ?_)
    go_simp
    refine (HSm.out u _ HU.out (HV6.out.keep K23)).mono ?_
    rintro e w24 ⟨rfl, k24⟩
    have K24 : Keeps w6 w24 [] := K23.trans k24
    refine hK.out _ _ ?_ ?_
    · exact HP.out _ K24
    (clear hHeld; intro hHeld; clear hK K; (try simp only [Act.put, List.setIfInBounds_toArray, List.set_cons_zero, List.set_cons_succ]))
    (repeat (first | (refine wpTx_take (v := ?_) rfl (by assumption) ?_ (by rfl) ?_; rotate_left; (focus (intro w' hSw; (try dsimp only at hSw); go_simp; (try with_reducible rfl); done)); simp only [Act.put, List.setIfInBounds_toArray, List.set_cons_zero, List.set_cons_succ]) | (refine wpTx_skip rfl (by assumption) (by rfl) ?_; simp only [Act.put, List.setIfInBounds_toArray, List.set_cons_zero, List.set_cons_succ])))
    refine wpTx_last rfl (fun K hK => ?_)
    go_simp
    refine hK.out _ _ (NoPanic.normal ?_); clear hK K; (try simp only [Act.put, List.setIfInBounds_toArray, List.set_cons_zero, List.set_cons_succ])
    go_wp2_with fail
    go_ret
    exact ⟨by simp, HK2.out.trans K24⟩
end Go.Proofs.YtjbomjnkjcafcaaDoor
