/- TermParses: the walk. -/
import Derived.Test.YtjbomjnkjcafcaaDoorTmRParse
import Derived.Test.YtjbomjnkjcafcaaDoorTmTold
import Derived.Test.YtjbomjnkjcafcaaDoorTmTo
import Derived.Test.YtjbomjnkjcafcaaDoorTmSame
namespace Go.Proofs.YtjbomjnkjcafcaaDoor
open Go.RowKit

theorem join_ge (c : UInt8) : ∀ l : List Tm, (∀ a ∈ l, tSize a ≤ (tText a).length) → tSizes l ≤ (tJoin c (tTexts l)).length
  | [], _ => by simp [tSizes]
  | [a], h => by have := h a (by simp); rw [tTexts, tTexts, tJoin, tSizes, tSizes]; omega
  | a :: b :: l, h => by
    have h1 := h a (by simp)
    have h2 := join_ge c (b :: l) (fun x hx => h x (by simp [hx]))
    simp only [tTexts, tJoin, tSizes, List.length_append, List.length_cons] at h2 ⊢
    omega
theorem size_text (t : Tm) : tRight t = true → tSize t ≤ (tText t).length := by
  induction t using Tm.ind_ with
  | h k n s l ih =>
    intro ht
    rw [tRight, Bool.and_eq_true] at ht
    obtain ⟨hl, ht⟩ := ht
    have hall := (tRights_all l).1 hl
    have hj := fun c => join_ge c l (fun a ha => ih a ha (hall a ha))
    rw [tText, tSize]
    split at ht
    · rename_i hk
      simp only [Bool.and_eq_true, decide_eq_true_eq] at ht
      have hl0 := List.length_eq_zero_iff.1 ht.2
      rw [if_pos hk, hl0, tSizes, List.length_cons]
      omega
    · rename_i hk0
      rw [if_neg hk0]
      split at ht
      · rename_i hk
        simp only [Bool.and_eq_true, decide_eq_true_eq] at ht
        have hl0 := List.length_eq_zero_iff.1 ht.2
        have hne := List.length_pos_iff.2 (name_bytes ht.1.2).1
        rw [if_pos hk, hl0, tSizes]
        omega
      · rename_i hk1
        rw [if_neg hk1]
        split at ht
        · rename_i hk
          have := hj 44
          rw [if_neg (by omega)]
          simp only [List.length_append, List.length_cons, List.length_nil]
          omega
        · split at ht
          · rename_i hk
            have := hj 124
            rw [if_pos hk]
            simp only [List.length_append, List.length_cons, List.length_nil]
            omega
          · cases ht
set_option maxHeartbeats 800000 in
theorem termParses_long (s : ByteArray) (w : World) (h : St w) (hs : 300 < s.size) : Calls Tryd.prog 4 #[.string s] w fun e w' => e = .returned (.bool true) ∧ Keeps w w' [] := by
  have d0 : decide (300 < (s.size : Int)) = true := by simp; omega
  have HSt := Lib.hid h
  clear h hs
  go_enter Tryd.func4, Tryd.ntmps4
  go_wp2_with fail
  refine (told3_any _ HSt.out).mono ?_
  rintro e w1 ⟨rfl, k1⟩
  go_wp2_with fail
  go_ret
  exact ⟨rfl, k1⟩

set_option maxRecDepth 100000 in
set_option maxHeartbeats 3200000 in
theorem termParses_some (s : ByteArray) (t : Tm) (w : World) (h : St w) (hs : s.size ≤ 300)
    (HPs : ∀ w, St w → Calls Tryd.prog 13 #[.string s] w fun e w' => ∃ v, e = .returned (.tuple #[tvV v, .int .i64 0]) ∧ Tr w' (fun b => w.heap.size ≤ b) t v ∧ Keeps w w' [])
    (HRs : ∀ w, Calls Tryd.prog 14 #[.string s] w fun e w' => ∃ v, e = .returned (.tuple #[tvV v, .bool true]) ∧ Tr w' (fun b => w.heap.size ≤ b) t v ∧ Keeps w w' [])
    (HTx : ∀ v w, Tr w (fun _ => True) t v → St w → Calls Tryd.prog 15 #[tvV v] w fun e w' => e = .returned (.string s) ∧ Keeps w w' [])
    (hsz : tSize t ≤ 1000000) : Calls Tryd.prog 4 #[.string s] w fun e w' => e = .returned (.bool true) ∧ Keeps w w' [] := by
  have d0 : decide (300 < (s.size : Int)) = false := by simp; omega
  have HSt := Lib.hid h
  have HP1 := Lib.hid (HPs w h)
  replace HRs := Lib.hid HRs
  have HFr : Hid (∀ v w, Tr w (fun _ => True) t v → Calls Tryd.prog 12 #[.agg #[.int .i64 v.k, .int .i64 v.n, .string v.s, .slice v.A v.len v.c]] w (TDone [] (fun b => w.heap.size ≤ b) w t)) := fun v w h => tmFrom_any t v w h hsz
  have HSm : Hid (∀ u v w, Tr w (fun _ => True) t u → Tr w (fun _ => True) t v → Calls Tryd.prog 11 #[.agg #[.int .i64 u.k, .int .i64 u.n, .string u.s, .slice u.A u.len u.c], .agg #[.int .i64 v.k, .int .i64 v.n, .string v.s, .slice v.A v.len v.c]] w fun e w' => e = .returned (.bool true) ∧ Keeps w w' []) := fun u v w h1 h2 => by
    have := refSame_any t t u v w h1 h2
    rw [(tSame_iff t t).2 rfl] at this
    exact this
  have HN := Lib.hid (name_any s)
  have HRN := Lib.hid (refName_any s)
  replace HTx := Lib.hid HTx
  clear h hs HPs hsz
  generalize nameOk s = nk at *
  go_enter Tryd.func4, Tryd.ntmps4
  go_wp2_with fail
  refine HP1.out.mono ?_
  rintro e w1 ⟨x, rfl, hx, k1⟩
  have HX1 : Hid (Tr (w1.alloc (.cells #[.int .i64 x.k, .int .i64 x.n, .string x.s, .slice x.A x.len x.c] 29)) (fun _ => True) t x) := (hx.mono fun _ _ => trivial).keep ((Keeps.refl w1 []).alloc _)
  have HB1 : Hid (Blk (w1.alloc (.cells #[.int .i64 x.k, .int .i64 x.n, .string x.s, .slice x.A x.len x.c] 29)) w1.heap.size 29 #[.int .i64 x.k, .int .i64 x.n, .string x.s, .slice x.A x.len x.c]) := Blk.new _ _ _
  have HK1 := Lib.hid (k1.alloc (.cells #[.int .i64 x.k, .int .i64 x.n, .string x.s, .slice x.A x.len x.c] 29))
  unfold tvV
  clear hx k1 HP1
  go_wp2_with fail
  refine (HRs.out _).mono ?_
  rintro e w2 ⟨y, rfl, hy, k2⟩
  have K2 := k2.alloc (.cells #[.int .i64 y.k, .int .i64 y.n, .string y.s, .slice y.A y.len y.c] 24)
  have HX2 := Lib.hid (HX1.out.keep K2)
  have HB2 := Lib.hid (HB1.out.keep K2 (by simp))
  have HY2 : Hid (Tr (w2.alloc (.cells #[.int .i64 y.k, .int .i64 y.n, .string y.s, .slice y.A y.len y.c] 24)) (fun _ => True) t y) := (hy.mono fun _ _ => trivial).keep ((Keeps.refl w2 []).alloc _)
  have HC2 : Hid (Blk (w2.alloc (.cells #[.int .i64 y.k, .int .i64 y.n, .string y.s, .slice y.A y.len y.c] 24)) w2.heap.size 24 #[.int .i64 y.k, .int .i64 y.n, .string y.s, .slice y.A y.len y.c]) := Blk.new _ _ _
  have HK2 := Lib.hid (HK1.out.trans K2)
  unfold tvV
  clear hy k2 K2 HX1 HB1 HK1
  go_upto_region 5 with fail
  generalize w2.heap.size = yb at *
  generalize w2.alloc (.cells #[.int .i64 y.k, .int .i64 y.n, .string y.s, .slice y.A y.len y.c] 24) = w6 at *
  generalize w1.heap.size = xb at *
  have HP : Hid (∀ W', Keeps w6 W' [] → (W'.cell? ⟨xb, 0, none⟩ = some (.int .i64 x.k) ∧ W'.cell? ⟨xb, 1, none⟩ = some (.int .i64 x.n) ∧ W'.cell? ⟨xb, 2, none⟩ = some (.string x.s) ∧ W'.cell? ⟨xb, 3, none⟩ = some (.slice x.A x.len x.c) ∧ W'.cell? ⟨yb, 0, none⟩ = some (.int .i64 y.k) ∧ W'.cell? ⟨yb, 1, none⟩ = some (.int .i64 y.n) ∧ W'.cell? ⟨yb, 2, none⟩ = some (.string y.s) ∧ W'.cell? ⟨yb, 3, none⟩ = some (.slice y.A y.len y.c))) := fun W' k => by
    have b0 := HB2.out.keep k (by simp)
    have b1 := HC2.out.keep k (by simp)
    exact ⟨b0.cell 0, b0.cell 1, b0.cell 2, b0.cell 3, b1.cell 0, b1.cell 1, b1.cell 2, b1.cell 3⟩
  refine wp_region_tx (fun W' => W'.cell? ⟨xb, 0, none⟩ = some (.int .i64 x.k) ∧ W'.cell? ⟨xb, 1, none⟩ = some (.int .i64 x.n) ∧ W'.cell? ⟨xb, 2, none⟩ = some (.string x.s) ∧ W'.cell? ⟨xb, 3, none⟩ = some (.slice x.A x.len x.c) ∧ W'.cell? ⟨yb, 0, none⟩ = some (.int .i64 y.k) ∧ W'.cell? ⟨yb, 1, none⟩ = some (.int .i64 y.n) ∧ W'.cell? ⟨yb, 2, none⟩ = some (.string y.s) ∧ W'.cell? ⟨yb, 3, none⟩ = some (.slice y.A y.len y.c)) [(0, false), (1, true), (2, true), (3, true), (4, true), (5, true), (6, true), (7, true), (8, true), (9, true), (10, true), (11, true), (12, true), (13, true), (14, true), (15, true), (17, true), (16, false), (18, false), (19, true), (20, true), (21, true), (22, true), (23, true), (24, true), (26, true), (25, false), (27, true), (28, true), (29, true), (30, true), (31, true), (33, true), (32, false), (34, false), (35, true), (36, true), (37, false)] (by kernel_rfl) (by kernel_rfl) (by exact HP.out _ (Keeps.refl _ []).drew) (fun hHeld => ?_)
  refine wpTx_go rfl (fun K hK => ?_)
  go_simp
  refine (told3_any _ (HSt.out.keep (HK2.out.trans (Keeps.refl _ []).drew))).mono ?_
  rintro e w20 ⟨rfl, k20⟩
  have K20 : Keeps w6 w20 [] := ((Keeps.refl w6 []).drew).trans k20
  refine hK.out _ _ ?_ ?_
  · exact HP.out _ K20
  (clear hHeld; intro hHeld; clear hK K)
  (repeat (first | (refine wpTx_take (v := ?_) rfl (by assumption) ?_ (by rfl) ?_; rotate_left; (focus (intro w' hSw; (try dsimp only at hSw); go_simp; (try with_reducible rfl); done)); simp only [Act.put, List.setIfInBounds_toArray, List.set_cons_zero, List.set_cons_succ]) | (refine wpTx_skip rfl (by assumption) (by rfl) ?_; simp only [Act.put, List.setIfInBounds_toArray, List.set_cons_zero, List.set_cons_succ])))
  refine wpTx_go rfl (fun K hK => ?_)
  go_simp
  refine (HFr.out x _ (HX2.out.keep K20)).mono ?_
  rintro e w21 ⟨u, rfl, hu, k21⟩
  have K21 : Keeps w6 w21 [] := K20.trans k21
  have HU := Lib.hid (hu.mono fun _ _ => trivial : Tr w21 (fun _ => True) t u)
  unfold tvV
  clear hu
  refine hK.out _ _ ?_ ?_
  · exact HP.out _ K21
  (clear hHeld; intro hHeld; clear hK K)
  refine wpTx_go rfl (fun K hK => ?_)
  go_simp
  refine (HSm.out u y _ HU.out (HY2.out.keep K21)).mono ?_
  rintro e w22 ⟨rfl, k22⟩
  have K22 : Keeps w6 w22 [] := K21.trans k22
  refine hK.out _ _ ?_ ?_
  · exact HP.out _ K22
  (clear hHeld; intro hHeld; clear hK K; (try simp only [Act.put, List.setIfInBounds_toArray, List.set_cons_zero, List.set_cons_succ]))
  (repeat (first | (refine wpTx_take (v := ?_) rfl (by assumption) ?_ (by rfl) ?_; rotate_left; (focus (intro w' hSw; (try dsimp only at hSw); go_simp; (try with_reducible rfl); done)); simp only [Act.put, List.setIfInBounds_toArray, List.set_cons_zero, List.set_cons_succ]) | (refine wpTx_skip rfl (by assumption) (by rfl) ?_; simp only [Act.put, List.setIfInBounds_toArray, List.set_cons_zero, List.set_cons_succ])))
  refine wpTx_go rfl (fun K hK => ?_)
  go_simp
  refine (HTx.out x _ (HX2.out.keep K22) (HSt.out.keep (HK2.out.trans K22))).mono ?_
  rintro e w23 ⟨rfl, k23⟩
  have K23 : Keeps w6 w23 [] := K22.trans k23
  refine hK.out _ _ ?_ ?_
  · exact HP.out _ K23
  (clear hHeld; intro hHeld; clear hK K; (try simp only [Act.put, List.setIfInBounds_toArray, List.set_cons_zero, List.set_cons_succ]))
  (repeat (first | (refine wpTx_take (v := ?_) rfl (by assumption) ?_ (by rfl) ?_; rotate_left; (focus (intro w' hSw; (try dsimp only at hSw); go_simp; (try with_reducible rfl); done)); simp only [Act.put, List.setIfInBounds_toArray, List.set_cons_zero, List.set_cons_succ]) | (refine wpTx_skip rfl (by assumption) (by rfl) ?_; simp only [Act.put, List.setIfInBounds_toArray, List.set_cons_zero, List.set_cons_succ])))
  refine wpTx_go rfl (fun K hK => ?_)
  go_simp
  refine (HN.out _).mono ?_
  rintro e w24 ⟨rfl, k24⟩
  have K24 : Keeps w6 w24 [] := K23.trans k24
  refine hK.out _ _ ?_ ?_
  · exact HP.out _ K24
  (clear hHeld; intro hHeld; clear hK K)
  refine wpTx_go rfl (fun K hK => ?_)
  go_simp
  refine (HRN.out _).mono ?_
  rintro e w25 ⟨rfl, rfl⟩
  have K25 : Keeps w6 w24 [] := K24
  refine hK.out _ _ ?_ ?_
  · exact HP.out _ K25
  (clear hHeld; intro hHeld; clear hK K; (try simp only [Act.put, List.setIfInBounds_toArray, List.set_cons_zero, List.set_cons_succ]))
  (repeat (first | (refine wpTx_take (v := ?_) rfl (by assumption) ?_ (by rfl) ?_; rotate_left; (focus (intro w' hSw; (try dsimp only at hSw); go_simp; (try with_reducible rfl); done)); simp only [Act.put, List.setIfInBounds_toArray, List.set_cons_zero, List.set_cons_succ]) | (refine wpTx_skip rfl (by assumption) (by rfl) ?_; simp only [Act.put, List.setIfInBounds_toArray, List.set_cons_zero, List.set_cons_succ])))
  refine wpTx_last rfl (fun K hK => ?_)
  go_simp
  refine hK.out _ _ (NoPanic.normal ?_); clear hK K; (try simp only [Act.put, List.setIfInBounds_toArray, List.set_cons_zero, List.set_cons_succ])
  go_wp2_with fail
  go_ret
  exact ⟨by simp, HK2.out.trans K24⟩

set_option maxRecDepth 100000 in
set_option maxHeartbeats 3200000 in
theorem termParses_none (s : ByteArray) (t : Tm) (w : World) (h : St w) (hs : s.size ≤ 300)
    (HPs : ∀ w, St w → Calls Tryd.prog 13 #[.string s] w fun e w' => ∃ v, e = .returned (.tuple #[tvV v, .int .i64 17]) ∧ Tr w' (fun b => w.heap.size ≤ b) t v ∧ Keeps w w' [])
    (HRs : ∀ w, Calls Tryd.prog 14 #[.string s] w fun e w' => ∃ v, e = .returned (.tuple #[tvV v, .bool false]) ∧ Tr w' (fun b => w.heap.size ≤ b) t v ∧ Keeps w w' [])
    (hsz : tSize t ≤ 1000000) : Calls Tryd.prog 4 #[.string s] w fun e w' => e = .returned (.bool true) ∧ Keeps w w' [] := by
  have d0 : decide (300 < (s.size : Int)) = false := by simp; omega
  have HSt := Lib.hid h
  have HP1 := Lib.hid (HPs w h)
  replace HRs := Lib.hid HRs
  have HFr : Hid (∀ v w, Tr w (fun _ => True) t v → Calls Tryd.prog 12 #[.agg #[.int .i64 v.k, .int .i64 v.n, .string v.s, .slice v.A v.len v.c]] w (TDone [] (fun b => w.heap.size ≤ b) w t)) := fun v w h => tmFrom_any t v w h hsz
  have HSm : Hid (∀ u v w, Tr w (fun _ => True) t u → Tr w (fun _ => True) t v → Calls Tryd.prog 11 #[.agg #[.int .i64 u.k, .int .i64 u.n, .string u.s, .slice u.A u.len u.c], .agg #[.int .i64 v.k, .int .i64 v.n, .string v.s, .slice v.A v.len v.c]] w fun e w' => e = .returned (.bool true) ∧ Keeps w w' []) := fun u v w h1 h2 => by
    have := refSame_any t t u v w h1 h2
    rw [(tSame_iff t t).2 rfl] at this
    exact this
  have HN := Lib.hid (name_any s)
  have HRN := Lib.hid (refName_any s)
  skip
  clear h hs HPs hsz
  generalize nameOk s = nk at *
  go_enter Tryd.func4, Tryd.ntmps4
  go_wp2_with fail
  refine HP1.out.mono ?_
  rintro e w1 ⟨x, rfl, hx, k1⟩
  have HX1 : Hid (Tr (w1.alloc (.cells #[.int .i64 x.k, .int .i64 x.n, .string x.s, .slice x.A x.len x.c] 29)) (fun _ => True) t x) := (hx.mono fun _ _ => trivial).keep ((Keeps.refl w1 []).alloc _)
  have HB1 : Hid (Blk (w1.alloc (.cells #[.int .i64 x.k, .int .i64 x.n, .string x.s, .slice x.A x.len x.c] 29)) w1.heap.size 29 #[.int .i64 x.k, .int .i64 x.n, .string x.s, .slice x.A x.len x.c]) := Blk.new _ _ _
  have HK1 := Lib.hid (k1.alloc (.cells #[.int .i64 x.k, .int .i64 x.n, .string x.s, .slice x.A x.len x.c] 29))
  unfold tvV
  clear hx k1 HP1
  go_wp2_with fail
  refine (HRs.out _).mono ?_
  rintro e w2 ⟨y, rfl, hy, k2⟩
  have K2 := k2.alloc (.cells #[.int .i64 y.k, .int .i64 y.n, .string y.s, .slice y.A y.len y.c] 24)
  have HX2 := Lib.hid (HX1.out.keep K2)
  have HB2 := Lib.hid (HB1.out.keep K2 (by simp))
  have HY2 : Hid (Tr (w2.alloc (.cells #[.int .i64 y.k, .int .i64 y.n, .string y.s, .slice y.A y.len y.c] 24)) (fun _ => True) t y) := (hy.mono fun _ _ => trivial).keep ((Keeps.refl w2 []).alloc _)
  have HC2 : Hid (Blk (w2.alloc (.cells #[.int .i64 y.k, .int .i64 y.n, .string y.s, .slice y.A y.len y.c] 24)) w2.heap.size 24 #[.int .i64 y.k, .int .i64 y.n, .string y.s, .slice y.A y.len y.c]) := Blk.new _ _ _
  have HK2 := Lib.hid (HK1.out.trans K2)
  unfold tvV
  clear hy k2 K2 HX1 HB1 HK1
  go_upto_region 5 with fail
  generalize w2.heap.size = yb at *
  generalize w2.alloc (.cells #[.int .i64 y.k, .int .i64 y.n, .string y.s, .slice y.A y.len y.c] 24) = w6 at *
  generalize w1.heap.size = xb at *
  have HP : Hid (∀ W', Keeps w6 W' [] → (W'.cell? ⟨xb, 0, none⟩ = some (.int .i64 x.k) ∧ W'.cell? ⟨xb, 1, none⟩ = some (.int .i64 x.n) ∧ W'.cell? ⟨xb, 2, none⟩ = some (.string x.s) ∧ W'.cell? ⟨xb, 3, none⟩ = some (.slice x.A x.len x.c) ∧ W'.cell? ⟨yb, 0, none⟩ = some (.int .i64 y.k) ∧ W'.cell? ⟨yb, 1, none⟩ = some (.int .i64 y.n) ∧ W'.cell? ⟨yb, 2, none⟩ = some (.string y.s) ∧ W'.cell? ⟨yb, 3, none⟩ = some (.slice y.A y.len y.c))) := fun W' k => by
    have b0 := HB2.out.keep k (by simp)
    have b1 := HC2.out.keep k (by simp)
    exact ⟨b0.cell 0, b0.cell 1, b0.cell 2, b0.cell 3, b1.cell 0, b1.cell 1, b1.cell 2, b1.cell 3⟩
  refine wp_region_tx (fun W' => W'.cell? ⟨xb, 0, none⟩ = some (.int .i64 x.k) ∧ W'.cell? ⟨xb, 1, none⟩ = some (.int .i64 x.n) ∧ W'.cell? ⟨xb, 2, none⟩ = some (.string x.s) ∧ W'.cell? ⟨xb, 3, none⟩ = some (.slice x.A x.len x.c) ∧ W'.cell? ⟨yb, 0, none⟩ = some (.int .i64 y.k) ∧ W'.cell? ⟨yb, 1, none⟩ = some (.int .i64 y.n) ∧ W'.cell? ⟨yb, 2, none⟩ = some (.string y.s) ∧ W'.cell? ⟨yb, 3, none⟩ = some (.slice y.A y.len y.c)) [(0, false), (1, true), (2, true), (3, true), (4, true), (5, true), (6, true), (7, true), (8, true), (9, true), (10, true), (11, true), (12, true), (13, true), (14, true), (15, true), (17, true), (16, false), (18, false), (19, true), (20, true), (21, true), (22, true), (23, true), (24, true), (25, true), (26, true), (27, true), (28, true), (29, true), (30, true), (31, true), (33, true), (32, false), (34, false), (35, true), (36, true), (37, false)] (by kernel_rfl) (by kernel_rfl) (by exact HP.out _ (Keeps.refl _ []).drew) (fun hHeld => ?_)
  refine wpTx_go rfl (fun K hK => ?_)
  go_simp
  refine (told3_any _ (HSt.out.keep (HK2.out.trans (Keeps.refl _ []).drew))).mono ?_
  rintro e w20 ⟨rfl, k20⟩
  have K20 : Keeps w6 w20 [] := ((Keeps.refl w6 []).drew).trans k20
  refine hK.out _ _ ?_ ?_
  · exact HP.out _ K20
  (clear hHeld; intro hHeld; clear hK K)
  (repeat (first | (refine wpTx_take (v := ?_) rfl (by assumption) ?_ (by rfl) ?_; rotate_left; (focus (intro w' hSw; (try dsimp only at hSw); go_simp; (try with_reducible rfl); done)); simp only [Act.put, List.setIfInBounds_toArray, List.set_cons_zero, List.set_cons_succ]) | (refine wpTx_skip rfl (by assumption) (by rfl) ?_; simp only [Act.put, List.setIfInBounds_toArray, List.set_cons_zero, List.set_cons_succ])))
  refine wpTx_go rfl (fun K hK => ?_)
  go_simp
  refine (HFr.out x _ (HX2.out.keep K20)).mono ?_
  rintro e w21 ⟨u, rfl, hu, k21⟩
  have K21 : Keeps w6 w21 [] := K20.trans k21
  have HU := Lib.hid (hu.mono fun _ _ => trivial : Tr w21 (fun _ => True) t u)
  unfold tvV
  clear hu
  refine hK.out _ _ ?_ ?_
  · exact HP.out _ K21
  (clear hHeld; intro hHeld; clear hK K)
  refine wpTx_go rfl (fun K hK => ?_)
  go_simp
  refine (HSm.out u y _ HU.out (HY2.out.keep K21)).mono ?_
  rintro e w22 ⟨rfl, k22⟩
  have K22 : Keeps w6 w22 [] := K21.trans k22
  refine hK.out _ _ ?_ ?_
  · exact HP.out _ K22
  (clear hHeld; intro hHeld; clear hK K; (try simp only [Act.put, List.setIfInBounds_toArray, List.set_cons_zero, List.set_cons_succ]))
  (repeat (first | (refine wpTx_take (v := ?_) rfl (by assumption) ?_ (by rfl) ?_; rotate_left; (focus (intro w' hSw; (try dsimp only at hSw); go_simp; (try with_reducible rfl); done)); simp only [Act.put, List.setIfInBounds_toArray, List.set_cons_zero, List.set_cons_succ]) | (refine wpTx_skip rfl (by assumption) (by rfl) ?_; simp only [Act.put, List.setIfInBounds_toArray, List.set_cons_zero, List.set_cons_succ])))
  refine wpTx_go rfl (fun K hK => ?_)
  go_simp
  refine (HN.out _).mono ?_
  rintro e w24 ⟨rfl, k24⟩
  have K24 : Keeps w6 w24 [] := K22.trans k24
  refine hK.out _ _ ?_ ?_
  · exact HP.out _ K24
  (clear hHeld; intro hHeld; clear hK K)
  refine wpTx_go rfl (fun K hK => ?_)
  go_simp
  refine (HRN.out _).mono ?_
  rintro e w25 ⟨rfl, rfl⟩
  have K25 : Keeps w6 w24 [] := K24
  refine hK.out _ _ ?_ ?_
  · exact HP.out _ K25
  (clear hHeld; intro hHeld; clear hK K; (try simp only [Act.put, List.setIfInBounds_toArray, List.set_cons_zero, List.set_cons_succ]))
  (repeat (first | (refine wpTx_take (v := ?_) rfl (by assumption) ?_ (by rfl) ?_; rotate_left; (focus (intro w' hSw; (try dsimp only at hSw); go_simp; (try with_reducible rfl); done)); simp only [Act.put, List.setIfInBounds_toArray, List.set_cons_zero, List.set_cons_succ]) | (refine wpTx_skip rfl (by assumption) (by rfl) ?_; simp only [Act.put, List.setIfInBounds_toArray, List.set_cons_zero, List.set_cons_succ])))
  refine wpTx_last rfl (fun K hK => ?_)
  go_simp
  refine hK.out _ _ (NoPanic.normal ?_); clear hK K; (try simp only [Act.put, List.setIfInBounds_toArray, List.set_cons_zero, List.set_cons_succ])
  go_wp2_with fail
  go_ret
  exact ⟨by simp, HK2.out.trans K24⟩

theorem termParses_any (s : ByteArray) (w : World) (h : St w) : Calls Tryd.prog 4 #[.string s] w fun e w' => e = .returned (.bool true) ∧ Keeps w w' [] := by
  by_cases hs : 300 < s.size
  · exact termParses_long s w h hs
  have hsl : s.data.toList.length = s.size := rfl
  have hP := fun w hw => parse_any s w hw
  have hR := fun w => refParse_any s w
  rw [← parseD_same] at hR
  cases ho : parseP s.data.toList with
  | none =>
    rw [ho] at hP hR
    exact termParses_none s tZero w h (by omega) hP hR (by decide)
  | some t =>
    rw [ho] at hP hR
    have hp : parseTm numP s.data.toList = some t := by
      unfold parseP at ho
      rw [if_neg (by omega)] at ho
      exact ho
    obtain ⟨hr, ht⟩ := parse_snd numP_ok hp
    have hsz := size_text t hr
    rw [ht] at hsz
    refine termParses_some s t w h (by omega) hP hR (fun v w hv hw => ?_) (by omega)
    have := text_any t v w hv hr (by omega) hw.tab
    rw [ht, stB_of] at this
    exact this
end Go.Proofs.YtjbomjnkjcafcaaDoor
