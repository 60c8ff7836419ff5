/- The document's Check. -/
import Derived.Test.YtpcihhdalofdiaaGreatDoorObjTab
namespace Go.Proofs.YtpcihhdalofdiaaGreatDoor
open Go.RowKit

theorem bigB_or (a f p c : Int) : bigB a f p c = (decide (256 < a) || (decide (256 < f) || (decide (64 < p) || decide (1024 < c)))) := by
  rw [bigB]
  by_cases h : a < f
  · rw [if_pos h, Bool.eq_iff_iff]
    simp only [Bool.or_eq_true, decide_eq_true_eq]
    omega
  · rw [if_neg h, Bool.eq_iff_iff]
    simp only [Bool.or_eq_true, decide_eq_true_eq]
    omega
set_option maxHeartbeats 400000 in
theorem refBig_any (a f p c : Nat) (w : World) : Calls Tryz.prog 67 #[.int .i64 a, .int .i64 f, .int .i64 p, .int .i64 c] w fun e w' => e = .returned (.bool (bigB a f p c)) ∧ w = w' := by
  have HI := Lib.hid (bigB_or a f p c)
  cases d0 : decide (256 < (a : Int)) <;> cases d1 : decide (256 < (f : Int)) <;> cases d2 : decide (64 < (p : Int)) <;> cases d3 : decide (1024 < (c : Int)) <;>
  (rw [d0, d1, d2, d3] at HI
   go_enter Tryz.func67, Tryz.ntmps67
   go_wp2_with fail
   go_ret
   exact ⟨by rw [HI.out]; rfl, rfl⟩)

set_option maxRecDepth 100000 in
set_option maxHeartbeats 1600000 in
theorem refHas_any (o : LObj) (kind : Nat) (n : Int) (Aa Af Ap Ac : Option Addr) (na nf np nc ca cf cp cc : Nat) (w : World) (la : o.atoms.length = na) (lf : o.funs.length = nf) (lp : o.preds.length = np) (lc : o.code.length = nc) :
    Calls Tryz.prog 70 #[.agg #[.slice Aa na ca, .slice Af nf cf, .slice Ap np cp, .slice Ac nc cc], .int .i64 kind, .int .i64 n] w (Told (hasB o kind n) w) := by
  subst la lf lp lc
  have HI : Hid (hasB o kind n = if kind = 3 then decide (n < o.atoms.length) else if kind = 4 then decide (n < o.funs.length) else if kind = 7 then decide (n < o.preds.length) else if kind = 8 then decide (n < o.code.length) || n == 65535 else true) := rfl
  by_cases h3 : kind = 3
  · have e3 : ((kind : Int) == 3) = true := by simp; omega
    have HJ : Hid (hasB o kind n = decide (n < o.atoms.length)) := HI.out.trans (if_pos h3)
    clear h3 HI
    go_enter Tryz.func70, Tryz.ntmps70
    go_wp2_with fail
    go_ret
    exact ⟨by rw [HJ.out]; rfl, (Keeps.refl _ []).alloc _⟩
  · have e3 : ((kind : Int) == 3) = false := by simp; omega
    by_cases h4 : kind = 4
    · have e4 : ((kind : Int) == 4) = true := by simp; omega
      have HJ : Hid (hasB o kind n = decide (n < o.funs.length)) := HI.out.trans (by rw [if_neg h3, if_pos h4])
      clear h3 h4 HI
      go_enter Tryz.func70, Tryz.ntmps70
      go_wp2_with fail
      go_ret
      exact ⟨by rw [HJ.out]; rfl, (Keeps.refl _ []).alloc _⟩
    · have e4 : ((kind : Int) == 4) = false := by simp; omega
      by_cases h7 : kind = 7
      · have e7 : ((kind : Int) == 7) = true := by simp; omega
        have HJ : Hid (hasB o kind n = decide (n < o.preds.length)) := HI.out.trans (by rw [if_neg h3, if_neg h4, if_pos h7])
        clear h3 h4 h7 HI
        go_enter Tryz.func70, Tryz.ntmps70
        go_wp2_with fail
        go_ret
        exact ⟨by rw [HJ.out]; rfl, (Keeps.refl _ []).alloc _⟩
      · have e7 : ((kind : Int) == 7) = false := by simp; omega
        by_cases h8 : kind = 8
        · have e8 : ((kind : Int) == 8) = true := by simp; omega
          have HJ : Hid (hasB o kind n = (decide (n < o.code.length) || n == 65535)) := HI.out.trans (by rw [if_neg h3, if_neg h4, if_neg h7, if_pos h8])
          clear h3 h4 h7 h8 HI
          cases d1 : decide (n < o.code.length) <;> cases d2 : n == 65535 <;>
          (rw [d1, d2] at HJ
           go_enter Tryz.func70, Tryz.ntmps70
           go_wp2_with fail
           go_ret
           exact ⟨by rw [HJ.out]; rfl, (Keeps.refl _ []).alloc _⟩)
        · have e8 : ((kind : Int) == 8) = false := by simp; omega
          have HJ : Hid (hasB o kind n = true) := HI.out.trans (by rw [if_neg h3, if_neg h4, if_neg h7, if_neg h8])
          clear h3 h4 h7 h8 HI
          go_enter Tryz.func70, Tryz.ntmps70
          go_wp2_with fail
          go_ret
          exact ⟨by rw [HJ.out]; rfl, (Keeps.refl _ []).alloc _⟩

theorem check_tab {o : LObj} (h : bigO o = false) (h2 : tabE o ≠ 0) : checkE o = tabE o := by
  rw [checkE, if_neg (by rw [h]; simp)]
  revert h2
  rw [tabE]
  by_cases h3 : namedB o = false
  · rw [if_pos h3, if_pos h3]; exact fun _ => rfl
  · rw [if_neg h3, if_neg h3]
    by_cases h4 : dupO o = true
    · rw [if_pos h4, if_pos h4]; exact fun _ => rfl
    · rw [if_neg h4, if_neg h4]
      by_cases h5 : entriesB o = false
      · rw [if_pos h5, if_pos h5]; exact fun _ => rfl
      · rw [if_neg h5]; intro h; exact absurd rfl h
theorem check_tab0 {o : LObj} (h : bigO o = false) (h2 : tabE o = 0) : checkE o = codeErr o o.code := by
  revert h2
  rw [tabE]
  by_cases h3 : namedB o = false
  · rw [if_pos h3]; intro h; cases h
  · rw [if_neg h3]
    by_cases h4 : dupO o = true
    · rw [if_pos h4]; intro h; cases h
    · rw [if_neg h4]
      by_cases h5 : entriesB o = false
      · rw [if_pos h5]; intro h; cases h
      · intro _; exact checkE_code h (by simpa using h3) (by simpa using h4) (by simpa using h5)

set_option maxRecDepth 100000 in
set_option maxHeartbeats 6400000 in
theorem refCheck_any (o : LObj) : ObjCalls 38 o (ErrTold (checkE o)) := by
  intro Aa Af Ap Ac na nf np nc ca cf cp cc w h hf la lf lp lc
  have HF := Lib.hid hf
  have H := Lib.hid h
  have gc := hf.code
  rw [lc] at gc
  have La := Lib.hid la
  have Lf := Lib.hid lf
  have Lp := Lib.hid lp
  have Lc := Lib.hid lc
  have hbig := refBig_any na nf np nc
  have HB : Hid (bigO o = bigB na nf np nc) := by show _ = _; rw [bigO, la, lf, lp, lc]
  clear h hf la lf lp lc
  have st : BoxSt w (w.alloc (.cells #[.slice Aa na ca, .slice Af nf cf, .slice Ap np cp, .slice Ac nc cc] 39)) w.heap.size 39 #[.slice Aa na ca, .slice Af nf cf, .slice Ap np cp, .slice Ac nc cc] := ⟨Blk.new _ _ _, (Keeps.refl _ []).alloc _⟩
  have HST := Lib.hid st
  clear st
  cases hb : bigB na nf np nc
  case true =>
    rw [hb] at hbig HB
    have HBG := Lib.hid hbig
    clear hbig
    have HI := Lib.hid (checkE_big HB.out)
    go_enter Tryz.func38, Tryz.ntmps38
    go_wp2_with (go_at_call 67; refine (HBG.out _).mono ?_; rintro e w2 ⟨rfl, rfl⟩)
    go_ret
    exact ⟨by rw [HI.out]; rfl, HST.out.keep⟩
  rw [hb] at hbig HB
  have HBG := Lib.hid hbig
  clear hbig
  go_enter Tryz.func38, Tryz.ntmps38
  go_wp2_with (go_at_call 67; refine (HBG.out _).mono ?_; rintro e w2 ⟨rfl, rfl⟩)
  have ht := tables_any o _ _ _ _ _ _ _ _ ca cf cp cc _ (H.out.keep HST.out.keep) HF.out La.out Lf.out Lp.out Lc.out
  by_cases h0 : tabE o = 0
  case neg =>
    have HI := Lib.hid (check_tab HB.out h0)
    obtain ⟨z, hz⟩ : ∃ z, tabE o = z := ⟨_, rfl⟩
    rw [hz] at h0 HI ht
    have d0 : (z != 0) = true := by simpa using h0
    have HT := Lib.hid ht
    clear h0 hz ht
    refine HT.out.mono ?_
    rintro e w3 ⟨rfl, k3⟩
    go_wp2_with fail
    go_ret
    exact ⟨by rw [HI.out]; rfl, HST.out.keep.trans k3⟩
  have HI := Lib.hid (check_tab0 HB.out h0)
  rw [h0] at ht
  have HT := Lib.hid ht
  clear h0 ht
  refine HT.out.mono ?_
  rintro e w3 ⟨rfl, k3⟩
  have S3 := Lib.hid (HST.out.go k3)
  clear k3
  go_wp2_with fail
  go_loopw [4, 6, 7] (fun v v6 v7 wr => ∃ k : Nat, k ≤ nc ∧ v = .int .i64 k ∧ Hid (codeErr o o.code = codeErr o (o.code.drop k)) ∧ BoxSt w wr w.heap.size 39 #[.slice Aa na ca, .slice Af nf cf, .slice Ap np cp, .slice Ac nc cc]) (fun v _ _ _ => nc - (intOf v).toNat)
  case atStart => exact ⟨0, Nat.zero_le _, rfl, rfl, S3.out⟩
  case round =>
    obtain ⟨wo, rfl⟩ : ∃ wo : World, wo = wr := ⟨_, rfl⟩
    obtain ⟨k, hk, rfl, HE, st⟩ := hrel
    have HS := Lib.hid st
    have p3 := st.blk.cell 3
    clear st
    by_cases hlt : k < nc
    · obtain ⟨x, hx⟩ := at_of Lc.out hlt
      obtain ⟨b, off, hA, hb, hc⟩ := (H.out.code).field insE_len hx (by omega)
      subst hA
      have HX := Lib.hid hx
      have q0 : wo.cell? ⟨b, off + k * 5, none⟩ = some _ := (HS.out.keep.cell0 hb).trans (hc 0 _ rfl)
      have q1 : wo.cell? ⟨b, off + k * 5 + 1, none⟩ = some _ := (HS.out.keep.cell0 hb).trans (hc 1 _ rfl)
      have q2 : wo.cell? ⟨b, off + k * 5 + 2, none⟩ = some _ := (HS.out.keep.cell0 hb).trans (hc 2 _ rfl)
      have q3 : wo.cell? ⟨b, off + k * 5 + 3, none⟩ = some _ := (HS.out.keep.cell0 hb).trans (hc 3 _ rfl)
      have q4 : wo.cell? ⟨b, off + k * 5 + 4, none⟩ = some _ := (HS.out.keep.cell0 hb).trans (hc 4 _ rfl)
      have b0 : (0 : Int) ≤ (k : Int) := Int.natCast_nonneg _
      have b1 : (k : Int) < (nc : Int) := by omega
      have SA := Lib.hid (HS.out.go ((Keeps.refl wo []).alloc (.cells #[.int .i64 x.op, .int .i64 x.a0, .int .i64 x.a1, .int .i64 x.a2, .int .i64 x.a3] 72)))
      clear hx hc
      cases h0 : opIn x.op with
      | false =>
        have HI2 := Lib.hid (HI.out.trans ((codeErr_stop HX.out HE.out (by rw [insErr_op h0]; simp)).trans (insErr_op h0)))
        by_cases hlo : x.op < 0
        · have d1 : decide (x.op < 0) = true := by simpa using hlo
          clear h0 hlo
          go_wp2_with fail
          go_ret
          exact ⟨by rw [HI2.out]; rfl, SA.out.keep⟩
        · have d1 : decide (x.op < 0) = false := by simpa using hlo
          have d2 : decide (26 < x.op) = true := by
            simp only [opIn, Bool.and_eq_false_iff, decide_eq_false_iff_not] at h0
            simp only [decide_eq_true_eq]
            omega
          clear h0 hlo
          go_wp2_with fail
          go_ret
          exact ⟨by rw [HI2.out]; rfl, SA.out.keep⟩
      | true =>
        have d1 : decide (x.op < 0) = false := by
          simp only [opIn, Bool.and_eq_true, decide_eq_true_eq] at h0
          simp only [decide_eq_false_iff_not]
          omega
        have d2 : decide (26 < x.op) = false := by
          simp only [opIn, Bool.and_eq_true, decide_eq_true_eq] at h0
          simp only [decide_eq_false_iff_not]
          omega
        have H0 := Lib.hid h0
        clear h0
        have hr := refRight6_any x
        unfold insV at hr
        cases h1 : insOk x with
        | false =>
          have HI2 := Lib.hid (HI.out.trans ((codeErr_stop HX.out HE.out (by rw [insErr_bad H0.out h1]; simp)).trans (insErr_bad H0.out h1)))
          rw [h1] at hr
          have HR := Lib.hid hr
          clear hr h1
          go_wp2_with (go_at_call 69; refine (HR.out _).mono ?_; rintro e w4 ⟨rfl, k4⟩)
          go_ret
          exact ⟨by rw [HI2.out]; rfl, SA.out.keep.trans k4⟩
        | true =>
        have H1 := Lib.hid h1
        rw [h1] at hr
        have HR := Lib.hid hr
        clear hr h1
        go_wp2_with (go_at_call 69; refine (HR.out _).mono ?_; rintro e w4 ⟨rfl, k4⟩; have S4 := Lib.hid (SA.out.go k4); have b4 := Lib.hid ((Blk.new wo 72 #[.int .i64 x.op, .int .i64 x.a0, .int .i64 x.a1, .int .i64 x.a2, .int .i64 x.a3]).keep k4 (by simp)); have c0 := b4.out.cell 0; clear k4)
        refine (refKinds_any x.op _).mono ?_
        rintro e w5 ⟨A, c, rfl, hN, k5⟩
        have S5 := Lib.hid (S4.out.go k5)
        have b5 := Lib.hid (b4.out.keep k5 (by simp))
        have HN := Lib.hid hN
        have hfew := kinds_few x.op
        clear c0 k5 hN
        obtain ⟨m, hm⟩ : ∃ m, (kindsOf x.op).length = m := ⟨_, rfl⟩
        rw [hm] at hfew ⊢
        have HM := Lib.hid hm
        clear hm
        go_wp2_with fail
        go_loopw [7] (fun v wr => ∃ j : Nat, j ≤ m ∧ v = .int .i64 j ∧ Hid (∀ i, i < j → argHas o x i = true) ∧ Keeps w5 wr []) (fun v _ => m - (intOf v).toNat)
        case atStart => exact ⟨0, by omega, rfl, fun j hj => absurd hj (by omega), Keeps.refl _ _⟩
        case round =>
        obtain ⟨j, hj, rfl, HA, kr⟩ := hrel
        have HR2 := Lib.hid kr
        clear kr q0 q1 q2 q3 q4 p3
        by_cases hlj : j < m
        · obtain ⟨b7, off7, y, rfl, hb7, hc7, hy⟩ := HN.out j (by rw [HM.out]; exact hlj)
          have hx1 := kinds_mem x.op y (List.mem_of_getElem? hy)
          obtain ⟨q, rfl⟩ := Int.eq_ofNat_of_zero_le (show 0 ≤ y by omega)
          have q1 := (HR2.out.cell0 hb7).trans hc7
          have HArg : Hid (argHas o x j = hasB o q (x.arg j)) := by show _ = _; rw [argHas, List.getD_eq_getElem?_getD, hy]; rfl
          clear hy hc7
          have q2 := ins_cell (b5.out.keep HR2.out (by simp)) j (by omega)
          obtain ⟨p0, p1, p2, p3⟩ := (S5.out.go HR2.out).four
          have b6 : (0 : Int) ≤ (j : Int) := Int.natCast_nonneg _
          have b7' : (j : Int) < 4 := by omega
          have b8 : (j : Int) < (m : Int) := by omega
          have hsz : wo.heap.size < wr.heap.size := Nat.lt_of_lt_of_le b5.out.lt HR2.out.size
          have hsz0 : w.heap.size < wr.heap.size := Nat.lt_of_lt_of_le S5.out.blk.lt HR2.out.size
          have hsz7 : b7 < wr.heap.size := Nat.lt_of_lt_of_le hb7 HR2.out.size
          have hcall := fun w => refHas_any o q (x.arg j) Aa Af Ap (some ⟨b, off, none⟩) na nf np nc ca cf cp cc w La.out Lf.out Lp.out Lc.out
          cases hv : hasB o q (x.arg j)
          all_goals
            rw [hv] at hcall HArg
            have HC := Lib.hid hcall
            clear hcall
            go_wp2_with fail
            refine wp_region_tx (fun W' => W'.cell? ⟨w.heap.size, 0, none⟩ = some (.slice Aa na ca) ∧ W'.cell? ⟨w.heap.size, 1, none⟩ = some (.slice Af nf cf) ∧ W'.cell? ⟨w.heap.size, 2, none⟩ = some (.slice Ap np cp) ∧ W'.cell? ⟨w.heap.size, 3, none⟩ = some (.slice (some ⟨b, off, none⟩) nc cc) ∧ W'.cell? ⟨wo.heap.size, 1 + j, none⟩ = some (.int .i64 (x.arg j)) ∧ W'.cell? ⟨b7, off7 + j, none⟩ = some (.int .i64 q)) [(0, true), (1, true), (2, true), (3, true), (4, true), (5, true), (6, true), (7, true), (8, true), (9, false), (10, false)] (by kernel_rfl) (by kernel_rfl) (by exact ⟨p0, p1, p2, p3, q2, q1⟩) (fun hHeld => ?_)
            (repeat (first | (refine wpTx_take (v := ?_) rfl (by assumption) ?_ (by rfl) ?_; rotate_left; (focus (intro w' hSw; (try dsimp only at hSw); go_simp; (try with_reducible rfl); done)); simp only [Act.put, List.setIfInBounds_toArray, List.set_cons_zero, List.set_cons_succ]) | (refine wpTx_skip rfl (by assumption) (by rfl) ?_; simp only [Act.put, List.setIfInBounds_toArray, List.set_cons_zero, List.set_cons_succ])))
            refine wpTx_go rfl (fun K hK => ?_)
            go_simp
            refine (HC.out _).mono ?_
            rintro e w6 ⟨rfl, k6⟩
            refine hK.out _ _ ?_ ?_
            · have k7 := ((Keeps.refl _ []).drew.trans k6)
              exact ⟨(k7.cell0 hsz0).trans p0, (k7.cell0 hsz0).trans p1, (k7.cell0 hsz0).trans p2, (k7.cell0 hsz0).trans p3, (k7.cell0 hsz).trans q2, (k7.cell0 hsz7).trans q1⟩
            (clear hHeld; intro hHeld; clear hK K; (try simp only [Act.put, List.setIfInBounds_toArray, List.set_cons_zero, List.set_cons_succ]))
            (repeat (first | (refine wpTx_take (v := ?_) rfl (by assumption) ?_ (by rfl) ?_; rotate_left; (focus (intro w' hSw; (try dsimp only at hSw); go_simp; (try with_reducible rfl); done)); simp only [Act.put, List.setIfInBounds_toArray, List.set_cons_zero, List.set_cons_succ]) | (refine wpTx_skip rfl (by assumption) (by rfl) ?_; simp only [Act.put, List.setIfInBounds_toArray, List.set_cons_zero, List.set_cons_succ])))
            refine wpTx_last rfl (fun K hK => ?_)
            go_simp
            refine hK.out _ _ (NoPanic.normal ?_); clear hK K; (try simp only [Act.put, List.setIfInBounds_toArray, List.set_cons_zero, List.set_cons_succ])
          · have HI2 := Lib.hid (HI.out.trans ((codeErr_stop HX.out HE.out (by rw [insErr_no H0.out H1.out (by rw [HM.out]; exact hlj) HArg.out]; simp)).trans (insErr_no H0.out H1.out (by rw [HM.out]; exact hlj) HArg.out)))
            go_wp2_with fail
            go_ret
            exact ⟨by rw [HI2.out]; rfl, (S5.out.go HR2.out).keep.trans ((Keeps.refl _ []).drew.trans k6)⟩
          · have HA2 := Lib.hid (all4_step HA.out HArg.out)
            go_wp2_with fail
            go_roundw
            case rel => exact ⟨j + 1, by omega, by go_num, HA2.out, HR2.out.trans ((Keeps.refl _ []).drew.trans k6)⟩
            case measure => simp [intOf]; omega
        · obtain rfl : m = j := by omega
          have HE2 := Lib.hid (codeErr_step HX.out HE.out (insErr_ok H0.out H1.out (by rw [HM.out]; exact HA.out)))
          go_wp2_with fail
          go_roundw
          case rel => exact ⟨k + 1, by omega, by go_num, HE2.out, S5.out.go HR2.out⟩
          case measure => simp [intOf]; omega
    · obtain rfl : nc = k := by omega
      have HI2 := Lib.hid (HI.out.trans (codeErr_end Lc.out HE.out))
      go_wp2_with fail
      go_ret
      exact ⟨by rw [HI2.out]; rfl, HS.out.keep⟩
end Go.Proofs.YtpcihhdalofdiaaGreatDoor
