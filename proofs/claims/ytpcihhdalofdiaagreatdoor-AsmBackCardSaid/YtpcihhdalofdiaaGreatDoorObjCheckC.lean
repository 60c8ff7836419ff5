/- The program's look at an object: instructions; Check. -/
import Derived.Test.YtpcihhdalofdiaaGreatDoorObjCheckB
namespace Go.Proofs.YtpcihhdalofdiaaGreatDoor
open Go.RowKit

set_option maxRecDepth 100000 in
set_option maxHeartbeats 1600000 in
theorem has_any (o : LObj) (kind : Nat) (n : Int) (Aa Af Ap Ac : Option Addr) (na nf np nc ca cf cp cc : Nat) (w : World) (la : o.atoms.length = na) (lf : o.funs.length = nf) (lp : o.preds.length = np) (lc : o.code.length = nc) :
    Calls Tryz.prog 63 #[.agg #[.slice Aa na ca, .slice Af nf cf, .slice Ap np cp, .slice Ac nc cc], .int .i64 kind, .int .i64 n] w (Told (hasB o kind n) w) := by
  subst la lf lp lc
  have HI : Hid (hasB o kind n = if kind = 3 then decide (n < o.atoms.length) else if kind = 4 then decide (n < o.funs.length) else if kind = 7 then decide (n < o.preds.length) else if kind = 8 then decide (n < o.code.length) || n == 65535 else true) := rfl
  by_cases h3 : kind = 3
  · have e3 : ((kind : Int) == 3) = true := by simp; omega
    have HJ : Hid (hasB o kind n = decide (n < o.atoms.length)) := HI.out.trans (if_pos h3)
    clear h3 HI
    go_enter Tryz.func63, Tryz.ntmps63
    go_wp2_with fail
    go_ret
    exact ⟨by rw [HJ.out]; rfl, (Keeps.refl _ []).alloc _⟩
  · have e3 : ((kind : Int) == 3) = false := by simp; omega
    by_cases h4 : kind = 4
    · have e4 : ((kind : Int) == 4) = true := by simp; omega
      have HJ : Hid (hasB o kind n = decide (n < o.funs.length)) := HI.out.trans (by rw [if_neg h3, if_pos h4])
      clear h3 h4 HI
      go_enter Tryz.func63, Tryz.ntmps63
      go_wp2_with fail
      go_ret
      exact ⟨by rw [HJ.out]; rfl, (Keeps.refl _ []).alloc _⟩
    · have e4 : ((kind : Int) == 4) = false := by simp; omega
      by_cases h7 : kind = 7
      · have e7 : ((kind : Int) == 7) = true := by simp; omega
        have HJ : Hid (hasB o kind n = decide (n < o.preds.length)) := HI.out.trans (by rw [if_neg h3, if_neg h4, if_pos h7])
        clear h3 h4 h7 HI
        go_enter Tryz.func63, Tryz.ntmps63
        go_wp2_with fail
        go_ret
        exact ⟨by rw [HJ.out]; rfl, (Keeps.refl _ []).alloc _⟩
      · have e7 : ((kind : Int) == 7) = false := by simp; omega
        by_cases h8 : kind = 8
        · have e8 : ((kind : Int) == 8) = true := by simp; omega
          have HJ : Hid (hasB o kind n = (decide (n < o.code.length) || n == 65535)) := HI.out.trans (by rw [if_neg h3, if_neg h4, if_neg h7, if_pos h8])
          clear h3 h4 h7 h8 HI
          cases d1 : decide (n < o.code.length) <;> cases d2 : n == 65535 <;>
          (rw [d1, d2] at HJ
           go_enter Tryz.func63, Tryz.ntmps63
           go_wp2_with fail
           go_ret
           exact ⟨by rw [HJ.out]; rfl, (Keeps.refl _ []).alloc _⟩)
        · have e8 : ((kind : Int) == 8) = false := by simp; omega
          have HJ : Hid (hasB o kind n = true) := HI.out.trans (by rw [if_neg h3, if_neg h4, if_neg h7, if_neg h8])
          clear h3 h4 h7 h8 HI
          go_enter Tryz.func63, Tryz.ntmps63
          go_wp2_with fail
          go_ret
          exact ⟨by rw [HJ.out]; rfl, (Keeps.refl _ []).alloc _⟩

theorem insErr_op {o : LObj} {i : LIns} (h : opIn i.op = false) : insErr o i = 8 := by rw [insErr, if_pos h]
theorem insErr_bad {o : LObj} {i : LIns} (h : opIn i.op = true) (h2 : insOk i = false) : insErr o i = 9 := by rw [insErr, if_neg (by rw [h]; simp), if_pos h2]
theorem insErr_no {o : LObj} {i : LIns} (h : opIn i.op = true) (h2 : insOk i = true) {k : Nat} (hk : k < (kindsOf i.op).length) (h3 : argHas o i k = false) : insErr o i = 9 := by
  rw [insErr, if_neg (by rw [h]; simp), if_neg (by rw [h2]; simp), if_neg]
  rw [Bool.not_eq_true, List.all_eq_false]
  exact ⟨k, List.mem_range.2 hk, by rw [h3]; simp⟩
theorem insErr_ok {o : LObj} {i : LIns} (h : opIn i.op = true) (h2 : insOk i = true) (h3 : ∀ k, k < (kindsOf i.op).length → argHas o i k = true) : insErr o i = 0 := by
  rw [insErr, if_neg (by rw [h]; simp), if_neg (by rw [h2]; simp), if_pos]
  rw [List.all_eq_true]
  exact fun k hk => h3 k (List.mem_range.1 hk)
def ErrTold (x : Int) (w : World) (e : Ending) (w' : World) : Prop := e = .returned (.int .i64 x) ∧ Keeps w w' []

set_option maxRecDepth 100000 in
set_option maxHeartbeats 1600000 in
theorem instr_any (o : LObj) (i : LIns) (Aa Af Ap Ac : Option Addr) (na nf np nc ca cf cp cc : Nat) (w : World) (la : o.atoms.length = na) (lf : o.funs.length = nf) (lp : o.preds.length = np) (lc : o.code.length = nc) :
    Calls Tryz.prog 30 #[.agg #[.slice Aa na ca, .slice Af nf cf, .slice Ap np cp, .slice Ac nc cc], insV i] w (ErrTold (insErr o i) w) := by
  unfold insV
  have HH := Lib.hid (fun kind n w => has_any o kind n Aa Af Ap Ac na nf np nc ca cf cp cc w la lf lp lc)
  clear la lf lp lc
  have k0 : Keeps w ((w.alloc (.cells #[.slice Aa na ca, .slice Af nf cf, .slice Ap np cp, .slice Ac nc cc] 31)).alloc (.cells #[.int .i64 i.op, .int .i64 i.a0, .int .i64 i.a1, .int .i64 i.a2, .int .i64 i.a3] 79)) [] := ((Keeps.refl _ []).alloc _).alloc _
  have HK0 := Lib.hid k0
  clear k0
  cases h0 : opIn i.op with
  | false =>
    have hne := nameOf_out h0
    have HI := Lib.hid (insErr_op (o := o) h0)
    go_enter Tryz.func30, Tryz.ntmps30
    go_wp2_with (go_at_call 60; refine (name6_any i.op _).mono ?_; rintro e w1 ⟨rfl, k1⟩)
    go_ret
    exact ⟨by rw [HI.out]; rfl, HK0.out.trans k1⟩
  | true =>
    have hne := nameOf_in h0
    cases h1 : insOk i with
    | false =>
      have HI := Lib.hid (insErr_bad (o := o) h0 h1)
      have hr := right6_any i
      unfold insV at hr
      rw [h1] at hr
      have HR := Lib.hid hr
      clear hr h0 h1
      go_enter Tryz.func30, Tryz.ntmps30
      go_wp2_with fail
      refine (name6_any i.op _).mono ?_
      rintro e w1 ⟨rfl, k1⟩
      have b1 := (Blk.newAt (w := w.alloc (.cells #[.slice Aa na ca, .slice Af nf cf, .slice Ap np cp, .slice Ac nc cc] 31)) (n := w.heap.size + 1) 79 #[.int .i64 i.op, .int .i64 i.a0, .int .i64 i.a1, .int .i64 i.a2, .int .i64 i.a3] (by simp)).keep k1 (by simp)
      have c0 := b1.cell 0
      have c1 := b1.cell 1
      have c2 := b1.cell 2
      have c3 := b1.cell 3
      have c4 := b1.cell 4
      clear b1
      go_wp2_with (go_at_call 61; refine (HR.out _).mono ?_; rintro e w2 ⟨rfl, k2⟩)
      go_ret
      exact ⟨by rw [HI.out]; rfl, (HK0.out.trans k1).trans k2⟩
    | true =>
      have H0 := Lib.hid h0
      have H1 := Lib.hid h1
      have hr := right6_any i
      unfold insV at hr
      rw [h1] at hr
      have HR := Lib.hid hr
      clear hr h0 h1
      go_enter Tryz.func30, Tryz.ntmps30
      go_wp2_with fail
      refine (name6_any i.op _).mono ?_
      rintro e w1 ⟨rfl, k1⟩
      have b1 := (Blk.newAt (w := w.alloc (.cells #[.slice Aa na ca, .slice Af nf cf, .slice Ap np cp, .slice Ac nc cc] 31)) (n := w.heap.size + 1) 79 #[.int .i64 i.op, .int .i64 i.a0, .int .i64 i.a1, .int .i64 i.a2, .int .i64 i.a3] (by simp)).keep k1 (by simp)
      have c0 := b1.cell 0
      have c1 := b1.cell 1
      have c2 := b1.cell 2
      have c3 := b1.cell 3
      have c4 := b1.cell 4
      clear b1
      go_wp2_with (go_at_call 61; refine (HR.out _).mono ?_; rintro e w2 ⟨rfl, k2⟩; clear c0 c1 c2 c3 c4; have b2 := (Blk.newAt (w := w.alloc (.cells #[.slice Aa na ca, .slice Af nf cf, .slice Ap np cp, .slice Ac nc cc] 31)) (n := w.heap.size + 1) 79 #[.int .i64 i.op, .int .i64 i.a0, .int .i64 i.a1, .int .i64 i.a2, .int .i64 i.a3] (by simp)).keep (k1.trans k2) (by simp); have c0 := b2.cell 0; clear b2)
      refine (kinds_any i.op _).mono ?_
      rintro e w3 ⟨A, c, rfl, hN, k3⟩
      have b3 := (Blk.newAt (w := w.alloc (.cells #[.slice Aa na ca, .slice Af nf cf, .slice Ap np cp, .slice Ac nc cc] 31)) (n := w.heap.size + 1) 79 #[.int .i64 i.op, .int .i64 i.a0, .int .i64 i.a1, .int .i64 i.a2, .int .i64 i.a3] (by simp)).keep (k1.trans (k2.trans k3)) (by simp)
      have bo := ((Blk.new w 31 #[.slice Aa na ca, .slice Af nf cf, .slice Ap np cp, .slice Ac nc cc]).alloc (.cells #[.int .i64 i.op, .int .i64 i.a0, .int .i64 i.a1, .int .i64 i.a2, .int .i64 i.a3] 79)).keep (k1.trans (k2.trans k3)) (by simp)
      have HB := Lib.hid b3
      have HO := Lib.hid bo
      have HK := Lib.hid (HK0.out.trans (k1.trans (k2.trans k3)))
      have HN := Lib.hid hN
      have hfew := kinds_few i.op
      clear b3 bo c0 k1 k2 k3 hN HK0
      obtain ⟨m, hm⟩ : ∃ m, (kindsOf i.op).length = m := ⟨_, rfl⟩
      rw [hm] at hfew ⊢
      have HM := Lib.hid hm
      clear hm
      go_wp2_with fail
      go_loopw [20] (fun v wr => ∃ k : Nat, k ≤ m ∧ v = .int .i64 k ∧ Hid (∀ j, j < k → argHas o i j = true) ∧ Keeps w3 wr []) (fun v _ => m - (intOf v).toNat)
      case atStart => exact ⟨0, by omega, rfl, fun j hj => absurd hj (by omega), Keeps.refl _ _⟩
      case round =>
        obtain ⟨k, hk, rfl, HA, kr⟩ := hrel
        have HR2 := Lib.hid kr
        clear kr
        by_cases hlt : k < m
        · obtain ⟨b, off, x, rfl, hb, hc, hx⟩ := HN.out k (by rw [HM.out]; exact hlt)
          have hx1 := kinds_mem i.op x (List.mem_of_getElem? hx)
          obtain ⟨q, rfl⟩ := Int.eq_ofNat_of_zero_le (show 0 ≤ x by omega)
          have q1 := (HR2.out.cell0 hb).trans hc
          have HArg : Hid (argHas o i k = hasB o q (i.arg k)) := by show _ = _; rw [argHas, List.getD_eq_getElem?_getD, hx]; rfl
          clear hx hc
          have q2 := ins_cell (HB.out.keep HR2.out (by simp)) k (by omega)
          have bo2 := HO.out.keep HR2.out (by simp)
          have p0 := bo2.cell 0
          have p1 := bo2.cell 1
          have p2 := bo2.cell 2
          have p3 := bo2.cell 3
          clear bo2
          have b0 : (0 : Int) ≤ (k : Int) := Int.natCast_nonneg _
          have b4 : (k : Int) < 4 := by omega
          have hcall := HH.out q (i.arg k)
          cases hv : hasB o q (i.arg k)
          all_goals
            rw [hv] at hcall HArg
            have HC := Lib.hid hcall
            clear hcall
            go_wp2_with fail
            refine wp_region_tx (fun W' => W'.cell? ⟨w.heap.size, 0, none⟩ = some (.slice Aa na ca) ∧ W'.cell? ⟨w.heap.size, 1, none⟩ = some (.slice Af nf cf) ∧ W'.cell? ⟨w.heap.size, 2, none⟩ = some (.slice Ap np cp) ∧ W'.cell? ⟨w.heap.size, 3, none⟩ = some (.slice Ac nc cc) ∧ W'.cell? ⟨w.heap.size + 1, 1 + k, none⟩ = some (.int .i64 (i.arg k))) [(0, true), (1, true), (2, true), (3, true), (4, true), (5, true), (6, false), (7, false)] (by kernel_rfl) (by kernel_rfl) (by exact ⟨p0, p1, p2, p3, q2⟩) (fun hHeld => ?_)
            (repeat (first | (refine wpTx_take (v := ?_) rfl (by assumption) ?_ (by rfl) ?_; rotate_left; (focus (intro w' hSw; (try dsimp only at hSw); go_simp; (try with_reducible rfl); done)); simp only [Act.put, List.setIfInBounds_toArray, List.set_cons_zero, List.set_cons_succ]) | (refine wpTx_skip rfl (by assumption) (by rfl) ?_; simp only [Act.put, List.setIfInBounds_toArray, List.set_cons_zero, List.set_cons_succ])))
            refine wpTx_go rfl (fun K hK => ?_)
            go_simp
            refine (HC.out _).mono ?_
            rintro e w4 ⟨rfl, k4⟩
            refine hK.out _ _ ?_ ?_
            · have hlt2 : w.heap.size + 1 < wr.heap.size := by have := HB.out.lt; have := HR2.out.size; omega
              have k5 := ((Keeps.refl _ []).drew.trans k4)
              exact ⟨(k5.cell0 (by omega)).trans p0, (k5.cell0 (by omega)).trans p1, (k5.cell0 (by omega)).trans p2, (k5.cell0 (by omega)).trans p3, (k5.cell0 hlt2).trans q2⟩
            (clear hHeld; intro hHeld; clear hK K; (try simp only [Act.put, List.setIfInBounds_toArray, List.set_cons_zero, List.set_cons_succ]))
            (repeat (first | (refine wpTx_take (v := ?_) rfl (by assumption) ?_ (by rfl) ?_; rotate_left; (focus (intro w' hSw; (try dsimp only at hSw); go_simp; (try with_reducible rfl); done)); simp only [Act.put, List.setIfInBounds_toArray, List.set_cons_zero, List.set_cons_succ]) | (refine wpTx_skip rfl (by assumption) (by rfl) ?_; simp only [Act.put, List.setIfInBounds_toArray, List.set_cons_zero, List.set_cons_succ])))
            refine wpTx_last rfl (fun K hK => ?_)
            go_simp
            refine hK.out _ _ (NoPanic.normal ?_); clear hK K; (try simp only [Act.put, List.setIfInBounds_toArray, List.set_cons_zero, List.set_cons_succ])
          · have HI := Lib.hid (insErr_no H0.out H1.out (by rw [HM.out]; exact hlt) HArg.out)
            go_wp2_with fail
            go_ret
            exact ⟨by rw [HI.out]; rfl, HK.out.trans (HR2.out.trans ((Keeps.refl _ []).drew.trans k4))⟩
          · have HA2 := Lib.hid (all4_step HA.out HArg.out)
            go_wp2_with fail
            go_roundw
            case rel => exact ⟨k + 1, by omega, by go_num, HA2.out, HR2.out.trans ((Keeps.refl _ []).drew.trans k4)⟩
            case measure => simp [intOf]; omega
        · obtain rfl : m = k := by omega
          have HI := Lib.hid (insErr_ok (o := o) H0.out H1.out (by rw [HM.out]; exact HA.out))
          go_wp2_with fail
          go_ret
          exact ⟨by rw [HI.out]; rfl, HK.out.trans HR2.out⟩

theorem checkE_big {o : LObj} (h : bigO o = true) : checkE o = 2 := by rw [checkE, if_pos h]
theorem checkE_name {o : LObj} (h : bigO o = false) (h2 : namedB o = false) : checkE o = 7 := by rw [checkE, if_neg (by rw [h]; simp), if_pos h2]
theorem checkE_dup {o : LObj} (h : bigO o = false) (h2 : namedB o = true) (h3 : dupO o = true) : checkE o = 11 := by rw [checkE, if_neg (by rw [h]; simp), if_neg (by rw [h2]; simp), if_pos h3]
theorem checkE_ent {o : LObj} (h : bigO o = false) (h2 : namedB o = true) (h3 : dupO o = false) (h4 : entriesB o = false) : checkE o = 7 := by rw [checkE, if_neg (by rw [h]; simp), if_neg (by rw [h2]; simp), if_neg (by rw [h3]; simp), if_pos h4]
theorem checkE_code {o : LObj} (h : bigO o = false) (h2 : namedB o = true) (h3 : dupO o = false) (h4 : entriesB o = true) : checkE o = codeErr o o.code := by rw [checkE, if_neg (by rw [h]; simp), if_neg (by rw [h2]; simp), if_neg (by rw [h3]; simp), if_neg (by rw [h4]; simp)]
theorem named_keys {o : LObj} (h : namedB o = true) : (∀ s ∈ o.atoms, ∃ l, keyOf Tryz.prog 9 (.string s) = some l) ∧ (∀ f ∈ o.funs, ∃ l, keyOf Tryz.prog 77 (.agg #[.string f.name, .int .i64 f.arity]) = some l) ∧
    ∀ f ∈ o.preds.map keyF, ∃ l, keyOf Tryz.prog 77 (.agg #[.string f.name, .int .i64 f.arity]) = some l := by
  simp only [namedB, Bool.and_eq_true, List.all_eq_true] at h
  obtain ⟨h1, h2, h3⟩ := h
  refine ⟨fun s hs => key_string (nameOk_size (h1 s hs)), fun f hf => ?_, fun f hf => ?_⟩
  · have := h2 f hf
    simp only [funOk, Bool.and_eq_true, decide_eq_true_eq] at this
    exact key_fun_mk (nameOk_size this.1) (by omega) (by omega)
  · obtain ⟨p, hp, rfl⟩ := List.mem_map.1 hf
    have := h3 p hp
    simp only [predOk, Bool.and_eq_true, decide_eq_true_eq] at this
    exact key_fun_mk (s := p.name) (a := p.arity) (nameOk_size this.1) (by omega) (by omega)

/-- The cells of the object's box. -/
theorem BoxSt.four {w wr : World} {bx : Nat} {t : TypeId} {v0 v1 v2 v3 : Value} (s : BoxSt w wr bx t #[v0, v1, v2, v3]) : wr.cell? ⟨bx, 0, none⟩ = some v0 ∧ wr.cell? ⟨bx, 1, none⟩ = some v1 ∧ wr.cell? ⟨bx, 2, none⟩ = some v2 ∧ wr.cell? ⟨bx, 3, none⟩ = some v3 :=
  ⟨s.blk.cell 0, s.blk.cell 1, s.blk.cell 2, s.blk.cell 3⟩
set_option maxRecDepth 100000 in
set_option maxHeartbeats 3200000 in
theorem check_any (o : LObj) : ObjCalls 12 o (ErrTold (checkE o)) := by
  intro Aa Af Ap Ac na nf np nc ca cf cp cc w h hf la lf lp lc
  have HF := Lib.hid hf
  have H := Lib.hid h
  have gc := hf.code
  rw [lc] at gc
  have La := Lib.hid la
  have Lf := Lib.hid lf
  have Lp := Lib.hid lp
  have Lc := Lib.hid lc
  have hbig := big_any na nf np nc
  have HB : Hid (bigO o = bigB na nf np nc) := by show _ = _; rw [bigO, la, lf, lp, lc]
  clear h hf la lf lp lc
  have st : BoxSt w (w.alloc (.cells #[.slice Aa na ca, .slice Af nf cf, .slice Ap np cp, .slice Ac nc cc] 31)) w.heap.size 31 #[.slice Aa na ca, .slice Af nf cf, .slice Ap np cp, .slice Ac nc cc] := ⟨Blk.new _ _ _, (Keeps.refl _ []).alloc _⟩
  have HST := Lib.hid st
  clear st
  cases hb : bigB na nf np nc
  case true =>
    rw [hb] at hbig HB
    have HBG := Lib.hid hbig
    clear hbig
    have HI := Lib.hid (checkE_big HB.out)
    go_enter Tryz.func12, Tryz.ntmps12
    go_wp2_with (go_at_call 24; refine (HBG.out _).mono ?_; rintro e w2 ⟨rfl, rfl⟩)
    go_ret
    exact ⟨by rw [HI.out]; rfl, HST.out.keep⟩
  rw [hb] at hbig HB
  have HBG := Lib.hid hbig
  clear hbig
  cases hn : namedB o
  case false =>
    have HI := Lib.hid (checkE_name HB.out hn)
    have hnm := named_any o
    rw [hn] at hnm
    have HN := Lib.hid hnm
    clear hnm hn
    go_enter Tryz.func12, Tryz.ntmps12
    go_wp2_with (first
      | (go_at_call 24; refine (HBG.out _).mono ?_; rintro e w2 ⟨rfl, rfl⟩)
      | (go_at_call 25; refine (HN.out _ _ _ _ _ _ _ _ _ _ _ _ _ (H.out.keep HST.out.keep) HF.out La.out Lf.out Lp.out Lc.out).mono ?_; rintro e w3 ⟨rfl, k3⟩))
    go_ret
    exact ⟨by rw [HI.out]; rfl, HST.out.keep.trans k3⟩
  have hnm := named_any o
  rw [hn] at hnm
  have HN := Lib.hid hnm
  have hkeys := named_keys hn
  have HK := Lib.hid hkeys
  have HNM := Lib.hid hn
  clear hnm hkeys hn
  have hns : na ≤ 65536 ∧ nf ≤ 65536 ∧ np ≤ 65536 := by
    have := HF.out.atoms
    have := HF.out.funs
    have := HF.out.preds
    have := La.out
    have := Lf.out
    have := Lp.out
    omega
  obtain ⟨ga, gf, gp⟩ := hns
  go_enter Tryz.func12, Tryz.ntmps12
  go_wp2_with (first
    | (go_at_call 24; refine (HBG.out _).mono ?_; rintro e w2 ⟨rfl, rfl⟩)
    | (go_at_call 25; refine (HN.out _ _ _ _ _ _ _ _ _ _ _ _ _ (H.out.keep HST.out.keep) HF.out La.out Lf.out Lp.out Lc.out).mono ?_; rintro e w3 ⟨rfl, k3⟩; have S3 := Lib.hid (HST.out.go k3); obtain ⟨p0, p1, p2, p3⟩ := S3.out.four; clear k3))
  have ht := twiceStr_any Aa na ca o.atoms w3 La.out (by omega) (H.out.keep S3.out.keep).atoms HK.out.1
  cases hd1 : dupB o.atoms
  case true =>
    rw [hd1] at ht
    have HI := Lib.hid (checkE_dup HB.out HNM.out (show dupO o = true by simp [dupO, hd1]))
    clear hd1
    refine ht.mono ?_
    rintro e w4 ⟨rfl, k4⟩
    clear ht
    go_wp2_with fail
    go_ret
    exact ⟨by rw [HI.out]; rfl, S3.out.keep.trans k4⟩
  rw [hd1] at ht
  refine ht.mono ?_
  rintro e w4 ⟨rfl, k4⟩
  have S4 := Lib.hid (S3.out.go k4)
  have HD1 := Lib.hid hd1
  clear ht k4 p0 p1 p2 p3 hd1
  obtain ⟨p0, p1, p2, p3⟩ := S4.out.four
  go_wp2_with fail
  have ht := twiceFun_any Af nf cf o.funs w4 Lf.out (by omega) (H.out.keep S4.out.keep).funs HK.out.2.1
  cases hd2 : dupB o.funs
  case true =>
    rw [hd2] at ht
    have HI := Lib.hid (checkE_dup HB.out HNM.out (show dupO o = true by simp [dupO, hd2]))
    clear hd2
    refine ht.mono ?_
    rintro e w5 ⟨rfl, k5⟩
    clear ht
    go_wp2_with fail
    go_ret
    exact ⟨by rw [HI.out]; rfl, S4.out.keep.trans k5⟩
  rw [hd2] at ht
  refine ht.mono ?_
  rintro e w5 ⟨rfl, k5⟩
  have S5 := Lib.hid (S4.out.go k5)
  have HD2 := Lib.hid hd2
  clear ht k5 p0 p1 p2 p3 hd2
  obtain ⟨p0, p1, p2, p3⟩ := S5.out.four
  go_wp2_with fail
  refine (keys_any o _ _ _ _ _ _ _ _ _ _ _ _ _ (H.out.keep S5.out.keep) HF.out La.out Lf.out Lp.out Lc.out).mono ?_
  rintro e w6 ⟨A6, c6, rfl, hr6, k6⟩
  rw [Lp.out]
  have S6 := Lib.hid (S5.out.go k6)
  clear k6 p0 p1 p2 p3
  obtain ⟨p0, p1, p2, p3⟩ := S6.out.four
  have HR6 := Lib.hid hr6
  clear hr6
  go_wp2_with fail
  have ht := twiceFun_any A6 np c6 (o.preds.map keyF) w6 (by rw [List.length_map, Lp.out]) (by omega) HR6.out HK.out.2.2
  cases hd3 : dupB (o.preds.map keyF)
  case true =>
    rw [hd3] at ht
    have HI := Lib.hid (checkE_dup HB.out HNM.out (show dupO o = true by simp [dupO, hd3]))
    clear hd3
    refine ht.mono ?_
    rintro e w7 ⟨rfl, k7⟩
    clear ht
    go_wp2_with fail
    go_ret
    exact ⟨by rw [HI.out]; rfl, S6.out.keep.trans k7⟩
  rw [hd3] at ht
  refine ht.mono ?_
  rintro e w7 ⟨rfl, k7⟩
  have S7 := Lib.hid (S6.out.go k7)
  have HD := Lib.hid (show dupO o = false by simp [dupO, HD1.out, HD2.out, hd3])
  clear ht k7 p0 p1 p2 p3 hd3
  obtain ⟨p0, p1, p2, p3⟩ := S7.out.four
  go_wp2_with fail
  have ht := entries_any o Aa Af Ap Ac na nf np nc ca cf cp cc w7 (H.out.keep S7.out.keep) HF.out La.out Lf.out Lp.out Lc.out
  cases he : entriesB o
  case false =>
    rw [he] at ht
    have HI := Lib.hid (checkE_ent HB.out HNM.out HD.out he)
    clear he
    refine ht.mono ?_
    rintro e w8 ⟨rfl, k8⟩
    clear ht
    go_wp2_with fail
    go_ret
    exact ⟨by rw [HI.out]; rfl, S7.out.keep.trans k8⟩
  rw [he] at ht
  have HI := Lib.hid (checkE_code HB.out HNM.out HD.out he)
  refine ht.mono ?_
  rintro e w8 ⟨rfl, k8⟩
  have S8 := Lib.hid (S7.out.go k8)
  clear ht k8 p0 p1 p2 p3 he
  obtain ⟨p0, p1, p2, p3⟩ := S8.out.four
  go_wp2_with fail
  clear p0 p1 p2 p3
  go_loopw [45] (fun v wr => ∃ k : Nat, k ≤ nc ∧ v = .int .i64 k ∧ Hid (codeErr o o.code = codeErr o (o.code.drop k)) ∧ BoxSt w wr w.heap.size 31 #[.slice Aa na ca, .slice Af nf cf, .slice Ap np cp, .slice Ac nc cc]) (fun v _ => nc - (intOf v).toNat)
  case atStart => exact ⟨0, Nat.zero_le _, rfl, rfl, S8.out⟩
  case round =>
    obtain ⟨k, hk, rfl, HE, st⟩ := hrel
    have HS := Lib.hid st
    clear st
    by_cases hlt : k < nc
    · obtain ⟨x, hx⟩ := at_of Lc.out hlt
      obtain ⟨b, off, rfl, hb, hc⟩ := (H.out.code).field insE_len hx (by omega)
      have HX := Lib.hid hx
      have q0 : wr.cell? ⟨b, off + k * 5, none⟩ = some _ := (HS.out.keep.cell0 hb).trans (hc 0 _ rfl)
      have q1 : wr.cell? ⟨b, off + k * 5 + 1, none⟩ = some _ := (HS.out.keep.cell0 hb).trans (hc 1 _ rfl)
      have q2 : wr.cell? ⟨b, off + k * 5 + 2, none⟩ = some _ := (HS.out.keep.cell0 hb).trans (hc 2 _ rfl)
      have q3 : wr.cell? ⟨b, off + k * 5 + 3, none⟩ = some _ := (HS.out.keep.cell0 hb).trans (hc 3 _ rfl)
      have q4 : wr.cell? ⟨b, off + k * 5 + 4, none⟩ = some _ := (HS.out.keep.cell0 hb).trans (hc 4 _ rfl)
      have sa := HS.out.go ((Keeps.refl wr []).alloc (.cells #[.int .i64 x.op, .int .i64 x.a0, .int .i64 x.a1, .int .i64 x.a2, .int .i64 x.a3] 79))
      have SA := Lib.hid sa
      obtain ⟨p0, p1, p2, p3⟩ := sa.four
      have hi := fun w => instr_any o x Aa Af Ap (some ⟨b, off, none⟩) na nf np nc ca cf cp cc w La.out Lf.out Lp.out Lc.out
      unfold insV at hi
      clear hx hc sa
      by_cases h0 : insErr o x = 0
      · rw [h0] at hi
        have HC := Lib.hid hi
        have HE2 := Lib.hid (codeErr_step HX.out HE.out h0)
        clear hi h0
        go_wp2_with (go_at_call 30; refine (HC.out _).mono ?_; rintro e w9 ⟨rfl, k9⟩)
        go_roundw
        case rel => exact ⟨k + 1, by omega, by go_num, HE2.out, SA.out.go k9⟩
        case measure => simp [intOf]; omega
      · have HI2 := Lib.hid (HI.out.trans (codeErr_stop HX.out HE.out h0))
        have HC := Lib.hid hi
        obtain ⟨z, hz⟩ : ∃ z, insErr o x = z := ⟨_, rfl⟩
        rw [hz] at h0 HI2 HC
        have d0 : (z != 0) = true := by simpa using h0
        clear hi h0 hz
        go_wp2_with (go_at_call 30; refine (HC.out _).mono ?_; rintro e w9 ⟨rfl, k9⟩)
        go_ret
        exact ⟨by rw [HI2.out]; rfl, SA.out.keep.trans k9⟩
    · obtain rfl : nc = k := by omega
      have HI2 := Lib.hid (HI.out.trans (codeErr_end Lc.out HE.out))
      go_wp2_with fail
      go_ret
      exact ⟨by rw [HI2.out]; rfl, HS.out.keep⟩
end Go.Proofs.YtpcihhdalofdiaaGreatDoor
