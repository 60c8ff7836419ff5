/- ObjChecks, walked. -/
import Derived.Test.YtdcjiohbnnipdaaTold
import Derived.Test.YtdcjiohbnnipdaaSame
import Derived.Test.YtdcjiohbnnipdaaFind
import Derived.Test.YtdcjiohbnnipdaaObjFrom
namespace Go.Proofs.Ytdcjiohbnnipdaa
open Go.RowKit
attribute [local irreducible] encB decB checkE

def fewB (na nf np nc : Nat) : Bool := decide ((na : Int) ≤ 300) && (decide ((nf : Int) ≤ 300) && (decide ((np : Int) ≤ 100) && decide ((nc : Int) ≤ 1100)))
theorem few_any (Aa Af Ap Ac : Option Addr) (na nf np nc ca cf cp cc : Nat) (w : World) :
    Calls Try.prog 19 #[.agg #[.slice Aa na ca, .slice Af nf cf, .slice Ap np cp, .slice Ac nc cc]] w (Told (fewB na nf np nc) w) := by
  have HV : Hid (fewB na nf np nc = (decide ((na : Int) ≤ 300) && (decide ((nf : Int) ≤ 300) && (decide ((np : Int) ≤ 100) && decide ((nc : Int) ≤ 1100))))) := rfl
  cases d0 : decide ((na : Int) ≤ 300)
  · rw [d0] at HV
    go_enter Try.func19, Try.ntmps19
    go_wp2_with fail
    go_ret
    exact ⟨by rw [HV.out]; rfl, (Keeps.refl _ _).alloc _⟩
  cases d1 : decide ((nf : Int) ≤ 300)
  · rw [d0, d1] at HV
    go_enter Try.func19, Try.ntmps19
    go_wp2_with fail
    go_ret
    exact ⟨by rw [HV.out]; rfl, (Keeps.refl _ _).alloc _⟩
  cases d2 : decide ((np : Int) ≤ 100)
  · rw [d0, d1, d2] at HV
    go_enter Try.func19, Try.ntmps19
    go_wp2_with fail
    go_ret
    exact ⟨by rw [HV.out]; rfl, (Keeps.refl _ _).alloc _⟩
  cases d3 : decide ((nc : Int) ≤ 1100)
  all_goals
    rw [d0, d1, d2, d3] at HV
    go_enter Try.func19, Try.ntmps19
    go_wp2_with fail
    go_ret
    exact ⟨by rw [HV.out]; rfl, (Keeps.refl _ _).alloc _⟩

/-- The bytes that Encode hands over. -/
def encL (o : LObj) : List Int := if checkE o = 0 then encB o else []
def EncDone2 (o : LObj) (w : World) (e : Ending) (w' : World) : Prop :=
  ∃ A n c, e = .returned (.tuple #[.slice A n c, .int .i64 (checkE o)]) ∧ (encL o).length = n ∧ Rd w' A (u8s (encL o)) ∧ Keeps w w' []
theorem encDone2 {o : LObj} {w w' : World} {e : Ending} (h : EncDone o w e w') : EncDone2 o w e w' := by
  obtain ⟨k, h⟩ := h
  by_cases h0 : checkE o = 0
  · rw [if_pos h0] at h
    obtain ⟨A, c, rfl, ho⟩ := h
    have he : encL o = encB o := by rw [encL, if_pos h0]
    exact ⟨A, _, c, by rw [h0], by rw [he], by rw [he]; exact Rd.of_own ho, k⟩
  · rw [if_neg h0] at h
    have he : encL o = [] := by rw [encL, if_neg h0]
    exact ⟨none, 0, 0, h, by rw [he]; rfl, by rw [he]; exact Rd.nil, k⟩
theorem few_fits {o : LObj} {na nf np nc : Nat} (la : o.atoms.length = na) (lf : o.funs.length = nf) (lp : o.preds.length = np) (lc : o.code.length = nc) (h : fewB na nf np nc = true) : Fits o := by
  simp only [fewB, Bool.and_eq_true, decide_eq_true_eq] at h
  exact ⟨by omega, by omega, by omega, by omega⟩
/-- What stands while the law's last line is looked at: both objects' boxes, the two texts. -/
structure LawSt (w0 w : World) (g1 g2 : Nat) (cs1 cs2 : Array Value) : Prop where
  b1 : Blk w g1 38 cs1
  b2 : Blk w g2 30 cs2
  keep : Keeps w0 w []
theorem LawSt.go {w0 w W : World} {g1 g2 : Nat} {cs1 cs2 : Array Value} (s : LawSt w0 w g1 g2 cs1 cs2) (k : Keeps w W []) : LawSt w0 W g1 g2 cs1 cs2 := ⟨s.b1.keep k (by simp), s.b2.keep k (by simp), s.keep.trans k⟩

set_option maxRecDepth 100000 in
set_option maxHeartbeats 3200000 in
theorem checks_any (o : LObj) (nm : ByteArray) (ar : Int) (Aa Af Ap Ac : Option Addr) (na nf np nc ca cf cp cc : Nat) (w : World) (h : ObIs w o Aa Af Ap Ac ca cf cp cc)
    (la : o.atoms.length = na) (lf : o.funs.length = nf) (lp : o.preds.length = np) (lc : o.code.length = nc) :
    Calls Try.prog 5 #[.agg #[.slice Aa na ca, .slice Af nf cf, .slice Ap np cp, .slice Ac nc cc], .string nm, .int .i64 ar] w (Told true w) := by
  have H := Lib.hid h
  have La := Lib.hid la
  have Lf := Lib.hid lf
  have Lp := Lib.hid lp
  have Lc := Lib.hid lc
  have HF := Lib.hid (fun hb => few_fits la lf lp lc hb)
  have HB0 : Hid (Blk (w.alloc (.cells #[.slice Aa na ca, .slice Af nf cf, .slice Ap np cp, .slice Ac nc cc] 38)) w.heap.size 38 #[.slice Aa na ca, .slice Af nf cf, .slice Ap np cp, .slice Ac nc cc]) := Blk.new _ _ _
  have HK0 : Hid (Keeps w (w.alloc (.cells #[.slice Aa na ca, .slice Af nf cf, .slice Ap np cp, .slice Ac nc cc] 38)) []) := (Keeps.refl _ []).alloc _
  clear h la lf lp lc
  go_enter Try.func5, Try.ntmps5
  go_wp2_with fail
  refine (few_any Aa Af Ap Ac na nf np nc ca cf cp cc _).mono ?_
  rintro e w1 ⟨rfl, k1⟩
  have HB1 := Lib.hid (HB0.out.keep k1 (by simp))
  have HK1 := Lib.hid (HK0.out.trans k1)
  have p0 := HB1.out.cell 0
  have p1 := HB1.out.cell 1
  have p2 := HB1.out.cell 2
  have p3 := HB1.out.cell 3
  cases hb : fewB na nf np nc
  · go_wp2_with fail
    refine (told_any _).mono ?_
    rintro e w2 ⟨rfl, k2⟩
    go_wp2_with fail
    go_ret
    exact ⟨rfl, HK1.out.trans k2⟩
  have HFit := Lib.hid (HF.out hb)
  clear hb k1 HF HB0 HK0
  go_wp2_with fail
  refine (to_any o Aa Af Ap Ac na nf np nc ca cf cp cc w1 (H.out.keep HK1.out) HFit.out La.out Lf.out Lp.out Lc.out).mono ?_
  rintro e w2 ⟨Ba, Bf, Bp, Bc, da, df, dp, dc, rfl, hx, k2⟩
  rw [La.out, Lf.out, Lp.out, Lc.out]
  have HX := Lib.hid (hx.keep ((Keeps.refl w2 []).alloc (.cells #[.slice Ba na da, .slice Bf nf df, .slice Bp np dp, .slice Bc nc dc] 30)))
  have st : LawSt w (w2.alloc (.cells #[.slice Ba na da, .slice Bf nf df, .slice Bp np dp, .slice Bc nc dc] 30)) w.heap.size w2.heap.size #[.slice Aa na ca, .slice Af nf cf, .slice Ap np cp, .slice Ac nc cc] #[.slice Ba na da, .slice Bf nf df, .slice Bp np dp, .slice Bc nc dc] :=
    ⟨(HB1.out.keep k2 (by simp)).alloc _, Blk.new _ _ _, (HK1.out.trans k2).alloc _⟩
  have HS2 := Lib.hid st
  clear hx k2 st HB1 HK1 p0 p1 p2 p3
  go_wp2_with fail
  refine (encode_any o _ _ _ _ _ _ _ _ _ _ _ _ _ HX.out HFit.out La.out Lf.out Lp.out Lc.out).mono ?_
  intro e w3 he
  obtain ⟨E1, n1, c1, rfl, hl1, hr1, k3⟩ := encDone2 he
  have HX3 := Lib.hid (HX.out.keep k3)
  have HS3 := Lib.hid (HS2.out.go k3)
  have HL1 := Lib.hid hl1
  have HR1 := Lib.hid hr1
  have p0 := HS3.out.b1.cell 0
  have p1 := HS3.out.b1.cell 1
  have p2 := HS3.out.b1.cell 2
  have p3 := HS3.out.b1.cell 3
  clear he hl1 hr1 k3 HX HS2
  go_wp2_with fail
  refine (refEncode_any o _ _ _ _ _ _ _ _ _ _ _ _ _ (H.out.keep HS3.out.keep) HFit.out La.out Lf.out Lp.out Lc.out).mono ?_
  intro e w4 he
  obtain ⟨E2, n2, c2, rfl, hl2, hr2, k4⟩ := encDone2 he
  have HX4 := Lib.hid (HX3.out.keep k4)
  have HS4 := Lib.hid (HS3.out.go k4)
  have HL2 := Lib.hid hl2
  have HR2 := Lib.hid hr2
  have HR1' := Lib.hid (HR1.out.keep k4)
  clear he hl2 hr2 k4 HX3 HS3 HR1 p0 p1 p2 p3
  go_wp2_with fail
  have HSt : Hid (∀ W', Keeps w4 W' [] → (W'.cell? ⟨w.heap.size, 0, none⟩ = some (.slice Aa na ca) ∧ W'.cell? ⟨w.heap.size, 1, none⟩ = some (.slice Af nf cf) ∧ W'.cell? ⟨w.heap.size, 2, none⟩ = some (.slice Ap np cp) ∧ W'.cell? ⟨w.heap.size, 3, none⟩ = some (.slice Ac nc cc) ∧
      W'.cell? ⟨w2.heap.size, 0, none⟩ = some (.slice Ba na da) ∧ W'.cell? ⟨w2.heap.size, 1, none⟩ = some (.slice Bf nf df) ∧ W'.cell? ⟨w2.heap.size, 2, none⟩ = some (.slice Bp np dp) ∧ W'.cell? ⟨w2.heap.size, 3, none⟩ = some (.slice Bc nc dc) ∧
      (convert 22 9 (.slice E1 n1 c1)).run Try.prog W' = .ok (.string (strB (encL o))) W' ∧ (convert 22 9 (.slice E2 n2 c2)).run Try.prog W' = .ok (.string (strB (encL o))) W')) := fun W' k => by
    have s := HS4.out.go k
    exact ⟨s.b1.cell 0, s.b1.cell 1, s.b1.cell 2, s.b1.cell 3, s.b2.cell 0, s.b2.cell 1, s.b2.cell 2, s.b2.cell 3,
      conv_str W' 22 9 5 E1 n1 c1 (encL o) Try.underlying22 Try.underlying5 Try.underlying9 HL1.out (HR1'.out.keep k),
      conv_str W' 22 9 5 E2 n2 c2 (encL o) Try.underlying22 Try.underlying5 Try.underlying9 HL2.out (HR2.out.keep k)⟩
  have hbq : ((strB (encL o)).toList == (strB (encL o)).toList) = true := beq_self_eq_true _
  have hchk : (checkE o == checkE o) = true := by simp
  refine wp_region_tx (fun W' => W'.cell? ⟨w.heap.size, 0, none⟩ = some (.slice Aa na ca) ∧ W'.cell? ⟨w.heap.size, 1, none⟩ = some (.slice Af nf cf) ∧ W'.cell? ⟨w.heap.size, 2, none⟩ = some (.slice Ap np cp) ∧ W'.cell? ⟨w.heap.size, 3, none⟩ = some (.slice Ac nc cc) ∧
      W'.cell? ⟨w2.heap.size, 0, none⟩ = some (.slice Ba na da) ∧ W'.cell? ⟨w2.heap.size, 1, none⟩ = some (.slice Bf nf df) ∧ W'.cell? ⟨w2.heap.size, 2, none⟩ = some (.slice Bp np dp) ∧ W'.cell? ⟨w2.heap.size, 3, none⟩ = some (.slice Bc nc dc) ∧
      (convert 22 9 (.slice E1 n1 c1)).run Try.prog W' = .ok (.string (strB (encL o))) W' ∧ (convert 22 9 (.slice E2 n2 c2)).run Try.prog W' = .ok (.string (strB (encL o))) W') [(0, false), (1, true), (2, true), (4, true), (3, false), (5, false), (6, true), (7, true), (8, true), (9, true), (10, true), (11, true), (12, true), (13, true), (14, true), (15, true), (16, true), (17, true), (18, true), (19, true), (20, true), (21, true), (22, true), (23, true), (25, true), (26, true), (27, true), (24, false), (28, false), (29, true), (30, true), (31, true), (32, true), (34, true), (33, false), (35, false), (36, true), (37, false)] (by kernel_rfl) (by kernel_rfl) (by exact HSt.out _ (Keeps.refl _ []).drew) (fun hHeld => ?_)
  refine wpTx_go rfl (fun K hK => ?_)
  go_simp
  refine (told_any _).mono ?_
  rintro e w5 ⟨rfl, k5⟩
  have K5 : Keeps w4 w5 [] := ((Keeps.refl w4 []).drew).trans k5
  refine hK.out _ _ ?_ ?_
  · exact HSt.out _ K5
  (clear hHeld; intro hHeld; clear hK K)
  (repeat (first | (refine wpTx_take (v := ?_) rfl (by assumption) ?_ (by rfl) ?_; rotate_left; (focus (intro w' hSw; (try dsimp only at hSw); go_simp; (try with_reducible rfl); done)); simp only [Act.put, List.setIfInBounds_toArray, List.set_cons_zero, List.set_cons_succ]) | (refine wpTx_skip rfl (by assumption) (by rfl) ?_; simp only [Act.put, List.setIfInBounds_toArray, List.set_cons_zero, List.set_cons_succ])))
  refine wpTx_go rfl (fun K hK => ?_)
  go_simp
  refine (check_any o _ _ _ _ _ _ _ _ _ _ _ _ _ (HX4.out.keep K5) HFit.out La.out Lf.out Lp.out Lc.out).mono ?_
  rintro e w6 ⟨rfl, k6⟩
  have K6 : Keeps w4 w6 [] := (K5).trans k6
  refine hK.out _ _ ?_ ?_
  · exact HSt.out _ K6
  (clear hHeld; intro hHeld; clear hK K; (try simp only [Act.put, List.setIfInBounds_toArray, List.set_cons_zero, List.set_cons_succ]))
  (repeat (first | (refine wpTx_take (v := ?_) rfl (by assumption) ?_ (by rfl) ?_; rotate_left; (focus (intro w' hSw; (try dsimp only at hSw); go_simp; (try with_reducible rfl); done)); simp only [Act.put, List.setIfInBounds_toArray, List.set_cons_zero, List.set_cons_succ]) | (refine wpTx_skip rfl (by assumption) (by rfl) ?_; simp only [Act.put, List.setIfInBounds_toArray, List.set_cons_zero, List.set_cons_succ])))
  refine wpTx_go rfl (fun K hK => ?_)
  go_simp
  refine (refCheck_any o _ _ _ _ _ _ _ _ _ _ _ _ _ (H.out.keep (HS4.out.keep.trans K6)) HFit.out La.out Lf.out Lp.out Lc.out).mono ?_
  rintro e w7 ⟨rfl, k7⟩
  have K7 : Keeps w4 w7 [] := (K6).trans k7
  refine hK.out _ _ ?_ ?_
  · exact HSt.out _ K7
  (clear hHeld; intro hHeld; clear hK K; (try simp only [Act.put, List.setIfInBounds_toArray, List.set_cons_zero, List.set_cons_succ]))
  (repeat (first | (refine wpTx_take (v := ?_) rfl (by assumption) ?_ (by rfl) ?_; rotate_left; (focus (intro w' hSw; (try dsimp only at hSw); go_simp; (try with_reducible rfl); done)); simp only [Act.put, List.setIfInBounds_toArray, List.set_cons_zero, List.set_cons_succ]) | (refine wpTx_skip rfl (by assumption) (by rfl) ?_; simp only [Act.put, List.setIfInBounds_toArray, List.set_cons_zero, List.set_cons_succ])))
  refine wpTx_go rfl (fun K hK => ?_)
  go_simp
  refine (find_any o nm ar _ _ _ _ _ _ _ _ _ _ _ _ _ (HX4.out.keep K7) HFit.out La.out Lf.out Lp.out Lc.out).mono ?_
  rintro e w8 ⟨rfl, k8⟩
  have K8 : Keeps w4 w8 [] := (K7).trans k8
  refine hK.out _ _ ?_ ?_
  · exact HSt.out _ K8
  (clear hHeld; intro hHeld; clear hK K; (try simp only [Act.put, List.setIfInBounds_toArray, List.set_cons_zero, List.set_cons_succ]))
  (repeat (first | (refine wpTx_take (v := ?_) rfl (by assumption) ?_ (by rfl) ?_; rotate_left; (focus (intro w' hSw; (try dsimp only at hSw); go_simp; (try with_reducible rfl); done)); simp only [Act.put, List.setIfInBounds_toArray, List.set_cons_zero, List.set_cons_succ]) | (refine wpTx_skip rfl (by assumption) (by rfl) ?_; simp only [Act.put, List.setIfInBounds_toArray, List.set_cons_zero, List.set_cons_succ])))
  refine wpTx_go rfl (fun K hK => ?_)
  go_simp
  refine (refFind_any o nm ar _ _ _ _ _ _ _ _ _ _ _ _ _ (H.out.keep (HS4.out.keep.trans K8)) HFit.out La.out Lf.out Lp.out Lc.out).mono ?_
  rintro e w9 ⟨rfl, k9⟩
  have K9 : Keeps w4 w9 [] := (K8).trans k9
  refine hK.out _ _ ?_ ?_
  · exact HSt.out _ K9
  (clear hHeld; intro hHeld; clear hK K; (try simp only [Act.put, List.setIfInBounds_toArray, List.set_cons_zero, List.set_cons_succ]))
  (repeat (first | (refine wpTx_take (v := ?_) rfl (by assumption) ?_ (by rfl) ?_; rotate_left; (focus (intro w' hSw; (try dsimp only at hSw); go_simp; (try with_reducible rfl); done)); simp only [Act.put, List.setIfInBounds_toArray, List.set_cons_zero, List.set_cons_succ]) | (refine wpTx_skip rfl (by assumption) (by rfl) ?_; simp only [Act.put, List.setIfInBounds_toArray, List.set_cons_zero, List.set_cons_succ])))
  refine wpTx_go rfl (fun K hK => ?_)
  go_simp
  refine (from_any o _ _ _ _ _ _ _ _ _ _ _ _ _ (HX4.out.keep K9) HFit.out La.out Lf.out Lp.out Lc.out).mono ?_
  rintro e w10 ⟨Ca, Cf, Cp, Cc, fa, ff, fp, fc, rfl, hf, k10⟩
  rw [La.out, Lf.out, Lp.out, Lc.out]
  have K10 : Keeps w4 w10 [] := (K9).trans k10
  refine hK.out _ _ ?_ ?_
  · exact HSt.out _ K10
  (clear hHeld; intro hHeld; clear hK K; (try simp only [Act.put, List.setIfInBounds_toArray, List.set_cons_zero, List.set_cons_succ]))
  (repeat (first | (refine wpTx_take (v := ?_) rfl (by assumption) ?_ (by rfl) ?_; rotate_left; (focus (intro w' hSw; (try dsimp only at hSw); go_simp; (try with_reducible rfl); done)); simp only [Act.put, List.setIfInBounds_toArray, List.set_cons_zero, List.set_cons_succ]) | (refine wpTx_skip rfl (by assumption) (by rfl) ?_; simp only [Act.put, List.setIfInBounds_toArray, List.set_cons_zero, List.set_cons_succ])))
  refine wpTx_go rfl (fun K hK => ?_)
  go_simp
  refine (refSame_any o o _ _ _ _ _ _ _ _ _ _ _ _ _ _ _ _ _ _ _ _ _ _ _ _ _ (hf.keep (Keeps.refl _ [])) (H.out.keep (HS4.out.keep.trans K10)) HFit.out HFit.out La.out Lf.out Lp.out Lc.out La.out Lf.out Lp.out Lc.out).mono ?_
  rintro e w11 ⟨rfl, k11⟩
  have K11 : Keeps w4 w11 [] := (K10).trans k11
  refine hK.out _ _ ?_ ?_
  · exact HSt.out _ K11
  (clear hHeld; intro hHeld; clear hK K)
  (repeat (first | (refine wpTx_take (v := ?_) rfl (by assumption) ?_ (by rfl) ?_; rotate_left; (focus (intro w' hSw; (try dsimp only at hSw); go_simp; (try with_reducible rfl); done)); simp only [Act.put, List.setIfInBounds_toArray, List.set_cons_zero, List.set_cons_succ]) | (refine wpTx_skip rfl (by assumption) (by rfl) ?_; simp only [Act.put, List.setIfInBounds_toArray, List.set_cons_zero, List.set_cons_succ])))
  refine wpTx_last rfl (fun K hK => ?_)
  go_simp
  refine hK.out _ _ (NoPanic.normal ?_); clear hK K
  go_wp2_with fail
  go_ret
  exact ⟨by simp, HS4.out.keep.trans K11⟩
end Go.Proofs.Ytdcjiohbnnipdaa
