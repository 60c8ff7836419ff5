/- ObjDecodes, walked. -/
import Derived.Test.YtdcjiohbnnipdaaRefDec
import Derived.Test.YtdcjiohbnnipdaaEncLen
import Derived.Test.YtdcjiohbnnipdaaTold
import Derived.Test.YtdcjiohbnnipdaaSame
import Derived.Test.YtdcjiohbnnipdaaObjFrom
namespace Go.Proofs.Ytdcjiohbnnipdaa
open Go.RowKit

theorem dec_fits {l : List Int} (hb : IsByte l) : Fits (decB l).1 := by
  have hno : Fits noObj := ⟨by decide, by decide, by decide, by decide⟩
  by_cases h0 : (decB l).2 = 0
  · obtain ⟨o, ho⟩ : ∃ o, (decB l).1 = o := ⟨_, rfl⟩
    have hd : decB l = (o, 0) := by rw [← ho, ← h0]
    obtain ⟨hc, _⟩ := enc_dec hb hd
    have hb := (checkE_range hc).1
    simp only [bigO, bigB_or, Bool.or_eq_false_iff, decide_eq_false_iff_not] at hb
    rw [ho]
    exact ⟨by omega, by omega, by omega, by omega⟩
  · have hd := decB.eq_1 l
    split at hd
    · rw [hd]; exact hno
    · split at hd
      · rw [hd]; exact hno
      · split at hd
        · rw [hd]; exact hno
        · rw [hd] at h0; exact absurd rfl h0
theorem dec_zero {l : List Int} (hb : IsByte l) (h : (decB l).2 = 0) : checkE (decB l).1 = 0 ∧ encB (decB l).1 = l := enc_dec hb (by rw [← h])
attribute [local irreducible] encB decB checkE

set_option maxRecDepth 100000 in
set_option maxHeartbeats 3200000 in
theorem decodes_small (A : Option Addr) (n0 n c : Nat) (l : List Int) (w : World) (hl : l.length = n) (hmin : (if 2000 < (n0 : Int) then (2000 : Int) else n0) = n) (hn : n ≤ 2000) (hc : n ≤ c) (hz : A = none → c = 0) (hA : Rd w A (u8s l)) (hB : IsByte l) :
    Calls Try.prog 3 #[.slice A n0 c] w (Told true w) := by
  have HFit := Lib.hid (dec_fits hB)
  have HZ := Lib.hid (fun h => dec_zero hB h)
  have HB := Lib.hid hB
  have HL := Lib.hid hl
  have HA := Lib.hid hA
  have HRef := Lib.hid (fun (W : World) (k : Keeps w W []) => refDecode_any A n c l W hl (by omega) hc (hA.keep k) hB (fun hne a ha => by
    obtain ⟨b, off, v, e, hb, _⟩ := hA 0 (by rw [u8s_len]; have : l.length ≠ 0 := fun h => hne (List.eq_nil_of_length_eq_zero h); omega)
    rw [ha] at e
    injection e with e
    subst e
    have := k.size
    simp
    omega))
  have HDec := Lib.hid (fun (A' : Option Addr) (c' : Nat) (W : World) (hc' : n ≤ c') (h : Rd W A' (u8s l)) => decode_any A' n c' l W hl (by omega) hc' h hB)
  generalize decB l = r at *
  obtain ⟨o, code⟩ := r
  have b1 : (n : Int) ≤ (c : Int) := by omega
  have b0 : (0 : Int) ≤ (n : Int) := by omega
  clear hB hl hA
  go_enter Try.func3, Try.ntmps3
  go_wp2_with (at_builtin; refine wpList_app _ el_u8 rfl (.tmp 15) (.tmp 16) rfl w.heap.size (some ⟨w.heap.size, 0, none⟩) 0 0 [] rfl (own_empty _ _) A n c (u8s l) (by first | rfl | simp) (HA.out.alloc _) (by rw [u8s_len, HL.out, Nat.mul_one]) hz (u8s_one _) (by omega) (by simp) ?_; intro A1 c1 w1 hown hgrow hat; simp only [Nat.zero_add, List.nil_append] at hown hat; have HO := Lib.hid hown; have k1 : Keeps w w1 [] := ((Keeps.refl w []).alloc _).grown hgrow (fun q hq => .inr (by simp [Value.ownBlock] at hq; omega)); have HK := Lib.hid k1; clear hown hgrow hat k1)
  refine (HDec.out A1 c1 w1 (own_room HO.out).1 (Rd.of_own HO.out)).mono ?_
  rintro e w2 ⟨Xa, Xf, Xp, Xc, xa, xf, xp, xc, rfl, hx, k2⟩
  have k2' := k2.alloc (.cells #[.slice Xa o.atoms.length xa, .slice Xf o.funs.length xf, .slice Xp o.preds.length xp, .slice Xc o.code.length xc] 30)
  have HX2 := Lib.hid (hx.keep ((Keeps.refl w2 []).alloc (.cells #[.slice Xa o.atoms.length xa, .slice Xf o.funs.length xf, .slice Xp o.preds.length xp, .slice Xc o.code.length xc] 30)))
  have HBx2 : Hid (Blk (w2.alloc (.cells #[.slice Xa o.atoms.length xa, .slice Xf o.funs.length xf, .slice Xp o.preds.length xp, .slice Xc o.code.length xc] 30)) w2.heap.size 30 #[.slice Xa o.atoms.length xa, .slice Xf o.funs.length xf, .slice Xp o.preds.length xp, .slice Xc o.code.length xc]) := Blk.new _ _ _
  have HK2 := Lib.hid (HK.out.trans k2')
  have HO2 := Lib.hid ((Rd.of_own HO.out).keep k2')
  clear hx k2 k2' HDec HO HK
  go_wp2_with fail
  refine (HRef.out _ HK2.out).mono ?_
  rintro e w3 ⟨Ya, Yf, Yp, Yc, ya, yf, yp, yc, rfl, hy, k3⟩
  have k3' := k3.alloc (.cells #[.slice Ya o.atoms.length ya, .slice Yf o.funs.length yf, .slice Yp o.preds.length yp, .slice Yc o.code.length yc] 38)
  have HY3 := Lib.hid (hy.keep ((Keeps.refl w3 []).alloc (.cells #[.slice Ya o.atoms.length ya, .slice Yf o.funs.length yf, .slice Yp o.preds.length yp, .slice Yc o.code.length yc] 38)))
  have HBy3 : Hid (Blk (w3.alloc (.cells #[.slice Ya o.atoms.length ya, .slice Yf o.funs.length yf, .slice Yp o.preds.length yp, .slice Yc o.code.length yc] 38)) w3.heap.size 38 #[.slice Ya o.atoms.length ya, .slice Yf o.funs.length yf, .slice Yp o.preds.length yp, .slice Yc o.code.length yc]) := Blk.new _ _ _
  have HX3 := Lib.hid (HX2.out.keep k3')
  have HBx3 := Lib.hid (HBx2.out.keep k3' (by simp))
  have HK3 := Lib.hid (HK2.out.trans k3')
  have HO3 := Lib.hid (HO2.out.keep k3')
  clear hy k3 k3' HRef HX2 HBx2 HK2 HO2
  go_upto_region 5 with fail
  generalize w3.alloc (.cells #[.slice Ya o.atoms.length ya, .slice Yf o.funs.length yf, .slice Yp o.preds.length yp, .slice Yc o.code.length yc] 38) = w4 at *
  generalize w3.heap.size = yb at *
  generalize w2.heap.size = xb at *
  have HP : Hid (∀ W', Keeps w4 W' [] → (W'.cell? ⟨xb, 0, none⟩ = some (.slice Xa o.atoms.length xa) ∧ W'.cell? ⟨xb, 1, none⟩ = some (.slice Xf o.funs.length xf) ∧ W'.cell? ⟨xb, 2, none⟩ = some (.slice Xp o.preds.length xp) ∧ W'.cell? ⟨xb, 3, none⟩ = some (.slice Xc o.code.length xc) ∧ W'.cell? ⟨yb, 0, none⟩ = some (.slice Ya o.atoms.length ya) ∧ W'.cell? ⟨yb, 1, none⟩ = some (.slice Yf o.funs.length yf) ∧ W'.cell? ⟨yb, 2, none⟩ = some (.slice Yp o.preds.length yp) ∧ W'.cell? ⟨yb, 3, none⟩ = some (.slice Yc o.code.length yc) ∧ (convert 22 9 (.slice A1 n c1)).run Try.prog W' = .ok (.string (strB l)) W' ∧ (convert 22 9 (.slice A n c)).run Try.prog W' = .ok (.string (strB l)) W')) := fun W' k => by
    have s := HBx3.out.keep k (by simp)
    have b := HBy3.out.keep k (by simp)
    exact ⟨s.cell 0, s.cell 1, s.cell 2, s.cell 3, b.cell 0, b.cell 1, b.cell 2, b.cell 3,
      conv_str W' 22 9 5 A1 n c1 l Try.underlying22 Try.underlying5 Try.underlying9 HL.out (HO3.out.keep k),
      conv_str W' 22 9 5 A n c l Try.underlying22 Try.underlying5 Try.underlying9 HL.out (HA.out.keep (HK3.out.trans k))⟩
  have hbq : ((strB l).toList == (strB l).toList) = true := beq_self_eq_true _
  have hcq : (code == code) = true := by simp
  have hcn : (code != code) = false := by simp
  refine wp_region_tx (fun W' => W'.cell? ⟨xb, 0, none⟩ = some (.slice Xa o.atoms.length xa) ∧ W'.cell? ⟨xb, 1, none⟩ = some (.slice Xf o.funs.length xf) ∧ W'.cell? ⟨xb, 2, none⟩ = some (.slice Xp o.preds.length xp) ∧ W'.cell? ⟨xb, 3, none⟩ = some (.slice Xc o.code.length xc) ∧ W'.cell? ⟨yb, 0, none⟩ = some (.slice Ya o.atoms.length ya) ∧ W'.cell? ⟨yb, 1, none⟩ = some (.slice Yf o.funs.length yf) ∧ W'.cell? ⟨yb, 2, none⟩ = some (.slice Yp o.preds.length yp) ∧ W'.cell? ⟨yb, 3, none⟩ = some (.slice Yc o.code.length yc) ∧ (convert 22 9 (.slice A1 n c1)).run Try.prog W' = .ok (.string (strB l)) W' ∧ (convert 22 9 (.slice A n c)).run Try.prog W' = .ok (.string (strB l)) W') [(0, false), (1, true), (2, true), (3, true), (4, true), (5, true), (6, true), (7, true), (8, true), (10, true), (9, false), (11, false), (12, true), (13, true), (14, true), (15, true), (16, true), (17, true), (18, true), (19, true), (20, false)] (by kernel_rfl) (by kernel_rfl) (by exact HP.out _ (Keeps.refl _ []).drew) (fun hHeld => ?_)
  refine wpTx_go rfl (fun K hK => ?_)
  go_simp
  refine (told_any _).mono ?_
  rintro e w5 ⟨rfl, k5⟩
  have K5 : Keeps w4 w5 [] := (Keeps.refl w4 []).drew.trans k5
  refine hK.out _ _ ?_ ?_
  · exact HP.out _ K5
  (clear hHeld; intro hHeld; clear hK K)
  (repeat (first | (refine wpTx_take (v := ?_) rfl (by assumption) ?_ (by rfl) ?_; rotate_left; (focus (intro w' hSw; (try dsimp only at hSw); go_simp; (try with_reducible rfl); done)); simp only [Act.put, List.setIfInBounds_toArray, List.set_cons_zero, List.set_cons_succ]) | (refine wpTx_skip rfl (by assumption) (by rfl) ?_; simp only [Act.put, List.setIfInBounds_toArray, List.set_cons_zero, List.set_cons_succ])))
  refine wpTx_go rfl (fun K hK => ?_)
  go_simp
  refine (from_any o _ _ _ _ _ _ _ _ _ _ _ _ _ (HX3.out.keep K5) HFit.out rfl rfl rfl rfl).mono ?_
  rintro e w6 ⟨Za, Zf, Zp, Zc, za, zf, zp, zc, rfl, hzo, k6⟩
  have K6 : Keeps w4 w6 [] := K5.trans k6
  refine hK.out _ _ ?_ ?_
  · exact HP.out _ K6
  (clear hHeld; intro hHeld; clear hK K; (try simp only [Act.put, List.setIfInBounds_toArray, List.set_cons_zero, List.set_cons_succ]))
  (repeat (first | (refine wpTx_take (v := ?_) rfl (by assumption) ?_ (by rfl) ?_; rotate_left; (focus (intro w' hSw; (try dsimp only at hSw); go_simp; (try with_reducible rfl); done)); simp only [Act.put, List.setIfInBounds_toArray, List.set_cons_zero, List.set_cons_succ]) | (refine wpTx_skip rfl (by assumption) (by rfl) ?_; simp only [Act.put, List.setIfInBounds_toArray, List.set_cons_zero, List.set_cons_succ])))
  refine wpTx_go rfl (fun K hK => ?_)
  go_simp
  refine (refSame_any o o _ _ _ _ _ _ _ _ _ _ _ _ _ _ _ _ _ _ _ _ _ _ _ _ _ (hzo.keep (Keeps.refl _ [])) (HY3.out.keep K6) HFit.out HFit.out rfl rfl rfl rfl rfl rfl rfl rfl).mono ?_
  rintro e w7 ⟨rfl, k7⟩
  have K7 : Keeps w4 w7 [] := K6.trans k7
  refine hK.out _ _ ?_ ?_
  · exact HP.out _ K7
  (clear hHeld; intro hHeld; clear hK K)
  (repeat (first | (refine wpTx_take (v := ?_) rfl (by assumption) ?_ (by rfl) ?_; rotate_left; (focus (intro w' hSw; (try dsimp only at hSw); go_simp; (try with_reducible rfl); done)); simp only [Act.put, List.setIfInBounds_toArray, List.set_cons_zero, List.set_cons_succ]) | (refine wpTx_skip rfl (by assumption) (by rfl) ?_; simp only [Act.put, List.setIfInBounds_toArray, List.set_cons_zero, List.set_cons_succ])))
  refine wpTx_last rfl (fun K hK => ?_)
  go_simp
  refine hK.out _ _ (NoPanic.normal ?_); clear hK K; (try simp only [Act.put, List.setIfInBounds_toArray, List.set_cons_zero, List.set_cons_succ])
  have p0 := (HBx3.out.keep K7 (by simp)).cell 0
  have p1 := (HBx3.out.keep K7 (by simp)).cell 1
  have p2 := (HBx3.out.keep K7 (by simp)).cell 2
  have p3 := (HBx3.out.keep K7 (by simp)).cell 3
  by_cases h0 : code = 0
  case neg =>
    have d0 : (code != 0) = true := by simpa using h0
    go_wp2_with fail
    go_ret
    exact ⟨by simp, HK3.out.trans K7⟩
  subst h0
  obtain ⟨hck, hen⟩ := HZ.out rfl
  have d0 : ((0 : Int) != 0) = false := by decide
  clear hHeld
  go_wp2_with fail
  refine (encode_any o _ _ _ _ _ _ _ _ _ _ _ _ _ (HX3.out.keep K7) HFit.out rfl rfl rfl rfl).mono ?_
  rintro e w8 ⟨k8, hE⟩
  rw [if_pos hck, hen, HL.out] at hE
  obtain ⟨E1, e1, rfl, ho1⟩ := hE
  have hc1 := conv_str w8 22 9 5 E1 n e1 l Try.underlying22 Try.underlying5 Try.underlying9 HL.out (Rd.of_own ho1)
  have hc2 := conv_str w8 22 9 5 A n c l Try.underlying22 Try.underlying5 Try.underlying9 HL.out (HA.out.keep ((HK3.out.trans K7).trans k8))
  clear p0 p1 p2 p3
  go_wp2_with fail
  go_ret
  exact ⟨by simp, (HK3.out.trans K7).trans k8⟩
theorem decodes_any (A : Option Addr) (n0 c : Nat) (L : List Int) (w : World) (hl : L.length = n0) (hc : n0 ≤ c) (hz : A = none → c = 0) (hA : Rd w A (u8s L)) (hB : IsByte L) :
    Calls Try.prog 3 #[.slice A n0 c] w (Told true w) := by
  by_cases h : n0 ≤ 2000
  · exact decodes_small A n0 n0 c L w hl (by rw [if_neg (by omega)]) h hc hz hA hB
  · refine decodes_small A n0 2000 c (L.take 2000) w (by rw [List.length_take]; omega) (by rw [if_pos (by omega)]; rfl) (Nat.le_refl _) (by omega) hz ?_ (isByte_take hB _)
    have := hA.take 2000
    simpa [u8s, List.map_take] using this
end Go.Proofs.Ytdcjiohbnnipdaa
