/- MguAlikes: the walk. Printed by gen_mgalikes.py. -/
import Derived.Test.YtjbomjnkjcafcaaMgRenB
import Derived.Test.YtjbomjnkjcafcaaMgTold
import Derived.Test.YtjbomjnkjcafcaaMgMostLaw
import Derived.Test.YtjbomjnkjcafcaaTmInts
namespace Go.Proofs.Ytjbomjnkjcafcaa
open Go.RowKit

theorem Trs.take {w : World} {S : Nat → Prop} {l : List Tm} {vs : List TV} (h : Trs w S l vs) (n : Nat) : Trs w S (l.take n) (vs.take n) :=
  ⟨by rw [List.length_take, List.length_take, h.len], fun j t v h1 h2 => by
    rw [List.getElem?_take] at h1 h2
    split at h1
    · rename_i hj
      rw [if_pos hj] at h2
      exact h.at_ j t v h1 h2
    · cases h1⟩
theorem flat_take : ∀ (vs : List TV) (n : Nat), (vs.flatMap tvE).take (n * 4) = (vs.take n).flatMap tvE
  | [], n => by simp
  | v :: vs, 0 => by simp
  | v :: vs, n + 1 => by
    rw [List.flatMap_cons, List.take_succ_cons, List.flatMap_cons, ← flat_take vs n, List.take_append, tvE_len, List.take_of_length_le (by rw [tvE_len]; omega), show (n + 1) * 4 - 4 = n * 4 by omega]
theorem Rd.takeT {w : World} {A : Option Addr} {vs : List TV} (h : Rd w A (vs.flatMap tvE)) (n : Nat) : Rd w A ((vs.take n).flatMap tvE) := by
  rw [← flat_take]
  exact h.take _
theorem kk_bound (fr : Int) : 0 ≤ wrap64 ((IntKind.u64.wrap fr).tmod 900) ∧ wrap64 ((IntKind.u64.wrap fr).tmod 900) ≤ 1000 := by
  have h : 0 ≤ IntKind.u64.wrap fr := by
    simp only [IntKind.wrap, IntKind.bits, IntKind.signed, Bool.false_and, Bool.false_eq_true, if_false]
    omega
  generalize IntKind.u64.wrap fr = q at h ⊢
  rw [Int.tmod_eq_emod_of_nonneg h]
  unfold wrap64
  omega
set_option maxRecDepth 100000 in
set_option maxHeartbeats 12800000 in
theorem mguAlikes_any (l0 : List Tm) (z0 : List TV) (Ax : Option Addr) (nx c0 : Nat) (l1 : List Tm) (z1 : List TV) (Ay : Option Addr) (ny c1 : Nat) (fr : Int) (w0 : World) (h0 : Trs w0 (fun _ => True) l0 z0) (r0 : Rd w0 Ax (z0.flatMap tvE)) (g0 : l0.length = nx) (h1 : Trs w0 (fun _ => True) l1 z1) (r1 : Rd w0 Ay (z1.flatMap tvE)) (g1 : l1.length = ny) :
    Calls Try.prog 6 #[.slice Ax nx c0, .slice Ay ny c1, .int .i64 fr] w0 fun e w' => e = .returned (.bool true) ∧ Keeps w0 w' [] := by
  have HFx : Hid (∀ (t : Tm) (v : TV) (w : World), Tr w (fun _ => True) t v → Calls Try.prog 7 #[.agg #[.int .i64 v.k, .int .i64 v.n, .string v.s, .slice v.A v.len v.c]] w (TDone [] (fun b => w.heap.size ≤ b) w (lFix t))) := fun t v w h => lFix_any t v w h
  obtain ⟨Lx, hLx⟩ : ∃ L, l0.take 4 = L := ⟨_, rfl⟩
  obtain ⟨Ly, hLy⟩ : ∃ L, l1.take 4 = L := ⟨_, rfl⟩
  obtain ⟨mx, hmx⟩ : ∃ m, min 4 nx = m := ⟨_, rfl⟩
  obtain ⟨my, hmy⟩ : ∃ m, min 4 ny = m := ⟨_, rfl⟩
  have HTx : Hid (Trs w0 (fun _ => True) Lx (z0.take 4)) := by rw [← hLx]; exact h0.take 4
  have HRx : Hid (Rd w0 Ax ((z0.take 4).flatMap tvE)) := r0.takeT 4
  have HMx : Hid (Lx.length = mx) := by show _ = _; rw [← hLx, List.length_take, g0, hmx]
  have HNx : Hid (mx = min 4 nx) := hmx.symm
  have HTy : Hid (Trs w0 (fun _ => True) Ly (z1.take 4)) := by rw [← hLy]; exact h1.take 4
  have HRy : Hid (Rd w0 Ay ((z1.take 4).flatMap tvE)) := r1.takeT 4
  have HMy : Hid (Ly.length = my) := by show _ = _; rw [← hLy, List.length_take, g1, hmy]
  have HNy : Hid (my = min 4 ny) := hmy.symm
  clear hLx hLy hmx hmy h0 r0 g0 h1 r1 g1
  go_enter Try.func6, Try.ntmps6
  go_wp2_with fail
  go_loopw [7, 9] (fun x7 x9 wr => ∃ (j : Nat) (A2 : Option Addr) (c2 : Nat) (us : List TV), j ≤ mx ∧ x9 = .int .i64 j ∧ x7 = .slice A2 j c2 ∧ LR 24 w0 wr ((Lx.take j).map lFix) us A2 j c2) (fun _ i _ => mx - (intOf i).toNat)
  case atStart => exact ⟨0, none, 0, [], Nat.zero_le _, rfl, rfl, LR.start _ (Keeps.refl _ _)⟩
  case round =>
    obtain ⟨j, A2, c2, us, hj, rfl, rfl, st⟩ := hrel
    have HS := Lib.hid st
    clear st
    by_cases hlt : j < mx
    · obtain ⟨a, hx⟩ := at_of HMx.out hlt
      have HX := Lib.hid hx
      obtain ⟨v', b, off, _, htr, hAe, hb, p0, p1, p2, p3⟩ := (HTx.out.keep HS.out.keep).get (HRx.out.keep HS.out.keep) hx
      subst hAe
      have HTr := Lib.hid htr
      have b0 : (0 : Int) ≤ (j : Int) := Int.natCast_nonneg _
      have b1 : (j : Int) < (nx : Int) := by have := HNx.out; omega
      have b2 : (j : Int) < 4 := by have := HNx.out; omega
      clear htr hx
      go_wp2_with fail
      refine (HFx.out a v' _ HTr.out).mono ?_
      rintro e w3 ⟨u, rfl, hu, k3⟩
      have HK3 := Lib.hid k3
      have HU := Lib.hid hu
      unfold tvV
      clear hu k3 p0 p1 p2 p3 hb
      go_wp2_with (at_builtin; have K5 := HK3.out.alloc (.cells #[.int .i64 u.k, .int .i64 u.n, .string u.s, .slice u.A u.len u.c] 24); have hz5 := K5.size; have hz6 := HS.out.keep.size; refine wpList_app _ el_rterm rfl (.tmp 25) (.tmp 31) rfl w0.heap.size A2 j c2 (us.flatMap tvE) rfl (own_keep0 HS.out.own K5) (some ⟨w3.heap.size, 0, none⟩) 1 1 (tvE u) rfl (Rd.one w3 _ (tvE u)) rfl (by simp) (by simp [tvE, Value.oneCell']) (by omega) (by omega) ?_; intro A' c' w2 hown hgrow hat; have HN := Lib.hid (HS.out.push K5 ((HU.out.keep ((Keeps.refl w3 []).alloc _)).mono fun b hb => by omega) hown hgrow hat); clear hown hgrow hat K5 hz5 hz6)
      go_roundw
      case rel =>
        have h1 := HN.out
        rw [show (Lx.take j).map lFix ++ [lFix a] = (Lx.take (j + 1)).map lFix by rw [List.take_add_one, HX.out, List.map_append]; rfl] at h1
        exact ⟨j + 1, A', c', _, by omega, by go_num, rfl, h1⟩
      case measure => simp [intOf]; omega
    · obtain rfl : mx = j := by omega
      have hs := HS.out
      rw [show (Lx.take mx).map lFix = Lx.map lFix by rw [← HMx.out, List.take_length]] at hs
      have HLx := Lib.hid (hs.trs.mono (S' := fun _ => True) fun _ _ => trivial)
      have HGx := Lib.hid (Rd.of_own hs.own)
      have HKx := Lib.hid hs.keep
      clear hs hlt hj HS
      obtain ⟨w1, rfl⟩ : ∃ w1, w1 = wr := ⟨wr, rfl⟩
      obtain ⟨ux, rfl⟩ : ∃ u, u = us := ⟨us, rfl⟩
      obtain ⟨Bx, rfl⟩ : ∃ u, u = A2 := ⟨A2, rfl⟩
      obtain ⟨dx, rfl⟩ : ∃ u, u = c2 := ⟨c2, rfl⟩
      by_cases h4 : mx < nx
      · have hm4 : mx = 4 := by have := HNx.out; omega
        have b1 : (mx : Int) < (nx : Int) := by omega
        have b2 : ¬ (mx : Int) < 4 := by omega
        clear hm4 h4
        go_wp2_with fail
        (try clear b2)
        clear b1
        obtain ⟨wA, rfl⟩ : ∃ wA, wA = w1 := ⟨w1, rfl⟩
        replace HTy := Lib.hid (HTy.out.keep HKx.out)
        replace HRy := Lib.hid (HRy.out.keep HKx.out)
        go_loopw [8, 10] (fun x8 x10 wr => ∃ (j : Nat) (A2 : Option Addr) (c2 : Nat) (us : List TV), j ≤ my ∧ x10 = .int .i64 j ∧ x8 = .slice A2 j c2 ∧ LR 24 wA wr ((Ly.take j).map lFix) us A2 j c2) (fun _ i _ => my - (intOf i).toNat)
        case atStart => exact ⟨0, none, 0, [], Nat.zero_le _, rfl, rfl, LR.start _ (Keeps.refl _ _)⟩
        case round =>
          obtain ⟨j, A2, c2, us, hj, rfl, rfl, st⟩ := hrel
          have HS := Lib.hid st
          clear st
          by_cases hlt : j < my
          · obtain ⟨a, hx⟩ := at_of HMy.out hlt
            have HX := Lib.hid hx
            obtain ⟨v', b, off, _, htr, hAe, hb, p0, p1, p2, p3⟩ := (HTy.out.keep HS.out.keep).get (HRy.out.keep HS.out.keep) hx
            subst hAe
            have HTr := Lib.hid htr
            have b0 : (0 : Int) ≤ (j : Int) := Int.natCast_nonneg _
            have b1 : (j : Int) < (ny : Int) := by have := HNy.out; omega
            have b2 : (j : Int) < 4 := by have := HNy.out; omega
            clear htr hx
            go_wp2_with fail
            refine (HFx.out a v' _ HTr.out).mono ?_
            rintro e w3 ⟨u, rfl, hu, k3⟩
            have HK3 := Lib.hid k3
            have HU := Lib.hid hu
            unfold tvV
            clear hu k3 p0 p1 p2 p3 hb
            go_wp2_with (at_builtin; have K5 := HK3.out.alloc (.cells #[.int .i64 u.k, .int .i64 u.n, .string u.s, .slice u.A u.len u.c] 24); have hz5 := K5.size; have hz6 := HS.out.keep.size; refine wpList_app _ el_rterm rfl (.tmp 43) (.tmp 49) rfl wA.heap.size A2 j c2 (us.flatMap tvE) rfl (own_keep0 HS.out.own K5) (some ⟨w3.heap.size, 0, none⟩) 1 1 (tvE u) rfl (Rd.one w3 _ (tvE u)) rfl (by simp) (by simp [tvE, Value.oneCell']) (by omega) (by omega) ?_; intro A' c' w2 hown hgrow hat; have HN := Lib.hid (HS.out.push K5 ((HU.out.keep ((Keeps.refl w3 []).alloc _)).mono fun b hb => by omega) hown hgrow hat); clear hown hgrow hat K5 hz5 hz6)
            go_roundw
            case rel =>
              have h1 := HN.out
              rw [show (Ly.take j).map lFix ++ [lFix a] = (Ly.take (j + 1)).map lFix by rw [List.take_add_one, HX.out, List.map_append]; rfl] at h1
              exact ⟨j + 1, A', c', _, by omega, by go_num, rfl, h1⟩
            case measure => simp [intOf]; omega
          · obtain rfl : my = j := by omega
            have hs := HS.out
            rw [show (Ly.take my).map lFix = Ly.map lFix by rw [← HMy.out, List.take_length]] at hs
            have HLy := Lib.hid (hs.trs.mono (S' := fun _ => True) fun _ _ => trivial)
            have HGy := Lib.hid (Rd.of_own hs.own)
            have HKy := Lib.hid hs.keep
            clear hs hlt hj HS
            obtain ⟨w1, rfl⟩ : ∃ w1, w1 = wr := ⟨wr, rfl⟩
            obtain ⟨uy, rfl⟩ : ∃ u, u = us := ⟨us, rfl⟩
            obtain ⟨By, rfl⟩ : ∃ u, u = A2 := ⟨A2, rfl⟩
            obtain ⟨dy, rfl⟩ : ∃ u, u = c2 := ⟨c2, rfl⟩
            by_cases h4 : my < ny
            · have hm4 : my = 4 := by have := HNy.out; omega
              have b1 : (my : Int) < (ny : Int) := by omega
              have b2 : ¬ (my : Int) < 4 := by omega
              clear hm4 h4
              go_wp2_with fail
              (try clear b2)
              clear b1
              have hkb := kk_bound fr
              generalize wrap64 ((IntKind.u64.wrap fr).tmod 900) = kk at hkb ⊢
              obtain ⟨X, hXe⟩ : ∃ X, Lx.map lFix = X := ⟨_, rfl⟩
              obtain ⟨Y, hYe⟩ : ∃ Y, Ly.map lFix = Y := ⟨_, rfl⟩
              have HXin : Hid (∀ a ∈ X, In Vs6 a) := by intro a ha; rw [← hXe] at ha; obtain ⟨b, _, rfl⟩ := List.mem_map.1 ha; exact lFix_in b
              have HYin : Hid (∀ a ∈ Y, In Vs6 a) := by intro a ha; rw [← hYe] at ha; obtain ⟨b, _, rfl⟩ := List.mem_map.1 ha; exact lFix_in b
              have HXl : Hid (X.length = mx) := by show _ = _; rw [← hXe, List.length_map, HMx.out]
              have HYl : Hid (Y.length = my) := by show _ = _; rw [← hYe, List.length_map, HMy.out]
              rw [hXe] at HLx
              rw [hYe] at HLy
              have hx4 : mx ≤ 1000000 := by have := HNx.out; omega
              have hy4 : my ≤ 1000000 := by have := HNy.out; omega
              have HXr : Hid (∀ a ∈ X, tRight a = true) := fun a ha => (HXin.out a ha).rt
              have HYr : Hid (∀ a ∈ Y, tRight a = true) := fun a ha => (HYin.out a ha).rt
              have HXw : Hid (∀ a ∈ X, tWid a) := fun a ha => tWid_of_right (HXr.out a ha)
              have HYw : Hid (∀ a ∈ Y, tWid a) := fun a ha => tWid_of_right (HYr.out a ha)
              have HXv : Hid ((tVars X).length ≤ 1000000) := Nat.le_trans (vars_six HXin.out) (by decide)
              have HYv : Hid ((tVars Y).length ≤ 1000000) := Nat.le_trans (vars_six HYin.out) (by decide)
              have HTX : Hid (Trs w1 (fun _ => True) X ux) := HLx.out.keep HKy.out
              have HRX : Hid (Rd w1 Bx (ux.flatMap tvE)) := HGx.out.keep HKy.out
              have HTY : Hid (Trs w1 (fun _ => True) Y uy) := HLy.out
              have HRY : Hid (Rd w1 By (uy.flatMap tvE)) := HGy.out
              have HK1 : Hid (Keeps w0 w1 []) := HKx.out.trans HKy.out
              have HZl : Hid ((rn kk X).length = mx) := by show _ = _; rw [rn_len, HXl.out]
              have HZw : Hid (∀ a ∈ rn kk X, tWid a) := by intro a ha; obtain ⟨b, hb, rfl⟩ := List.mem_map.1 ha; exact tRn_wid _ b (HXw.out b hb)
              have HZv : Hid ((tVars (rn kk X)).length ≤ 1000000) := by show _ ≤ _; rw [(rn_rn kk HXr.out).2]; exact HXv.out
              have HZs : Hid (tSames (rn 0 X) (rn 0 (rn kk X)) = true) := (tSames_iff _ _).2 (rn_rn kk HXr.out).1.symm
              obtain ⟨B, hB⟩ : ∃ B, tSames (rn 0 X) (rn 0 Y) = B := ⟨_, rfl⟩
              have HB := Lib.hid hB
              have hkk := hkb.2
              have hk0 := hkb.1
              have HKb : Hid (0 ≤ kk ∧ kk ≤ 1000000) := ⟨hk0, by omega⟩
              clear hkb hkk hk0 hB hXe hYe HMx HMy HNx HNy HLx HLy HGx HGy HKx HKy HTx HRx HTy HRy HFx
              refine (terms_any X ux Bx mx dx w1 HTX.out HRX.out HXl.out hx4 HXw.out).mono ?_
              rintro e w2 ⟨T1, t1, ut, rfl, ht, hr, k⟩
              have K2 := Lib.hid (k)
              rw [HXl.out]
              have HTt := Lib.hid ht
              have HRt := Lib.hid hr
              clear ht hr
              clear k
              go_wp2_with fail
              refine (rename_any kk HKb.out.1 HKb.out.2 X ut T1 mx t1 _ HTt.out HRt.out HXl.out hx4 HXw.out HXv.out).mono ?_
              rintro e w3 ⟨Z, zc, uz, rfl, hz, hzr, k⟩
              have K3 := Lib.hid (K2.out.trans k)
              rw [HZl.out]
              have HTz := Lib.hid hz
              have HRz := Lib.hid hzr
              clear hz hzr
              clear k
              go_wp2_with fail
              refine (refRenameL_any kk HKb.out.1 HKb.out.2 X ux Bx mx dx _ (HTX.out.keep K3.out) (HRX.out.keep K3.out) HXl.out hx4 HXr.out HXv.out).mono ?_
              rintro e w4 ⟨D, dc, ud, rfl, hd, hdr, k⟩
              have K4 := Lib.hid (K3.out.trans k)
              rw [HZl.out]
              have HTd := Lib.hid hd
              have HRd := Lib.hid hdr
              have HTz4 := Lib.hid (HTz.out.keep k)
              have HRz4 := Lib.hid (HRz.out.keep k)
              clear hd hdr HTz HRz
              clear k
              go_wp2_with fail
              refine (told4_any _).mono ?_
              rintro e w5 ⟨rfl, k⟩
              have K5 := Lib.hid (K4.out.trans k)
              have HTd5 := Lib.hid (HTd.out.keep k)
              have HRd5 := Lib.hid (HRd.out.keep k)
              have HTz5 := Lib.hid (HTz4.out.keep k)
              have HRz5 := Lib.hid (HRz4.out.keep k)
              have M5 : Hid (Keeps w5 w5 []) := Keeps.refl _ _
              clear HTd HRd HTz4 HRz4
              clear k
              go_wp2_with fail
              refine (terms_any X ux Bx mx dx _ (HTX.out.keep K5.out) (HRX.out.keep K5.out) HXl.out hx4 HXw.out).mono ?_
              rintro e w6 ⟨T6, t6, u6, rfl, h6, r6, k⟩
              have K6 := Lib.hid (K5.out.trans k)
              have M6 := Lib.hid (M5.out.trans k)
              rw [HXl.out]
              have HT6 := Lib.hid h6
              have HR6 := Lib.hid r6
              clear h6 r6
              clear k
              go_wp2_with fail
              refine (terms_any Y uy By my dy _ (HTY.out.keep K6.out) (HRY.out.keep K6.out) HYl.out hy4 HYw.out).mono ?_
              rintro e w7 ⟨T7, t7, u7, rfl, h7, r7, k⟩
              have K7 := Lib.hid (K6.out.trans k)
              have M7 := Lib.hid (M6.out.trans k)
              rw [HYl.out]
              have HT7 := Lib.hid h7
              have HR7 := Lib.hid r7
              have HT67 := Lib.hid (HT6.out.keep k)
              have HR67 := Lib.hid (HR6.out.keep k)
              clear h7 r7 HT6 HR6
              clear k
              go_wp2_with fail
              refine (alikeL_any X Y u6 u7 T6 T7 mx t6 my t7 _ HT67.out HR67.out HXl.out hx4 HXw.out HXv.out HT7.out HR7.out HYl.out hy4 HYw.out HYv.out).mono ?_
              rintro e w8 ⟨rfl, k⟩
              have K8 := Lib.hid (K7.out.trans k)
              have M8 := Lib.hid (M7.out.trans k)
              rw [HB.out]
              clear k
              go_wp2_with fail
              refine (refAlikeL_any X Y ux uy Bx By mx dx my dy _ (HTX.out.keep K8.out) (HRX.out.keep K8.out) HXl.out hx4 HXr.out HXv.out (HTY.out.keep K8.out) (HRY.out.keep K8.out) HYl.out hy4 HYr.out HYv.out).mono ?_
              rintro e w9 ⟨rfl, k⟩
              have K9 := Lib.hid (K8.out.trans k)
              have M9 := Lib.hid (M8.out.trans k)
              rw [HB.out]
              clear k
              go_wp2_with fail
              refine (terms_any X ux Bx mx dx _ (HTX.out.keep K9.out) (HRX.out.keep K9.out) HXl.out hx4 HXw.out).mono ?_
              rintro e w10 ⟨T10, t10, u10, rfl, h10, r10, k⟩
              have K10 := Lib.hid (K9.out.trans k)
              have M10 := Lib.hid (M9.out.trans k)
              rw [HXl.out]
              have HT10 := Lib.hid h10
              have HR10 := Lib.hid r10
              clear h10 r10
              clear k
              go_wp2_with fail
              refine (alikeL_any X (rn kk X) u10 uz T10 Z mx t10 mx zc _ HT10.out HR10.out HXl.out hx4 HXw.out HXv.out (HTz5.out.keep M10.out) (HRz5.out.keep M10.out) HZl.out hx4 HZw.out HZv.out).mono ?_
              rintro e w11 ⟨rfl, k⟩
              have K11 := Lib.hid (K10.out.trans k)
              have M11 := Lib.hid (M10.out.trans k)
              rw [HZs.out]
              have HTe := Lib.hid (HTz5.out.keep M11.out)
              have HRe := Lib.hid (HRz5.out.keep M11.out)
              have HTf := Lib.hid (HTd5.out.keep M11.out)
              have HRf := Lib.hid (HRd5.out.keep M11.out)
              have HKe := Lib.hid (HK1.out.trans K11.out)
              clear k
              go_wp2_with fail
              clear K2 K3 K4 K5 K6 K7 K8 K9 K10 K11 M5 M6 M7 M8 M9 M10 M11 HT67 HR67 HT7 HR7 HT10 HR10 HTd5 HRd5 HTz5 HRz5 HTX HRX HTY HRY HTt HRt HK1 HXin HYin
              have HFr : Hid (∀ (t : Tm) (v : TV) (w : World), tWid t → Tr w (fun _ => True) t v → Calls Try.prog 17 #[.agg #[.int .i64 v.k, .int .i64 v.n, .string v.s, .slice v.A v.len v.c]] w (TDone [] (fun b => w.heap.size ≤ b) w t)) := fun t v w h1 h2 => tmFromW_any t v w h2 h1
              have HSm : Hid (∀ (t : Tm) (u v : TV) (w : World), Tr w (fun _ => True) t u → Tr w (fun _ => True) t v → Calls Try.prog 16 #[.agg #[.int .i64 u.k, .int .i64 u.n, .string u.s, .slice u.A u.len u.c], .agg #[.int .i64 v.k, .int .i64 v.n, .string v.s, .slice v.A v.len v.c]] w fun e w' => e = .returned (.bool true) ∧ Keeps w w' []) := fun t u v w h1 h2 => by
                have h3 := refSame_any t t u v w h1 h2
                rw [(tSame_iff t t).2 rfl] at h3
                exact h3
              go_loopw [14] (fun x14 wr => ∃ j : Nat, j ≤ mx ∧ x14 = .int .i64 j ∧ Keeps w11 wr []) (fun x14 _ => mx - (intOf x14).toNat)
              case atStart => exact ⟨0, Nat.zero_le _, rfl, Keeps.refl _ _⟩
              case round =>
                obtain ⟨j, hj, rfl, hkeep⟩ := hrel
                have HK := Lib.hid hkeep
                by_cases hlt : j < mx
                · obtain ⟨a, hx⟩ := at_of HZl.out hlt
                  have HWa : Hid (tWid a) := HZw.out a (List.mem_of_getElem? hx)
                  obtain ⟨u, b, off, _, htr, hA1, hb, p0, p1, p2, p3⟩ := (HTe.out.keep hkeep).get (HRe.out.keep hkeep) hx
                  obtain ⟨v, b', off', _, htr', hA2, hb', q0, q1, q2, q3⟩ := (HTf.out.keep hkeep).get (HRf.out.keep hkeep) hx
                  subst hA1 hA2
                  have HW : Hid (∀ W', Keeps wr W' [] → W'.cell? ⟨b, off + j * 4, none⟩ = some (.int .i64 u.k) ∧ W'.cell? ⟨b, off + j * 4 + 1, none⟩ = some (.int .i64 u.n) ∧ W'.cell? ⟨b, off + j * 4 + 2, none⟩ = some (.string u.s) ∧ W'.cell? ⟨b, off + j * 4 + 3, none⟩ = some (.slice u.A u.len u.c) ∧ W'.cell? ⟨b', off' + j * 4, none⟩ = some (.int .i64 v.k) ∧ W'.cell? ⟨b', off' + j * 4 + 1, none⟩ = some (.int .i64 v.n) ∧ W'.cell? ⟨b', off' + j * 4 + 2, none⟩ = some (.string v.s) ∧ W'.cell? ⟨b', off' + j * 4 + 3, none⟩ = some (.slice v.A v.len v.c)) := fun W' kk => ⟨(kk.cell0 hb).trans p0, (kk.cell0 hb).trans p1, (kk.cell0 hb).trans p2, (kk.cell0 hb).trans p3, (kk.cell0 hb').trans q0, (kk.cell0 hb').trans q1, (kk.cell0 hb').trans q2, (kk.cell0 hb').trans q3⟩
                  have HU := Lib.hid htr
                  have HV := Lib.hid htr'
                  have b0 : (0 : Int) ≤ (j : Int) := Int.natCast_nonneg _
                  have b1 : (j : Int) < (mx : Int) := by omega
                  clear hx htr htr' hb hb' p0 p1 p2 p3 q0 q1 q2 q3 hkeep
                  go_upto_region 17 with fail
                  refine wp_region_tx (fun W' => W'.cell? ⟨b, off + j * 4, none⟩ = some (.int .i64 u.k) ∧ W'.cell? ⟨b, off + j * 4 + 1, none⟩ = some (.int .i64 u.n) ∧ W'.cell? ⟨b, off + j * 4 + 2, none⟩ = some (.string u.s) ∧ W'.cell? ⟨b, off + j * 4 + 3, none⟩ = some (.slice u.A u.len u.c) ∧ W'.cell? ⟨b', off' + j * 4, none⟩ = some (.int .i64 v.k) ∧ W'.cell? ⟨b', off' + j * 4 + 1, none⟩ = some (.int .i64 v.n) ∧ W'.cell? ⟨b', off' + j * 4 + 2, none⟩ = some (.string v.s) ∧ W'.cell? ⟨b', off' + j * 4 + 3, none⟩ = some (.slice v.A v.len v.c)) [(0, true), (1, true), (2, true), (3, true), (5, true), (6, true), (7, true), (8, true), (4, false), (9, false), (10, false)] (by kernel_rfl) (by kernel_rfl) (HW.out _ (Keeps.refl _ []).drew) (fun hHeld => ?_)
                  (repeat (first | (refine wpTx_take (v := ?_) rfl (by assumption) ?_ (by rfl) ?_; rotate_left; (focus (intro w' hSw; (try dsimp only at hSw); go_simp; (try with_reducible rfl); done)); simp only [Act.put, List.setIfInBounds_toArray, List.set_cons_zero, List.set_cons_succ]) | (refine wpTx_skip rfl (by assumption) (by rfl) ?_; simp only [Act.put, List.setIfInBounds_toArray, List.set_cons_zero, List.set_cons_succ])))
                  refine wpTx_go rfl (fun K hK => ?_)
                  go_simp
                  refine (HFr.out a u _ HWa.out (HU.out.keep (Keeps.refl _ []).drew)).mono ?_
                  rintro e w13 ⟨f, rfl, hf, k13⟩
                  have HF1 := Lib.hid (hf.mono (S' := fun _ => True) fun _ _ => trivial)
                  have K13 := Lib.hid ((Keeps.refl wr []).drew.trans k13)
                  unfold tvV
                  clear hf k13
                  refine hK.out _ _ ?_ ?_
                  · exact HW.out _ K13.out
                  (clear hHeld; intro hHeld; clear hK K; (try simp only [Act.put, List.setIfInBounds_toArray, List.set_cons_zero, List.set_cons_succ]))
                  refine wpTx_go rfl (fun K hK => ?_)
                  go_simp
                  refine (HSm.out a f v _ HF1.out (HV.out.keep K13.out)).mono ?_
                  rintro e w14 ⟨rfl, k14⟩
                  have K14 := Lib.hid (K13.out.trans k14)
                  clear k14
                  refine hK.out _ _ ?_ ?_
                  · exact HW.out _ K14.out
                  (clear hHeld; intro hHeld; clear hK K; (try simp only [Act.put, List.setIfInBounds_toArray, List.set_cons_zero, List.set_cons_succ]))
                  refine wpTx_last rfl (fun K hK => ?_)
                  go_simp
                  refine hK.out _ _ (NoPanic.normal ?_); clear hK K; (try simp only [Act.put, List.setIfInBounds_toArray, List.set_cons_zero, List.set_cons_succ])
                  go_wp2_with fail
                  go_roundw
                  case rel => exact ⟨j + 1, by omega, by go_num, HK.out.trans K14.out⟩
                  case measure => simp [intOf]; omega
                · obtain rfl : mx = j := by omega
                  have HK9 := Lib.hid (HKe.out.trans hkeep)
                  clear hlt hj hkeep
                  go_wp2_with fail
                  go_ret
                  exact ⟨rfl, HK9.out⟩
            · have b1 : ¬ (my : Int) < (ny : Int) := by omega
              clear h4
              go_wp2_with fail
              (try clear b2)
              clear b1
              have hkb := kk_bound fr
              generalize wrap64 ((IntKind.u64.wrap fr).tmod 900) = kk at hkb ⊢
              obtain ⟨X, hXe⟩ : ∃ X, Lx.map lFix = X := ⟨_, rfl⟩
              obtain ⟨Y, hYe⟩ : ∃ Y, Ly.map lFix = Y := ⟨_, rfl⟩
              have HXin : Hid (∀ a ∈ X, In Vs6 a) := by intro a ha; rw [← hXe] at ha; obtain ⟨b, _, rfl⟩ := List.mem_map.1 ha; exact lFix_in b
              have HYin : Hid (∀ a ∈ Y, In Vs6 a) := by intro a ha; rw [← hYe] at ha; obtain ⟨b, _, rfl⟩ := List.mem_map.1 ha; exact lFix_in b
              have HXl : Hid (X.length = mx) := by show _ = _; rw [← hXe, List.length_map, HMx.out]
              have HYl : Hid (Y.length = my) := by show _ = _; rw [← hYe, List.length_map, HMy.out]
              rw [hXe] at HLx
              rw [hYe] at HLy
              have hx4 : mx ≤ 1000000 := by have := HNx.out; omega
              have hy4 : my ≤ 1000000 := by have := HNy.out; omega
              have HXr : Hid (∀ a ∈ X, tRight a = true) := fun a ha => (HXin.out a ha).rt
              have HYr : Hid (∀ a ∈ Y, tRight a = true) := fun a ha => (HYin.out a ha).rt
              have HXw : Hid (∀ a ∈ X, tWid a) := fun a ha => tWid_of_right (HXr.out a ha)
              have HYw : Hid (∀ a ∈ Y, tWid a) := fun a ha => tWid_of_right (HYr.out a ha)
              have HXv : Hid ((tVars X).length ≤ 1000000) := Nat.le_trans (vars_six HXin.out) (by decide)
              have HYv : Hid ((tVars Y).length ≤ 1000000) := Nat.le_trans (vars_six HYin.out) (by decide)
              have HTX : Hid (Trs w1 (fun _ => True) X ux) := HLx.out.keep HKy.out
              have HRX : Hid (Rd w1 Bx (ux.flatMap tvE)) := HGx.out.keep HKy.out
              have HTY : Hid (Trs w1 (fun _ => True) Y uy) := HLy.out
              have HRY : Hid (Rd w1 By (uy.flatMap tvE)) := HGy.out
              have HK1 : Hid (Keeps w0 w1 []) := HKx.out.trans HKy.out
              have HZl : Hid ((rn kk X).length = mx) := by show _ = _; rw [rn_len, HXl.out]
              have HZw : Hid (∀ a ∈ rn kk X, tWid a) := by intro a ha; obtain ⟨b, hb, rfl⟩ := List.mem_map.1 ha; exact tRn_wid _ b (HXw.out b hb)
              have HZv : Hid ((tVars (rn kk X)).length ≤ 1000000) := by show _ ≤ _; rw [(rn_rn kk HXr.out).2]; exact HXv.out
              have HZs : Hid (tSames (rn 0 X) (rn 0 (rn kk X)) = true) := (tSames_iff _ _).2 (rn_rn kk HXr.out).1.symm
              obtain ⟨B, hB⟩ : ∃ B, tSames (rn 0 X) (rn 0 Y) = B := ⟨_, rfl⟩
              have HB := Lib.hid hB
              have hkk := hkb.2
              have hk0 := hkb.1
              have HKb : Hid (0 ≤ kk ∧ kk ≤ 1000000) := ⟨hk0, by omega⟩
              clear hkb hkk hk0 hB hXe hYe HMx HMy HNx HNy HLx HLy HGx HGy HKx HKy HTx HRx HTy HRy HFx
              refine (terms_any X ux Bx mx dx w1 HTX.out HRX.out HXl.out hx4 HXw.out).mono ?_
              rintro e w2 ⟨T1, t1, ut, rfl, ht, hr, k⟩
              have K2 := Lib.hid (k)
              rw [HXl.out]
              have HTt := Lib.hid ht
              have HRt := Lib.hid hr
              clear ht hr
              clear k
              go_wp2_with fail
              refine (rename_any kk HKb.out.1 HKb.out.2 X ut T1 mx t1 _ HTt.out HRt.out HXl.out hx4 HXw.out HXv.out).mono ?_
              rintro e w3 ⟨Z, zc, uz, rfl, hz, hzr, k⟩
              have K3 := Lib.hid (K2.out.trans k)
              rw [HZl.out]
              have HTz := Lib.hid hz
              have HRz := Lib.hid hzr
              clear hz hzr
              clear k
              go_wp2_with fail
              refine (refRenameL_any kk HKb.out.1 HKb.out.2 X ux Bx mx dx _ (HTX.out.keep K3.out) (HRX.out.keep K3.out) HXl.out hx4 HXr.out HXv.out).mono ?_
              rintro e w4 ⟨D, dc, ud, rfl, hd, hdr, k⟩
              have K4 := Lib.hid (K3.out.trans k)
              rw [HZl.out]
              have HTd := Lib.hid hd
              have HRd := Lib.hid hdr
              have HTz4 := Lib.hid (HTz.out.keep k)
              have HRz4 := Lib.hid (HRz.out.keep k)
              clear hd hdr HTz HRz
              clear k
              go_wp2_with fail
              refine (told4_any _).mono ?_
              rintro e w5 ⟨rfl, k⟩
              have K5 := Lib.hid (K4.out.trans k)
              have HTd5 := Lib.hid (HTd.out.keep k)
              have HRd5 := Lib.hid (HRd.out.keep k)
              have HTz5 := Lib.hid (HTz4.out.keep k)
              have HRz5 := Lib.hid (HRz4.out.keep k)
              have M5 : Hid (Keeps w5 w5 []) := Keeps.refl _ _
              clear HTd HRd HTz4 HRz4
              clear k
              go_wp2_with fail
              refine (terms_any X ux Bx mx dx _ (HTX.out.keep K5.out) (HRX.out.keep K5.out) HXl.out hx4 HXw.out).mono ?_
              rintro e w6 ⟨T6, t6, u6, rfl, h6, r6, k⟩
              have K6 := Lib.hid (K5.out.trans k)
              have M6 := Lib.hid (M5.out.trans k)
              rw [HXl.out]
              have HT6 := Lib.hid h6
              have HR6 := Lib.hid r6
              clear h6 r6
              clear k
              go_wp2_with fail
              refine (terms_any Y uy By my dy _ (HTY.out.keep K6.out) (HRY.out.keep K6.out) HYl.out hy4 HYw.out).mono ?_
              rintro e w7 ⟨T7, t7, u7, rfl, h7, r7, k⟩
              have K7 := Lib.hid (K6.out.trans k)
              have M7 := Lib.hid (M6.out.trans k)
              rw [HYl.out]
              have HT7 := Lib.hid h7
              have HR7 := Lib.hid r7
              have HT67 := Lib.hid (HT6.out.keep k)
              have HR67 := Lib.hid (HR6.out.keep k)
              clear h7 r7 HT6 HR6
              clear k
              go_wp2_with fail
              refine (alikeL_any X Y u6 u7 T6 T7 mx t6 my t7 _ HT67.out HR67.out HXl.out hx4 HXw.out HXv.out HT7.out HR7.out HYl.out hy4 HYw.out HYv.out).mono ?_
              rintro e w8 ⟨rfl, k⟩
              have K8 := Lib.hid (K7.out.trans k)
              have M8 := Lib.hid (M7.out.trans k)
              rw [HB.out]
              clear k
              go_wp2_with fail
              refine (refAlikeL_any X Y ux uy Bx By mx dx my dy _ (HTX.out.keep K8.out) (HRX.out.keep K8.out) HXl.out hx4 HXr.out HXv.out (HTY.out.keep K8.out) (HRY.out.keep K8.out) HYl.out hy4 HYr.out HYv.out).mono ?_
              rintro e w9 ⟨rfl, k⟩
              have K9 := Lib.hid (K8.out.trans k)
              have M9 := Lib.hid (M8.out.trans k)
              rw [HB.out]
              clear k
              go_wp2_with fail
              refine (terms_any X ux Bx mx dx _ (HTX.out.keep K9.out) (HRX.out.keep K9.out) HXl.out hx4 HXw.out).mono ?_
              rintro e w10 ⟨T10, t10, u10, rfl, h10, r10, k⟩
              have K10 := Lib.hid (K9.out.trans k)
              have M10 := Lib.hid (M9.out.trans k)
              rw [HXl.out]
              have HT10 := Lib.hid h10
              have HR10 := Lib.hid r10
              clear h10 r10
              clear k
              go_wp2_with fail
              refine (alikeL_any X (rn kk X) u10 uz T10 Z mx t10 mx zc _ HT10.out HR10.out HXl.out hx4 HXw.out HXv.out (HTz5.out.keep M10.out) (HRz5.out.keep M10.out) HZl.out hx4 HZw.out HZv.out).mono ?_
              rintro e w11 ⟨rfl, k⟩
              have K11 := Lib.hid (K10.out.trans k)
              have M11 := Lib.hid (M10.out.trans k)
              rw [HZs.out]
              have HTe := Lib.hid (HTz5.out.keep M11.out)
              have HRe := Lib.hid (HRz5.out.keep M11.out)
              have HTf := Lib.hid (HTd5.out.keep M11.out)
              have HRf := Lib.hid (HRd5.out.keep M11.out)
              have HKe := Lib.hid (HK1.out.trans K11.out)
              clear k
              go_wp2_with fail
              clear K2 K3 K4 K5 K6 K7 K8 K9 K10 K11 M5 M6 M7 M8 M9 M10 M11 HT67 HR67 HT7 HR7 HT10 HR10 HTd5 HRd5 HTz5 HRz5 HTX HRX HTY HRY HTt HRt HK1 HXin HYin
              have HFr : Hid (∀ (t : Tm) (v : TV) (w : World), tWid t → Tr w (fun _ => True) t v → Calls Try.prog 17 #[.agg #[.int .i64 v.k, .int .i64 v.n, .string v.s, .slice v.A v.len v.c]] w (TDone [] (fun b => w.heap.size ≤ b) w t)) := fun t v w h1 h2 => tmFromW_any t v w h2 h1
              have HSm : Hid (∀ (t : Tm) (u v : TV) (w : World), Tr w (fun _ => True) t u → Tr w (fun _ => True) t v → Calls Try.prog 16 #[.agg #[.int .i64 u.k, .int .i64 u.n, .string u.s, .slice u.A u.len u.c], .agg #[.int .i64 v.k, .int .i64 v.n, .string v.s, .slice v.A v.len v.c]] w fun e w' => e = .returned (.bool true) ∧ Keeps w w' []) := fun t u v w h1 h2 => by
                have h3 := refSame_any t t u v w h1 h2
                rw [(tSame_iff t t).2 rfl] at h3
                exact h3
              go_loopw [14] (fun x14 wr => ∃ j : Nat, j ≤ mx ∧ x14 = .int .i64 j ∧ Keeps w11 wr []) (fun x14 _ => mx - (intOf x14).toNat)
              case atStart => exact ⟨0, Nat.zero_le _, rfl, Keeps.refl _ _⟩
              case round =>
                obtain ⟨j, hj, rfl, hkeep⟩ := hrel
                have HK := Lib.hid hkeep
                by_cases hlt : j < mx
                · obtain ⟨a, hx⟩ := at_of HZl.out hlt
                  have HWa : Hid (tWid a) := HZw.out a (List.mem_of_getElem? hx)
                  obtain ⟨u, b, off, _, htr, hA1, hb, p0, p1, p2, p3⟩ := (HTe.out.keep hkeep).get (HRe.out.keep hkeep) hx
                  obtain ⟨v, b', off', _, htr', hA2, hb', q0, q1, q2, q3⟩ := (HTf.out.keep hkeep).get (HRf.out.keep hkeep) hx
                  subst hA1 hA2
                  have HW : Hid (∀ W', Keeps wr W' [] → W'.cell? ⟨b, off + j * 4, none⟩ = some (.int .i64 u.k) ∧ W'.cell? ⟨b, off + j * 4 + 1, none⟩ = some (.int .i64 u.n) ∧ W'.cell? ⟨b, off + j * 4 + 2, none⟩ = some (.string u.s) ∧ W'.cell? ⟨b, off + j * 4 + 3, none⟩ = some (.slice u.A u.len u.c) ∧ W'.cell? ⟨b', off' + j * 4, none⟩ = some (.int .i64 v.k) ∧ W'.cell? ⟨b', off' + j * 4 + 1, none⟩ = some (.int .i64 v.n) ∧ W'.cell? ⟨b', off' + j * 4 + 2, none⟩ = some (.string v.s) ∧ W'.cell? ⟨b', off' + j * 4 + 3, none⟩ = some (.slice v.A v.len v.c)) := fun W' kk => ⟨(kk.cell0 hb).trans p0, (kk.cell0 hb).trans p1, (kk.cell0 hb).trans p2, (kk.cell0 hb).trans p3, (kk.cell0 hb').trans q0, (kk.cell0 hb').trans q1, (kk.cell0 hb').trans q2, (kk.cell0 hb').trans q3⟩
                  have HU := Lib.hid htr
                  have HV := Lib.hid htr'
                  have b0 : (0 : Int) ≤ (j : Int) := Int.natCast_nonneg _
                  have b1 : (j : Int) < (mx : Int) := by omega
                  clear hx htr htr' hb hb' p0 p1 p2 p3 q0 q1 q2 q3 hkeep
                  go_upto_region 17 with fail
                  refine wp_region_tx (fun W' => W'.cell? ⟨b, off + j * 4, none⟩ = some (.int .i64 u.k) ∧ W'.cell? ⟨b, off + j * 4 + 1, none⟩ = some (.int .i64 u.n) ∧ W'.cell? ⟨b, off + j * 4 + 2, none⟩ = some (.string u.s) ∧ W'.cell? ⟨b, off + j * 4 + 3, none⟩ = some (.slice u.A u.len u.c) ∧ W'.cell? ⟨b', off' + j * 4, none⟩ = some (.int .i64 v.k) ∧ W'.cell? ⟨b', off' + j * 4 + 1, none⟩ = some (.int .i64 v.n) ∧ W'.cell? ⟨b', off' + j * 4 + 2, none⟩ = some (.string v.s) ∧ W'.cell? ⟨b', off' + j * 4 + 3, none⟩ = some (.slice v.A v.len v.c)) [(0, true), (1, true), (2, true), (3, true), (5, true), (6, true), (7, true), (8, true), (4, false), (9, false), (10, false)] (by kernel_rfl) (by kernel_rfl) (HW.out _ (Keeps.refl _ []).drew) (fun hHeld => ?_)
                  (repeat (first | (refine wpTx_take (v := ?_) rfl (by assumption) ?_ (by rfl) ?_; rotate_left; (focus (intro w' hSw; (try dsimp only at hSw); go_simp; (try with_reducible rfl); done)); simp only [Act.put, List.setIfInBounds_toArray, List.set_cons_zero, List.set_cons_succ]) | (refine wpTx_skip rfl (by assumption) (by rfl) ?_; simp only [Act.put, List.setIfInBounds_toArray, List.set_cons_zero, List.set_cons_succ])))
                  refine wpTx_go rfl (fun K hK => ?_)
                  go_simp
                  refine (HFr.out a u _ HWa.out (HU.out.keep (Keeps.refl _ []).drew)).mono ?_
                  rintro e w13 ⟨f, rfl, hf, k13⟩
                  have HF1 := Lib.hid (hf.mono (S' := fun _ => True) fun _ _ => trivial)
                  have K13 := Lib.hid ((Keeps.refl wr []).drew.trans k13)
                  unfold tvV
                  clear hf k13
                  refine hK.out _ _ ?_ ?_
                  · exact HW.out _ K13.out
                  (clear hHeld; intro hHeld; clear hK K; (try simp only [Act.put, List.setIfInBounds_toArray, List.set_cons_zero, List.set_cons_succ]))
                  refine wpTx_go rfl (fun K hK => ?_)
                  go_simp
                  refine (HSm.out a f v _ HF1.out (HV.out.keep K13.out)).mono ?_
                  rintro e w14 ⟨rfl, k14⟩
                  have K14 := Lib.hid (K13.out.trans k14)
                  clear k14
                  refine hK.out _ _ ?_ ?_
                  · exact HW.out _ K14.out
                  (clear hHeld; intro hHeld; clear hK K; (try simp only [Act.put, List.setIfInBounds_toArray, List.set_cons_zero, List.set_cons_succ]))
                  refine wpTx_last rfl (fun K hK => ?_)
                  go_simp
                  refine hK.out _ _ (NoPanic.normal ?_); clear hK K; (try simp only [Act.put, List.setIfInBounds_toArray, List.set_cons_zero, List.set_cons_succ])
                  go_wp2_with fail
                  go_roundw
                  case rel => exact ⟨j + 1, by omega, by go_num, HK.out.trans K14.out⟩
                  case measure => simp [intOf]; omega
                · obtain rfl : mx = j := by omega
                  have HK9 := Lib.hid (HKe.out.trans hkeep)
                  clear hlt hj hkeep
                  go_wp2_with fail
                  go_ret
                  exact ⟨rfl, HK9.out⟩
      · have b1 : ¬ (mx : Int) < (nx : Int) := by omega
        clear h4
        go_wp2_with fail
        (try clear b2)
        clear b1
        obtain ⟨wA, rfl⟩ : ∃ wA, wA = w1 := ⟨w1, rfl⟩
        replace HTy := Lib.hid (HTy.out.keep HKx.out)
        replace HRy := Lib.hid (HRy.out.keep HKx.out)
        go_loopw [8, 10] (fun x8 x10 wr => ∃ (j : Nat) (A2 : Option Addr) (c2 : Nat) (us : List TV), j ≤ my ∧ x10 = .int .i64 j ∧ x8 = .slice A2 j c2 ∧ LR 24 wA wr ((Ly.take j).map lFix) us A2 j c2) (fun _ i _ => my - (intOf i).toNat)
        case atStart => exact ⟨0, none, 0, [], Nat.zero_le _, rfl, rfl, LR.start _ (Keeps.refl _ _)⟩
        case round =>
          obtain ⟨j, A2, c2, us, hj, rfl, rfl, st⟩ := hrel
          have HS := Lib.hid st
          clear st
          by_cases hlt : j < my
          · obtain ⟨a, hx⟩ := at_of HMy.out hlt
            have HX := Lib.hid hx
            obtain ⟨v', b, off, _, htr, hAe, hb, p0, p1, p2, p3⟩ := (HTy.out.keep HS.out.keep).get (HRy.out.keep HS.out.keep) hx
            subst hAe
            have HTr := Lib.hid htr
            have b0 : (0 : Int) ≤ (j : Int) := Int.natCast_nonneg _
            have b1 : (j : Int) < (ny : Int) := by have := HNy.out; omega
            have b2 : (j : Int) < 4 := by have := HNy.out; omega
            clear htr hx
            go_wp2_with fail
            refine (HFx.out a v' _ HTr.out).mono ?_
            rintro e w3 ⟨u, rfl, hu, k3⟩
            have HK3 := Lib.hid k3
            have HU := Lib.hid hu
            unfold tvV
            clear hu k3 p0 p1 p2 p3 hb
            go_wp2_with (at_builtin; have K5 := HK3.out.alloc (.cells #[.int .i64 u.k, .int .i64 u.n, .string u.s, .slice u.A u.len u.c] 24); have hz5 := K5.size; have hz6 := HS.out.keep.size; refine wpList_app _ el_rterm rfl (.tmp 43) (.tmp 49) rfl wA.heap.size A2 j c2 (us.flatMap tvE) rfl (own_keep0 HS.out.own K5) (some ⟨w3.heap.size, 0, none⟩) 1 1 (tvE u) rfl (Rd.one w3 _ (tvE u)) rfl (by simp) (by simp [tvE, Value.oneCell']) (by omega) (by omega) ?_; intro A' c' w2 hown hgrow hat; have HN := Lib.hid (HS.out.push K5 ((HU.out.keep ((Keeps.refl w3 []).alloc _)).mono fun b hb => by omega) hown hgrow hat); clear hown hgrow hat K5 hz5 hz6)
            go_roundw
            case rel =>
              have h1 := HN.out
              rw [show (Ly.take j).map lFix ++ [lFix a] = (Ly.take (j + 1)).map lFix by rw [List.take_add_one, HX.out, List.map_append]; rfl] at h1
              exact ⟨j + 1, A', c', _, by omega, by go_num, rfl, h1⟩
            case measure => simp [intOf]; omega
          · obtain rfl : my = j := by omega
            have hs := HS.out
            rw [show (Ly.take my).map lFix = Ly.map lFix by rw [← HMy.out, List.take_length]] at hs
            have HLy := Lib.hid (hs.trs.mono (S' := fun _ => True) fun _ _ => trivial)
            have HGy := Lib.hid (Rd.of_own hs.own)
            have HKy := Lib.hid hs.keep
            clear hs hlt hj HS
            obtain ⟨w1, rfl⟩ : ∃ w1, w1 = wr := ⟨wr, rfl⟩
            obtain ⟨uy, rfl⟩ : ∃ u, u = us := ⟨us, rfl⟩
            obtain ⟨By, rfl⟩ : ∃ u, u = A2 := ⟨A2, rfl⟩
            obtain ⟨dy, rfl⟩ : ∃ u, u = c2 := ⟨c2, rfl⟩
            by_cases h4 : my < ny
            · have hm4 : my = 4 := by have := HNy.out; omega
              have b1 : (my : Int) < (ny : Int) := by omega
              have b2 : ¬ (my : Int) < 4 := by omega
              clear hm4 h4
              go_wp2_with fail
              (try clear b2)
              clear b1
              have hkb := kk_bound fr
              generalize wrap64 ((IntKind.u64.wrap fr).tmod 900) = kk at hkb ⊢
              obtain ⟨X, hXe⟩ : ∃ X, Lx.map lFix = X := ⟨_, rfl⟩
              obtain ⟨Y, hYe⟩ : ∃ Y, Ly.map lFix = Y := ⟨_, rfl⟩
              have HXin : Hid (∀ a ∈ X, In Vs6 a) := by intro a ha; rw [← hXe] at ha; obtain ⟨b, _, rfl⟩ := List.mem_map.1 ha; exact lFix_in b
              have HYin : Hid (∀ a ∈ Y, In Vs6 a) := by intro a ha; rw [← hYe] at ha; obtain ⟨b, _, rfl⟩ := List.mem_map.1 ha; exact lFix_in b
              have HXl : Hid (X.length = mx) := by show _ = _; rw [← hXe, List.length_map, HMx.out]
              have HYl : Hid (Y.length = my) := by show _ = _; rw [← hYe, List.length_map, HMy.out]
              rw [hXe] at HLx
              rw [hYe] at HLy
              have hx4 : mx ≤ 1000000 := by have := HNx.out; omega
              have hy4 : my ≤ 1000000 := by have := HNy.out; omega
              have HXr : Hid (∀ a ∈ X, tRight a = true) := fun a ha => (HXin.out a ha).rt
              have HYr : Hid (∀ a ∈ Y, tRight a = true) := fun a ha => (HYin.out a ha).rt
              have HXw : Hid (∀ a ∈ X, tWid a) := fun a ha => tWid_of_right (HXr.out a ha)
              have HYw : Hid (∀ a ∈ Y, tWid a) := fun a ha => tWid_of_right (HYr.out a ha)
              have HXv : Hid ((tVars X).length ≤ 1000000) := Nat.le_trans (vars_six HXin.out) (by decide)
              have HYv : Hid ((tVars Y).length ≤ 1000000) := Nat.le_trans (vars_six HYin.out) (by decide)
              have HTX : Hid (Trs w1 (fun _ => True) X ux) := HLx.out.keep HKy.out
              have HRX : Hid (Rd w1 Bx (ux.flatMap tvE)) := HGx.out.keep HKy.out
              have HTY : Hid (Trs w1 (fun _ => True) Y uy) := HLy.out
              have HRY : Hid (Rd w1 By (uy.flatMap tvE)) := HGy.out
              have HK1 : Hid (Keeps w0 w1 []) := HKx.out.trans HKy.out
              have HZl : Hid ((rn kk X).length = mx) := by show _ = _; rw [rn_len, HXl.out]
              have HZw : Hid (∀ a ∈ rn kk X, tWid a) := by intro a ha; obtain ⟨b, hb, rfl⟩ := List.mem_map.1 ha; exact tRn_wid _ b (HXw.out b hb)
              have HZv : Hid ((tVars (rn kk X)).length ≤ 1000000) := by show _ ≤ _; rw [(rn_rn kk HXr.out).2]; exact HXv.out
              have HZs : Hid (tSames (rn 0 X) (rn 0 (rn kk X)) = true) := (tSames_iff _ _).2 (rn_rn kk HXr.out).1.symm
              obtain ⟨B, hB⟩ : ∃ B, tSames (rn 0 X) (rn 0 Y) = B := ⟨_, rfl⟩
              have HB := Lib.hid hB
              have hkk := hkb.2
              have hk0 := hkb.1
              have HKb : Hid (0 ≤ kk ∧ kk ≤ 1000000) := ⟨hk0, by omega⟩
              clear hkb hkk hk0 hB hXe hYe HMx HMy HNx HNy HLx HLy HGx HGy HKx HKy HTx HRx HTy HRy HFx
              refine (terms_any X ux Bx mx dx w1 HTX.out HRX.out HXl.out hx4 HXw.out).mono ?_
              rintro e w2 ⟨T1, t1, ut, rfl, ht, hr, k⟩
              have K2 := Lib.hid (k)
              rw [HXl.out]
              have HTt := Lib.hid ht
              have HRt := Lib.hid hr
              clear ht hr
              clear k
              go_wp2_with fail
              refine (rename_any kk HKb.out.1 HKb.out.2 X ut T1 mx t1 _ HTt.out HRt.out HXl.out hx4 HXw.out HXv.out).mono ?_
              rintro e w3 ⟨Z, zc, uz, rfl, hz, hzr, k⟩
              have K3 := Lib.hid (K2.out.trans k)
              rw [HZl.out]
              have HTz := Lib.hid hz
              have HRz := Lib.hid hzr
              clear hz hzr
              clear k
              go_wp2_with fail
              refine (refRenameL_any kk HKb.out.1 HKb.out.2 X ux Bx mx dx _ (HTX.out.keep K3.out) (HRX.out.keep K3.out) HXl.out hx4 HXr.out HXv.out).mono ?_
              rintro e w4 ⟨D, dc, ud, rfl, hd, hdr, k⟩
              have K4 := Lib.hid (K3.out.trans k)
              rw [HZl.out]
              have HTd := Lib.hid hd
              have HRd := Lib.hid hdr
              have HTz4 := Lib.hid (HTz.out.keep k)
              have HRz4 := Lib.hid (HRz.out.keep k)
              clear hd hdr HTz HRz
              clear k
              go_wp2_with fail
              refine (told4_any _).mono ?_
              rintro e w5 ⟨rfl, k⟩
              have K5 := Lib.hid (K4.out.trans k)
              have HTd5 := Lib.hid (HTd.out.keep k)
              have HRd5 := Lib.hid (HRd.out.keep k)
              have HTz5 := Lib.hid (HTz4.out.keep k)
              have HRz5 := Lib.hid (HRz4.out.keep k)
              have M5 : Hid (Keeps w5 w5 []) := Keeps.refl _ _
              clear HTd HRd HTz4 HRz4
              clear k
              go_wp2_with fail
              refine (terms_any X ux Bx mx dx _ (HTX.out.keep K5.out) (HRX.out.keep K5.out) HXl.out hx4 HXw.out).mono ?_
              rintro e w6 ⟨T6, t6, u6, rfl, h6, r6, k⟩
              have K6 := Lib.hid (K5.out.trans k)
              have M6 := Lib.hid (M5.out.trans k)
              rw [HXl.out]
              have HT6 := Lib.hid h6
              have HR6 := Lib.hid r6
              clear h6 r6
              clear k
              go_wp2_with fail
              refine (terms_any Y uy By my dy _ (HTY.out.keep K6.out) (HRY.out.keep K6.out) HYl.out hy4 HYw.out).mono ?_
              rintro e w7 ⟨T7, t7, u7, rfl, h7, r7, k⟩
              have K7 := Lib.hid (K6.out.trans k)
              have M7 := Lib.hid (M6.out.trans k)
              rw [HYl.out]
              have HT7 := Lib.hid h7
              have HR7 := Lib.hid r7
              have HT67 := Lib.hid (HT6.out.keep k)
              have HR67 := Lib.hid (HR6.out.keep k)
              clear h7 r7 HT6 HR6
              clear k
              go_wp2_with fail
              refine (alikeL_any X Y u6 u7 T6 T7 mx t6 my t7 _ HT67.out HR67.out HXl.out hx4 HXw.out HXv.out HT7.out HR7.out HYl.out hy4 HYw.out HYv.out).mono ?_
              rintro e w8 ⟨rfl, k⟩
              have K8 := Lib.hid (K7.out.trans k)
              have M8 := Lib.hid (M7.out.trans k)
              rw [HB.out]
              clear k
              go_wp2_with fail
              refine (refAlikeL_any X Y ux uy Bx By mx dx my dy _ (HTX.out.keep K8.out) (HRX.out.keep K8.out) HXl.out hx4 HXr.out HXv.out (HTY.out.keep K8.out) (HRY.out.keep K8.out) HYl.out hy4 HYr.out HYv.out).mono ?_
              rintro e w9 ⟨rfl, k⟩
              have K9 := Lib.hid (K8.out.trans k)
              have M9 := Lib.hid (M8.out.trans k)
              rw [HB.out]
              clear k
              go_wp2_with fail
              refine (terms_any X ux Bx mx dx _ (HTX.out.keep K9.out) (HRX.out.keep K9.out) HXl.out hx4 HXw.out).mono ?_
              rintro e w10 ⟨T10, t10, u10, rfl, h10, r10, k⟩
              have K10 := Lib.hid (K9.out.trans k)
              have M10 := Lib.hid (M9.out.trans k)
              rw [HXl.out]
              have HT10 := Lib.hid h10
              have HR10 := Lib.hid r10
              clear h10 r10
              clear k
              go_wp2_with fail
              refine (alikeL_any X (rn kk X) u10 uz T10 Z mx t10 mx zc _ HT10.out HR10.out HXl.out hx4 HXw.out HXv.out (HTz5.out.keep M10.out) (HRz5.out.keep M10.out) HZl.out hx4 HZw.out HZv.out).mono ?_
              rintro e w11 ⟨rfl, k⟩
              have K11 := Lib.hid (K10.out.trans k)
              have M11 := Lib.hid (M10.out.trans k)
              rw [HZs.out]
              have HTe := Lib.hid (HTz5.out.keep M11.out)
              have HRe := Lib.hid (HRz5.out.keep M11.out)
              have HTf := Lib.hid (HTd5.out.keep M11.out)
              have HRf := Lib.hid (HRd5.out.keep M11.out)
              have HKe := Lib.hid (HK1.out.trans K11.out)
              clear k
              go_wp2_with fail
              clear K2 K3 K4 K5 K6 K7 K8 K9 K10 K11 M5 M6 M7 M8 M9 M10 M11 HT67 HR67 HT7 HR7 HT10 HR10 HTd5 HRd5 HTz5 HRz5 HTX HRX HTY HRY HTt HRt HK1 HXin HYin
              have HFr : Hid (∀ (t : Tm) (v : TV) (w : World), tWid t → Tr w (fun _ => True) t v → Calls Try.prog 17 #[.agg #[.int .i64 v.k, .int .i64 v.n, .string v.s, .slice v.A v.len v.c]] w (TDone [] (fun b => w.heap.size ≤ b) w t)) := fun t v w h1 h2 => tmFromW_any t v w h2 h1
              have HSm : Hid (∀ (t : Tm) (u v : TV) (w : World), Tr w (fun _ => True) t u → Tr w (fun _ => True) t v → Calls Try.prog 16 #[.agg #[.int .i64 u.k, .int .i64 u.n, .string u.s, .slice u.A u.len u.c], .agg #[.int .i64 v.k, .int .i64 v.n, .string v.s, .slice v.A v.len v.c]] w fun e w' => e = .returned (.bool true) ∧ Keeps w w' []) := fun t u v w h1 h2 => by
                have h3 := refSame_any t t u v w h1 h2
                rw [(tSame_iff t t).2 rfl] at h3
                exact h3
              go_loopw [14] (fun x14 wr => ∃ j : Nat, j ≤ mx ∧ x14 = .int .i64 j ∧ Keeps w11 wr []) (fun x14 _ => mx - (intOf x14).toNat)
              case atStart => exact ⟨0, Nat.zero_le _, rfl, Keeps.refl _ _⟩
              case round =>
                obtain ⟨j, hj, rfl, hkeep⟩ := hrel
                have HK := Lib.hid hkeep
                by_cases hlt : j < mx
                · obtain ⟨a, hx⟩ := at_of HZl.out hlt
                  have HWa : Hid (tWid a) := HZw.out a (List.mem_of_getElem? hx)
                  obtain ⟨u, b, off, _, htr, hA1, hb, p0, p1, p2, p3⟩ := (HTe.out.keep hkeep).get (HRe.out.keep hkeep) hx
                  obtain ⟨v, b', off', _, htr', hA2, hb', q0, q1, q2, q3⟩ := (HTf.out.keep hkeep).get (HRf.out.keep hkeep) hx
                  subst hA1 hA2
                  have HW : Hid (∀ W', Keeps wr W' [] → W'.cell? ⟨b, off + j * 4, none⟩ = some (.int .i64 u.k) ∧ W'.cell? ⟨b, off + j * 4 + 1, none⟩ = some (.int .i64 u.n) ∧ W'.cell? ⟨b, off + j * 4 + 2, none⟩ = some (.string u.s) ∧ W'.cell? ⟨b, off + j * 4 + 3, none⟩ = some (.slice u.A u.len u.c) ∧ W'.cell? ⟨b', off' + j * 4, none⟩ = some (.int .i64 v.k) ∧ W'.cell? ⟨b', off' + j * 4 + 1, none⟩ = some (.int .i64 v.n) ∧ W'.cell? ⟨b', off' + j * 4 + 2, none⟩ = some (.string v.s) ∧ W'.cell? ⟨b', off' + j * 4 + 3, none⟩ = some (.slice v.A v.len v.c)) := fun W' kk => ⟨(kk.cell0 hb).trans p0, (kk.cell0 hb).trans p1, (kk.cell0 hb).trans p2, (kk.cell0 hb).trans p3, (kk.cell0 hb').trans q0, (kk.cell0 hb').trans q1, (kk.cell0 hb').trans q2, (kk.cell0 hb').trans q3⟩
                  have HU := Lib.hid htr
                  have HV := Lib.hid htr'
                  have b0 : (0 : Int) ≤ (j : Int) := Int.natCast_nonneg _
                  have b1 : (j : Int) < (mx : Int) := by omega
                  clear hx htr htr' hb hb' p0 p1 p2 p3 q0 q1 q2 q3 hkeep
                  go_upto_region 17 with fail
                  refine wp_region_tx (fun W' => W'.cell? ⟨b, off + j * 4, none⟩ = some (.int .i64 u.k) ∧ W'.cell? ⟨b, off + j * 4 + 1, none⟩ = some (.int .i64 u.n) ∧ W'.cell? ⟨b, off + j * 4 + 2, none⟩ = some (.string u.s) ∧ W'.cell? ⟨b, off + j * 4 + 3, none⟩ = some (.slice u.A u.len u.c) ∧ W'.cell? ⟨b', off' + j * 4, none⟩ = some (.int .i64 v.k) ∧ W'.cell? ⟨b', off' + j * 4 + 1, none⟩ = some (.int .i64 v.n) ∧ W'.cell? ⟨b', off' + j * 4 + 2, none⟩ = some (.string v.s) ∧ W'.cell? ⟨b', off' + j * 4 + 3, none⟩ = some (.slice v.A v.len v.c)) [(0, true), (1, true), (2, true), (3, true), (5, true), (6, true), (7, true), (8, true), (4, false), (9, false), (10, false)] (by kernel_rfl) (by kernel_rfl) (HW.out _ (Keeps.refl _ []).drew) (fun hHeld => ?_)
                  (repeat (first | (refine wpTx_take (v := ?_) rfl (by assumption) ?_ (by rfl) ?_; rotate_left; (focus (intro w' hSw; (try dsimp only at hSw); go_simp; (try with_reducible rfl); done)); simp only [Act.put, List.setIfInBounds_toArray, List.set_cons_zero, List.set_cons_succ]) | (refine wpTx_skip rfl (by assumption) (by rfl) ?_; simp only [Act.put, List.setIfInBounds_toArray, List.set_cons_zero, List.set_cons_succ])))
                  refine wpTx_go rfl (fun K hK => ?_)
                  go_simp
                  refine (HFr.out a u _ HWa.out (HU.out.keep (Keeps.refl _ []).drew)).mono ?_
                  rintro e w13 ⟨f, rfl, hf, k13⟩
                  have HF1 := Lib.hid (hf.mono (S' := fun _ => True) fun _ _ => trivial)
                  have K13 := Lib.hid ((Keeps.refl wr []).drew.trans k13)
                  unfold tvV
                  clear hf k13
                  refine hK.out _ _ ?_ ?_
                  · exact HW.out _ K13.out
                  (clear hHeld; intro hHeld; clear hK K; (try simp only [Act.put, List.setIfInBounds_toArray, List.set_cons_zero, List.set_cons_succ]))
                  refine wpTx_go rfl (fun K hK => ?_)
                  go_simp
                  refine (HSm.out a f v _ HF1.out (HV.out.keep K13.out)).mono ?_
                  rintro e w14 ⟨rfl, k14⟩
                  have K14 := Lib.hid (K13.out.trans k14)
                  clear k14
                  refine hK.out _ _ ?_ ?_
                  · exact HW.out _ K14.out
                  (clear hHeld; intro hHeld; clear hK K; (try simp only [Act.put, List.setIfInBounds_toArray, List.set_cons_zero, List.set_cons_succ]))
                  refine wpTx_last rfl (fun K hK => ?_)
                  go_simp
                  refine hK.out _ _ (NoPanic.normal ?_); clear hK K; (try simp only [Act.put, List.setIfInBounds_toArray, List.set_cons_zero, List.set_cons_succ])
                  go_wp2_with fail
                  go_roundw
                  case rel => exact ⟨j + 1, by omega, by go_num, HK.out.trans K14.out⟩
                  case measure => simp [intOf]; omega
                · obtain rfl : mx = j := by omega
                  have HK9 := Lib.hid (HKe.out.trans hkeep)
                  clear hlt hj hkeep
                  go_wp2_with fail
                  go_ret
                  exact ⟨rfl, HK9.out⟩
            · have b1 : ¬ (my : Int) < (ny : Int) := by omega
              clear h4
              go_wp2_with fail
              (try clear b2)
              clear b1
              have hkb := kk_bound fr
              generalize wrap64 ((IntKind.u64.wrap fr).tmod 900) = kk at hkb ⊢
              obtain ⟨X, hXe⟩ : ∃ X, Lx.map lFix = X := ⟨_, rfl⟩
              obtain ⟨Y, hYe⟩ : ∃ Y, Ly.map lFix = Y := ⟨_, rfl⟩
              have HXin : Hid (∀ a ∈ X, In Vs6 a) := by intro a ha; rw [← hXe] at ha; obtain ⟨b, _, rfl⟩ := List.mem_map.1 ha; exact lFix_in b
              have HYin : Hid (∀ a ∈ Y, In Vs6 a) := by intro a ha; rw [← hYe] at ha; obtain ⟨b, _, rfl⟩ := List.mem_map.1 ha; exact lFix_in b
              have HXl : Hid (X.length = mx) := by show _ = _; rw [← hXe, List.length_map, HMx.out]
              have HYl : Hid (Y.length = my) := by show _ = _; rw [← hYe, List.length_map, HMy.out]
              rw [hXe] at HLx
              rw [hYe] at HLy
              have hx4 : mx ≤ 1000000 := by have := HNx.out; omega
              have hy4 : my ≤ 1000000 := by have := HNy.out; omega
              have HXr : Hid (∀ a ∈ X, tRight a = true) := fun a ha => (HXin.out a ha).rt
              have HYr : Hid (∀ a ∈ Y, tRight a = true) := fun a ha => (HYin.out a ha).rt
              have HXw : Hid (∀ a ∈ X, tWid a) := fun a ha => tWid_of_right (HXr.out a ha)
              have HYw : Hid (∀ a ∈ Y, tWid a) := fun a ha => tWid_of_right (HYr.out a ha)
              have HXv : Hid ((tVars X).length ≤ 1000000) := Nat.le_trans (vars_six HXin.out) (by decide)
              have HYv : Hid ((tVars Y).length ≤ 1000000) := Nat.le_trans (vars_six HYin.out) (by decide)
              have HTX : Hid (Trs w1 (fun _ => True) X ux) := HLx.out.keep HKy.out
              have HRX : Hid (Rd w1 Bx (ux.flatMap tvE)) := HGx.out.keep HKy.out
              have HTY : Hid (Trs w1 (fun _ => True) Y uy) := HLy.out
              have HRY : Hid (Rd w1 By (uy.flatMap tvE)) := HGy.out
              have HK1 : Hid (Keeps w0 w1 []) := HKx.out.trans HKy.out
              have HZl : Hid ((rn kk X).length = mx) := by show _ = _; rw [rn_len, HXl.out]
              have HZw : Hid (∀ a ∈ rn kk X, tWid a) := by intro a ha; obtain ⟨b, hb, rfl⟩ := List.mem_map.1 ha; exact tRn_wid _ b (HXw.out b hb)
              have HZv : Hid ((tVars (rn kk X)).length ≤ 1000000) := by show _ ≤ _; rw [(rn_rn kk HXr.out).2]; exact HXv.out
              have HZs : Hid (tSames (rn 0 X) (rn 0 (rn kk X)) = true) := (tSames_iff _ _).2 (rn_rn kk HXr.out).1.symm
              obtain ⟨B, hB⟩ : ∃ B, tSames (rn 0 X) (rn 0 Y) = B := ⟨_, rfl⟩
              have HB := Lib.hid hB
              have hkk := hkb.2
              have hk0 := hkb.1
              have HKb : Hid (0 ≤ kk ∧ kk ≤ 1000000) := ⟨hk0, by omega⟩
              clear hkb hkk hk0 hB hXe hYe HMx HMy HNx HNy HLx HLy HGx HGy HKx HKy HTx HRx HTy HRy HFx
              refine (terms_any X ux Bx mx dx w1 HTX.out HRX.out HXl.out hx4 HXw.out).mono ?_
              rintro e w2 ⟨T1, t1, ut, rfl, ht, hr, k⟩
              have K2 := Lib.hid (k)
              rw [HXl.out]
              have HTt := Lib.hid ht
              have HRt := Lib.hid hr
              clear ht hr
              clear k
              go_wp2_with fail
              refine (rename_any kk HKb.out.1 HKb.out.2 X ut T1 mx t1 _ HTt.out HRt.out HXl.out hx4 HXw.out HXv.out).mono ?_
              rintro e w3 ⟨Z, zc, uz, rfl, hz, hzr, k⟩
              have K3 := Lib.hid (K2.out.trans k)
              rw [HZl.out]
              have HTz := Lib.hid hz
              have HRz := Lib.hid hzr
              clear hz hzr
              clear k
              go_wp2_with fail
              refine (refRenameL_any kk HKb.out.1 HKb.out.2 X ux Bx mx dx _ (HTX.out.keep K3.out) (HRX.out.keep K3.out) HXl.out hx4 HXr.out HXv.out).mono ?_
              rintro e w4 ⟨D, dc, ud, rfl, hd, hdr, k⟩
              have K4 := Lib.hid (K3.out.trans k)
              rw [HZl.out]
              have HTd := Lib.hid hd
              have HRd := Lib.hid hdr
              have HTz4 := Lib.hid (HTz.out.keep k)
              have HRz4 := Lib.hid (HRz.out.keep k)
              clear hd hdr HTz HRz
              clear k
              go_wp2_with fail
              refine (told4_any _).mono ?_
              rintro e w5 ⟨rfl, k⟩
              have K5 := Lib.hid (K4.out.trans k)
              have HTd5 := Lib.hid (HTd.out.keep k)
              have HRd5 := Lib.hid (HRd.out.keep k)
              have HTz5 := Lib.hid (HTz4.out.keep k)
              have HRz5 := Lib.hid (HRz4.out.keep k)
              have M5 : Hid (Keeps w5 w5 []) := Keeps.refl _ _
              clear HTd HRd HTz4 HRz4
              clear k
              go_wp2_with fail
              refine (terms_any X ux Bx mx dx _ (HTX.out.keep K5.out) (HRX.out.keep K5.out) HXl.out hx4 HXw.out).mono ?_
              rintro e w6 ⟨T6, t6, u6, rfl, h6, r6, k⟩
              have K6 := Lib.hid (K5.out.trans k)
              have M6 := Lib.hid (M5.out.trans k)
              rw [HXl.out]
              have HT6 := Lib.hid h6
              have HR6 := Lib.hid r6
              clear h6 r6
              clear k
              go_wp2_with fail
              refine (terms_any Y uy By my dy _ (HTY.out.keep K6.out) (HRY.out.keep K6.out) HYl.out hy4 HYw.out).mono ?_
              rintro e w7 ⟨T7, t7, u7, rfl, h7, r7, k⟩
              have K7 := Lib.hid (K6.out.trans k)
              have M7 := Lib.hid (M6.out.trans k)
              rw [HYl.out]
              have HT7 := Lib.hid h7
              have HR7 := Lib.hid r7
              have HT67 := Lib.hid (HT6.out.keep k)
              have HR67 := Lib.hid (HR6.out.keep k)
              clear h7 r7 HT6 HR6
              clear k
              go_wp2_with fail
              refine (alikeL_any X Y u6 u7 T6 T7 mx t6 my t7 _ HT67.out HR67.out HXl.out hx4 HXw.out HXv.out HT7.out HR7.out HYl.out hy4 HYw.out HYv.out).mono ?_
              rintro e w8 ⟨rfl, k⟩
              have K8 := Lib.hid (K7.out.trans k)
              have M8 := Lib.hid (M7.out.trans k)
              rw [HB.out]
              clear k
              go_wp2_with fail
              refine (refAlikeL_any X Y ux uy Bx By mx dx my dy _ (HTX.out.keep K8.out) (HRX.out.keep K8.out) HXl.out hx4 HXr.out HXv.out (HTY.out.keep K8.out) (HRY.out.keep K8.out) HYl.out hy4 HYr.out HYv.out).mono ?_
              rintro e w9 ⟨rfl, k⟩
              have K9 := Lib.hid (K8.out.trans k)
              have M9 := Lib.hid (M8.out.trans k)
              rw [HB.out]
              clear k
              go_wp2_with fail
              refine (terms_any X ux Bx mx dx _ (HTX.out.keep K9.out) (HRX.out.keep K9.out) HXl.out hx4 HXw.out).mono ?_
              rintro e w10 ⟨T10, t10, u10, rfl, h10, r10, k⟩
              have K10 := Lib.hid (K9.out.trans k)
              have M10 := Lib.hid (M9.out.trans k)
              rw [HXl.out]
              have HT10 := Lib.hid h10
              have HR10 := Lib.hid r10
              clear h10 r10
              clear k
              go_wp2_with fail
              refine (alikeL_any X (rn kk X) u10 uz T10 Z mx t10 mx zc _ HT10.out HR10.out HXl.out hx4 HXw.out HXv.out (HTz5.out.keep M10.out) (HRz5.out.keep M10.out) HZl.out hx4 HZw.out HZv.out).mono ?_
              rintro e w11 ⟨rfl, k⟩
              have K11 := Lib.hid (K10.out.trans k)
              have M11 := Lib.hid (M10.out.trans k)
              rw [HZs.out]
              have HTe := Lib.hid (HTz5.out.keep M11.out)
              have HRe := Lib.hid (HRz5.out.keep M11.out)
              have HTf := Lib.hid (HTd5.out.keep M11.out)
              have HRf := Lib.hid (HRd5.out.keep M11.out)
              have HKe := Lib.hid (HK1.out.trans K11.out)
              clear k
              go_wp2_with fail
              clear K2 K3 K4 K5 K6 K7 K8 K9 K10 K11 M5 M6 M7 M8 M9 M10 M11 HT67 HR67 HT7 HR7 HT10 HR10 HTd5 HRd5 HTz5 HRz5 HTX HRX HTY HRY HTt HRt HK1 HXin HYin
              have HFr : Hid (∀ (t : Tm) (v : TV) (w : World), tWid t → Tr w (fun _ => True) t v → Calls Try.prog 17 #[.agg #[.int .i64 v.k, .int .i64 v.n, .string v.s, .slice v.A v.len v.c]] w (TDone [] (fun b => w.heap.size ≤ b) w t)) := fun t v w h1 h2 => tmFromW_any t v w h2 h1
              have HSm : Hid (∀ (t : Tm) (u v : TV) (w : World), Tr w (fun _ => True) t u → Tr w (fun _ => True) t v → Calls Try.prog 16 #[.agg #[.int .i64 u.k, .int .i64 u.n, .string u.s, .slice u.A u.len u.c], .agg #[.int .i64 v.k, .int .i64 v.n, .string v.s, .slice v.A v.len v.c]] w fun e w' => e = .returned (.bool true) ∧ Keeps w w' []) := fun t u v w h1 h2 => by
                have h3 := refSame_any t t u v w h1 h2
                rw [(tSame_iff t t).2 rfl] at h3
                exact h3
              go_loopw [14] (fun x14 wr => ∃ j : Nat, j ≤ mx ∧ x14 = .int .i64 j ∧ Keeps w11 wr []) (fun x14 _ => mx - (intOf x14).toNat)
              case atStart => exact ⟨0, Nat.zero_le _, rfl, Keeps.refl _ _⟩
              case round =>
                obtain ⟨j, hj, rfl, hkeep⟩ := hrel
                have HK := Lib.hid hkeep
                by_cases hlt : j < mx
                · obtain ⟨a, hx⟩ := at_of HZl.out hlt
                  have HWa : Hid (tWid a) := HZw.out a (List.mem_of_getElem? hx)
                  obtain ⟨u, b, off, _, htr, hA1, hb, p0, p1, p2, p3⟩ := (HTe.out.keep hkeep).get (HRe.out.keep hkeep) hx
                  obtain ⟨v, b', off', _, htr', hA2, hb', q0, q1, q2, q3⟩ := (HTf.out.keep hkeep).get (HRf.out.keep hkeep) hx
                  subst hA1 hA2
                  have HW : Hid (∀ W', Keeps wr W' [] → W'.cell? ⟨b, off + j * 4, none⟩ = some (.int .i64 u.k) ∧ W'.cell? ⟨b, off + j * 4 + 1, none⟩ = some (.int .i64 u.n) ∧ W'.cell? ⟨b, off + j * 4 + 2, none⟩ = some (.string u.s) ∧ W'.cell? ⟨b, off + j * 4 + 3, none⟩ = some (.slice u.A u.len u.c) ∧ W'.cell? ⟨b', off' + j * 4, none⟩ = some (.int .i64 v.k) ∧ W'.cell? ⟨b', off' + j * 4 + 1, none⟩ = some (.int .i64 v.n) ∧ W'.cell? ⟨b', off' + j * 4 + 2, none⟩ = some (.string v.s) ∧ W'.cell? ⟨b', off' + j * 4 + 3, none⟩ = some (.slice v.A v.len v.c)) := fun W' kk => ⟨(kk.cell0 hb).trans p0, (kk.cell0 hb).trans p1, (kk.cell0 hb).trans p2, (kk.cell0 hb).trans p3, (kk.cell0 hb').trans q0, (kk.cell0 hb').trans q1, (kk.cell0 hb').trans q2, (kk.cell0 hb').trans q3⟩
                  have HU := Lib.hid htr
                  have HV := Lib.hid htr'
                  have b0 : (0 : Int) ≤ (j : Int) := Int.natCast_nonneg _
                  have b1 : (j : Int) < (mx : Int) := by omega
                  clear hx htr htr' hb hb' p0 p1 p2 p3 q0 q1 q2 q3 hkeep
                  go_upto_region 17 with fail
                  refine wp_region_tx (fun W' => W'.cell? ⟨b, off + j * 4, none⟩ = some (.int .i64 u.k) ∧ W'.cell? ⟨b, off + j * 4 + 1, none⟩ = some (.int .i64 u.n) ∧ W'.cell? ⟨b, off + j * 4 + 2, none⟩ = some (.string u.s) ∧ W'.cell? ⟨b, off + j * 4 + 3, none⟩ = some (.slice u.A u.len u.c) ∧ W'.cell? ⟨b', off' + j * 4, none⟩ = some (.int .i64 v.k) ∧ W'.cell? ⟨b', off' + j * 4 + 1, none⟩ = some (.int .i64 v.n) ∧ W'.cell? ⟨b', off' + j * 4 + 2, none⟩ = some (.string v.s) ∧ W'.cell? ⟨b', off' + j * 4 + 3, none⟩ = some (.slice v.A v.len v.c)) [(0, true), (1, true), (2, true), (3, true), (5, true), (6, true), (7, true), (8, true), (4, false), (9, false), (10, false)] (by kernel_rfl) (by kernel_rfl) (HW.out _ (Keeps.refl _ []).drew) (fun hHeld => ?_)
                  (repeat (first | (refine wpTx_take (v := ?_) rfl (by assumption) ?_ (by rfl) ?_; rotate_left; (focus (intro w' hSw; (try dsimp only at hSw); go_simp; (try with_reducible rfl); done)); simp only [Act.put, List.setIfInBounds_toArray, List.set_cons_zero, List.set_cons_succ]) | (refine wpTx_skip rfl (by assumption) (by rfl) ?_; simp only [Act.put, List.setIfInBounds_toArray, List.set_cons_zero, List.set_cons_succ])))
                  refine wpTx_go rfl (fun K hK => ?_)
                  go_simp
                  refine (HFr.out a u _ HWa.out (HU.out.keep (Keeps.refl _ []).drew)).mono ?_
                  rintro e w13 ⟨f, rfl, hf, k13⟩
                  have HF1 := Lib.hid (hf.mono (S' := fun _ => True) fun _ _ => trivial)
                  have K13 := Lib.hid ((Keeps.refl wr []).drew.trans k13)
                  unfold tvV
                  clear hf k13
                  refine hK.out _ _ ?_ ?_
                  · exact HW.out _ K13.out
                  (clear hHeld; intro hHeld; clear hK K; (try simp only [Act.put, List.setIfInBounds_toArray, List.set_cons_zero, List.set_cons_succ]))
                  refine wpTx_go rfl (fun K hK => ?_)
                  go_simp
                  refine (HSm.out a f v _ HF1.out (HV.out.keep K13.out)).mono ?_
                  rintro e w14 ⟨rfl, k14⟩
                  have K14 := Lib.hid (K13.out.trans k14)
                  clear k14
                  refine hK.out _ _ ?_ ?_
                  · exact HW.out _ K14.out
                  (clear hHeld; intro hHeld; clear hK K; (try simp only [Act.put, List.setIfInBounds_toArray, List.set_cons_zero, List.set_cons_succ]))
                  refine wpTx_last rfl (fun K hK => ?_)
                  go_simp
                  refine hK.out _ _ (NoPanic.normal ?_); clear hK K; (try simp only [Act.put, List.setIfInBounds_toArray, List.set_cons_zero, List.set_cons_succ])
                  go_wp2_with fail
                  go_roundw
                  case rel => exact ⟨j + 1, by omega, by go_num, HK.out.trans K14.out⟩
                  case measure => simp [intOf]; omega
                · obtain rfl : mx = j := by omega
                  have HK9 := Lib.hid (HKe.out.trans hkeep)
                  clear hlt hj hkeep
                  go_wp2_with fail
                  go_ret
                  exact ⟨rfl, HK9.out⟩
end Go.Proofs.Ytjbomjnkjcafcaa
