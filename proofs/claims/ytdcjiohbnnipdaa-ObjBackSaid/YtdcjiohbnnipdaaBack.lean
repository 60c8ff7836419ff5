/- ObjBack, walked. -/
import Derived.Test.YtdcjiohbnnipdaaFix
import Derived.Test.YtdcjiohbnnipdaaText2
import Derived.Test.YtdcjiohbnnipdaaSame
import Derived.Test.YtdcjiohbnnipdaaTold
import Derived.Test.YtdcjiohbnnipdaaEncLen
namespace Go.Proofs.Ytdcjiohbnnipdaa
open Go.RowKit
theorem enc_byte (o : LObj) : IsByte (encB o) := isByte_app (isByte_body o) (isByte_be _ _)
attribute [local irreducible] encB decB checkE

theorem same_iff {f g : LObj} (hf : checkE f = 0) (hg : checkE g = 0) : decide (strB (encB f) = strB (encB g)) = decide (f = g) := by
  by_cases h : f = g
  · subst h; simp
  · have : ¬ strB (encB f) = strB (encB g) := fun he => by
      have h2 : encB f = encB g := by
        rw [← bytes_str (enc_byte f), ← bytes_str (enc_byte g), he]
      have h3 := dec_enc hf
      rw [h2, dec_enc hg] at h3
      exact h (congrArg Prod.fst h3).symm
    simp [h, this]
/-- Both boxes; what was there. -/
structure BkSt (w wr : World) (cs ds : Array Value) : Prop where
  b1 : Blk wr w.heap.size 38 cs
  b2 : Blk wr (w.heap.size + 1) 38 ds
  keep : Keeps w wr []
theorem BkSt.go {w wr W : World} {cs ds : Array Value} (s : BkSt w wr cs ds) (k : Keeps wr W []) : BkSt w W cs ds := ⟨s.b1.keep k (by simp), s.b2.keep k (by simp), s.keep.trans k⟩
theorem BkSt.lay {w wr : World} {a0 a1 a2 a3 b0 b1 b2 b3 v0 v1 v2 v3 u0 u1 u2 u3 : Value} (s : BkSt w wr #[a0, a1, a2, a3] #[b0, b1, b2, b3]) :
    BkSt w ((((((((wr.setCell ⟨w.heap.size, 0, none⟩ v0).setCell ⟨w.heap.size, 1, none⟩ v1).setCell ⟨w.heap.size, 2, none⟩ v2).setCell ⟨w.heap.size, 3, none⟩ v3).setCell ⟨w.heap.size + 1, 0, none⟩ u0).setCell ⟨w.heap.size + 1, 1, none⟩ u1).setCell ⟨w.heap.size + 1, 2, none⟩ u2).setCell ⟨w.heap.size + 1, 3, none⟩ u3) #[v0, v1, v2, v3] #[u0, u1, u2, u3] ∧
    ∃ Wm, Keeps wr Wm [w.heap.size] ∧ Keeps Wm ((((((((wr.setCell ⟨w.heap.size, 0, none⟩ v0).setCell ⟨w.heap.size, 1, none⟩ v1).setCell ⟨w.heap.size, 2, none⟩ v2).setCell ⟨w.heap.size, 3, none⟩ v3).setCell ⟨w.heap.size + 1, 0, none⟩ u0).setCell ⟨w.heap.size + 1, 1, none⟩ u1).setCell ⟨w.heap.size + 1, 2, none⟩ u2).setCell ⟨w.heap.size + 1, 3, none⟩ u3) [w.heap.size + 1] := by
  obtain ⟨h1, k1⟩ := arr4_set (v0 := v0) (v1 := v1) (v2 := v2) (v3 := v3) s.b1
  have h2 := s.b2.keep k1 (by simp)
  obtain ⟨h3, k3⟩ := arr4_set (v0 := u0) (v1 := u1) (v2 := u2) (v3 := u3) h2
  exact ⟨⟨h1.keep k3 (by simp), h3, (s.keep.past k1 (fun q hq => by simp at hq; simp; omega)).past k3 (fun q hq => by simp at hq; simp; omega)⟩, _, k1, k3⟩

set_option maxRecDepth 100000 in
set_option maxHeartbeats 6400000 in
theorem back_any (o p : LObj) (Aa Af Ap Ac Ba Bf Bp Bc : Option Addr) (na nf np nc ma mf mp mc ca cf cp cc da df dp dc : Nat) (w : World) (h : ObIs w o Aa Af Ap Ac ca cf cp cc) (h' : ObIs w p Ba Bf Bp Bc da df dp dc) (hg : GoodO o) (hg' : GoodO p)
    (la : o.atoms.length = na) (lf : o.funs.length = nf) (lp : o.preds.length = np) (lc : o.code.length = nc) (la' : p.atoms.length = ma) (lf' : p.funs.length = mf) (lp' : p.preds.length = mp) (lc' : p.code.length = mc) :
    Calls Try.prog 6 #[.agg #[.slice Aa na ca, .slice Af nf cf, .slice Ap np cp, .slice Ac nc cc], .agg #[.slice Ba ma da, .slice Bf mf df, .slice Bp mp dp, .slice Bc mc dc]] w (Told true w) := by
  have HF1 : Hid (∀ W, Keeps w W [] → Calls Try.prog 18 #[.agg #[.slice Aa na ca, .slice Af nf cf, .slice Ap np cp, .slice Ac nc cc]] W (FixDone W)) := fun W k => by
    have := fix_any o Aa Af Ap Ac ca cf cp cc W (h.keep k) hg
    rw [la, lf, lp, lc] at this
    exact this
  have HF2 : Hid (∀ W, Keeps w W [] → Calls Try.prog 18 #[.agg #[.slice Ba ma da, .slice Bf mf df, .slice Bp mp dp, .slice Bc mc dc]] W (FixDone W)) := fun W k => by
    have := fix_any p Ba Bf Bp Bc da df dp dc W (h'.keep k) hg'
    rw [la', lf', lp', lc'] at this
    exact this
  have st0 : BkSt w ((w.alloc (.cells #[.slice Aa na ca, .slice Af nf cf, .slice Ap np cp, .slice Ac nc cc] 38)).alloc (.cells #[.slice Ba ma da, .slice Bf mf df, .slice Bp mp dp, .slice Bc mc dc] 38))
      #[.slice Aa na ca, .slice Af nf cf, .slice Ap np cp, .slice Ac nc cc] #[.slice Ba ma da, .slice Bf mf df, .slice Bp mp dp, .slice Bc mc dc] := ⟨(Blk.new _ _ _).alloc _, Blk.newAt _ _ (by simp), ((Keeps.refl w []).alloc _).alloc _⟩
  have HS := Lib.hid st0
  clear h h' hg hg' la lf lp lc la' lf' lp' lc' st0
  go_enter Try.func6, Try.ntmps6
  go_upto_region 1 with fail
  generalize (w.alloc (.cells #[.slice Aa na ca, .slice Af nf cf, .slice Ap np cp, .slice Ac nc cc] 38)).alloc (.cells #[.slice Ba ma da, .slice Bf mf df, .slice Bp mp dp, .slice Bc mc dc] 38) = w0 at *
  have HP : Hid (∀ W', Keeps w0 W' [] → (W'.cell? ⟨w.heap.size, 0, none⟩ = some (.slice Aa na ca) ∧ W'.cell? ⟨w.heap.size, 1, none⟩ = some (.slice Af nf cf) ∧ W'.cell? ⟨w.heap.size, 2, none⟩ = some (.slice Ap np cp) ∧ W'.cell? ⟨w.heap.size, 3, none⟩ = some (.slice Ac nc cc) ∧
      W'.cell? ⟨w.heap.size + 1, 0, none⟩ = some (.slice Ba ma da) ∧ W'.cell? ⟨w.heap.size + 1, 1, none⟩ = some (.slice Bf mf df) ∧ W'.cell? ⟨w.heap.size + 1, 2, none⟩ = some (.slice Bp mp dp) ∧ W'.cell? ⟨w.heap.size + 1, 3, none⟩ = some (.slice Bc mc dc))) := fun W' k => by
    have s := HS.out.go k
    exact ⟨s.b1.cell 0, s.b1.cell 1, s.b1.cell 2, s.b1.cell 3, s.b2.cell 0, s.b2.cell 1, s.b2.cell 2, s.b2.cell 3⟩
  refine wp_region_ty (fun W' => W'.cell? ⟨w.heap.size, 0, none⟩ = some (.slice Aa na ca) ∧ W'.cell? ⟨w.heap.size, 1, none⟩ = some (.slice Af nf cf) ∧ W'.cell? ⟨w.heap.size, 2, none⟩ = some (.slice Ap np cp) ∧ W'.cell? ⟨w.heap.size, 3, none⟩ = some (.slice Ac nc cc) ∧
      W'.cell? ⟨w.heap.size + 1, 0, none⟩ = some (.slice Ba ma da) ∧ W'.cell? ⟨w.heap.size + 1, 1, none⟩ = some (.slice Bf mf df) ∧ W'.cell? ⟨w.heap.size + 1, 2, none⟩ = some (.slice Bp mp dp) ∧ W'.cell? ⟨w.heap.size + 1, 3, none⟩ = some (.slice Bc mc dc)) 4 [(0, true), (2, true), (1, false), (3, false), (4, false), (5, false)] (by kernel_rfl) (by kernel_rfl) (by exact HP.out _ (Keeps.refl _ []).drew) (fun hHeld => ?_)
  (repeat (first | (refine wpTy_take (v := ?_) rfl (by assumption) ?_ (by rfl) ?_; rotate_left; (focus (intro w' hSw; (try dsimp only at hSw); go_simp; (try with_reducible rfl); done)); simp only [Act.put, List.setIfInBounds_toArray, List.set_cons_zero, List.set_cons_succ]) | (refine wpTy_skip rfl (by assumption) (by rfl) ?_; simp only [Act.put, List.setIfInBounds_toArray, List.set_cons_zero, List.set_cons_succ])))
  refine wpTy_go rfl (fun K hK => ?_)
  go_simp
  refine (HF1.out _ (HS.out.keep.trans (Keeps.refl _ []).drew)).mono ?_
  rintro e w1 ⟨f, hf0, hff, Ca, Cf, Cp, Cc, ea, ef, ep, ec, rfl, hfo, hfl, k1⟩
  have K1 : Keeps w0 w1 [] := (Keeps.refl w0 []).drew.trans k1
  refine hK.out _ _ ?_ ?_
  · exact HP.out _ K1
  (clear hHeld; intro hHeld; clear hK K; (try simp only [Act.put, List.setIfInBounds_toArray, List.set_cons_zero, List.set_cons_succ]))
  (repeat (first | (refine wpTy_take (v := ?_) rfl (by assumption) ?_ (by rfl) ?_; rotate_left; (focus (intro w' hSw; (try dsimp only at hSw); go_simp; (try with_reducible rfl); done)); simp only [Act.put, List.setIfInBounds_toArray, List.set_cons_zero, List.set_cons_succ]) | (refine wpTy_skip rfl (by assumption) (by rfl) ?_; simp only [Act.put, List.setIfInBounds_toArray, List.set_cons_zero, List.set_cons_succ])))
  refine wpTy_go rfl (fun K hK => ?_)
  go_simp
  refine (HF2.out _ (HS.out.keep.trans K1)).mono ?_
  rintro e w2 ⟨g, hg0, hgf, Da, Df, Dp, Dc, ga, gf, gp, gc, rfl, hgo, hgl, k2⟩
  have K2 : Keeps w0 w2 [] := K1.trans k2
  refine hK.out _ _ ?_ ?_
  · exact HP.out _ K2
  (clear hHeld; intro hHeld; clear hK K; (try simp only [Act.put, List.setIfInBounds_toArray, List.set_cons_zero, List.set_cons_succ]))
  refine wpTy_tail rfl (by decide) (fun K hK => ?_)
  have hcs := HP.out _ K2
  obtain ⟨c0, c1, c2, c3, c4, c5, c6, c7⟩ := hcs
  have hS2 := HS.out.go K2
  have r0 := hS2.b1.frozen 0
  have r1 := hS2.b1.frozen 1
  have r2 := hS2.b1.frozen 2
  have r3 := hS2.b1.frozen 3
  have s0 := hS2.b2.frozen 0
  have s1 := hS2.b2.frozen 1
  have s2 := hS2.b2.frozen 2
  have s3 := hS2.b2.frozen 3
  have HL := Lib.hid (hS2.lay (v0 := .slice Ca f.atoms.length ea) (v1 := .slice Cf f.funs.length ef) (v2 := .slice Cp f.preds.length ep) (v3 := .slice Cc f.code.length ec) (u0 := .slice Da g.atoms.length ga) (u1 := .slice Df g.funs.length gf) (u2 := .slice Dp g.preds.length gp) (u3 := .slice Dc g.code.length gc))
  clear hHeld
  go_simp
  refine hK.out _ _ ?_; clear hK K; (try simp only [Act.put, List.setIfInBounds_toArray, List.set_cons_zero, List.set_cons_succ])
  refine wpTy_last rfl (by decide) (fun K hK => ?_)
  go_simp
  refine hK.out _ _ (NoPanic.normal ?_); clear hK K; (try simp only [Act.put, List.setIfInBounds_toArray, List.set_cons_zero, List.set_cons_succ])
  obtain ⟨hL1, Wm, hka, hkb⟩ := HL.out
  clear HL r0 r1 r2 r3 s0 s1 s2 s3 c0 c1 c2 c3 c4 c5 c6 c7 hS2
  have hsz0 := HS.out.b2.lt
  have hsz1 : w0.heap.size ≤ w1.heap.size := K1.size
  have hf5 := ((hfo.keep k2).keepOff hka (b := w0.heap.size) (fun a ha => hfl a ha) (by omega)).keepOff hkb (b := w0.heap.size) (fun a ha => hfl a ha) (by omega)
  have hg5 := (hgo.keepOff hka (b := w1.heap.size) (fun a ha => hgl a ha) (by omega)).keepOff hkb (b := w1.heap.size) (fun a ha => hgl a ha) (by omega)
  clear hfo hgo hfl hgl hka hkb HP HF1 HF2 HS K1 K2 k1 k2
  generalize World.setCell _ ⟨w.heap.size + 1, 3, none⟩ _ = w5 at *
  have HS5 := Lib.hid hL1
  have HFo := Lib.hid hf5
  have HGo := Lib.hid hg5
  clear hL1 hf5 hg5
  have p0 := HS5.out.b1.cell 0
  have p1 := HS5.out.b1.cell 1
  have p2 := HS5.out.b1.cell 2
  have p3 := HS5.out.b1.cell 3
  go_wp2_with fail
  refine (to_any f _ _ _ _ _ _ _ _ _ _ _ _ _ HFo.out hff rfl rfl rfl rfl).mono ?_
  rintro e w6 ⟨Ta, Tf, Tp, Tc, ta, tf, tp, tc, rfl, hto, k6⟩
  go_wp2_with fail
  refine (encode_any f _ _ _ _ _ _ _ _ _ _ _ _ _ hto hff rfl rfl rfl rfl).mono ?_
  rintro e w7 ⟨k7, hE⟩
  rw [if_pos hf0] at hE
  obtain ⟨E1, e1, rfl, ho1⟩ := hE
  have K7 : Keeps w5 w7 [] := k6.trans k7
  have HS7 := Lib.hid (HS5.out.go K7)
  have HO1 := Lib.hid (Rd.of_own ho1)
  have hrm1 := (own_room ho1).1
  clear p0 p1 p2 p3 hto k6 k7 ho1
  have p0 := HS7.out.b2.cell 0
  have p1 := HS7.out.b2.cell 1
  have p2 := HS7.out.b2.cell 2
  have p3 := HS7.out.b2.cell 3
  obtain ⟨n1, hn1⟩ : ∃ n, (encB f).length = n := ⟨_, rfl⟩
  rw [hn1] at hrm1 ⊢
  go_wp2_with fail
  refine (to_any g _ _ _ _ _ _ _ _ _ _ _ _ _ (HGo.out.keep K7) hgf rfl rfl rfl rfl).mono ?_
  rintro e w8 ⟨Ta, Tf, Tp, Tc, ta, tf, tp, tc, rfl, hto, k8⟩
  go_wp2_with fail
  refine (encode_any g _ _ _ _ _ _ _ _ _ _ _ _ _ hto hgf rfl rfl rfl rfl).mono ?_
  rintro e w9 ⟨k9, hE⟩
  rw [if_pos hg0] at hE
  obtain ⟨E2, e2, rfl, ho2⟩ := hE
  have K9 : Keeps w7 w9 [] := k8.trans k9
  have HS9 := Lib.hid (HS7.out.go K9)
  have HO2 := Lib.hid (Rd.of_own ho2)
  have HO1' := Lib.hid (HO1.out.keep K9)
  clear p0 p1 p2 p3 hto k8 k9 ho2
  obtain ⟨n2, hn2⟩ : ∃ n, (encB g).length = n := ⟨_, rfl⟩
  rw [hn2]
  have hlf := enc_len hf0
  rw [hn1] at hlf
  have hdec := decode_any E1 n1 e1 (encB f) w9 hn1 hlf hrm1 HO1'.out (enc_byte f)
  rw [dec_enc hf0] at hdec
  have HD := Lib.hid hdec
  clear hdec
  go_wp2_with fail
  refine HD.out.mono ?_
  rintro e w10 ⟨Xa, Xf, Xp, Xc, xa, xf, xp, xc, rfl, hx, k10⟩
  have k10' := k10.alloc (.cells #[.slice Xa f.atoms.length xa, .slice Xf f.funs.length xf, .slice Xp f.preds.length xp, .slice Xc f.code.length xc] 30)
  have HX := Lib.hid (hx.keep ((Keeps.refl w10 []).alloc (.cells #[.slice Xa f.atoms.length xa, .slice Xf f.funs.length xf, .slice Xp f.preds.length xp, .slice Xc f.code.length xc] 30)))
  have HB : Hid (Blk (w10.alloc (.cells #[.slice Xa f.atoms.length xa, .slice Xf f.funs.length xf, .slice Xp f.preds.length xp, .slice Xc f.code.length xc] 30)) w10.heap.size 30 #[.slice Xa f.atoms.length xa, .slice Xf f.funs.length xf, .slice Xp f.preds.length xp, .slice Xc f.code.length xc]) := Blk.new _ _ _
  have HSx := Lib.hid (HS9.out.go k10')
  have HFx := Lib.hid (HFo.out.keep ((K7.trans K9).trans k10'))
  have HGx := Lib.hid (HGo.out.keep ((K7.trans K9).trans k10'))
  have HE1 := Lib.hid (HO1'.out.keep k10')
  have HE2 := Lib.hid (HO2.out.keep k10')
  have Hn1 := Lib.hid hn1
  have Hn2 := Lib.hid hn2
  have Hff := Lib.hid hff
  have Hgf := Lib.hid hgf
  have HSt := Lib.hid (same_iff hf0 hg0)
  clear hx k10 k10' HD HO1 HO1' HO2 HS5 HS7 HS9 HFo HGo K7 K9 hn1 hn2 hff hgf hf0 hg0 hlf
  go_upto_region 5 with fail
  generalize w10.heap.size = xb at *
  generalize w10.alloc (.cells #[.slice Xa f.atoms.length xa, .slice Xf f.funs.length xf, .slice Xp f.preds.length xp, .slice Xc f.code.length xc] 30) = w11 at *
  have HP : Hid (∀ W', Keeps w11 W' [] → (W'.cell? ⟨w.heap.size, 0, none⟩ = some (.slice Ca f.atoms.length ea) ∧ W'.cell? ⟨w.heap.size, 1, none⟩ = some (.slice Cf f.funs.length ef) ∧ W'.cell? ⟨w.heap.size, 2, none⟩ = some (.slice Cp f.preds.length ep) ∧ W'.cell? ⟨w.heap.size, 3, none⟩ = some (.slice Cc f.code.length ec) ∧ W'.cell? ⟨w.heap.size + 1, 0, none⟩ = some (.slice Da g.atoms.length ga) ∧ W'.cell? ⟨w.heap.size + 1, 1, none⟩ = some (.slice Df g.funs.length gf) ∧ W'.cell? ⟨w.heap.size + 1, 2, none⟩ = some (.slice Dp g.preds.length gp) ∧ W'.cell? ⟨w.heap.size + 1, 3, none⟩ = some (.slice Dc g.code.length gc) ∧ W'.cell? ⟨xb, 0, none⟩ = some (.slice Xa f.atoms.length xa) ∧ W'.cell? ⟨xb, 1, none⟩ = some (.slice Xf f.funs.length xf) ∧ W'.cell? ⟨xb, 2, none⟩ = some (.slice Xp f.preds.length xp) ∧ W'.cell? ⟨xb, 3, none⟩ = some (.slice Xc f.code.length xc) ∧ (convert 22 9 (.slice E1 n1 e1)).run Try.prog W' = .ok (.string (strB (encB f))) W' ∧ (convert 22 9 (.slice E2 n2 e2)).run Try.prog W' = .ok (.string (strB (encB g))) W')) := fun W' k => by
    have s := HSx.out.go k
    have b := HB.out.keep k (by simp)
    exact ⟨s.b1.cell 0, s.b1.cell 1, s.b1.cell 2, s.b1.cell 3, s.b2.cell 0, s.b2.cell 1, s.b2.cell 2, s.b2.cell 3, b.cell 0, b.cell 1, b.cell 2, b.cell 3,
      conv_str W' 22 9 5 E1 n1 e1 (encB f) Try.underlying22 Try.underlying5 Try.underlying9 Hn1.out (HE1.out.keep k),
      conv_str W' 22 9 5 E2 n2 e2 (encB g) Try.underlying22 Try.underlying5 Try.underlying9 Hn2.out (HE2.out.keep k)⟩
  have hbq : ((strB (encB f)).toList == (strB (encB g)).toList) = decide (f = g) := by
    rw [← HSt.out]
    by_cases he : strB (encB f) = strB (encB g)
    · rw [str_beq he]; simp [he]
    · rw [str_bne he]; simp [he]
  refine wp_region_tx (fun W' => W'.cell? ⟨w.heap.size, 0, none⟩ = some (.slice Ca f.atoms.length ea) ∧ W'.cell? ⟨w.heap.size, 1, none⟩ = some (.slice Cf f.funs.length ef) ∧ W'.cell? ⟨w.heap.size, 2, none⟩ = some (.slice Cp f.preds.length ep) ∧ W'.cell? ⟨w.heap.size, 3, none⟩ = some (.slice Cc f.code.length ec) ∧ W'.cell? ⟨w.heap.size + 1, 0, none⟩ = some (.slice Da g.atoms.length ga) ∧ W'.cell? ⟨w.heap.size + 1, 1, none⟩ = some (.slice Df g.funs.length gf) ∧ W'.cell? ⟨w.heap.size + 1, 2, none⟩ = some (.slice Dp g.preds.length gp) ∧ W'.cell? ⟨w.heap.size + 1, 3, none⟩ = some (.slice Dc g.code.length gc) ∧ W'.cell? ⟨xb, 0, none⟩ = some (.slice Xa f.atoms.length xa) ∧ W'.cell? ⟨xb, 1, none⟩ = some (.slice Xf f.funs.length xf) ∧ W'.cell? ⟨xb, 2, none⟩ = some (.slice Xp f.preds.length xp) ∧ W'.cell? ⟨xb, 3, none⟩ = some (.slice Xc f.code.length xc) ∧ (convert 22 9 (.slice E1 n1 e1)).run Try.prog W' = .ok (.string (strB (encB f))) W' ∧ (convert 22 9 (.slice E2 n2 e2)).run Try.prog W' = .ok (.string (strB (encB g))) W') [(0, false), (1, true), (2, true), (3, true), (4, true), (5, true), (6, true), (7, true), (8, true), (9, true), (10, true), (11, true), (12, true), (13, true), (14, true), (16, true), (15, false), (17, false), (18, true), (19, true), (20, true), (21, true), (22, false), (23, false), (24, true), (25, true), (26, true), (28, true), (31, true), (32, true), (27, false), (29, false), (30, false), (33, false), (34, true), (35, true), (36, true), (37, true), (38, true), (39, true), (40, true), (41, true), (42, true), (43, true), (44, false), (45, true), (46, true), (47, false)] (by kernel_rfl) (by kernel_rfl) (by exact HP.out _ (Keeps.refl _ []).drew) (fun hHeld => ?_)
  refine wpTx_go rfl (fun K hK => ?_)
  go_simp
  refine (told_any _).mono ?_
  rintro e w20 ⟨rfl, k20⟩
  have K20 : Keeps w11 w20 [] := ((Keeps.refl w11 []).drew).trans k20
  refine hK.out _ _ ?_ ?_
  · exact HP.out _ K20
  (clear hHeld; intro hHeld; clear hK K)
  (repeat (first | (refine wpTx_take (v := ?_) rfl (by assumption) ?_ (by rfl) ?_; rotate_left; (focus (intro w' hSw; (try dsimp only at hSw); go_simp; (try with_reducible rfl); done)); simp only [Act.put, List.setIfInBounds_toArray, List.set_cons_zero, List.set_cons_succ]) | (refine wpTx_skip rfl (by assumption) (by rfl) ?_; simp only [Act.put, List.setIfInBounds_toArray, List.set_cons_zero, List.set_cons_succ])))
  refine wpTx_go rfl (fun K hK => ?_)
  go_simp
  refine (from_any f _ _ _ _ _ _ _ _ _ _ _ _ _ (HX.out.keep K20) Hff.out rfl rfl rfl rfl).mono ?_
  rintro e w21 ⟨Ya21, Yf21, Yp21, Yc21, ya21, yf21, yp21, yc21, rfl, h21, k21⟩
  have K21 : Keeps w11 w21 [] := (K20).trans k21
  refine hK.out _ _ ?_ ?_
  · exact HP.out _ K21
  (clear hHeld; intro hHeld; clear hK K; (try simp only [Act.put, List.setIfInBounds_toArray, List.set_cons_zero, List.set_cons_succ]))
  (repeat (first | (refine wpTx_take (v := ?_) rfl (by assumption) ?_ (by rfl) ?_; rotate_left; (focus (intro w' hSw; (try dsimp only at hSw); go_simp; (try with_reducible rfl); done)); simp only [Act.put, List.setIfInBounds_toArray, List.set_cons_zero, List.set_cons_succ]) | (refine wpTx_skip rfl (by assumption) (by rfl) ?_; simp only [Act.put, List.setIfInBounds_toArray, List.set_cons_zero, List.set_cons_succ])))
  refine wpTx_go rfl (fun K hK => ?_)
  go_simp
  refine (refSame_any f f _ _ _ _ _ _ _ _ _ _ _ _ _ _ _ _ _ _ _ _ _ _ _ _ _ (h21.keep (Keeps.refl _ [])) (HFx.out.keep K21) Hff.out Hff.out rfl rfl rfl rfl rfl rfl rfl rfl).mono ?_
  rintro e w22 ⟨rfl, k22⟩
  have K22 : Keeps w11 w22 [] := (K21).trans k22
  refine hK.out _ _ ?_ ?_
  · exact HP.out _ K22
  (clear hHeld; intro hHeld; clear hK K)
  (repeat (first | (refine wpTx_take (v := ?_) rfl (by assumption) ?_ (by rfl) ?_; rotate_left; (focus (intro w' hSw; (try dsimp only at hSw); go_simp; (try with_reducible rfl); done)); simp only [Act.put, List.setIfInBounds_toArray, List.set_cons_zero, List.set_cons_succ]) | (refine wpTx_skip rfl (by assumption) (by rfl) ?_; simp only [Act.put, List.setIfInBounds_toArray, List.set_cons_zero, List.set_cons_succ])))
  refine wpTx_go rfl (fun K hK => ?_)
  go_simp
  refine (to_any f _ _ _ _ _ _ _ _ _ _ _ _ _ (HFx.out.keep K22) Hff.out rfl rfl rfl rfl).mono ?_
  rintro e w23 ⟨Ya23, Yf23, Yp23, Yc23, ya23, yf23, yp23, yc23, rfl, h23, k23⟩
  have K23 : Keeps w11 w23 [] := (K22).trans k23
  refine hK.out _ _ ?_ ?_
  · exact HP.out _ K23
  (clear hHeld; intro hHeld; clear hK K; (try simp only [Act.put, List.setIfInBounds_toArray, List.set_cons_zero, List.set_cons_succ]))
  (repeat (first | (refine wpTx_take (v := ?_) rfl (by assumption) ?_ (by rfl) ?_; rotate_left; (focus (intro w' hSw; (try dsimp only at hSw); go_simp; (try with_reducible rfl); done)); simp only [Act.put, List.setIfInBounds_toArray, List.set_cons_zero, List.set_cons_succ]) | (refine wpTx_skip rfl (by assumption) (by rfl) ?_; simp only [Act.put, List.setIfInBounds_toArray, List.set_cons_zero, List.set_cons_succ])))
  refine wpTx_go rfl (fun K hK => ?_)
  go_simp
  refine (same_any f f _ _ _ _ _ _ _ _ _ _ _ _ _ _ _ _ _ _ _ _ _ _ _ _ _ (HX.out.keep K23) (h23.keep (Keeps.refl _ [])) Hff.out Hff.out rfl rfl rfl rfl rfl rfl rfl rfl).mono ?_
  rintro e w24 ⟨rfl, k24⟩
  have K24 : Keeps w11 w24 [] := (K23).trans k24
  refine hK.out _ _ ?_ ?_
  · exact HP.out _ K24
  (clear hHeld; intro hHeld; clear hK K)
  (repeat (first | (refine wpTx_take (v := ?_) rfl (by assumption) ?_ (by rfl) ?_; rotate_left; (focus (intro w' hSw; (try dsimp only at hSw); go_simp; (try with_reducible rfl); done)); simp only [Act.put, List.setIfInBounds_toArray, List.set_cons_zero, List.set_cons_succ]) | (refine wpTx_skip rfl (by assumption) (by rfl) ?_; simp only [Act.put, List.setIfInBounds_toArray, List.set_cons_zero, List.set_cons_succ])))
  refine wpTx_go rfl (fun K hK => ?_)
  go_simp
  refine (to_any f _ _ _ _ _ _ _ _ _ _ _ _ _ (HFx.out.keep K24) Hff.out rfl rfl rfl rfl).mono ?_
  rintro e w25 ⟨Ya25, Yf25, Yp25, Yc25, ya25, yf25, yp25, yc25, rfl, h25, k25⟩
  have K25 : Keeps w11 w25 [] := (K24).trans k25
  refine hK.out _ _ ?_ ?_
  · exact HP.out _ K25
  (clear hHeld; intro hHeld; clear hK K; (try simp only [Act.put, List.setIfInBounds_toArray, List.set_cons_zero, List.set_cons_succ]))
  (repeat (first | (refine wpTx_take (v := ?_) rfl (by assumption) ?_ (by rfl) ?_; rotate_left; (focus (intro w' hSw; (try dsimp only at hSw); go_simp; (try with_reducible rfl); done)); simp only [Act.put, List.setIfInBounds_toArray, List.set_cons_zero, List.set_cons_succ]) | (refine wpTx_skip rfl (by assumption) (by rfl) ?_; simp only [Act.put, List.setIfInBounds_toArray, List.set_cons_zero, List.set_cons_succ])))
  refine wpTx_go rfl (fun K hK => ?_)
  go_simp
  refine (to_any g _ _ _ _ _ _ _ _ _ _ _ _ _ (HGx.out.keep K25) Hgf.out rfl rfl rfl rfl).mono ?_
  rintro e w26 ⟨Ya26, Yf26, Yp26, Yc26, ya26, yf26, yp26, yc26, rfl, h26, k26⟩
  have K26 : Keeps w11 w26 [] := (K25).trans k26
  refine hK.out _ _ ?_ ?_
  · exact HP.out _ K26
  (clear hHeld; intro hHeld; clear hK K; (try simp only [Act.put, List.setIfInBounds_toArray, List.set_cons_zero, List.set_cons_succ]))
  (repeat (first | (refine wpTx_take (v := ?_) rfl (by assumption) ?_ (by rfl) ?_; rotate_left; (focus (intro w' hSw; (try dsimp only at hSw); go_simp; (try with_reducible rfl); done)); simp only [Act.put, List.setIfInBounds_toArray, List.set_cons_zero, List.set_cons_succ]) | (refine wpTx_skip rfl (by assumption) (by rfl) ?_; simp only [Act.put, List.setIfInBounds_toArray, List.set_cons_zero, List.set_cons_succ])))
  refine wpTx_go rfl (fun K hK => ?_)
  go_simp
  refine (same_any f g _ _ _ _ _ _ _ _ _ _ _ _ _ _ _ _ _ _ _ _ _ _ _ _ _ (h25.keep k26) (h26.keep (Keeps.refl _ [])) Hff.out Hgf.out rfl rfl rfl rfl rfl rfl rfl rfl).mono ?_
  rintro e w27 ⟨rfl, k27⟩
  have K27 : Keeps w11 w27 [] := (K26).trans k27
  refine hK.out _ _ ?_ ?_
  · exact HP.out _ K27
  (clear hHeld; intro hHeld; clear hK K; (try simp only [Act.put, List.setIfInBounds_toArray, List.set_cons_zero, List.set_cons_succ]))
  (repeat (first | (refine wpTx_take (v := ?_) rfl (by assumption) ?_ (by rfl) ?_; rotate_left; (focus (intro w' hSw; (try dsimp only at hSw); go_simp; (try with_reducible rfl); done)); simp only [Act.put, List.setIfInBounds_toArray, List.set_cons_zero, List.set_cons_succ]) | (refine wpTx_skip rfl (by assumption) (by rfl) ?_; simp only [Act.put, List.setIfInBounds_toArray, List.set_cons_zero, List.set_cons_succ])))
  refine wpTx_go rfl (fun K hK => ?_)
  go_simp
  refine (refSame_any f g _ _ _ _ _ _ _ _ _ _ _ _ _ _ _ _ _ _ _ _ _ _ _ _ _ (HFx.out.keep K27) (HGx.out.keep K27) Hff.out Hgf.out rfl rfl rfl rfl rfl rfl rfl rfl).mono ?_
  rintro e w28 ⟨rfl, k28⟩
  have K28 : Keeps w11 w28 [] := (K27).trans k28
  refine hK.out _ _ ?_ ?_
  · exact HP.out _ K28
  (clear hHeld; intro hHeld; clear hK K; (try simp only [Act.put, List.setIfInBounds_toArray, List.set_cons_zero, List.set_cons_succ]))
  (repeat (first | (refine wpTx_take (v := ?_) rfl (by assumption) ?_ (by rfl) ?_; rotate_left; (focus (intro w' hSw; (try dsimp only at hSw); go_simp; (try with_reducible rfl); done)); simp only [Act.put, List.setIfInBounds_toArray, List.set_cons_zero, List.set_cons_succ]) | (refine wpTx_skip rfl (by assumption) (by rfl) ?_; simp only [Act.put, List.setIfInBounds_toArray, List.set_cons_zero, List.set_cons_succ])))
  refine wpTx_go rfl (fun K hK => ?_)
  go_simp
  refine (refSame_any f g _ _ _ _ _ _ _ _ _ _ _ _ _ _ _ _ _ _ _ _ _ _ _ _ _ (HFx.out.keep K28) (HGx.out.keep K28) Hff.out Hgf.out rfl rfl rfl rfl rfl rfl rfl rfl).mono ?_
  rintro e w29 ⟨rfl, k29⟩
  have K29 : Keeps w11 w29 [] := (K28).trans k29
  refine hK.out _ _ ?_ ?_
  · exact HP.out _ K29
  (clear hHeld; intro hHeld; clear hK K; (try simp only [Act.put, List.setIfInBounds_toArray, List.set_cons_zero, List.set_cons_succ]))
  (repeat (first | (refine wpTx_take (v := ?_) rfl (by assumption) ?_ (by rfl) ?_; rotate_left; (focus (intro w' hSw; (try dsimp only at hSw); go_simp; (try with_reducible rfl); done)); simp only [Act.put, List.setIfInBounds_toArray, List.set_cons_zero, List.set_cons_succ]) | (refine wpTx_skip rfl (by assumption) (by rfl) ?_; simp only [Act.put, List.setIfInBounds_toArray, List.set_cons_zero, List.set_cons_succ])))
  refine wpTx_last rfl (fun K hK => ?_)
  go_simp
  refine hK.out _ _ (NoPanic.normal ?_); clear hK K; (try simp only [Act.put, List.setIfInBounds_toArray, List.set_cons_zero, List.set_cons_succ])
  go_wp2_with fail
  go_ret
  exact ⟨by simp, HSx.out.keep.trans K29⟩
end Go.Proofs.Ytdcjiohbnnipdaa
