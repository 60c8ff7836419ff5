/- MguMeets: the walk. Printed by gen_mgmeets.py. -/
import Derived.Test.YtjbomjnkjcafcaaMgTold
import Derived.Test.YtjbomjnkjcafcaaMgTwo
import Derived.Test.YtjbomjnkjcafcaaTmInts
import Derived.Test.YtjbomjnkjcafcaaText4
namespace Go.Proofs.Ytjbomjnkjcafcaa
open Go.RowKit

set_option maxRecDepth 100000 in
set_option maxHeartbeats 6400000 in
theorem mguMeets_any (t : Tm) (x0 : TV) (l : List Tm) (vs : List TV) (LA : Option Addr) (ln lc : Nat) (w : World) (ht : Tr w (fun _ => True) t x0) (hT : Trs w (fun _ => True) l vs) (hR : Rd w LA (vs.flatMap tvE)) (hl : l.length = ln) : Calls Try.prog 3 #[tvV x0, .slice LA ln lc] w fun e w' => e = .returned (.bool true) ∧ Keeps w w' [] := by
  have HT0 := Lib.hid ht
  have HTl := Lib.hid hT
  have HRl := Lib.hid hR
  have HL := Lib.hid hl
  have HFx : Hid (∀ (t : Tm) (v : TV) (w : World), Tr w (fun _ => True) t v → Calls Try.prog 7 #[.agg #[.int .i64 v.k, .int .i64 v.n, .string v.s, .slice v.A v.len v.c]] w (TDone [] (fun b => w.heap.size ≤ b) w (lFix t))) := fun t v w h => lFix_any t v w h
  have HTo : Hid (∀ (t : Tm) (v : TV) (w : World), tRight t = true → Tr w (fun _ => True) t v → Calls Try.prog 8 #[.agg #[.int .i64 v.k, .int .i64 v.n, .string v.s, .slice v.A v.len v.c]] w (TDone [] (fun b => w.heap.size ≤ b) w t)) := fun t v w h1 h2 => tmToW_any t v w h2 (tWid_of_right h1)
  have HGr : Hid (∀ (t : Tm) (v : TV) (w : World), tRight t = true → Tr w (fun _ => True) t v → Calls Try.prog 9 #[.agg #[.int .i64 v.k, .int .i64 v.n, .string v.s, .slice v.A v.len v.c]] w fun e w' => ∃ u, e = .returned (.agg #[.int .i64 u.k, .int .i64 u.n, .string u.s, .slice u.A u.len u.c]) ∧ Tr w' (fun _ => True) (tG t) u ∧ Keeps w w' []) := fun t v w h1 h2 => (ground_any t v w (fun b => True ∧ b < w.heap.size) (fun b h => h.2) h2.here (tWid_of_right h1)).mono fun e w' ⟨u, he, hu, hk⟩ => ⟨u, he, hu.mono fun _ _ => trivial, hk⟩
  clear ht hT hR hl
  unfold tvV
  have HB0 : Hid (Blk (w.alloc (.cells #[.int .i64 x0.k, .int .i64 x0.n, .string x0.s, .slice x0.A x0.len x0.c] 24)) w.heap.size 24 #[.int .i64 x0.k, .int .i64 x0.n, .string x0.s, .slice x0.A x0.len x0.c]) := Blk.new _ _ _
  have HK0 : Hid (Keeps w (w.alloc (.cells #[.int .i64 x0.k, .int .i64 x0.n, .string x0.s, .slice x0.A x0.len x0.c] 24)) []) := (Keeps.refl w []).alloc _
  have q0 := HB0.out.cell 0
  have q1 := HB0.out.cell 1
  have q2 := HB0.out.cell 2
  have q3 := HB0.out.cell 3
  go_enter Try.func3, Try.ntmps3
  go_upto_region 1 with fail
  generalize (w.alloc (.cells #[.int .i64 x0.k, .int .i64 x0.n, .string x0.s, .slice x0.A x0.len x0.c] 24)) = w0 at *
  go_wp2_with fail
  refine (HFx.out t x0 _ (HT0.out.keep HK0.out)).mono ?_
  rintro e w1 ⟨t1, rfl, ht1, k1⟩
  have hb1 := HB0.out.keep k1 (by simp)
  have HBt := Lib.hid (hb1.put4 (.int .i64 t1.k) (.int .i64 t1.n) (.string t1.s) (.slice t1.A t1.len t1.c))
  have HKt : Hid (Keeps w (set4 w1 w.heap.size (.int .i64 t1.k) (.int .i64 t1.n) (.string t1.s) (.slice t1.A t1.len t1.c)) []) := (HK0.out.trans k1).put4 (.inr (Nat.le_refl _)) (.int .i64 t1.k) (.int .i64 t1.n) (.string t1.s) (.slice t1.A t1.len t1.c)
  have hlt0 := HB0.out.lt
  have HTt : Hid (Tr (set4 w1 w.heap.size (.int .i64 t1.k) (.int .i64 t1.n) (.string t1.s) (.slice t1.A t1.len t1.c)) (fun b => w0.heap.size ≤ b) (lFix t) t1) := ht1.far4 (by omega) (.int .i64 t1.k) (.int .i64 t1.n) (.string t1.s) (.slice t1.A t1.len t1.c)
  unfold tvV
  have qc0 := hb1.cell 0
  have qc1 := hb1.cell 1
  have qc2 := hb1.cell 2
  have qc3 := hb1.cell 3
  have qf0 := hb1.frozen 0
  have qf1 := hb1.frozen 1
  have qf2 := hb1.frozen 2
  have qf3 := hb1.frozen 3
  clear hb1 ht1 k1 HB0 HK0 q0 q1 q2 q3
  go_upto_region 2 with fail
  change Code.wp _ _ _ _ (set4 w1 w.heap.size (.int .i64 t1.k) (.int .i64 t1.n) (.string t1.s) (.slice t1.A t1.len t1.c))
  generalize set4 w1 w.heap.size (.int .i64 t1.k) (.int .i64 t1.n) (.string t1.s) (.slice t1.A t1.len t1.c) = w2 at *
  clear qc0 qc1 qc2 qc3 qf0 qf1 qf2 qf3
  go_wp2_with fail
  go_loopw [5, 6, 7] (fun x5 x6 x7 wr => ∃ (j sm sc um uc : Nat) (SA UA : Option Addr) (pa pb : List (Int × TV)), j ≤ 6 ∧ j ≤ ln ∧ x7 = .int .i64 j ∧ x5 = .slice SA sm sc ∧ x6 = .slice UA um uc ∧ (half 0 l j).length = sm ∧ (half 1 l j).length = um ∧ Two 33 w2.heap.size w2 wr (half 0 l j) (half 1 l j) SA sm sc UA um uc pa pb) (fun _ _ i _ => 6 - (intOf i).toNat)
  case atStart => exact ⟨0, 0, 0, 0, 0, none, none, [], [], by omega, Nat.zero_le _, rfl, rfl, rfl, rfl, rfl, Two.start (Keeps.refl w2 []) (Nat.le_refl _)⟩
  case round =>
    obtain ⟨j, sm, sc, um, uc, SA, UA, pa, pb, hj6, hjl, rfl, rfl, rfl, hla, hlb', htw⟩ := hrel
    have HLa := Lib.hid hla
    have HLb := Lib.hid hlb'
    have HLn : Hid (sm ≤ 6 ∧ um ≤ 6) := by have h1 := half_len 0 l j; have h2 := half_len 1 l j; constructor <;> omega
    have HTW := Lib.hid htw
    have b0 : (0 : Int) ≤ (j : Int) := Int.natCast_nonneg _
    clear hla hlb' htw
    by_cases h6 : j < 6
    · have c6 : (j : Int) < 6 := by omega
      by_cases hlt : j < ln
      · obtain ⟨a, hx⟩ := at_of HL.out hlt
        have HGd : Hid (l.getD j tz = a) := by show _ = _; rw [List.getD_eq_getElem?_getD, hx]; rfl
        have kwr := HKt.out.trans HTW.out.keep
        obtain ⟨v', b, off, _, htr, rfl, hb, p0, p1, p2, p3⟩ := (HTl.out.keep kwr).get (HRl.out.keep kwr) hx
        have HTr := Lib.hid htr
        have b1 : (j : Int) < (ln : Int) := by omega
        clear hx htr kwr hb
        go_wp2_with fail
        refine (HFx.out a v' _ HTr.out).mono ?_
        rintro e w5 ⟨f1, rfl, hf1, k5⟩
        have HF1 := Lib.hid (hf1.mono (S' := fun _ => True) fun _ _ => trivial)
        have HK5 := Lib.hid k5
        unfold tvV
        clear hf1 k5 p0 p1 p2 p3 HTr
        go_wp2_with fail
        refine (HGr.out (lFix a) f1 _ (lFix_right a) HF1.out).mono ?_
        rintro e w6 ⟨g1, rfl, hg1, k6⟩
        have HG1 := Lib.hid hg1
        have HK6 := Lib.hid (HK5.out.trans k6)
        clear hg1 k6 HF1 HK5
        go_wp2_with fail
        refine (HTo.out (tG (lFix a)) g1 _ (tG_right _ (lFix_right a)) HG1.out).mono ?_
        rintro e w7 ⟨z1, rfl, hz1, k7⟩
        have hk7 := HK6.out.trans k7
        have hs6 := HK6.out.size
        have hz2 : Tr (w7.alloc (.cells #[.int .i64 (j : Int), .int .i64 z1.k, .int .i64 z1.n, .string z1.s, .slice z1.A z1.len z1.c] 33)) (fun b => wr.heap.size ≤ b) (Gd a) z1 := (hz1.mono fun b hb => Nat.le_trans hs6 hb).keep ((Keeps.refl w7 []).alloc _)
        have hb4 : Blk (w7.alloc (.cells #[.int .i64 (j : Int), .int .i64 z1.k, .int .i64 z1.n, .string z1.s, .slice z1.A z1.len z1.c] 33)) w7.heap.size 33 #[.int .i64 (j : Int), .int .i64 z1.k, .int .i64 z1.n, .string z1.s, .slice z1.A z1.len z1.c] := Blk.new _ _ _
        have hk8 := hk7.alloc (.cells #[.int .i64 (j : Int), .int .i64 z1.k, .int .i64 z1.n, .string z1.s, .slice z1.A z1.len z1.c] 33)
        unfold tvV
        go_upto_region 7 with fail
        generalize w7.alloc (.cells #[.int .i64 (j : Int), .int .i64 z1.k, .int .i64 z1.n, .string z1.s, .slice z1.A z1.len z1.c] 33) = w4 at hz2 hb4 hk8 ⊢
        have HZ4 := Lib.hid hz2
        have HK4 := Lib.hid hk8
        have HTW3 := Lib.hid (HTW.out.keep0 hk8)
        have y0 := hb4.cell 0
        have y1 := hb4.cell 1
        have y2 := hb4.cell 2
        have y3 := hb4.cell 3
        have y4 := hb4.cell 4
        clear hz1 k7 hk7 hs6 hz2 hb4 hk8 HG1 HK6
        by_cases hp : j % 2 = 0
        · have e7 : ((j : Int).tmod 2 == 0) = true := by rw [beq_iff_eq, Int.tmod_eq_emod_of_nonneg b0]; omega
          skip
          go_wp2_with (at_builtin; have K5 := HK4.out.alloc (.cells #[.int .i64 (j : Int), .int .i64 z1.k, .int .i64 z1.n, .string z1.s, .slice z1.A z1.len z1.c] 33); refine wpList_app _ el_pair rfl (.tmp 37) (.tmp 39) rfl w2.heap.size SA sm sc (pa.flatMap pvE) rfl (own_keep0 HTW3.out.oa ((Keeps.refl w4 []).alloc _)) (some ⟨w4.heap.size, 0, none⟩) 1 1 (pvE ((j : Int), z1)) rfl (Rd.one w4 _ (pvE ((j : Int), z1))) rfl (by simp) (by simp [pvE, Value.oneCell']) (by have := HLn.out; omega) (by simp; have := HTW3.out.keep.size; omega) ?_; intro A2 c2 w9 hown hgrow hat; have HTW5 := Lib.hid (HTW.out.push (x := (j : Int)) K5 (HZ4.out.keep ((Keeps.refl w4 []).alloc _)) hown hgrow hat); clear hown hgrow hat K5)
          go_roundw
          case rel =>
            refine ⟨j + 1, sm + 1, c2, um, uc, A2, UA, pa ++ [((j : Int), z1)], pb, by omega, by omega, by go_num, rfl, rfl, ?_, ?_, ?_⟩
            · rw [half, if_pos (show j % 2 = 0 by omega)]; simp [HLa.out]
            · rw [half, if_neg (show ¬ j % 2 = 1 by omega)]; simp [HLb.out]
            · have h5 := HTW5.out
              rw [half, half, if_pos (show j % 2 = 0 by omega), if_neg (show ¬ j % 2 = 1 by omega), List.append_nil, HGd.out]
              exact h5
          case measure => simp [intOf]; omega
        · have e7 : ((j : Int).tmod 2 == 0) = false := by rw [beq_eq_false_iff_ne, ne_eq, Int.tmod_eq_emod_of_nonneg b0]; omega
          skip
          go_wp2_with (at_builtin; have K5 := HK4.out.alloc (.cells #[.int .i64 (j : Int), .int .i64 z1.k, .int .i64 z1.n, .string z1.s, .slice z1.A z1.len z1.c] 33); refine wpList_app _ el_pair rfl (.tmp 41) (.tmp 43) rfl w2.heap.size UA um uc (pb.flatMap pvE) rfl (own_keep0 HTW3.out.ob ((Keeps.refl w4 []).alloc _)) (some ⟨w4.heap.size, 0, none⟩) 1 1 (pvE ((j : Int), z1)) rfl (Rd.one w4 _ (pvE ((j : Int), z1))) rfl (by simp) (by simp [pvE, Value.oneCell']) (by have := HLn.out; omega) (by simp; have := HTW3.out.keep.size; omega) ?_; intro A2 c2 w9 hown hgrow hat; have HTW5 := Lib.hid (HTW.out.swap.push (x := (j : Int)) K5 (HZ4.out.keep ((Keeps.refl w4 []).alloc _)) hown hgrow hat); clear hown hgrow hat K5)
          go_roundw
          case rel =>
            refine ⟨j + 1, sm, sc, um + 1, c2, SA, A2, pa, pb ++ [((j : Int), z1)], by omega, by omega, by go_num, rfl, rfl, ?_, ?_, ?_⟩
            · rw [half, if_neg (show ¬ j % 2 = 0 by omega)]; simp [HLa.out]
            · rw [half, if_pos (show j % 2 = 1 by omega)]; simp [HLb.out]
            · have h5 := HTW5.out.swap
              rw [half, half, if_neg (show ¬ j % 2 = 0 by omega), if_pos (show j % 2 = 1 by omega), List.append_nil, HGd.out]
              exact h5
          case measure => simp [intOf]; omega
      · have b1 : ¬ (j : Int) < (ln : Int) := by omega
        clear b0 hj6 hjl
        have HBr := Lib.hid (HBt.out.keep HTW.out.keep (by simp))
        have HTr : Hid (Tr wr (fun _ => True) (lFix t) t1) := (HTt.out.keep HTW.out.keep).mono fun _ _ => trivial
        have HKr := Lib.hid (HKt.out.trans HTW.out.keep)
        obtain ⟨x, y, hx0, hx1, ix, iy, dx, dy, fuel, sx, hrun⟩ := meets_law t l j
        have HAp0 : Hid (∀ (S : Nat → Prop) (u : TV) W', Keeps wr W' [] → (∀ b, S b → b < W'.heap.size) → (∀ b, b < wr.heap.size → S b) → Tr W' S (lFix t) u → Calls Try.prog 10 #[.slice SA sm sc, .agg #[.int .i64 u.k, .int .i64 u.n, .string u.s, .slice u.A u.len u.c]] W' (fun e w' => ∃ z, e = .returned (.agg #[.int .i64 z.k, .int .i64 z.n, .string z.s, .slice z.A z.len z.c]) ∧ Tr w' (fun b => S b ∨ W'.heap.size ≤ b) x z ∧ Keeps W' w' [])) := fun S u W' k h1 h2 h3 => by
          have h4 := applyTop_any (half 0 l j) SA sm sc HLa.out (by have := HLn.out; omega) (fun p hp => tWid_of_right ((half_gs 0 l j).rt p hp)) (lFix t) u W' S h1 h3 (tWid_of_right (lFix_right t)) (((HTW.out.sub.here).mono fun b hb => h2 b hb.2).keep k)
          rw [hx0] at h4
          exact h4
        have HAp1 : Hid (∀ (S : Nat → Prop) (u : TV) W', Keeps wr W' [] → (∀ b, S b → b < W'.heap.size) → (∀ b, b < wr.heap.size → S b) → Tr W' S (lFix t) u → Calls Try.prog 10 #[.slice UA um uc, .agg #[.int .i64 u.k, .int .i64 u.n, .string u.s, .slice u.A u.len u.c]] W' (fun e w' => ∃ z, e = .returned (.agg #[.int .i64 z.k, .int .i64 z.n, .string z.s, .slice z.A z.len z.c]) ∧ Tr w' (fun b => S b ∨ W'.heap.size ≤ b) y z ∧ Keeps W' w' [])) := fun S u W' k h1 h2 h3 => by
          have h4 := applyTop_any (half 1 l j) UA um uc HLb.out (by have := HLn.out; omega) (fun p hp => tWid_of_right ((half_gs 1 l j).rt p hp)) (lFix t) u W' S h1 h3 (tWid_of_right (lFix_right t)) (((HTW.out.swap.sub.here).mono fun b hb => h2 b hb.2).keep k)
          rw [hx1] at h4
          exact h4
        have HUn : Hid (∀ u v w, Tr w (fun _ => True) x u → Tr w (fun _ => True) y v → Calls Try.prog 11 #[.agg #[.int .i64 u.k, .int .i64 u.n, .string u.s, .slice u.A u.len u.c], .agg #[.int .i64 v.k, .int .i64 v.n, .string v.s, .slice v.A v.len v.c]] w fun e w' => Keeps w w' [] ∧ ∃ A c, e = .returned (.tuple #[.slice A sx.length c, .int .i64 0])) := fun u v w h1 h2 => by
          refine (unify_any Vs6 few6 (by decide) x y u v w h1 h2 ix iy dx dy fuel _ hrun).mono ?_
          rintro e w' ⟨k, A, c, rfl, _⟩
          exact ⟨k, A, c, rfl⟩
        clear hx0 hx1 ix iy dx dy hrun HFx HGr HBt HTt
        go_upto_region 10 with fail
        have HP : Hid (∀ W', Keeps wr W' [] → (Keeps wr W' [] ∧ W'.cell? ⟨w.heap.size, 0, none⟩ = some (.int .i64 t1.k) ∧ W'.cell? ⟨w.heap.size, 1, none⟩ = some (.int .i64 t1.n) ∧ W'.cell? ⟨w.heap.size, 2, none⟩ = some (.string t1.s) ∧ W'.cell? ⟨w.heap.size, 3, none⟩ = some (.slice t1.A t1.len t1.c))) := fun W' k => by
          have b0 := HBr.out.keep k (by simp)
          exact ⟨k, b0.cell 0, b0.cell 1, b0.cell 2, b0.cell 3⟩
        refine wp_region_tw (fun W' => Keeps wr W' [] ∧ W'.cell? ⟨w.heap.size, 0, none⟩ = some (.int .i64 t1.k) ∧ W'.cell? ⟨w.heap.size, 1, none⟩ = some (.int .i64 t1.n) ∧ W'.cell? ⟨w.heap.size, 2, none⟩ = some (.string t1.s) ∧ W'.cell? ⟨w.heap.size, 3, none⟩ = some (.slice t1.A t1.len t1.c)) 10 [.op ⟨8, 9, fun b => .pointer (some ⟨b, 0, none⟩), 30, #[.int .i64 0, .int .i64 0, .string ⟨#[]⟩, .slice none 0 0]⟩, .op ⟨9, 10, fun b => .pointer (some ⟨b, 0, none⟩), 30, #[.int .i64 0, .int .i64 0, .string ⟨#[]⟩, .slice none 0 0]⟩, .take 0, .take 1, .take 4, .take 5, .go 2, .go 3, .go 6, .go 7, .cl] [(10, false), (11, false)] (by kernel_rfl) (by kernel_rfl) (fun w1 w2 k h => HP.out _ (h.1.trans k)) (by exact HP.out _ (Keeps.refl _ []).drew) (fun _ => ?_)
        (refine wpTw_op rfl rfl (by intro w' hSw; (try dsimp only at hSw); go_simp; (try with_reducible rfl); done) (by rfl) ?_; simp only [List.nil_append])
        (refine wpTw_op rfl rfl (by intro w' hSw; (try dsimp only at hSw); go_simp; (try with_reducible rfl); done) (by rfl) ?_; simp only [List.nil_append, List.cons_append])
        (repeat (first | (refine wpTw_take (v := ?_) rfl ?_ (by rfl) ?_; rotate_left; (focus (intro w' hSw; (try dsimp only at hSw); go_simp; (try with_reducible rfl); done)); simp only [Act.put, List.setIfInBounds_toArray, List.set_cons_zero, List.set_cons_succ]) | (refine wpTw_skip rfl (by rfl) ?_; simp only [Act.put, List.setIfInBounds_toArray, List.set_cons_zero, List.set_cons_succ])))
        refine wpTw_go rfl (fun W31 hk31 hS31 K hK => ?_)
        have J31 := Lib.hid hS31.1
        have L31 := Lib.hid hk31
        clear hS31 hk31
        go_simp
        refine (HTo.out (lFix t) t1 _ (lFix_right t) (HTr.out.keep J31.out)).mono ?_
        rintro e w31 ⟨u1, rfl, hu1, k31⟩
        have K31 := Lib.hid (J31.out.trans k31)
        have N31 := Lib.hid (L31.out.trans k31)
        have HU1 := Lib.hid hu1.here
        unfold tvV
        clear hu1
        refine hK.out _ _ k31 (HP.out _ K31.out) (fun _ => ?_)
        clear hK K
        (try simp only [Act.put, List.setIfInBounds_toArray, List.set_cons_zero, List.set_cons_succ])
        refine wpTw_go rfl (fun W32 hk32 hS32 K hK => ?_)
        have J32 := Lib.hid hS32.1
        have L32 := Lib.hid hk32
        clear hS32 hk32
        go_simp
        refine (HAp0.out (fun b => b < wr.heap.size ∨ (W31.heap.size ≤ b ∧ b < w31.heap.size)) u1 _ J32.out (fun b hb => by have := J32.out.size; have := L32.out.size; omega) (fun b hb => .inl hb) ((HU1.out.keep L32.out).mono fun b hb => .inr hb)).mono ?_
        rintro e w32 ⟨xv, rfl, hxv, k32⟩
        have K32 := Lib.hid (J32.out.trans k32)
        have N32 := Lib.hid (L32.out.trans k32)
        have HXv := Lib.hid hxv.here
        clear hxv
        refine hK.out _ _ k32 (HP.out _ K32.out) (fun _ => ?_)
        clear hK K
        (try simp only [Act.put, List.setIfInBounds_toArray, List.set_cons_zero, List.set_cons_succ])
        refine wpTw_go rfl (fun W33 hk33 hS33 K hK => ?_)
        have J33 := Lib.hid hS33.1
        have L33 := Lib.hid hk33
        clear hS33 hk33
        go_simp
        refine (HTo.out (lFix t) t1 _ (lFix_right t) (HTr.out.keep J33.out)).mono ?_
        rintro e w33 ⟨u2, rfl, hu2, k33⟩
        have K33 := Lib.hid (J33.out.trans k33)
        have N33 := Lib.hid (L33.out.trans k33)
        have HU2 := Lib.hid hu2.here
        unfold tvV
        clear hu2
        refine hK.out _ _ k33 (HP.out _ K33.out) (fun _ => ?_)
        clear hK K
        (try simp only [Act.put, List.setIfInBounds_toArray, List.set_cons_zero, List.set_cons_succ])
        refine wpTw_go rfl (fun W34 hk34 hS34 K hK => ?_)
        have J34 := Lib.hid hS34.1
        have L34 := Lib.hid hk34
        clear hS34 hk34
        go_simp
        refine (HAp1.out (fun b => b < wr.heap.size ∨ (W33.heap.size ≤ b ∧ b < w33.heap.size)) u2 _ J34.out (fun b hb => by have := J34.out.size; have := L34.out.size; omega) (fun b hb => .inl hb) ((HU2.out.keep L34.out).mono fun b hb => .inr hb)).mono ?_
        rintro e w34 ⟨yv, rfl, hyv, k34⟩
        have K34 := Lib.hid (J34.out.trans k34)
        have N34 := Lib.hid (L34.out.trans k34)
        have HYv := Lib.hid hyv.here
        clear hyv
        refine hK.out _ _ k34 (HP.out _ K34.out) (fun _ => ?_)
        clear hK K
        (try simp only [Act.put, List.setIfInBounds_toArray, List.set_cons_zero, List.set_cons_succ])
        refine wpTw_cl (fun W35 hk35 hS35 => ?_)
        intro xb xb_b xb_u xb_x xb_B
        dsimp only at xb_B
        intro yb yb_b yb_u yb_x yb_B
        dsimp only at yb_B
        have J35 := Lib.hid hS35.1
        have L35 := Lib.hid hk35
        clear hS35 hk35
        have xb_31 := xb_x (W31.heap.size, w31.heap.size) (by simp)
        dsimp only at xb_31
        have xb_32 := xb_x (W32.heap.size, w32.heap.size) (by simp)
        dsimp only at xb_32
        have xb_33 := xb_x (W33.heap.size, w33.heap.size) (by simp)
        dsimp only at xb_33
        have xb_34 := xb_x (W34.heap.size, w34.heap.size) (by simp)
        dsimp only at xb_34
        have xb_H := Lib.hid xb_B
        clear xb_x xb_B
        have yb_31 := yb_x (W31.heap.size, w31.heap.size) (by simp)
        dsimp only at yb_31
        have yb_32 := yb_x (W32.heap.size, w32.heap.size) (by simp)
        dsimp only at yb_32
        have yb_33 := yb_x (W33.heap.size, w33.heap.size) (by simp)
        dsimp only at yb_33
        have yb_34 := yb_x (W34.heap.size, w34.heap.size) (by simp)
        dsimp only at yb_34
        have yb_H := Lib.hid yb_B
        clear yb_x yb_B
        clear xb_u
        simp only [List.mem_cons, List.not_mem_nil, or_false] at yb_u
        (try simp only [Act.put, List.setIfInBounds_toArray, List.set_cons_zero, List.set_cons_succ])
        have q := xb_H.out
        have p := yb_H.out
        have qc0 := q.cell 0
        have qf0 := q.frozen 0
        have qc1 := q.cell 1
        have qf1 := q.frozen 1
        have qc2 := q.cell 2
        have qf2 := q.frozen 2
        have qc3 := q.cell 3
        have qf3 := q.frozen 3
        have pc0 := p.cell 0
        have pf0 := p.frozen 0
        have pc1 := p.cell 1
        have pf1 := p.frozen 1
        have pc2 := p.cell 2
        have pf2 := p.frozen 2
        have pc3 := p.cell 3
        have pf3 := p.frozen 3
        change wpTy _ _ _ _ _ _ _ _
        refine wpTy_tail rfl (by decide) (fun K hK => ?_)
        go_simp
        refine hK.out _ _ ?_; clear hK K; (try simp only [Act.put, List.setIfInBounds_toArray, List.set_cons_zero, List.set_cons_succ])
        refine wpTy_last rfl (by decide) (fun K hK => ?_)
        go_simp
        refine hK.out _ _ (NoPanic.normal ?_)
        clear hK K
        (try simp only [Act.put, List.setIfInBounds_toArray, List.set_cons_zero, List.set_cons_succ])
        change Exit.then _ _ _ _ (set4 (set4 W35 xb (.int .i64 xv.k) (.int .i64 xv.n) (.string xv.s) (.slice xv.A xv.len xv.c)) yb (.int .i64 yv.k) (.int .i64 yv.n) (.string yv.s) (.slice yv.A yv.len yv.c))
        have HX := Lib.hid ((q.put4 (.int .i64 xv.k) (.int .i64 xv.n) (.string xv.s) (.slice xv.A xv.len xv.c)).far4 (g' := yb) (by omega) (.int .i64 yv.k) (.int .i64 yv.n) (.string yv.s) (.slice yv.A yv.len yv.c))
        have HY := Lib.hid ((p.far4 (g' := xb) (by omega) (.int .i64 xv.k) (.int .i64 xv.n) (.string xv.s) (.slice xv.A xv.len xv.c)).put4 (.int .i64 yv.k) (.int .i64 yv.n) (.string yv.s) (.slice yv.A yv.len yv.c))
        have HK8 := Lib.hid (((HKr.out.trans J35.out).put4 (g := xb) (.inr (by have := HKr.out.size; omega)) (.int .i64 xv.k) (.int .i64 xv.n) (.string xv.s) (.slice xv.A xv.len xv.c)).put4 (g := yb) (.inr (by have := HKr.out.size; omega)) (.int .i64 yv.k) (.int .i64 yv.n) (.string yv.s) (.slice yv.A yv.len yv.c))
        have HTx := Lib.hid ((((HXv.out.keep (N33.out.trans (N34.out.trans L35.out))).far4 (g := xb) (by omega) (.int .i64 xv.k) (.int .i64 xv.n) (.string xv.s) (.slice xv.A xv.len xv.c)).far4 (g := yb) (by omega) (.int .i64 yv.k) (.int .i64 yv.n) (.string yv.s) (.slice yv.A yv.len yv.c)).mono (S' := fun _ => True) fun _ _ => trivial)
        have HTy := Lib.hid ((((HYv.out.keep L35.out).far4 (g := xb) (by omega) (.int .i64 xv.k) (.int .i64 xv.n) (.string xv.s) (.slice xv.A xv.len xv.c)).far4 (g := yb) (by omega) (.int .i64 yv.k) (.int .i64 yv.n) (.string yv.s) (.slice yv.A yv.len yv.c)).mono (S' := fun _ => True) fun _ _ => trivial)
        generalize set4 (set4 W35 xb (.int .i64 xv.k) (.int .i64 xv.n) (.string xv.s) (.slice xv.A xv.len xv.c)) yb (.int .i64 yv.k) (.int .i64 yv.n) (.string yv.s) (.slice yv.A yv.len yv.c) = w8 at HX HY HK8 HTx HTy ⊢
        clear HXv HYv HU1 HU2 HP J31 J32 J33 J34 J35 K31 K32 K33 K34 L31 L32 L33 L34 L35 N31 N32 N33 N34 q p k31 k32 k33 k34 xb_b yb_b yb_u xb_H yb_H xb_31 xb_32 xb_33 xb_34 yb_31 yb_32 yb_33 yb_34
        clear qc0 qf0 qc1 qf1 qc2 qf2 qc3 qf3 pc0 pf0 pc1 pf1 pc2 pf2 pc3 pf3
        have q0 := HX.out.cell 0
        have q1 := HX.out.cell 1
        have q2 := HX.out.cell 2
        have q3 := HX.out.cell 3
        have p0 := HY.out.cell 0
        have p1 := HY.out.cell 1
        have p2 := HY.out.cell 2
        have p3 := HY.out.cell 3
        go_wp2_with fail
        refine (HUn.out xv yv _ HTx.out HTy.out).mono ?_
        rintro e w9 ⟨k9, A9, c9, rfl⟩
        go_wp2_with fail
        refine (told4_any _).mono ?_
        rintro e w10 ⟨rfl, k10⟩
        go_wp2_with fail
        go_ret
        exact ⟨rfl, (HK8.out.trans k9).trans k10⟩

    · obtain rfl : j = 6 := by omega
      clear b0 hj6 hjl
      have HBr := Lib.hid (HBt.out.keep HTW.out.keep (by simp))
      have HTr : Hid (Tr wr (fun _ => True) (lFix t) t1) := (HTt.out.keep HTW.out.keep).mono fun _ _ => trivial
      have HKr := Lib.hid (HKt.out.trans HTW.out.keep)
      obtain ⟨x, y, hx0, hx1, ix, iy, dx, dy, fuel, sx, hrun⟩ := meets_law t l 6
      have HAp0 : Hid (∀ (S : Nat → Prop) (u : TV) W', Keeps wr W' [] → (∀ b, S b → b < W'.heap.size) → (∀ b, b < wr.heap.size → S b) → Tr W' S (lFix t) u → Calls Try.prog 10 #[.slice SA sm sc, .agg #[.int .i64 u.k, .int .i64 u.n, .string u.s, .slice u.A u.len u.c]] W' (fun e w' => ∃ z, e = .returned (.agg #[.int .i64 z.k, .int .i64 z.n, .string z.s, .slice z.A z.len z.c]) ∧ Tr w' (fun b => S b ∨ W'.heap.size ≤ b) x z ∧ Keeps W' w' [])) := fun S u W' k h1 h2 h3 => by
        have h4 := applyTop_any (half 0 l 6) SA sm sc HLa.out (by have := HLn.out; omega) (fun p hp => tWid_of_right ((half_gs 0 l 6).rt p hp)) (lFix t) u W' S h1 h3 (tWid_of_right (lFix_right t)) (((HTW.out.sub.here).mono fun b hb => h2 b hb.2).keep k)
        rw [hx0] at h4
        exact h4
      have HAp1 : Hid (∀ (S : Nat → Prop) (u : TV) W', Keeps wr W' [] → (∀ b, S b → b < W'.heap.size) → (∀ b, b < wr.heap.size → S b) → Tr W' S (lFix t) u → Calls Try.prog 10 #[.slice UA um uc, .agg #[.int .i64 u.k, .int .i64 u.n, .string u.s, .slice u.A u.len u.c]] W' (fun e w' => ∃ z, e = .returned (.agg #[.int .i64 z.k, .int .i64 z.n, .string z.s, .slice z.A z.len z.c]) ∧ Tr w' (fun b => S b ∨ W'.heap.size ≤ b) y z ∧ Keeps W' w' [])) := fun S u W' k h1 h2 h3 => by
        have h4 := applyTop_any (half 1 l 6) UA um uc HLb.out (by have := HLn.out; omega) (fun p hp => tWid_of_right ((half_gs 1 l 6).rt p hp)) (lFix t) u W' S h1 h3 (tWid_of_right (lFix_right t)) (((HTW.out.swap.sub.here).mono fun b hb => h2 b hb.2).keep k)
        rw [hx1] at h4
        exact h4
      have HUn : Hid (∀ u v w, Tr w (fun _ => True) x u → Tr w (fun _ => True) y v → Calls Try.prog 11 #[.agg #[.int .i64 u.k, .int .i64 u.n, .string u.s, .slice u.A u.len u.c], .agg #[.int .i64 v.k, .int .i64 v.n, .string v.s, .slice v.A v.len v.c]] w fun e w' => Keeps w w' [] ∧ ∃ A c, e = .returned (.tuple #[.slice A sx.length c, .int .i64 0])) := fun u v w h1 h2 => by
        refine (unify_any Vs6 few6 (by decide) x y u v w h1 h2 ix iy dx dy fuel _ hrun).mono ?_
        rintro e w' ⟨k, A, c, rfl, _⟩
        exact ⟨k, A, c, rfl⟩
      clear hx0 hx1 ix iy dx dy hrun HFx HGr HBt HTt
      go_upto_region 10 with fail
      have HP : Hid (∀ W', Keeps wr W' [] → (Keeps wr W' [] ∧ W'.cell? ⟨w.heap.size, 0, none⟩ = some (.int .i64 t1.k) ∧ W'.cell? ⟨w.heap.size, 1, none⟩ = some (.int .i64 t1.n) ∧ W'.cell? ⟨w.heap.size, 2, none⟩ = some (.string t1.s) ∧ W'.cell? ⟨w.heap.size, 3, none⟩ = some (.slice t1.A t1.len t1.c))) := fun W' k => by
        have b0 := HBr.out.keep k (by simp)
        exact ⟨k, b0.cell 0, b0.cell 1, b0.cell 2, b0.cell 3⟩
      refine wp_region_tw (fun W' => Keeps wr W' [] ∧ W'.cell? ⟨w.heap.size, 0, none⟩ = some (.int .i64 t1.k) ∧ W'.cell? ⟨w.heap.size, 1, none⟩ = some (.int .i64 t1.n) ∧ W'.cell? ⟨w.heap.size, 2, none⟩ = some (.string t1.s) ∧ W'.cell? ⟨w.heap.size, 3, none⟩ = some (.slice t1.A t1.len t1.c)) 10 [.op ⟨8, 9, fun b => .pointer (some ⟨b, 0, none⟩), 30, #[.int .i64 0, .int .i64 0, .string ⟨#[]⟩, .slice none 0 0]⟩, .op ⟨9, 10, fun b => .pointer (some ⟨b, 0, none⟩), 30, #[.int .i64 0, .int .i64 0, .string ⟨#[]⟩, .slice none 0 0]⟩, .take 0, .take 1, .take 4, .take 5, .go 2, .go 3, .go 6, .go 7, .cl] [(10, false), (11, false)] (by kernel_rfl) (by kernel_rfl) (fun w1 w2 k h => HP.out _ (h.1.trans k)) (by exact HP.out _ (Keeps.refl _ []).drew) (fun _ => ?_)
      (refine wpTw_op rfl rfl (by intro w' hSw; (try dsimp only at hSw); go_simp; (try with_reducible rfl); done) (by rfl) ?_; simp only [List.nil_append])
      (refine wpTw_op rfl rfl (by intro w' hSw; (try dsimp only at hSw); go_simp; (try with_reducible rfl); done) (by rfl) ?_; simp only [List.nil_append, List.cons_append])
      (repeat (first | (refine wpTw_take (v := ?_) rfl ?_ (by rfl) ?_; rotate_left; (focus (intro w' hSw; (try dsimp only at hSw); go_simp; (try with_reducible rfl); done)); simp only [Act.put, List.setIfInBounds_toArray, List.set_cons_zero, List.set_cons_succ]) | (refine wpTw_skip rfl (by rfl) ?_; simp only [Act.put, List.setIfInBounds_toArray, List.set_cons_zero, List.set_cons_succ])))
      refine wpTw_go rfl (fun W31 hk31 hS31 K hK => ?_)
      have J31 := Lib.hid hS31.1
      have L31 := Lib.hid hk31
      clear hS31 hk31
      go_simp
      refine (HTo.out (lFix t) t1 _ (lFix_right t) (HTr.out.keep J31.out)).mono ?_
      rintro e w31 ⟨u1, rfl, hu1, k31⟩
      have K31 := Lib.hid (J31.out.trans k31)
      have N31 := Lib.hid (L31.out.trans k31)
      have HU1 := Lib.hid hu1.here
      unfold tvV
      clear hu1
      refine hK.out _ _ k31 (HP.out _ K31.out) (fun _ => ?_)
      clear hK K
      (try simp only [Act.put, List.setIfInBounds_toArray, List.set_cons_zero, List.set_cons_succ])
      refine wpTw_go rfl (fun W32 hk32 hS32 K hK => ?_)
      have J32 := Lib.hid hS32.1
      have L32 := Lib.hid hk32
      clear hS32 hk32
      go_simp
      refine (HAp0.out (fun b => b < wr.heap.size ∨ (W31.heap.size ≤ b ∧ b < w31.heap.size)) u1 _ J32.out (fun b hb => by have := J32.out.size; have := L32.out.size; omega) (fun b hb => .inl hb) ((HU1.out.keep L32.out).mono fun b hb => .inr hb)).mono ?_
      rintro e w32 ⟨xv, rfl, hxv, k32⟩
      have K32 := Lib.hid (J32.out.trans k32)
      have N32 := Lib.hid (L32.out.trans k32)
      have HXv := Lib.hid hxv.here
      clear hxv
      refine hK.out _ _ k32 (HP.out _ K32.out) (fun _ => ?_)
      clear hK K
      (try simp only [Act.put, List.setIfInBounds_toArray, List.set_cons_zero, List.set_cons_succ])
      refine wpTw_go rfl (fun W33 hk33 hS33 K hK => ?_)
      have J33 := Lib.hid hS33.1
      have L33 := Lib.hid hk33
      clear hS33 hk33
      go_simp
      refine (HTo.out (lFix t) t1 _ (lFix_right t) (HTr.out.keep J33.out)).mono ?_
      rintro e w33 ⟨u2, rfl, hu2, k33⟩
      have K33 := Lib.hid (J33.out.trans k33)
      have N33 := Lib.hid (L33.out.trans k33)
      have HU2 := Lib.hid hu2.here
      unfold tvV
      clear hu2
      refine hK.out _ _ k33 (HP.out _ K33.out) (fun _ => ?_)
      clear hK K
      (try simp only [Act.put, List.setIfInBounds_toArray, List.set_cons_zero, List.set_cons_succ])
      refine wpTw_go rfl (fun W34 hk34 hS34 K hK => ?_)
      have J34 := Lib.hid hS34.1
      have L34 := Lib.hid hk34
      clear hS34 hk34
      go_simp
      refine (HAp1.out (fun b => b < wr.heap.size ∨ (W33.heap.size ≤ b ∧ b < w33.heap.size)) u2 _ J34.out (fun b hb => by have := J34.out.size; have := L34.out.size; omega) (fun b hb => .inl hb) ((HU2.out.keep L34.out).mono fun b hb => .inr hb)).mono ?_
      rintro e w34 ⟨yv, rfl, hyv, k34⟩
      have K34 := Lib.hid (J34.out.trans k34)
      have N34 := Lib.hid (L34.out.trans k34)
      have HYv := Lib.hid hyv.here
      clear hyv
      refine hK.out _ _ k34 (HP.out _ K34.out) (fun _ => ?_)
      clear hK K
      (try simp only [Act.put, List.setIfInBounds_toArray, List.set_cons_zero, List.set_cons_succ])
      refine wpTw_cl (fun W35 hk35 hS35 => ?_)
      intro xb xb_b xb_u xb_x xb_B
      dsimp only at xb_B
      intro yb yb_b yb_u yb_x yb_B
      dsimp only at yb_B
      have J35 := Lib.hid hS35.1
      have L35 := Lib.hid hk35
      clear hS35 hk35
      have xb_31 := xb_x (W31.heap.size, w31.heap.size) (by simp)
      dsimp only at xb_31
      have xb_32 := xb_x (W32.heap.size, w32.heap.size) (by simp)
      dsimp only at xb_32
      have xb_33 := xb_x (W33.heap.size, w33.heap.size) (by simp)
      dsimp only at xb_33
      have xb_34 := xb_x (W34.heap.size, w34.heap.size) (by simp)
      dsimp only at xb_34
      have xb_H := Lib.hid xb_B
      clear xb_x xb_B
      have yb_31 := yb_x (W31.heap.size, w31.heap.size) (by simp)
      dsimp only at yb_31
      have yb_32 := yb_x (W32.heap.size, w32.heap.size) (by simp)
      dsimp only at yb_32
      have yb_33 := yb_x (W33.heap.size, w33.heap.size) (by simp)
      dsimp only at yb_33
      have yb_34 := yb_x (W34.heap.size, w34.heap.size) (by simp)
      dsimp only at yb_34
      have yb_H := Lib.hid yb_B
      clear yb_x yb_B
      clear xb_u
      simp only [List.mem_cons, List.not_mem_nil, or_false] at yb_u
      (try simp only [Act.put, List.setIfInBounds_toArray, List.set_cons_zero, List.set_cons_succ])
      have q := xb_H.out
      have p := yb_H.out
      have qc0 := q.cell 0
      have qf0 := q.frozen 0
      have qc1 := q.cell 1
      have qf1 := q.frozen 1
      have qc2 := q.cell 2
      have qf2 := q.frozen 2
      have qc3 := q.cell 3
      have qf3 := q.frozen 3
      have pc0 := p.cell 0
      have pf0 := p.frozen 0
      have pc1 := p.cell 1
      have pf1 := p.frozen 1
      have pc2 := p.cell 2
      have pf2 := p.frozen 2
      have pc3 := p.cell 3
      have pf3 := p.frozen 3
      change wpTy _ _ _ _ _ _ _ _
      refine wpTy_tail rfl (by decide) (fun K hK => ?_)
      go_simp
      refine hK.out _ _ ?_; clear hK K; (try simp only [Act.put, List.setIfInBounds_toArray, List.set_cons_zero, List.set_cons_succ])
      refine wpTy_last rfl (by decide) (fun K hK => ?_)
      go_simp
      refine hK.out _ _ (NoPanic.normal ?_)
      clear hK K
      (try simp only [Act.put, List.setIfInBounds_toArray, List.set_cons_zero, List.set_cons_succ])
      change Exit.then _ _ _ _ (set4 (set4 W35 xb (.int .i64 xv.k) (.int .i64 xv.n) (.string xv.s) (.slice xv.A xv.len xv.c)) yb (.int .i64 yv.k) (.int .i64 yv.n) (.string yv.s) (.slice yv.A yv.len yv.c))
      have HX := Lib.hid ((q.put4 (.int .i64 xv.k) (.int .i64 xv.n) (.string xv.s) (.slice xv.A xv.len xv.c)).far4 (g' := yb) (by omega) (.int .i64 yv.k) (.int .i64 yv.n) (.string yv.s) (.slice yv.A yv.len yv.c))
      have HY := Lib.hid ((p.far4 (g' := xb) (by omega) (.int .i64 xv.k) (.int .i64 xv.n) (.string xv.s) (.slice xv.A xv.len xv.c)).put4 (.int .i64 yv.k) (.int .i64 yv.n) (.string yv.s) (.slice yv.A yv.len yv.c))
      have HK8 := Lib.hid (((HKr.out.trans J35.out).put4 (g := xb) (.inr (by have := HKr.out.size; omega)) (.int .i64 xv.k) (.int .i64 xv.n) (.string xv.s) (.slice xv.A xv.len xv.c)).put4 (g := yb) (.inr (by have := HKr.out.size; omega)) (.int .i64 yv.k) (.int .i64 yv.n) (.string yv.s) (.slice yv.A yv.len yv.c))
      have HTx := Lib.hid ((((HXv.out.keep (N33.out.trans (N34.out.trans L35.out))).far4 (g := xb) (by omega) (.int .i64 xv.k) (.int .i64 xv.n) (.string xv.s) (.slice xv.A xv.len xv.c)).far4 (g := yb) (by omega) (.int .i64 yv.k) (.int .i64 yv.n) (.string yv.s) (.slice yv.A yv.len yv.c)).mono (S' := fun _ => True) fun _ _ => trivial)
      have HTy := Lib.hid ((((HYv.out.keep L35.out).far4 (g := xb) (by omega) (.int .i64 xv.k) (.int .i64 xv.n) (.string xv.s) (.slice xv.A xv.len xv.c)).far4 (g := yb) (by omega) (.int .i64 yv.k) (.int .i64 yv.n) (.string yv.s) (.slice yv.A yv.len yv.c)).mono (S' := fun _ => True) fun _ _ => trivial)
      generalize set4 (set4 W35 xb (.int .i64 xv.k) (.int .i64 xv.n) (.string xv.s) (.slice xv.A xv.len xv.c)) yb (.int .i64 yv.k) (.int .i64 yv.n) (.string yv.s) (.slice yv.A yv.len yv.c) = w8 at HX HY HK8 HTx HTy ⊢
      clear HXv HYv HU1 HU2 HP J31 J32 J33 J34 J35 K31 K32 K33 K34 L31 L32 L33 L34 L35 N31 N32 N33 N34 q p k31 k32 k33 k34 xb_b yb_b yb_u xb_H yb_H xb_31 xb_32 xb_33 xb_34 yb_31 yb_32 yb_33 yb_34
      clear qc0 qf0 qc1 qf1 qc2 qf2 qc3 qf3 pc0 pf0 pc1 pf1 pc2 pf2 pc3 pf3
      have q0 := HX.out.cell 0
      have q1 := HX.out.cell 1
      have q2 := HX.out.cell 2
      have q3 := HX.out.cell 3
      have p0 := HY.out.cell 0
      have p1 := HY.out.cell 1
      have p2 := HY.out.cell 2
      have p3 := HY.out.cell 3
      go_wp2_with fail
      refine (HUn.out xv yv _ HTx.out HTy.out).mono ?_
      rintro e w9 ⟨k9, A9, c9, rfl⟩
      go_wp2_with fail
      refine (told4_any _).mono ?_
      rintro e w10 ⟨rfl, k10⟩
      go_wp2_with fail
      go_ret
      exact ⟨rfl, (HK8.out.trans k9).trans k10⟩

end Go.Proofs.Ytjbomjnkjcafcaa
