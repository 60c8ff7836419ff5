/- MguMost: the walk. Printed by gen_mgmost.py. -/
import Derived.Test.YtjbomjnkjcafcaaMgTold
import Derived.Test.YtjbomjnkjcafcaaMgMostLaw
import Derived.Test.YtjbomjnkjcafcaaTmInts
import Derived.Test.YtjbomjnkjcafcaaText4
namespace Go.Proofs.Ytjbomjnkjcafcaa
open Go.RowKit

set_option maxRecDepth 100000 in
set_option maxHeartbeats 6400000 in
theorem mguMost_any (t0 : Tm) (x0 : TV) (t1 : Tm) (x1 : TV) (l : List Tm) (vs : List TV) (LA : Option Addr) (ln lc : Nat) (w : World) (h0 : Tr w (fun _ => True) t0 x0) (h1 : Tr w (fun _ => True) t1 x1) (hT : Trs w (fun _ => True) l vs) (hR : Rd w LA (vs.flatMap tvE)) (hl : l.length = ln) : Calls Try.prog 5 #[tvV x0, tvV x1, .slice LA ln lc] w fun e w' => e = .returned (.bool true) ∧ Keeps w w' [] := by
  have HA0 := Lib.hid h0
  have HB0 := Lib.hid h1
  have HTl := Lib.hid hT
  have HRl := Lib.hid hR
  have HL := Lib.hid hl
  have HFx : Hid (∀ (t : Tm) (v : TV) (w : World), Tr w (fun _ => True) t v → Calls Try.prog 7 #[.agg #[.int .i64 v.k, .int .i64 v.n, .string v.s, .slice v.A v.len v.c]] w (TDone [] (fun b => w.heap.size ≤ b) w (lFix t))) := fun t v w h => lFix_any t v w h
  have HTo : Hid (∀ (t : Tm) (v : TV) (w : World), tRight t = true → Tr w (fun _ => True) t v → Calls Try.prog 8 #[.agg #[.int .i64 v.k, .int .i64 v.n, .string v.s, .slice v.A v.len v.c]] w (TDone [] (fun b => w.heap.size ≤ b) w t)) := fun t v w h1 h2 => tmToW_any t v w h2 (tWid_of_right h1)
  have HGr : Hid (∀ (t : Tm) (v : TV) (w : World) (S : Nat → Prop), tRight t = true → Tr w S t v → Calls Try.prog 9 #[.agg #[.int .i64 v.k, .int .i64 v.n, .string v.s, .slice v.A v.len v.c]] w fun e w' => ∃ u, e = .returned (.agg #[.int .i64 u.k, .int .i64 u.n, .string u.s, .slice u.A u.len u.c]) ∧ Tr w' (fun b => S b ∨ w.heap.size ≤ b) (tG t) u ∧ Keeps w w' []) := fun t v w S h1 h2 => (ground_any t v w (fun b => S b ∧ b < w.heap.size) (fun b h => h.2) h2.here (tWid_of_right h1)).mono fun e w' ⟨u, he, hu, hk⟩ => ⟨u, he, hu.mono fun b hb => hb.imp (·.1) id, hk⟩
  have HSm : Hid (∀ (t t' : Tm) (u v : TV) (w : World), Tr w (fun _ => True) t u → Tr w (fun _ => True) t' v → Calls Try.prog 18 #[.agg #[.int .i64 u.k, .int .i64 u.n, .string u.s, .slice u.A u.len u.c], .agg #[.int .i64 v.k, .int .i64 v.n, .string v.s, .slice v.A v.len v.c]] w fun e w' => e = .returned (.bool (tSame t t')) ∧ Keeps w w' []) := fun t t' u v w h1 h2 => same_any t t' u v w h1 h2
  obtain ⟨a, ha⟩ : ∃ a, lFix t0 = a := ⟨_, rfl⟩
  obtain ⟨b, hb⟩ : ∃ b, lFix t1 = b := ⟨_, rfl⟩
  have IA : Hid (In Vs6 a) := by rw [← ha]; exact lFix_in t0
  have IB : Hid (In Vs6 b) := by rw [← hb]; exact lFix_in t1
  have DA : Hid (tDep a ≤ 5) := by rw [← ha]; exact lFix_dep t0
  have DB : Hid (tDep b ≤ 5) := by rw [← hb]; exact lFix_dep t1
  have HF0 : Hid (∀ w, Tr w (fun _ => True) t0 x0 → Calls Try.prog 7 #[.agg #[.int .i64 x0.k, .int .i64 x0.n, .string x0.s, .slice x0.A x0.len x0.c]] w (TDone [] (fun b => w.heap.size ≤ b) w a)) := fun w h => by rw [← ha]; exact HFx.out t0 x0 w h
  have HF1 : Hid (∀ w, Tr w (fun _ => True) t1 x1 → Calls Try.prog 7 #[.agg #[.int .i64 x1.k, .int .i64 x1.n, .string x1.s, .slice x1.A x1.len x1.c]] w (TDone [] (fun b => w.heap.size ≤ b) w b)) := fun w h => by rw [← hb]; exact HFx.out t1 x1 w h
  clear h0 h1 hT hR hl ha hb
  unfold tvV
  go_enter Try.func5, Try.ntmps5
  go_upto_region 1 with fail
  have hB0 : Blk ((w.alloc (.cells #[.int .i64 x0.k, .int .i64 x0.n, .string x0.s, .slice x0.A x0.len x0.c] 24)).alloc (.cells #[.int .i64 x1.k, .int .i64 x1.n, .string x1.s, .slice x1.A x1.len x1.c] 24)) w.heap.size 24 #[.int .i64 x0.k, .int .i64 x0.n, .string x0.s, .slice x0.A x0.len x0.c] := (Blk.new _ _ _).alloc _
  have hB1 : Blk ((w.alloc (.cells #[.int .i64 x0.k, .int .i64 x0.n, .string x0.s, .slice x0.A x0.len x0.c] 24)).alloc (.cells #[.int .i64 x1.k, .int .i64 x1.n, .string x1.s, .slice x1.A x1.len x1.c] 24)) (w.heap.size + 1) 24 #[.int .i64 x1.k, .int .i64 x1.n, .string x1.s, .slice x1.A x1.len x1.c] := Blk.newAt _ _ (by simp)
  have hK0 : Keeps w ((w.alloc (.cells #[.int .i64 x0.k, .int .i64 x0.n, .string x0.s, .slice x0.A x0.len x0.c] 24)).alloc (.cells #[.int .i64 x1.k, .int .i64 x1.n, .string x1.s, .slice x1.A x1.len x1.c] 24)) [] := ((Keeps.refl w []).alloc _).alloc _
  generalize ((w.alloc (.cells #[.int .i64 x0.k, .int .i64 x0.n, .string x0.s, .slice x0.A x0.len x0.c] 24)).alloc (.cells #[.int .i64 x1.k, .int .i64 x1.n, .string x1.s, .slice x1.A x1.len x1.c] 24)) = w6 at hB0 hB1 hK0 ⊢
  have HQ0 := Lib.hid hB0
  have HQ1 := Lib.hid hB1
  have HK0 := Lib.hid hK0
  have HA1 := Lib.hid (HA0.out.keep hK0)
  have HB1 := Lib.hid (HB0.out.keep hK0)
  clear hB0 hB1 hK0 HA0 HB0
  have HP : Hid (∀ W', Keeps w6 W' [] → (Keeps w6 W' [] ∧ W'.cell? ⟨w.heap.size, 0, none⟩ = some (.int .i64 x0.k) ∧ W'.cell? ⟨w.heap.size, 1, none⟩ = some (.int .i64 x0.n) ∧ W'.cell? ⟨w.heap.size, 2, none⟩ = some (.string x0.s) ∧ W'.cell? ⟨w.heap.size, 3, none⟩ = some (.slice x0.A x0.len x0.c) ∧ W'.cell? ⟨(w.heap.size + 1), 0, none⟩ = some (.int .i64 x1.k) ∧ W'.cell? ⟨(w.heap.size + 1), 1, none⟩ = some (.int .i64 x1.n) ∧ W'.cell? ⟨(w.heap.size + 1), 2, none⟩ = some (.string x1.s) ∧ W'.cell? ⟨(w.heap.size + 1), 3, none⟩ = some (.slice x1.A x1.len x1.c))) := fun W' k => by
    have b0 := HQ0.out.keep k (by simp)
    have b1 := HQ1.out.keep k (by simp)
    exact ⟨k, b0.cell 0, b0.cell 1, b0.cell 2, b0.cell 3, b1.cell 0, b1.cell 1, b1.cell 2, b1.cell 3⟩
  refine wp_region_tw (fun W' => Keeps w6 W' [] ∧ W'.cell? ⟨w.heap.size, 0, none⟩ = some (.int .i64 x0.k) ∧ W'.cell? ⟨w.heap.size, 1, none⟩ = some (.int .i64 x0.n) ∧ W'.cell? ⟨w.heap.size, 2, none⟩ = some (.string x0.s) ∧ W'.cell? ⟨w.heap.size, 3, none⟩ = some (.slice x0.A x0.len x0.c) ∧ W'.cell? ⟨(w.heap.size + 1), 0, none⟩ = some (.int .i64 x1.k) ∧ W'.cell? ⟨(w.heap.size + 1), 1, none⟩ = some (.int .i64 x1.n) ∧ W'.cell? ⟨(w.heap.size + 1), 2, none⟩ = some (.string x1.s) ∧ W'.cell? ⟨(w.heap.size + 1), 3, none⟩ = some (.slice x1.A x1.len x1.c)) 4 [.take 0, .take 2, .go 1, .go 3] [(4, false), (5, false)] (by kernel_rfl) (by kernel_rfl) (fun w1 w2 k h => HP.out _ (h.1.trans k)) (by exact HP.out _ (Keeps.refl _ []).drew) (fun _ => ?_)
  (repeat (first | (refine wpTw_take (v := ?_) rfl ?_ (by rfl) ?_; rotate_left; (focus (intro w' hSw; (try dsimp only at hSw); go_simp; (try with_reducible rfl); done)); simp only [Act.put, List.setIfInBounds_toArray, List.set_cons_zero, List.set_cons_succ]) | (refine wpTw_skip rfl (by rfl) ?_; simp only [Act.put, List.setIfInBounds_toArray, List.set_cons_zero, List.set_cons_succ])))
  refine wpTw_go rfl (fun W1 hk1 hS1 K hK => ?_)
  have J1 := Lib.hid hS1.1
  have L1 := Lib.hid hk1
  clear hS1 hk1
  go_simp
  refine (HF0.out _ (HA1.out.keep J1.out)).mono ?_
  rintro e w1 ⟨a1, rfl, ha1, k1⟩
  have K1 := Lib.hid (J1.out.trans k1)
  have N1 := Lib.hid (L1.out.trans k1)
  have HA2 := Lib.hid ha1
  unfold tvV
  clear ha1
  refine hK.out _ _ k1 (HP.out _ K1.out) (fun _ => ?_)
  clear hK K
  (try simp only [Act.put, List.setIfInBounds_toArray, List.set_cons_zero, List.set_cons_succ])
  refine wpTw_go rfl (fun W2 hk2 hS2 K hK => ?_)
  have J2 := Lib.hid hS2.1
  have L2 := Lib.hid hk2
  clear hS2 hk2
  go_simp
  refine (HF1.out _ (HB1.out.keep J2.out)).mono ?_
  rintro e w2 ⟨b1, rfl, hb1, k2⟩
  have K2 := Lib.hid (J2.out.trans k2)
  have N2 := Lib.hid (L2.out.trans k2)
  have HB2 := Lib.hid hb1
  unfold tvV
  clear hb1
  refine hK.out _ _ k2 (HP.out _ K2.out) (fun _ => ?_)
  clear hK K
  (try simp only [Act.put, List.setIfInBounds_toArray, List.set_cons_zero, List.set_cons_succ])
  have q := HQ0.out.keep K2.out (by simp)
  have p := HQ1.out.keep K2.out (by simp)
  have qc0 := q.cell 0
  have qf0 := q.frozen 0
  have qc1 := q.cell 1
  have qf1 := q.frozen 1
  have qc2 := q.cell 2
  have qf2 := q.frozen 2
  have qc3 := q.cell 3
  have qf3 := q.frozen 3
  have pc0 := p.cell 0
  have pf0 := p.frozen 0
  have pc1 := p.cell 1
  have pf1 := p.frozen 1
  have pc2 := p.cell 2
  have pf2 := p.frozen 2
  have pc3 := p.cell 3
  have pf3 := p.frozen 3
  change wpTy _ _ _ _ _ _ _ _
  refine wpTy_tail rfl (by decide) (fun K hK => ?_)
  go_simp
  refine hK.out _ _ ?_; clear hK K; (try simp only [Act.put, List.setIfInBounds_toArray, List.set_cons_zero, List.set_cons_succ])
  refine wpTy_last rfl (by decide) (fun K hK => ?_)
  go_simp
  refine hK.out _ _ (NoPanic.normal ?_)
  clear hK K
  (try simp only [Act.put, List.setIfInBounds_toArray, List.set_cons_zero, List.set_cons_succ])
  change Exit.then _ _ _ _ (set4 (set4 w2 w.heap.size (.int .i64 a1.k) (.int .i64 a1.n) (.string a1.s) (.slice a1.A a1.len a1.c)) (w.heap.size + 1) (.int .i64 b1.k) (.int .i64 b1.n) (.string b1.s) (.slice b1.A b1.len b1.c))
  have hlt := HQ1.out.lt
  have hw1 := J1.out.size
  have hw2 := J2.out.size
  have HQ2 := Lib.hid ((q.put4 (.int .i64 a1.k) (.int .i64 a1.n) (.string a1.s) (.slice a1.A a1.len a1.c)).far4 (g' := w.heap.size + 1) (by omega) (.int .i64 b1.k) (.int .i64 b1.n) (.string b1.s) (.slice b1.A b1.len b1.c))
  have HQ3 := Lib.hid ((p.far4 (g' := w.heap.size) (by omega) (.int .i64 a1.k) (.int .i64 a1.n) (.string a1.s) (.slice a1.A a1.len a1.c)).put4 (.int .i64 b1.k) (.int .i64 b1.n) (.string b1.s) (.slice b1.A b1.len b1.c))
  have HK3 := Lib.hid (((HK0.out.trans K2.out).put4 (.inr (Nat.le_refl _)) (.int .i64 a1.k) (.int .i64 a1.n) (.string a1.s) (.slice a1.A a1.len a1.c)).put4 (g := w.heap.size + 1) (.inr (by omega)) (.int .i64 b1.k) (.int .i64 b1.n) (.string b1.s) (.slice b1.A b1.len b1.c))
  have HA3 := Lib.hid (((((HA2.out.keep N2.out).far4 (g := w.heap.size) (by omega) (.int .i64 a1.k) (.int .i64 a1.n) (.string a1.s) (.slice a1.A a1.len a1.c)).far4 (g := w.heap.size + 1) (by omega) (.int .i64 b1.k) (.int .i64 b1.n) (.string b1.s) (.slice b1.A b1.len b1.c))).mono (S' := fun _ => True) (fun _ _ => trivial))
  have HB3 := Lib.hid (((HB2.out.far4 (g := w.heap.size) (by omega) (.int .i64 a1.k) (.int .i64 a1.n) (.string a1.s) (.slice a1.A a1.len a1.c)).far4 (g := w.heap.size + 1) (by omega) (.int .i64 b1.k) (.int .i64 b1.n) (.string b1.s) (.slice b1.A b1.len b1.c)).mono (S' := fun _ => True) (fun _ _ => trivial))
  generalize set4 (set4 w2 w.heap.size (.int .i64 a1.k) (.int .i64 a1.n) (.string a1.s) (.slice a1.A a1.len a1.c)) (w.heap.size + 1) (.int .i64 b1.k) (.int .i64 b1.n) (.string b1.s) (.slice b1.A b1.len b1.c) = w3 at HQ2 HQ3 HK3 HA3 HB3 ⊢
  clear HQ0 HQ1 HK0 HA1 HB1 HA2 HB2 HP HF0 HF1 J1 J2 K1 K2 L1 L2 N1 N2 hlt hw1 hw2 q p k1 k2
  clear qc0 qf0 qc1 qf1 qc2 qf2 qc3 qf3 pc0 pf0 pc1 pf1 pc2 pf2 pc3 pf3
  go_wp2_with fail
  go_loopw [7, 8] (fun x7 x8 wr => ∃ (j sc : Nat) (SA : Option Addr) (pa : List (Int × TV)), j ≤ 6 ∧ x8 = .int .i64 j ∧ x7 = .slice SA j sc ∧ Two 33 w3.heap.size w3 wr (row l j) [] SA j sc none 0 0 pa []) (fun _ i _ => 6 - (intOf i).toNat)
  case atStart => exact ⟨0, 0, none, [], by omega, rfl, rfl, Two.start (Keeps.refl w3 []) (Nat.le_refl _)⟩
  case round =>
    obtain ⟨j, sc, SA, pa, hj6, rfl, rfl, htw⟩ := hrel
    have HTW := Lib.hid htw
    have b0 : (0 : Int) ≤ (j : Int) := Int.natCast_nonneg _
    clear htw
    by_cases h6 : j < 6
    · have c6 : (j : Int) < 6 := by omega
      go_upto_region 7 with fail
      have hb4 : Blk (wr.alloc (.cells #[.int .i64 1, .int .i64 0, .string ⟨#[97]⟩, .slice none 0 0] 24)) wr.heap.size 24 #[.int .i64 1, .int .i64 0, .string ⟨#[97]⟩, .slice none 0 0] := Blk.new _ _ _
      have hk4 : Keeps wr (wr.alloc (.cells #[.int .i64 1, .int .i64 0, .string ⟨#[97]⟩, .slice none 0 0] 24)) [] := (Keeps.refl wr []).alloc _
      generalize (wr.alloc (.cells #[.int .i64 1, .int .i64 0, .string ⟨#[97]⟩, .slice none 0 0] 24)) = w4 at hb4 hk4 ⊢
      have HB4 := Lib.hid hb4
      have HK4 := Lib.hid hk4
      clear hb4 hk4
      by_cases hlt : j < ln
      · obtain ⟨a', hx⟩ := at_of HL.out hlt
        have HGd : Hid (pick l j = tG (lFix a')) := by
          have h1 := HL.out
          show _ = _
          rw [pick, if_pos (by omega), Gd, List.getD_eq_getElem?_getD, hx]
          rfl
        have kwr := HK3.out.trans (HTW.out.keep.trans HK4.out)
        obtain ⟨v', bb, off, _, htr, rfl, hb, p0, p1, p2, p3⟩ := (HTl.out.keep kwr).get (HRl.out.keep kwr) hx
        have HTr := Lib.hid htr
        have b1 : (j : Int) < (ln : Int) := by omega
        clear hx htr kwr hb
        go_wp2_with fail
        refine (HFx.out a' v' _ HTr.out).mono ?_
        rintro e w5 ⟨f1, rfl, hf1, k5⟩
        have HF1 := Lib.hid hf1
        have HK5 := Lib.hid k5
        unfold tvV
        clear hf1 k5 p0 p1 p2 p3 HTr
        go_wp2_with fail
        refine (HGr.out (lFix a') f1 _ _ (lFix_right a') HF1.out).mono ?_
        rintro e w6 ⟨g1, rfl, hg1, k6⟩
        have hk6 := HK5.out.trans k6
        have q := HB4.out.keep hk6 (by simp)
        have qc0 := q.cell 0
        have qf0 := q.frozen 0
        have qc1 := q.cell 1
        have qf1 := q.frozen 1
        have qc2 := q.cell 2
        have qf2 := q.frozen 2
        have qc3 := q.cell 3
        have qf3 := q.frozen 3
        have hl4 := HB4.out.lt
        have hs5 := HK5.out.size
        have hg2 := hg1.far4 (g := wr.heap.size) (by omega) (.int .i64 g1.k) (.int .i64 g1.n) (.string g1.s) (.slice g1.A g1.len g1.c)
        have hb2 := q.put4 (.int .i64 g1.k) (.int .i64 g1.n) (.string g1.s) (.slice g1.A g1.len g1.c)
        have hk2 := (HK4.out.trans hk6).put4 (g := wr.heap.size) (.inr (Nat.le_refl _)) (.int .i64 g1.k) (.int .i64 g1.n) (.string g1.s) (.slice g1.A g1.len g1.c)
        go_upto_region 9 with fail
        change Code.wp _ _ _ _ (set4 w6 wr.heap.size (.int .i64 g1.k) (.int .i64 g1.n) (.string g1.s) (.slice g1.A g1.len g1.c))
        generalize set4 w6 wr.heap.size (.int .i64 g1.k) (.int .i64 g1.n) (.string g1.s) (.slice g1.A g1.len g1.c) = w7 at hg2 hb2 hk2 ⊢
        have HB7 := Lib.hid hb2
        have HK7 := Lib.hid hk2
        have HG7 : Hid (Tr w7 (fun _ => True) (pick l j) g1) := by
          show Tr _ _ _ _
          rw [HGd.out]
          exact hg2.mono fun _ _ => trivial
        clear hk6 q hl4 hs5 hg1 k6 hg2 hb2 hk2 HK4 HB4 HK5 HF1 HGd b0
        clear qc0 qf0 qc1 qf1 qc2 qf2 qc3 qf3
        have q0 := HB7.out.cell 0
        have q1 := HB7.out.cell 1
        have q2 := HB7.out.cell 2
        have q3 := HB7.out.cell 3
        go_wp2_with fail
        refine (HTo.out (pick l j) g1 _ (pick_right l j) HG7.out).mono ?_
        rintro e w8 ⟨z1, rfl, hz1, k8⟩
        have hk8 := HK7.out.trans k8
        have hs7 := HK7.out.size
        have HK8 := Lib.hid hk8
        have HTW8 := Lib.hid (HTW.out.keep0 hk8)
        have HZ8 : Hid (Tr w8 (fun b => wr.heap.size ≤ b) (pick l j) z1) := hz1.mono fun b hb => Nat.le_trans hs7 hb
        unfold tvV
        clear hz1 k8 hk8 hs7 q0 q1 q2 q3
        go_wp2_with (at_builtin; have K5 := HK8.out.alloc (.cells #[.int .i64 (j : Int), .int .i64 z1.k, .int .i64 z1.n, .string z1.s, .slice z1.A z1.len z1.c] 33); refine wpList_app _ el_pair rfl (.tmp 34) (.tmp 39) rfl w3.heap.size SA j sc (pa.flatMap pvE) rfl (own_keep0 HTW8.out.oa ((Keeps.refl w8 []).alloc _)) (some ⟨w8.heap.size, 0, none⟩) 1 1 (pvE ((j : Int), z1)) rfl (Rd.one w8 _ (pvE ((j : Int), z1))) rfl (by simp) (by simp [pvE, Value.oneCell']) (by omega) (by simp; have := HTW8.out.keep.size; omega) ?_; intro A2 c2 w9 hown hgrow hat; have HTW5 := Lib.hid (HTW.out.push (x := (j : Int)) K5 (HZ8.out.keep ((Keeps.refl w8 []).alloc _)) hown hgrow hat); clear hown hgrow hat K5)
        go_roundw
        case rel => exact ⟨j + 1, c2, A2, pa ++ [((j : Int), z1)], by omega, by go_num, rfl, HTW5.out⟩
        case measure => simp [intOf]; omega
      · have b1 : ¬ (j : Int) < (ln : Int) := by omega
        obtain ⟨g1, hg1⟩ : ∃ g1 : TV, g1 = ⟨1, 0, ⟨#[97]⟩, none, 0, 0⟩ := ⟨_, rfl⟩
        have HB7 : Hid (Blk w4 wr.heap.size 24 #[.int .i64 g1.k, .int .i64 g1.n, .string g1.s, .slice g1.A g1.len g1.c]) := by rw [hg1]; exact HB4
        have HG7 : Hid (Tr w4 (fun _ => True) (pick l j) g1) := by
          have h1 := HL.out
          show Tr _ _ _ _
          rw [pick, if_neg (by omega), hg1]
          exact leafT w4 1 0 ⟨#[97]⟩ (by decide)
        have HK7 := HK4
        clear hg1 b0 HK4 HB4
        go_upto_region 9 with fail
        have q0 := HB7.out.cell 0
        have q1 := HB7.out.cell 1
        have q2 := HB7.out.cell 2
        have q3 := HB7.out.cell 3
        go_wp2_with fail
        refine (HTo.out (pick l j) g1 _ (pick_right l j) HG7.out).mono ?_
        rintro e w8 ⟨z1, rfl, hz1, k8⟩
        have hk8 := HK7.out.trans k8
        have hs7 := HK7.out.size
        have HK8 := Lib.hid hk8
        have HTW8 := Lib.hid (HTW.out.keep0 hk8)
        have HZ8 : Hid (Tr w8 (fun b => wr.heap.size ≤ b) (pick l j) z1) := hz1.mono fun b hb => Nat.le_trans hs7 hb
        unfold tvV
        clear hz1 k8 hk8 hs7 q0 q1 q2 q3
        go_wp2_with (at_builtin; have K5 := HK8.out.alloc (.cells #[.int .i64 (j : Int), .int .i64 z1.k, .int .i64 z1.n, .string z1.s, .slice z1.A z1.len z1.c] 33); refine wpList_app _ el_pair rfl (.tmp 34) (.tmp 39) rfl w3.heap.size SA j sc (pa.flatMap pvE) rfl (own_keep0 HTW8.out.oa ((Keeps.refl w8 []).alloc _)) (some ⟨w8.heap.size, 0, none⟩) 1 1 (pvE ((j : Int), z1)) rfl (Rd.one w8 _ (pvE ((j : Int), z1))) rfl (by simp) (by simp [pvE, Value.oneCell']) (by omega) (by simp; have := HTW8.out.keep.size; omega) ?_; intro A2 c2 w9 hown hgrow hat; have HTW5 := Lib.hid (HTW.out.push (x := (j : Int)) K5 (HZ8.out.keep ((Keeps.refl w8 []).alloc _)) hown hgrow hat); clear hown hgrow hat K5)
        go_roundw
        case rel => exact ⟨j + 1, c2, A2, pa ++ [((j : Int), z1)], by omega, by go_num, rfl, HTW5.out⟩
        case measure => simp [intOf]; omega
    · obtain rfl : j = 6 := by omega
      clear b0 hj6
      have HP0 := Lib.hid (HQ2.out.keep HTW.out.keep (by simp))
      have HP1 := Lib.hid (HQ3.out.keep HTW.out.keep (by simp))
      have HAr := Lib.hid (HA3.out.keep HTW.out.keep)
      have HBr := Lib.hid (HB3.out.keep HTW.out.keep)
      have HKr := Lib.hid (HK3.out.trans HTW.out.keep)
      obtain ⟨x, y, fuel, res, hrun, hM⟩ := most_law l IA.out IB.out DA.out DB.out
      have HM := Lib.hid hM
      have HAp : Hid (∀ (t : Tm) (u : TV) W', tRight t = true → Keeps wr W' [] → Tr W' (fun _ => True) t u → Calls Try.prog 10 #[(.slice SA 6 sc), .agg #[.int .i64 u.k, .int .i64 u.n, .string u.s, .slice u.A u.len u.c]] W' (fun e w' => ∃ z, e = .returned (.agg #[.int .i64 z.k, .int .i64 z.n, .string z.s, .slice z.A z.len z.c]) ∧ Tr w' (fun _ => True) (apD (row l 6) deepest t) z ∧ Keeps W' w' [])) := fun t u W' h1 k h2 =>
        (applyTop_any (row l 6) _ _ _ (row_len l 6) (by omega) (fun p hp => tWid_of_right ((row_gs l 6).rt p hp)) t u W' (fun b => True ∧ b < W'.heap.size) (fun b h => h.2) h2.here (tWid_of_right h1) (((HTW.out.sub.here).mono fun b hb => ⟨trivial, Nat.lt_of_lt_of_le hb.2 k.size⟩).keep k)).mono fun e w' ⟨z, h1, h2, h3⟩ => ⟨z, h1, h2.mono fun _ _ => trivial, h3⟩
      have HAa : Hid (∀ (S : Nat → Prop) (u : TV) W', Keeps wr W' [] → (∀ b, S b → b < W'.heap.size) → (∀ b, b < wr.heap.size → S b) → Tr W' S a u → Calls Try.prog 10 #[.slice SA 6 sc, .agg #[.int .i64 u.k, .int .i64 u.n, .string u.s, .slice u.A u.len u.c]] W' (fun e w' => ∃ z, e = .returned (.agg #[.int .i64 z.k, .int .i64 z.n, .string z.s, .slice z.A z.len z.c]) ∧ Tr w' (fun b => S b ∨ W'.heap.size ≤ b) x z ∧ Keeps W' w' [])) := fun S u W' k h1 h2 h3 => by
        have h4 := applyTop_any (row l 6) SA 6 sc (row_len l 6) (by omega) (fun p hp => tWid_of_right ((row_gs l 6).rt p hp)) a u W' S h1 h3 (tWid_of_right IA.out.rt) (((HTW.out.sub.here).mono fun b hb => h2 b hb.2).keep k)
        rw [HM.out.hx] at h4
        exact h4
      have HAb : Hid (∀ (S : Nat → Prop) (u : TV) W', Keeps wr W' [] → (∀ b, S b → b < W'.heap.size) → (∀ b, b < wr.heap.size → S b) → Tr W' S b u → Calls Try.prog 10 #[.slice SA 6 sc, .agg #[.int .i64 u.k, .int .i64 u.n, .string u.s, .slice u.A u.len u.c]] W' (fun e w' => ∃ z, e = .returned (.agg #[.int .i64 z.k, .int .i64 z.n, .string z.s, .slice z.A z.len z.c]) ∧ Tr w' (fun b => S b ∨ W'.heap.size ≤ b) y z ∧ Keeps W' w' [])) := fun S u W' k h1 h2 h3 => by
        have h4 := applyTop_any (row l 6) SA 6 sc (row_len l 6) (by omega) (fun p hp => tWid_of_right ((row_gs l 6).rt p hp)) b u W' S h1 h3 (tWid_of_right IB.out.rt) (((HTW.out.sub.here).mono fun b hb => h2 b hb.2).keep k)
        rw [HM.out.hy] at h4
        exact h4
      have HRun := Lib.hid hrun
      clear hM hrun HFx HGr HTl HRl HL HQ2 HQ3 HA3 HB3 HK3
      go_upto_region 10 with fail
      have HP : Hid (∀ W', Keeps wr W' [] → (Keeps wr W' [] ∧ W'.cell? ⟨w.heap.size, 0, none⟩ = some (.int .i64 a1.k) ∧ W'.cell? ⟨w.heap.size, 1, none⟩ = some (.int .i64 a1.n) ∧ W'.cell? ⟨w.heap.size, 2, none⟩ = some (.string a1.s) ∧ W'.cell? ⟨w.heap.size, 3, none⟩ = some (.slice a1.A a1.len a1.c) ∧ W'.cell? ⟨(w.heap.size + 1), 0, none⟩ = some (.int .i64 b1.k) ∧ W'.cell? ⟨(w.heap.size + 1), 1, none⟩ = some (.int .i64 b1.n) ∧ W'.cell? ⟨(w.heap.size + 1), 2, none⟩ = some (.string b1.s) ∧ W'.cell? ⟨(w.heap.size + 1), 3, none⟩ = some (.slice b1.A b1.len b1.c))) := fun W' k => by
        have b0 := HP0.out.keep k (by simp)
        have b1 := HP1.out.keep k (by simp)
        exact ⟨k, b0.cell 0, b0.cell 1, b0.cell 2, b0.cell 3, b1.cell 0, b1.cell 1, b1.cell 2, b1.cell 3⟩
      refine wp_region_tw (fun W' => Keeps wr W' [] ∧ W'.cell? ⟨w.heap.size, 0, none⟩ = some (.int .i64 a1.k) ∧ W'.cell? ⟨w.heap.size, 1, none⟩ = some (.int .i64 a1.n) ∧ W'.cell? ⟨w.heap.size, 2, none⟩ = some (.string a1.s) ∧ W'.cell? ⟨w.heap.size, 3, none⟩ = some (.slice a1.A a1.len a1.c) ∧ W'.cell? ⟨(w.heap.size + 1), 0, none⟩ = some (.int .i64 b1.k) ∧ W'.cell? ⟨(w.heap.size + 1), 1, none⟩ = some (.int .i64 b1.n) ∧ W'.cell? ⟨(w.heap.size + 1), 2, none⟩ = some (.string b1.s) ∧ W'.cell? ⟨(w.heap.size + 1), 3, none⟩ = some (.slice b1.A b1.len b1.c)) 10 [.op ⟨8, 10, fun b => .pointer (some ⟨b, 0, none⟩), 30, #[.int .i64 0, .int .i64 0, .string ⟨#[]⟩, .slice none 0 0]⟩, .op ⟨9, 11, fun b => .pointer (some ⟨b, 0, none⟩), 30, #[.int .i64 0, .int .i64 0, .string ⟨#[]⟩, .slice none 0 0]⟩, .take 0, .take 1, .take 4, .take 5, .go 2, .go 3, .go 6, .go 7, .cl] [(10, false), (11, false)] (by kernel_rfl) (by kernel_rfl) (fun w1 w2 k h => HP.out _ (h.1.trans k)) (by exact HP.out _ (Keeps.refl _ []).drew) (fun _ => ?_)
      (refine wpTw_op rfl rfl (by intro w' hSw; (try dsimp only at hSw); go_simp; (try with_reducible rfl); done) (by rfl) ?_; simp only [List.nil_append])
      (refine wpTw_op rfl rfl (by intro w' hSw; (try dsimp only at hSw); go_simp; (try with_reducible rfl); done) (by rfl) ?_; simp only [List.nil_append, List.cons_append])
      (repeat (first | (refine wpTw_take (v := ?_) rfl ?_ (by rfl) ?_; rotate_left; (focus (intro w' hSw; (try dsimp only at hSw); go_simp; (try with_reducible rfl); done)); simp only [Act.put, List.setIfInBounds_toArray, List.set_cons_zero, List.set_cons_succ]) | (refine wpTw_skip rfl (by rfl) ?_; simp only [Act.put, List.setIfInBounds_toArray, List.set_cons_zero, List.set_cons_succ])))
      refine wpTw_go rfl (fun W31 hk31 hS31 K hK => ?_)
      have J31 := Lib.hid hS31.1
      have L31 := Lib.hid hk31
      clear hS31 hk31
      go_simp
      refine (HTo.out a a1 _ IA.out.rt (HAr.out.keep J31.out)).mono ?_
      rintro e w31 ⟨u1, rfl, hu1, k31⟩
      have K31 := Lib.hid (J31.out.trans k31)
      have N31 := Lib.hid (L31.out.trans k31)
      have HU1 := Lib.hid hu1.here
      unfold tvV
      clear hu1
      refine hK.out _ _ k31 (HP.out _ K31.out) (fun _ => ?_)
      clear hK K
      (try simp only [Act.put, List.setIfInBounds_toArray, List.set_cons_zero, List.set_cons_succ])
      refine wpTw_go rfl (fun W32 hk32 hS32 K hK => ?_)
      have J32 := Lib.hid hS32.1
      have L32 := Lib.hid hk32
      clear hS32 hk32
      go_simp
      refine (HAa.out (fun b => b < wr.heap.size ∨ (W31.heap.size ≤ b ∧ b < w31.heap.size)) u1 _ J32.out (fun b hb => by have := J32.out.size; have := L32.out.size; omega) (fun b hb => .inl hb) ((HU1.out.keep L32.out).mono fun b hb => .inr hb)).mono ?_
      rintro e w32 ⟨xv, rfl, hxv, k32⟩
      have K32 := Lib.hid (J32.out.trans k32)
      have N32 := Lib.hid (L32.out.trans k32)
      have HXv := Lib.hid hxv.here
      clear hxv
      refine hK.out _ _ k32 (HP.out _ K32.out) (fun _ => ?_)
      clear hK K
      (try simp only [Act.put, List.setIfInBounds_toArray, List.set_cons_zero, List.set_cons_succ])
      refine wpTw_go rfl (fun W33 hk33 hS33 K hK => ?_)
      have J33 := Lib.hid hS33.1
      have L33 := Lib.hid hk33
      clear hS33 hk33
      go_simp
      refine (HTo.out b b1 _ IB.out.rt (HBr.out.keep J33.out)).mono ?_
      rintro e w33 ⟨u2, rfl, hu2, k33⟩
      have K33 := Lib.hid (J33.out.trans k33)
      have N33 := Lib.hid (L33.out.trans k33)
      have HU2 := Lib.hid hu2.here
      unfold tvV
      clear hu2
      refine hK.out _ _ k33 (HP.out _ K33.out) (fun _ => ?_)
      clear hK K
      (try simp only [Act.put, List.setIfInBounds_toArray, List.set_cons_zero, List.set_cons_succ])
      refine wpTw_go rfl (fun W34 hk34 hS34 K hK => ?_)
      have J34 := Lib.hid hS34.1
      have L34 := Lib.hid hk34
      clear hS34 hk34
      go_simp
      refine (HAb.out (fun b => b < wr.heap.size ∨ (W33.heap.size ≤ b ∧ b < w33.heap.size)) u2 _ J34.out (fun b hb => by have := J34.out.size; have := L34.out.size; omega) (fun b hb => .inl hb) ((HU2.out.keep L34.out).mono fun b hb => .inr hb)).mono ?_
      rintro e w34 ⟨yv, rfl, hyv, k34⟩
      have K34 := Lib.hid (J34.out.trans k34)
      have N34 := Lib.hid (L34.out.trans k34)
      have HYv := Lib.hid hyv.here
      clear hyv
      refine hK.out _ _ k34 (HP.out _ K34.out) (fun _ => ?_)
      clear hK K
      (try simp only [Act.put, List.setIfInBounds_toArray, List.set_cons_zero, List.set_cons_succ])
      refine wpTw_cl (fun W35 hk35 hS35 => ?_)
      intro xb xb_b xb_u xb_x xb_B
      dsimp only at xb_B
      intro yb yb_b yb_u yb_x yb_B
      dsimp only at yb_B
      have J35 := Lib.hid hS35.1
      have L35 := Lib.hid hk35
      clear hS35 hk35
      have xb_31 := xb_x (W31.heap.size, w31.heap.size) (by simp)
      dsimp only at xb_31
      have xb_32 := xb_x (W32.heap.size, w32.heap.size) (by simp)
      dsimp only at xb_32
      have xb_33 := xb_x (W33.heap.size, w33.heap.size) (by simp)
      dsimp only at xb_33
      have xb_34 := xb_x (W34.heap.size, w34.heap.size) (by simp)
      dsimp only at xb_34
      have xb_H := Lib.hid xb_B
      clear xb_x xb_B
      have yb_31 := yb_x (W31.heap.size, w31.heap.size) (by simp)
      dsimp only at yb_31
      have yb_32 := yb_x (W32.heap.size, w32.heap.size) (by simp)
      dsimp only at yb_32
      have yb_33 := yb_x (W33.heap.size, w33.heap.size) (by simp)
      dsimp only at yb_33
      have yb_34 := yb_x (W34.heap.size, w34.heap.size) (by simp)
      dsimp only at yb_34
      have yb_H := Lib.hid yb_B
      clear yb_x yb_B
      clear xb_u
      simp only [List.mem_cons, List.not_mem_nil, or_false] at yb_u
      (try simp only [Act.put, List.setIfInBounds_toArray, List.set_cons_zero, List.set_cons_succ])
      have q := xb_H.out
      have p := yb_H.out
      have qc0 := q.cell 0
      have qf0 := q.frozen 0
      have qc1 := q.cell 1
      have qf1 := q.frozen 1
      have qc2 := q.cell 2
      have qf2 := q.frozen 2
      have qc3 := q.cell 3
      have qf3 := q.frozen 3
      have pc0 := p.cell 0
      have pf0 := p.frozen 0
      have pc1 := p.cell 1
      have pf1 := p.frozen 1
      have pc2 := p.cell 2
      have pf2 := p.frozen 2
      have pc3 := p.cell 3
      have pf3 := p.frozen 3
      change wpTy _ _ _ _ _ _ _ _
      refine wpTy_tail rfl (by decide) (fun K hK => ?_)
      go_simp
      refine hK.out _ _ ?_; clear hK K; (try simp only [Act.put, List.setIfInBounds_toArray, List.set_cons_zero, List.set_cons_succ])
      refine wpTy_last rfl (by decide) (fun K hK => ?_)
      go_simp
      refine hK.out _ _ (NoPanic.normal ?_)
      clear hK K
      (try simp only [Act.put, List.setIfInBounds_toArray, List.set_cons_zero, List.set_cons_succ])
      change Exit.then _ _ _ _ (set4 (set4 W35 xb (.int .i64 xv.k) (.int .i64 xv.n) (.string xv.s) (.slice xv.A xv.len xv.c)) yb (.int .i64 yv.k) (.int .i64 yv.n) (.string yv.s) (.slice yv.A yv.len yv.c))
      have m0 := HKr.out.size
      have l0 := HP0.out.lt
      have l1 := HP1.out.lt
      have HX := Lib.hid ((q.put4 (.int .i64 xv.k) (.int .i64 xv.n) (.string xv.s) (.slice xv.A xv.len xv.c)).far4 (g' := yb) (by omega) (.int .i64 yv.k) (.int .i64 yv.n) (.string yv.s) (.slice yv.A yv.len yv.c))
      have HY := Lib.hid ((p.far4 (g' := xb) (by omega) (.int .i64 xv.k) (.int .i64 xv.n) (.string xv.s) (.slice xv.A xv.len xv.c)).put4 (.int .i64 yv.k) (.int .i64 yv.n) (.string yv.s) (.slice yv.A yv.len yv.c))
      have HW8 := Lib.hid ((J35.out.put4 (g := xb) (.inr (by omega)) (.int .i64 xv.k) (.int .i64 xv.n) (.string xv.s) (.slice xv.A xv.len xv.c)).put4 (g := yb) (.inr (by omega)) (.int .i64 yv.k) (.int .i64 yv.n) (.string yv.s) (.slice yv.A yv.len yv.c))
      have HTx := Lib.hid ((((HXv.out.keep (N33.out.trans (N34.out.trans L35.out))).far4 (g := xb) (by omega) (.int .i64 xv.k) (.int .i64 xv.n) (.string xv.s) (.slice xv.A xv.len xv.c)).far4 (g := yb) (by omega) (.int .i64 yv.k) (.int .i64 yv.n) (.string yv.s) (.slice yv.A yv.len yv.c)).mono (S' := fun _ => True) fun _ _ => trivial)
      have HTy := Lib.hid ((((HYv.out.keep L35.out).far4 (g := xb) (by omega) (.int .i64 xv.k) (.int .i64 xv.n) (.string xv.s) (.slice xv.A xv.len xv.c)).far4 (g := yb) (by omega) (.int .i64 yv.k) (.int .i64 yv.n) (.string yv.s) (.slice yv.A yv.len yv.c)).mono (S' := fun _ => True) fun _ _ => trivial)
      generalize set4 (set4 W35 xb (.int .i64 xv.k) (.int .i64 xv.n) (.string xv.s) (.slice xv.A xv.len xv.c)) yb (.int .i64 yv.k) (.int .i64 yv.n) (.string yv.s) (.slice yv.A yv.len yv.c) = w8 at HX HY HW8 HTx HTy ⊢
      clear HXv HYv HU1 HU2 HP J31 J32 J33 J34 J35 K31 K32 K33 K34 L31 L32 L33 L34 L35 N31 N32 N33 N34 q p k31 k32 k33 k34 xb_b yb_b yb_u xb_H yb_H xb_31 xb_32 xb_33 xb_34 yb_31 yb_32 yb_33 yb_34 m0 l0 l1
      clear qc0 qf0 qc1 qf1 qc2 qf2 qc3 qf3 pc0 pf0 pc1 pf1 pc2 pf2 pc3 pf3
      have q0 := HX.out.cell 0
      have q1 := HX.out.cell 1
      have q2 := HX.out.cell 2
      have q3 := HX.out.cell 3
      have p0 := HY.out.cell 0
      have p1 := HY.out.cell 1
      have p2 := HY.out.cell 2
      have p3 := HY.out.cell 3
      go_wp2_with fail
      refine (HSm.out x y xv yv _ HTx.out HTy.out).mono ?_
      rintro e w9 ⟨rfl, k9⟩
      have HW9 := Lib.hid (HW8.out.trans k9)
      have HX9 := Lib.hid (HX.out.keep k9 (by simp))
      have HTx9 := Lib.hid (HTx.out.keep k9)
      have HP09 := Lib.hid (HP0.out.keep HW9.out (by simp))
      have HP19 := Lib.hid (HP1.out.keep HW9.out (by simp))
      have HA9 := Lib.hid (HAr.out.keep HW9.out)
      have HB9 := Lib.hid (HBr.out.keep HW9.out)
      have HK9 := Lib.hid (HKr.out.trans HW9.out)
      clear q0 q1 q2 q3 p0 p1 p2 p3 k9 HX HY HTx HTy HW8 HP0 HP1 HAr HBr HKr HAa HAb
      go_upto_region 12 with fail
      cases res with
      | ok s =>
        have HUn : Hid (∀ u v w, Tr w (fun _ => True) a u → Tr w (fun _ => True) b v → Calls Try.prog 11 #[.agg #[.int .i64 u.k, .int .i64 u.n, .string u.s, .slice u.A u.len u.c], .agg #[.int .i64 v.k, .int .i64 v.n, .string v.s, .slice v.A v.len v.c]] w fun e w' => ∃ A c, e = .returned (.tuple #[.slice A s.length c, .int .i64 0]) ∧ Sub w' (fun _ => True) (solvedT s) A ∧ Keeps w w' []) := fun u v w h1 h2 => (unify_any Vs6 few6 (by decide) a b u v w h1 h2 IA.out IB.out (Nat.le_trans DA.out (by decide)) (Nat.le_trans DB.out (by decide)) fuel _ HRun.out).mono fun e w' ⟨h1, A, c, h2, h3⟩ => ⟨A, c, h2, h3, h1⟩
        have HP : Hid (∀ W', Keeps w9 W' [] → (Keeps w9 W' [] ∧ W'.cell? ⟨w.heap.size, 0, none⟩ = some (.int .i64 a1.k) ∧ W'.cell? ⟨w.heap.size, 1, none⟩ = some (.int .i64 a1.n) ∧ W'.cell? ⟨w.heap.size, 2, none⟩ = some (.string a1.s) ∧ W'.cell? ⟨w.heap.size, 3, none⟩ = some (.slice a1.A a1.len a1.c) ∧ W'.cell? ⟨(w.heap.size + 1), 0, none⟩ = some (.int .i64 b1.k) ∧ W'.cell? ⟨(w.heap.size + 1), 1, none⟩ = some (.int .i64 b1.n) ∧ W'.cell? ⟨(w.heap.size + 1), 2, none⟩ = some (.string b1.s) ∧ W'.cell? ⟨(w.heap.size + 1), 3, none⟩ = some (.slice b1.A b1.len b1.c))) := fun W' k => by
          have b0 := HP09.out.keep k (by simp)
          have b1 := HP19.out.keep k (by simp)
          exact ⟨k, b0.cell 0, b0.cell 1, b0.cell 2, b0.cell 3, b1.cell 0, b1.cell 1, b1.cell 2, b1.cell 3⟩
        refine wp_region_tw (fun W' => Keeps w9 W' [] ∧ W'.cell? ⟨w.heap.size, 0, none⟩ = some (.int .i64 a1.k) ∧ W'.cell? ⟨w.heap.size, 1, none⟩ = some (.int .i64 a1.n) ∧ W'.cell? ⟨w.heap.size, 2, none⟩ = some (.string a1.s) ∧ W'.cell? ⟨w.heap.size, 3, none⟩ = some (.slice a1.A a1.len a1.c) ∧ W'.cell? ⟨(w.heap.size + 1), 0, none⟩ = some (.int .i64 b1.k) ∧ W'.cell? ⟨(w.heap.size + 1), 1, none⟩ = some (.int .i64 b1.n) ∧ W'.cell? ⟨(w.heap.size + 1), 2, none⟩ = some (.string b1.s) ∧ W'.cell? ⟨(w.heap.size + 1), 3, none⟩ = some (.slice b1.A b1.len b1.c)) 9 [.take 0, .take 2, .go 1, .go 3, .go 4, .take 5, .take 6, .take 7, .take 8] [(9, false)] (by kernel_rfl) (by kernel_rfl) (fun w1 w2 k h => HP.out _ (h.1.trans k)) (by exact HP.out _ (Keeps.refl _ []).drew) (fun _ => ?_)
        (repeat (first | (refine wpTw_take (v := ?_) rfl ?_ (by rfl) ?_; rotate_left; (focus (intro w' hSw; (try dsimp only at hSw); go_simp; (try with_reducible rfl); done)); simp only [Act.put, List.setIfInBounds_toArray, List.set_cons_zero, List.set_cons_succ]) | (refine wpTw_skip rfl (by rfl) ?_; simp only [Act.put, List.setIfInBounds_toArray, List.set_cons_zero, List.set_cons_succ])))
        refine wpTw_go rfl (fun W41 hk41 hS41 K hK => ?_)
        have J41 := Lib.hid hS41.1
        have L41 := Lib.hid hk41
        clear hS41 hk41
        go_simp
        refine (HTo.out a a1 _ IA.out.rt (HA9.out.keep J41.out)).mono ?_
        rintro e w41 ⟨u3, rfl, hu3, k41⟩
        have K41 := Lib.hid (J41.out.trans k41)
        have N41 := Lib.hid (L41.out.trans k41)
        have HU3 := Lib.hid (hu3.mono (S' := fun _ => True) fun _ _ => trivial)
        unfold tvV
        clear hu3
        refine hK.out _ _ k41 (HP.out _ K41.out) (fun _ => ?_)
        clear hK K
        (try simp only [Act.put, List.setIfInBounds_toArray, List.set_cons_zero, List.set_cons_succ])
        refine wpTw_go rfl (fun W42 hk42 hS42 K hK => ?_)
        have J42 := Lib.hid hS42.1
        have L42 := Lib.hid hk42
        clear hS42 hk42
        go_simp
        refine (HTo.out b b1 _ IB.out.rt (HB9.out.keep J42.out)).mono ?_
        rintro e w42 ⟨u4, rfl, hu4, k42⟩
        have K42 := Lib.hid (J42.out.trans k42)
        have N42 := Lib.hid (L42.out.trans k42)
        have HU4 := Lib.hid (hu4.mono (S' := fun _ => True) fun _ _ => trivial)
        unfold tvV
        clear hu4
        refine hK.out _ _ k42 (HP.out _ K42.out) (fun _ => ?_)
        clear hK K
        (try simp only [Act.put, List.setIfInBounds_toArray, List.set_cons_zero, List.set_cons_succ])
        refine wpTw_go rfl (fun W43 hk43 hS43 K hK => ?_)
        have J43 := Lib.hid hS43.1
        have L43 := Lib.hid hk43
        clear hS43 hk43
        go_simp
        refine (HUn.out u3 u4 _ (HU3.out.keep (N42.out.trans L43.out)) (HU4.out.keep L43.out)).mono ?_
        rintro e w43 ⟨A9, c9, rfl, hs9, k43⟩
        have K43 := Lib.hid (J43.out.trans k43)
        have N43 := Lib.hid (L43.out.trans k43)
        have HS := Lib.hid hs9
        clear hs9
        refine hK.out _ _ k43 (HP.out _ K43.out) (fun _ => ?_)
        clear hK K
        (try simp only [Act.put, List.setIfInBounds_toArray, List.set_cons_zero, List.set_cons_succ])
        (repeat (first | (refine wpTw_take (v := ?_) rfl ?_ (by rfl) ?_; rotate_left; (focus (intro w' hSw; (try dsimp only at hSw); go_simp; (try with_reducible rfl); done)); simp only [Act.put, List.setIfInBounds_toArray, List.set_cons_zero, List.set_cons_succ]) | (refine wpTw_skip rfl (by rfl) ?_; simp only [Act.put, List.setIfInBounds_toArray, List.set_cons_zero, List.set_cons_succ])))
        change wpTy _ _ _ _ _ _ _ _
        refine wpTy_last rfl (by decide) (fun K hK => ?_)
        go_simp
        refine hK.out _ _ (NoPanic.normal ?_)
        clear hK K
        (try simp only [Act.put, List.setIfInBounds_toArray, List.set_cons_zero, List.set_cons_succ])
        cases hsm : tSame x y with
        | false =>
          go_wp2_with fail
          refine (told4_any _).mono ?_
          rintro e w14 ⟨rfl, k14⟩
          go_wp2_with fail
          go_ret
          exact ⟨rfl, HK9.out.trans (K43.out.trans k14)⟩
        | true =>
          have hxy := (tSame_iff x y).1 hsm
          obtain ⟨hln, hl6, hrt, a', b', ea, eb, ra, rb, hone⟩ := HM.out.found s rfl
          obtain ⟨oa, ob⟩ := hone hxy
          have HRA := Lib.hid ra
          have HRB := Lib.hid rb
          have HAq : Hid (∀ (t : Tm) (u : TV) W', tRight t = true → Keeps w43 W' [] → Tr W' (fun _ => True) t u → Calls Try.prog 10 #[(.slice A9 s.length c9), .agg #[.int .i64 u.k, .int .i64 u.n, .string u.s, .slice u.A u.len u.c]] W' (fun e w' => ∃ z, e = .returned (.agg #[.int .i64 z.k, .int .i64 z.n, .string z.s, .slice z.A z.len z.c]) ∧ Tr w' (fun _ => True) (apD (solvedT s) deepest t) z ∧ Keeps W' w' [])) := fun t u W' h1 k h2 =>
            (applyTop_any (solvedT s) _ _ _ hln (by omega) (fun p hp => tWid_of_right (hrt p hp)) t u W' (fun b => True ∧ b < W'.heap.size) (fun b h => h.2) h2.here (tWid_of_right h1) (((HS.out.here).mono fun b hb => ⟨trivial, Nat.lt_of_lt_of_le hb.2 k.size⟩).keep k)).mono fun e w' ⟨z, h1, h2, h3⟩ => ⟨z, h1, h2.mono fun _ _ => trivial, h3⟩
          have HQa : Hid (∀ (u : TV) W', Keeps w43 W' [] → Tr W' (fun _ => True) a u → Calls Try.prog 10 #[(.slice A9 s.length c9), .agg #[.int .i64 u.k, .int .i64 u.n, .string u.s, .slice u.A u.len u.c]] W' (fun e w' => ∃ z, e = .returned (.agg #[.int .i64 z.k, .int .i64 z.n, .string z.s, .slice z.A z.len z.c]) ∧ Tr w' (fun _ => True) a' z ∧ Keeps W' w' [])) := fun u W' k h => by
            have h4 := HAq.out a u W' IA.out.rt k h
            rw [ea] at h4
            exact h4
          have HQb : Hid (∀ (u : TV) W', Keeps w43 W' [] → Tr W' (fun _ => True) b u → Calls Try.prog 10 #[(.slice A9 s.length c9), .agg #[.int .i64 u.k, .int .i64 u.n, .string u.s, .slice u.A u.len u.c]] W' (fun e w' => ∃ z, e = .returned (.agg #[.int .i64 z.k, .int .i64 z.n, .string z.s, .slice z.A z.len z.c]) ∧ Tr w' (fun _ => True) b' z ∧ Keeps W' w' [])) := fun u W' k h => by
            have h4 := HAq.out b u W' IB.out.rt k h
            rw [eb] at h4
            exact h4
          have HRa : Hid (∀ (u : TV) W', Keeps wr W' [] → Tr W' (fun _ => True) a' u → Calls Try.prog 10 #[(.slice SA 6 sc), .agg #[.int .i64 u.k, .int .i64 u.n, .string u.s, .slice u.A u.len u.c]] W' (fun e w' => ∃ z, e = .returned (.agg #[.int .i64 z.k, .int .i64 z.n, .string z.s, .slice z.A z.len z.c]) ∧ Tr w' (fun _ => True) x z ∧ Keeps W' w' [])) := fun u W' k h => by
            have h4 := HAp.out a' u W' ra k h
            rw [oa] at h4
            exact h4
          have HRb : Hid (∀ (u : TV) W', Keeps wr W' [] → Tr W' (fun _ => True) b' u → Calls Try.prog 10 #[(.slice SA 6 sc), .agg #[.int .i64 u.k, .int .i64 u.n, .string u.s, .slice u.A u.len u.c]] W' (fun e w' => ∃ z, e = .returned (.agg #[.int .i64 z.k, .int .i64 z.n, .string z.s, .slice z.A z.len z.c]) ∧ Tr w' (fun _ => True) x z ∧ Keeps W' w' [])) := fun u W' k h => by
            have h4 := HAp.out b' u W' rb k h
            rw [ob] at h4
            exact h4
          have HXX : Hid (tSame x x = true) := (tSame_iff x x).2 rfl
          have HSx : Hid (∀ (u v : TV) (w : World), Tr w (fun _ => True) x u → Tr w (fun _ => True) x v → Calls Try.prog 18 #[.agg #[.int .i64 u.k, .int .i64 u.n, .string u.s, .slice u.A u.len u.c], .agg #[.int .i64 v.k, .int .i64 v.n, .string v.s, .slice v.A v.len v.c]] w fun e w' => e = .returned (.bool true) ∧ Keeps w w' []) := fun u v w h1 h2 => by
            have h4 := HSm.out x x u v w h1 h2
            rw [HXX.out] at h4
            exact h4
          clear hxy hln hrt ea eb ra rb hone oa ob HAq HAp HM hl6 hsm
          go_wp2_with fail
          refine (told4_any _).mono ?_
          rintro e w14 ⟨rfl, k14⟩
          have HK14 := Lib.hid (K43.out.trans k14)
          have HD14 := Lib.hid k14
          clear k14
          go_upto_region 17 with fail
          have HPa := Lib.hid (HP09.out.keep HK14.out (by simp))
          have HPb := Lib.hid (HP19.out.keep HK14.out (by simp))
          have HPx := Lib.hid (HX9.out.keep HK14.out (by simp))
          have HAz := Lib.hid (HA9.out.keep HK14.out)
          have HBz := Lib.hid (HB9.out.keep HK14.out)
          have HXz := Lib.hid (HTx9.out.keep HK14.out)
          have HWz := Lib.hid (HW9.out.trans HK14.out)
          have HPP : Hid (∀ W', Keeps w14 W' [] → (Keeps w14 W' [] ∧ W'.cell? ⟨w.heap.size, 0, none⟩ = some (.int .i64 a1.k) ∧ W'.cell? ⟨w.heap.size, 1, none⟩ = some (.int .i64 a1.n) ∧ W'.cell? ⟨w.heap.size, 2, none⟩ = some (.string a1.s) ∧ W'.cell? ⟨w.heap.size, 3, none⟩ = some (.slice a1.A a1.len a1.c) ∧ W'.cell? ⟨(w.heap.size + 1), 0, none⟩ = some (.int .i64 b1.k) ∧ W'.cell? ⟨(w.heap.size + 1), 1, none⟩ = some (.int .i64 b1.n) ∧ W'.cell? ⟨(w.heap.size + 1), 2, none⟩ = some (.string b1.s) ∧ W'.cell? ⟨(w.heap.size + 1), 3, none⟩ = some (.slice b1.A b1.len b1.c) ∧ W'.cell? ⟨xb, 0, none⟩ = some (.int .i64 xv.k) ∧ W'.cell? ⟨xb, 1, none⟩ = some (.int .i64 xv.n) ∧ W'.cell? ⟨xb, 2, none⟩ = some (.string xv.s) ∧ W'.cell? ⟨xb, 3, none⟩ = some (.slice xv.A xv.len xv.c))) := fun W' k => by
            have b0 := HPa.out.keep k (by simp)
            have b1 := HPb.out.keep k (by simp)
            have b2 := HPx.out.keep k (by simp)
            exact ⟨k, b0.cell 0, b0.cell 1, b0.cell 2, b0.cell 3, b1.cell 0, b1.cell 1, b1.cell 2, b1.cell 3, b2.cell 0, b2.cell 1, b2.cell 2, b2.cell 3⟩
          refine wp_region_tw (fun W' => Keeps w14 W' [] ∧ W'.cell? ⟨w.heap.size, 0, none⟩ = some (.int .i64 a1.k) ∧ W'.cell? ⟨w.heap.size, 1, none⟩ = some (.int .i64 a1.n) ∧ W'.cell? ⟨w.heap.size, 2, none⟩ = some (.string a1.s) ∧ W'.cell? ⟨w.heap.size, 3, none⟩ = some (.slice a1.A a1.len a1.c) ∧ W'.cell? ⟨(w.heap.size + 1), 0, none⟩ = some (.int .i64 b1.k) ∧ W'.cell? ⟨(w.heap.size + 1), 1, none⟩ = some (.int .i64 b1.n) ∧ W'.cell? ⟨(w.heap.size + 1), 2, none⟩ = some (.string b1.s) ∧ W'.cell? ⟨(w.heap.size + 1), 3, none⟩ = some (.slice b1.A b1.len b1.c) ∧ W'.cell? ⟨xb, 0, none⟩ = some (.int .i64 xv.k) ∧ W'.cell? ⟨xb, 1, none⟩ = some (.int .i64 xv.n) ∧ W'.cell? ⟨xb, 2, none⟩ = some (.string xv.s) ∧ W'.cell? ⟨xb, 3, none⟩ = some (.slice xv.A xv.len xv.c)) 18 [.take 0, .take 1, .take 2, .take 6, .go 3, .go 4, .go 5, .go 7, .take 8, .take 9, .take 10, .take 11, .take 15, .go 12, .go 13, .go 14, .go 16, .take 17] [(18, false)] (by kernel_rfl) (by kernel_rfl) (fun w1 w2 k h => HPP.out _ (h.1.trans k)) (by exact HPP.out _ (Keeps.refl _ []).drew) (fun _ => ?_)
          (repeat (first | (refine wpTw_take (v := ?_) rfl ?_ (by rfl) ?_; rotate_left; (focus (intro w' hSw; (try dsimp only at hSw); go_simp; (try with_reducible rfl); done)); simp only [Act.put, List.setIfInBounds_toArray, List.set_cons_zero, List.set_cons_succ]) | (refine wpTw_skip rfl (by rfl) ?_; simp only [Act.put, List.setIfInBounds_toArray, List.set_cons_zero, List.set_cons_succ])))
          refine wpTw_go rfl (fun W51 hk51 hS51 K hK => ?_)
          have J51 := Lib.hid hS51.1
          have L51 := Lib.hid hk51
          clear hS51 hk51
          go_simp
          refine (HTo.out a a1 _ IA.out.rt (HAz.out.keep J51.out)).mono ?_
          rintro e w51 ⟨u5, rfl, hu5, k51⟩
          have K51 := Lib.hid (J51.out.trans k51)
          have N51 := Lib.hid (L51.out.trans k51)
          have HU5 := Lib.hid (hu5.mono (S' := fun _ => True) fun _ _ => trivial)
          unfold tvV
          clear hu5
          refine hK.out _ _ k51 (HPP.out _ K51.out) (fun _ => ?_)
          clear hK K
          (try simp only [Act.put, List.setIfInBounds_toArray, List.set_cons_zero, List.set_cons_succ])
          refine wpTw_go rfl (fun W52 hk52 hS52 K hK => ?_)
          have J52 := Lib.hid hS52.1
          have L52 := Lib.hid hk52
          clear hS52 hk52
          go_simp
          refine (HQa.out u5 _ (HD14.out.trans J52.out) (HU5.out.keep L52.out)).mono ?_
          rintro e w52 ⟨u6, rfl, hu6, k52⟩
          have K52 := Lib.hid (J52.out.trans k52)
          have N52 := Lib.hid (L52.out.trans k52)
          have HU6 := Lib.hid hu6
          clear hu6
          refine hK.out _ _ k52 (HPP.out _ K52.out) (fun _ => ?_)
          clear hK K
          (try simp only [Act.put, List.setIfInBounds_toArray, List.set_cons_zero, List.set_cons_succ])
          refine wpTw_go rfl (fun W53 hk53 hS53 K hK => ?_)
          have J53 := Lib.hid hS53.1
          have L53 := Lib.hid hk53
          clear hS53 hk53
          go_simp
          refine (HRa.out u6 _ (HWz.out.trans J53.out) (HU6.out.keep L53.out)).mono ?_
          rintro e w53 ⟨u7, rfl, hu7, k53⟩
          have K53 := Lib.hid (J53.out.trans k53)
          have N53 := Lib.hid (L53.out.trans k53)
          have HU7 := Lib.hid hu7
          clear hu7
          refine hK.out _ _ k53 (HPP.out _ K53.out) (fun _ => ?_)
          clear hK K
          (try simp only [Act.put, List.setIfInBounds_toArray, List.set_cons_zero, List.set_cons_succ])
          refine wpTw_go rfl (fun W54 hk54 hS54 K hK => ?_)
          have J54 := Lib.hid hS54.1
          have L54 := Lib.hid hk54
          clear hS54 hk54
          go_simp
          refine (HSx.out u7 xv _ (HU7.out.keep L54.out) (HXz.out.keep J54.out)).mono ?_
          rintro e w54 ⟨rfl, k54⟩
          have K54 := Lib.hid (J54.out.trans k54)
          have N54 := Lib.hid (L54.out.trans k54)
          refine hK.out _ _ k54 (HPP.out _ K54.out) (fun _ => ?_)
          clear hK K
          (try simp only [Act.put, List.setIfInBounds_toArray, List.set_cons_zero, List.set_cons_succ])
          (repeat (first | (refine wpTw_take (v := ?_) rfl ?_ (by rfl) ?_; rotate_left; (focus (intro w' hSw; (try dsimp only at hSw); go_simp; (try with_reducible rfl); done)); simp only [Act.put, List.setIfInBounds_toArray, List.set_cons_zero, List.set_cons_succ]) | (refine wpTw_skip rfl (by rfl) ?_; simp only [Act.put, List.setIfInBounds_toArray, List.set_cons_zero, List.set_cons_succ])))
          refine wpTw_go rfl (fun W55 hk55 hS55 K hK => ?_)
          have J55 := Lib.hid hS55.1
          have L55 := Lib.hid hk55
          clear hS55 hk55
          go_simp
          refine (HTo.out b b1 _ IB.out.rt (HBz.out.keep J55.out)).mono ?_
          rintro e w55 ⟨u8, rfl, hu8, k55⟩
          have K55 := Lib.hid (J55.out.trans k55)
          have N55 := Lib.hid (L55.out.trans k55)
          have HU8 := Lib.hid (hu8.mono (S' := fun _ => True) fun _ _ => trivial)
          unfold tvV
          clear hu8
          refine hK.out _ _ k55 (HPP.out _ K55.out) (fun _ => ?_)
          clear hK K
          (try simp only [Act.put, List.setIfInBounds_toArray, List.set_cons_zero, List.set_cons_succ])
          refine wpTw_go rfl (fun W56 hk56 hS56 K hK => ?_)
          have J56 := Lib.hid hS56.1
          have L56 := Lib.hid hk56
          clear hS56 hk56
          go_simp
          refine (HQb.out u8 _ (HD14.out.trans J56.out) (HU8.out.keep L56.out)).mono ?_
          rintro e w56 ⟨u9, rfl, hu9, k56⟩
          have K56 := Lib.hid (J56.out.trans k56)
          have N56 := Lib.hid (L56.out.trans k56)
          have HU9 := Lib.hid hu9
          clear hu9
          refine hK.out _ _ k56 (HPP.out _ K56.out) (fun _ => ?_)
          clear hK K
          (try simp only [Act.put, List.setIfInBounds_toArray, List.set_cons_zero, List.set_cons_succ])
          refine wpTw_go rfl (fun W57 hk57 hS57 K hK => ?_)
          have J57 := Lib.hid hS57.1
          have L57 := Lib.hid hk57
          clear hS57 hk57
          go_simp
          refine (HRb.out u9 _ (HWz.out.trans J57.out) (HU9.out.keep L57.out)).mono ?_
          rintro e w57 ⟨u10, rfl, hu10, k57⟩
          have K57 := Lib.hid (J57.out.trans k57)
          have N57 := Lib.hid (L57.out.trans k57)
          have HU10 := Lib.hid hu10
          clear hu10
          refine hK.out _ _ k57 (HPP.out _ K57.out) (fun _ => ?_)
          clear hK K
          (try simp only [Act.put, List.setIfInBounds_toArray, List.set_cons_zero, List.set_cons_succ])
          refine wpTw_go rfl (fun W58 hk58 hS58 K hK => ?_)
          have J58 := Lib.hid hS58.1
          have L58 := Lib.hid hk58
          clear hS58 hk58
          go_simp
          refine (HSx.out u10 xv _ (HU10.out.keep L58.out) (HXz.out.keep J58.out)).mono ?_
          rintro e w58 ⟨rfl, k58⟩
          have K58 := Lib.hid (J58.out.trans k58)
          have N58 := Lib.hid (L58.out.trans k58)
          refine hK.out _ _ k58 (HPP.out _ K58.out) (fun _ => ?_)
          clear hK K
          (try simp only [Act.put, List.setIfInBounds_toArray, List.set_cons_zero, List.set_cons_succ])
          (repeat (first | (refine wpTw_take (v := ?_) rfl ?_ (by rfl) ?_; rotate_left; (focus (intro w' hSw; (try dsimp only at hSw); go_simp; (try with_reducible rfl); done)); simp only [Act.put, List.setIfInBounds_toArray, List.set_cons_zero, List.set_cons_succ]) | (refine wpTw_skip rfl (by rfl) ?_; simp only [Act.put, List.setIfInBounds_toArray, List.set_cons_zero, List.set_cons_succ])))
          change wpTy _ _ _ _ _ _ _ _
          refine wpTy_last rfl (by decide) (fun K hK => ?_)
          go_simp
          refine hK.out _ _ (NoPanic.normal ?_)
          clear hK K
          (try simp only [Act.put, List.setIfInBounds_toArray, List.set_cons_zero, List.set_cons_succ])
          go_wp2_with fail
          go_ret
          exact ⟨rfl, HK9.out.trans (HK14.out.trans K58.out)⟩
      | cyc =>
        have HUn : Hid (∀ u v w, Tr w (fun _ => True) a u → Tr w (fun _ => True) b v → Calls Try.prog 11 #[.agg #[.int .i64 u.k, .int .i64 u.n, .string u.s, .slice u.A u.len u.c], .agg #[.int .i64 v.k, .int .i64 v.n, .string v.s, .slice v.A v.len v.c]] w fun e w' => e = .returned (.tuple #[.slice none 0 0, .int .i64 15]) ∧ Keeps w w' []) := fun u v w h1 h2 => (unify_any Vs6 few6 (by decide) a b u v w h1 h2 IA.out IB.out (Nat.le_trans DA.out (by decide)) (Nat.le_trans DB.out (by decide)) fuel _ HRun.out).mono fun e w' h => ⟨h.2, h.1⟩
        have hne : tSame x y = false := by
          refine Bool.eq_false_iff.2 fun h => ?_
          obtain ⟨s, hs⟩ := HM.out.ok ((tSame_iff x y).1 h)
          cases hs
        rw [hne]
        have HP : Hid (∀ W', Keeps w9 W' [] → (Keeps w9 W' [] ∧ W'.cell? ⟨w.heap.size, 0, none⟩ = some (.int .i64 a1.k) ∧ W'.cell? ⟨w.heap.size, 1, none⟩ = some (.int .i64 a1.n) ∧ W'.cell? ⟨w.heap.size, 2, none⟩ = some (.string a1.s) ∧ W'.cell? ⟨w.heap.size, 3, none⟩ = some (.slice a1.A a1.len a1.c) ∧ W'.cell? ⟨(w.heap.size + 1), 0, none⟩ = some (.int .i64 b1.k) ∧ W'.cell? ⟨(w.heap.size + 1), 1, none⟩ = some (.int .i64 b1.n) ∧ W'.cell? ⟨(w.heap.size + 1), 2, none⟩ = some (.string b1.s) ∧ W'.cell? ⟨(w.heap.size + 1), 3, none⟩ = some (.slice b1.A b1.len b1.c))) := fun W' k => by
          have b0 := HP09.out.keep k (by simp)
          have b1 := HP19.out.keep k (by simp)
          exact ⟨k, b0.cell 0, b0.cell 1, b0.cell 2, b0.cell 3, b1.cell 0, b1.cell 1, b1.cell 2, b1.cell 3⟩
        refine wp_region_tw (fun W' => Keeps w9 W' [] ∧ W'.cell? ⟨w.heap.size, 0, none⟩ = some (.int .i64 a1.k) ∧ W'.cell? ⟨w.heap.size, 1, none⟩ = some (.int .i64 a1.n) ∧ W'.cell? ⟨w.heap.size, 2, none⟩ = some (.string a1.s) ∧ W'.cell? ⟨w.heap.size, 3, none⟩ = some (.slice a1.A a1.len a1.c) ∧ W'.cell? ⟨(w.heap.size + 1), 0, none⟩ = some (.int .i64 b1.k) ∧ W'.cell? ⟨(w.heap.size + 1), 1, none⟩ = some (.int .i64 b1.n) ∧ W'.cell? ⟨(w.heap.size + 1), 2, none⟩ = some (.string b1.s) ∧ W'.cell? ⟨(w.heap.size + 1), 3, none⟩ = some (.slice b1.A b1.len b1.c)) 9 [.take 0, .take 2, .go 1, .go 3, .go 4, .take 5, .take 6, .take 7, .take 8] [(9, false)] (by kernel_rfl) (by kernel_rfl) (fun w1 w2 k h => HP.out _ (h.1.trans k)) (by exact HP.out _ (Keeps.refl _ []).drew) (fun _ => ?_)
        (repeat (first | (refine wpTw_take (v := ?_) rfl ?_ (by rfl) ?_; rotate_left; (focus (intro w' hSw; (try dsimp only at hSw); go_simp; (try with_reducible rfl); done)); simp only [Act.put, List.setIfInBounds_toArray, List.set_cons_zero, List.set_cons_succ]) | (refine wpTw_skip rfl (by rfl) ?_; simp only [Act.put, List.setIfInBounds_toArray, List.set_cons_zero, List.set_cons_succ])))
        refine wpTw_go rfl (fun W41 hk41 hS41 K hK => ?_)
        have J41 := Lib.hid hS41.1
        have L41 := Lib.hid hk41
        clear hS41 hk41
        go_simp
        refine (HTo.out a a1 _ IA.out.rt (HA9.out.keep J41.out)).mono ?_
        rintro e w41 ⟨u3, rfl, hu3, k41⟩
        have K41 := Lib.hid (J41.out.trans k41)
        have N41 := Lib.hid (L41.out.trans k41)
        have HU3 := Lib.hid (hu3.mono (S' := fun _ => True) fun _ _ => trivial)
        unfold tvV
        clear hu3
        refine hK.out _ _ k41 (HP.out _ K41.out) (fun _ => ?_)
        clear hK K
        (try simp only [Act.put, List.setIfInBounds_toArray, List.set_cons_zero, List.set_cons_succ])
        refine wpTw_go rfl (fun W42 hk42 hS42 K hK => ?_)
        have J42 := Lib.hid hS42.1
        have L42 := Lib.hid hk42
        clear hS42 hk42
        go_simp
        refine (HTo.out b b1 _ IB.out.rt (HB9.out.keep J42.out)).mono ?_
        rintro e w42 ⟨u4, rfl, hu4, k42⟩
        have K42 := Lib.hid (J42.out.trans k42)
        have N42 := Lib.hid (L42.out.trans k42)
        have HU4 := Lib.hid (hu4.mono (S' := fun _ => True) fun _ _ => trivial)
        unfold tvV
        clear hu4
        refine hK.out _ _ k42 (HP.out _ K42.out) (fun _ => ?_)
        clear hK K
        (try simp only [Act.put, List.setIfInBounds_toArray, List.set_cons_zero, List.set_cons_succ])
        refine wpTw_go rfl (fun W43 hk43 hS43 K hK => ?_)
        have J43 := Lib.hid hS43.1
        have L43 := Lib.hid hk43
        clear hS43 hk43
        go_simp
        refine (HUn.out u3 u4 _ (HU3.out.keep (N42.out.trans L43.out)) (HU4.out.keep L43.out)).mono ?_
        rintro e w43 ⟨rfl, k43⟩
        have K43 := Lib.hid (J43.out.trans k43)
        have N43 := Lib.hid (L43.out.trans k43)
        refine hK.out _ _ k43 (HP.out _ K43.out) (fun _ => ?_)
        clear hK K
        (try simp only [Act.put, List.setIfInBounds_toArray, List.set_cons_zero, List.set_cons_succ])
        (repeat (first | (refine wpTw_take (v := ?_) rfl ?_ (by rfl) ?_; rotate_left; (focus (intro w' hSw; (try dsimp only at hSw); go_simp; (try with_reducible rfl); done)); simp only [Act.put, List.setIfInBounds_toArray, List.set_cons_zero, List.set_cons_succ]) | (refine wpTw_skip rfl (by rfl) ?_; simp only [Act.put, List.setIfInBounds_toArray, List.set_cons_zero, List.set_cons_succ])))
        change wpTy _ _ _ _ _ _ _ _
        refine wpTy_last rfl (by decide) (fun K hK => ?_)
        go_simp
        refine hK.out _ _ (NoPanic.normal ?_)
        clear hK K
        (try simp only [Act.put, List.setIfInBounds_toArray, List.set_cons_zero, List.set_cons_succ])
        go_wp2_with fail
        refine (told4_any _).mono ?_
        rintro e w14 ⟨rfl, k14⟩
        go_wp2_with fail
        go_ret
        exact ⟨rfl, HK9.out.trans (K43.out.trans k14)⟩
      | clash =>
        have HUn : Hid (∀ u v w, Tr w (fun _ => True) a u → Tr w (fun _ => True) b v → Calls Try.prog 11 #[.agg #[.int .i64 u.k, .int .i64 u.n, .string u.s, .slice u.A u.len u.c], .agg #[.int .i64 v.k, .int .i64 v.n, .string v.s, .slice v.A v.len v.c]] w fun e w' => e = .returned (.tuple #[.slice none 0 0, .int .i64 16]) ∧ Keeps w w' []) := fun u v w h1 h2 => (unify_any Vs6 few6 (by decide) a b u v w h1 h2 IA.out IB.out (Nat.le_trans DA.out (by decide)) (Nat.le_trans DB.out (by decide)) fuel _ HRun.out).mono fun e w' h => ⟨h.2, h.1⟩
        have hne : tSame x y = false := by
          refine Bool.eq_false_iff.2 fun h => ?_
          obtain ⟨s, hs⟩ := HM.out.ok ((tSame_iff x y).1 h)
          cases hs
        rw [hne]
        have HP : Hid (∀ W', Keeps w9 W' [] → (Keeps w9 W' [] ∧ W'.cell? ⟨w.heap.size, 0, none⟩ = some (.int .i64 a1.k) ∧ W'.cell? ⟨w.heap.size, 1, none⟩ = some (.int .i64 a1.n) ∧ W'.cell? ⟨w.heap.size, 2, none⟩ = some (.string a1.s) ∧ W'.cell? ⟨w.heap.size, 3, none⟩ = some (.slice a1.A a1.len a1.c) ∧ W'.cell? ⟨(w.heap.size + 1), 0, none⟩ = some (.int .i64 b1.k) ∧ W'.cell? ⟨(w.heap.size + 1), 1, none⟩ = some (.int .i64 b1.n) ∧ W'.cell? ⟨(w.heap.size + 1), 2, none⟩ = some (.string b1.s) ∧ W'.cell? ⟨(w.heap.size + 1), 3, none⟩ = some (.slice b1.A b1.len b1.c))) := fun W' k => by
          have b0 := HP09.out.keep k (by simp)
          have b1 := HP19.out.keep k (by simp)
          exact ⟨k, b0.cell 0, b0.cell 1, b0.cell 2, b0.cell 3, b1.cell 0, b1.cell 1, b1.cell 2, b1.cell 3⟩
        refine wp_region_tw (fun W' => Keeps w9 W' [] ∧ W'.cell? ⟨w.heap.size, 0, none⟩ = some (.int .i64 a1.k) ∧ W'.cell? ⟨w.heap.size, 1, none⟩ = some (.int .i64 a1.n) ∧ W'.cell? ⟨w.heap.size, 2, none⟩ = some (.string a1.s) ∧ W'.cell? ⟨w.heap.size, 3, none⟩ = some (.slice a1.A a1.len a1.c) ∧ W'.cell? ⟨(w.heap.size + 1), 0, none⟩ = some (.int .i64 b1.k) ∧ W'.cell? ⟨(w.heap.size + 1), 1, none⟩ = some (.int .i64 b1.n) ∧ W'.cell? ⟨(w.heap.size + 1), 2, none⟩ = some (.string b1.s) ∧ W'.cell? ⟨(w.heap.size + 1), 3, none⟩ = some (.slice b1.A b1.len b1.c)) 9 [.take 0, .take 2, .go 1, .go 3, .go 4, .take 5, .take 6, .take 7, .take 8] [(9, false)] (by kernel_rfl) (by kernel_rfl) (fun w1 w2 k h => HP.out _ (h.1.trans k)) (by exact HP.out _ (Keeps.refl _ []).drew) (fun _ => ?_)
        (repeat (first | (refine wpTw_take (v := ?_) rfl ?_ (by rfl) ?_; rotate_left; (focus (intro w' hSw; (try dsimp only at hSw); go_simp; (try with_reducible rfl); done)); simp only [Act.put, List.setIfInBounds_toArray, List.set_cons_zero, List.set_cons_succ]) | (refine wpTw_skip rfl (by rfl) ?_; simp only [Act.put, List.setIfInBounds_toArray, List.set_cons_zero, List.set_cons_succ])))
        refine wpTw_go rfl (fun W41 hk41 hS41 K hK => ?_)
        have J41 := Lib.hid hS41.1
        have L41 := Lib.hid hk41
        clear hS41 hk41
        go_simp
        refine (HTo.out a a1 _ IA.out.rt (HA9.out.keep J41.out)).mono ?_
        rintro e w41 ⟨u3, rfl, hu3, k41⟩
        have K41 := Lib.hid (J41.out.trans k41)
        have N41 := Lib.hid (L41.out.trans k41)
        have HU3 := Lib.hid (hu3.mono (S' := fun _ => True) fun _ _ => trivial)
        unfold tvV
        clear hu3
        refine hK.out _ _ k41 (HP.out _ K41.out) (fun _ => ?_)
        clear hK K
        (try simp only [Act.put, List.setIfInBounds_toArray, List.set_cons_zero, List.set_cons_succ])
        refine wpTw_go rfl (fun W42 hk42 hS42 K hK => ?_)
        have J42 := Lib.hid hS42.1
        have L42 := Lib.hid hk42
        clear hS42 hk42
        go_simp
        refine (HTo.out b b1 _ IB.out.rt (HB9.out.keep J42.out)).mono ?_
        rintro e w42 ⟨u4, rfl, hu4, k42⟩
        have K42 := Lib.hid (J42.out.trans k42)
        have N42 := Lib.hid (L42.out.trans k42)
        have HU4 := Lib.hid (hu4.mono (S' := fun _ => True) fun _ _ => trivial)
        unfold tvV
        clear hu4
        refine hK.out _ _ k42 (HP.out _ K42.out) (fun _ => ?_)
        clear hK K
        (try simp only [Act.put, List.setIfInBounds_toArray, List.set_cons_zero, List.set_cons_succ])
        refine wpTw_go rfl (fun W43 hk43 hS43 K hK => ?_)
        have J43 := Lib.hid hS43.1
        have L43 := Lib.hid hk43
        clear hS43 hk43
        go_simp
        refine (HUn.out u3 u4 _ (HU3.out.keep (N42.out.trans L43.out)) (HU4.out.keep L43.out)).mono ?_
        rintro e w43 ⟨rfl, k43⟩
        have K43 := Lib.hid (J43.out.trans k43)
        have N43 := Lib.hid (L43.out.trans k43)
        refine hK.out _ _ k43 (HP.out _ K43.out) (fun _ => ?_)
        clear hK K
        (try simp only [Act.put, List.setIfInBounds_toArray, List.set_cons_zero, List.set_cons_succ])
        (repeat (first | (refine wpTw_take (v := ?_) rfl ?_ (by rfl) ?_; rotate_left; (focus (intro w' hSw; (try dsimp only at hSw); go_simp; (try with_reducible rfl); done)); simp only [Act.put, List.setIfInBounds_toArray, List.set_cons_zero, List.set_cons_succ]) | (refine wpTw_skip rfl (by rfl) ?_; simp only [Act.put, List.setIfInBounds_toArray, List.set_cons_zero, List.set_cons_succ])))
        change wpTy _ _ _ _ _ _ _ _
        refine wpTy_last rfl (by decide) (fun K hK => ?_)
        go_simp
        refine hK.out _ _ (NoPanic.normal ?_)
        clear hK K
        (try simp only [Act.put, List.setIfInBounds_toArray, List.set_cons_zero, List.set_cons_succ])
        go_wp2_with fail
        refine (told4_any _).mono ?_
        rintro e w14 ⟨rfl, k14⟩
        go_wp2_with fail
        go_ret
        exact ⟨rfl, HK9.out.trans (K43.out.trans k14)⟩
end Go.Proofs.Ytjbomjnkjcafcaa
