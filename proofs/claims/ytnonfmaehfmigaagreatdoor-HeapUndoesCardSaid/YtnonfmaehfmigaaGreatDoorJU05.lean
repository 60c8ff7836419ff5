/- HeapUndoes: the walk. Printed by gen_hpundoes.py. -/
import Derived.Test.YtnonfmaehfmigaaGreatDoorJU04
namespace Go.Proofs.YtnonfmaehfmigaaGreatDoor
open Go.RowKit Go.Maps
set_option maxRecDepth 100000 in
set_option maxHeartbeats 25600000 in
theorem heapUndoes_any (t0 : Tm) (x0 : TV) (t1 : Tm) (x1 : TV) (l2 : List Tm) (z2 : List TV) (A2 : Option Addr) (n2 d2 : Nat) (w : World) (h0 : Tr w (fun _ => True) t0 x0) (h1 : Tr w (fun _ => True) t1 x1) (h2 : Trs w (fun _ => True) l2 z2) (r2 : Rd w A2 (z2.flatMap tvE)) (g2 : l2.length = n2) (hS : Tab w) : Calls Tryz.prog 3 #[tvV x0, tvV x1, .slice A2 n2 d2] w fun e w' => e = .returned (.bool true) ∧ Keeps w w' [] := by
  have HA0 := Lib.hid h0
  have HB0 := Lib.hid h1
  have HT0 := Lib.hid h2
  have HR0 := Lib.hid r2
  have HN2 := Lib.hid g2
  have HSt := Lib.hid hS
  have HFx : Hid (∀ (t : Tm) (v : TV) (w : World), Tr w (fun _ => True) t v → Calls Tryz.prog 4 #[.agg #[.int .i64 v.k, .int .i64 v.n, .string v.s, .slice v.A v.len v.c]] w (TDone [] (fun b => w.heap.size ≤ b) w (lFix t))) := fun t v w h => lFix_any t v w h
  have HTo : Hid (∀ (t : Tm) (v : TV) (w : World), tRight t = true → Tr w (fun _ => True) t v → Calls Tryz.prog 11 #[.agg #[.int .i64 v.k, .int .i64 v.n, .string v.s, .slice v.A v.len v.c]] w (TDone [] (fun b => w.heap.size ≤ b) w t)) := fun t v w h1 h2 => tmToW_any t v w h2 (tWid_of_right h1)
  have HFr : Hid (∀ (t : Tm) (v : TV) (w : World), tSize t ≤ 10000 → Tr w (fun _ => True) t v → Calls Tryz.prog 14 #[.agg #[.int .i64 v.k, .int .i64 v.n, .string v.s, .slice v.A v.len v.c]] w (TDone [] (fun b => w.heap.size ≤ b) w t)) := fun t v w h1 h2 => tmFromW_any t v w h2 (tWid_of_size (by omega))
  have HSz : Hid (∀ (t : Tm) (v : TV) (w : World), tSize t ≤ 10000 → Tr w (fun _ => True) t v → Calls Tryz.prog 13 #[.agg #[.int .i64 v.k, .int .i64 v.n, .string v.s, .slice v.A v.len v.c]] w fun e w' => e = .returned (.int .i64 (tSize t : Nat)) ∧ Keeps w w' []) := fun t v w h1 h2 => refSize_any t v w h2 (by omega)
  obtain ⟨a, ha⟩ : ∃ a, lFix t0 = a := ⟨_, rfl⟩
  obtain ⟨b, hb⟩ : ∃ b, lFix t1 = b := ⟨_, rfl⟩
  have HF0 : Hid (∀ w, Tr w (fun _ => True) t0 x0 → Calls Tryz.prog 4 #[.agg #[.int .i64 x0.k, .int .i64 x0.n, .string x0.s, .slice x0.A x0.len x0.c]] w (TDone [] (fun b => w.heap.size ≤ b) w a)) := fun w h => by rw [← ha]; exact HFx.out t0 x0 w h
  have HF1 : Hid (∀ w, Tr w (fun _ => True) t1 x1 → Calls Tryz.prog 4 #[.agg #[.int .i64 x1.k, .int .i64 x1.n, .string x1.s, .slice x1.A x1.len x1.c]] w (TDone [] (fun b => w.heap.size ≤ b) w b)) := fun w h => by rw [← hb]; exact HFx.out t1 x1 w h
  have rA : tRight a = true := by rw [← ha]; exact lFix_right t0
  have rB : tRight b = true := by rw [← hb]; exact lFix_right t1
  have sA : tSize a ≤ 38 := by rw [← ha]; exact lFix_size2 t0
  have sB : tSize b ≤ 38 := by rw [← hb]; exact lFix_size2 t1
  have hT := two_of rA rB (room := 900) (by omega) (by omega)
  have hSt := Und.start rA rB sA sB
  obtain ⟨f, hr1, hr2, hfb, hfi⟩ := two_rp rA rB (room := 900) (by omega) (by omega)
  have HPr : Hid (∀ u v w, Tr w (fun _ => True) a u → Tr w (fun _ => True) b v → Calls Tryz.prog 5 #[.agg #[.int .i64 u.k, .int .i64 u.n, .string u.s, .slice u.A u.len u.c], .agg #[.int .i64 v.k, .int .i64 v.n, .string v.s, .slice v.A v.len v.c]] w fun e w' => ∃ base hb L, e = .returned (.tuple #[.pointer (some ⟨hb, 0, none⟩), .int .u64 (lay PH0 a).2, .int .u64 (lay (lay PH0 a).1 b).2, .bool true]) ∧ Hp w' base hb L (lay (lay PH0 a).1 b).1 [] [] 900 ∧ (∀ b ∈ L, w.heap.size ≤ b) ∧ Keeps w w' []) := fun u v w k0 k1 => pair_any a b u v w k0 k1 rA rB hT
  have hc1 : COk (lay PH0 a).2 := lay_cell (by omega : 900 ≤ 65536) PH0 PH0.vi.vb a hT.fit1
  have hc2 : COk (lay (lay PH0 a).1 b).2 := lay_cell (by omega : 900 ≤ 65536) _ hT.vi1.vb b hT.fit2
  have hok := hT.ok2
  have hlen2 : (lay (lay PH0 a).1 b).1.cells.length ≤ 900 := hT.fit2.1
  clear hT
  generalize (lay PH0 a).2 = c1 at hr1 HPr hc1
  generalize (lay (lay PH0 a).1 b).2 = c2 at hr2 HPr hc2
  generalize (lay (lay PH0 a).1 b).1 = H2 at hr1 hr2 HPr hSt hok hlen2
  have rfA : tRight (tRn f a) = true := tRn_right a rA fun n hn => hfb n (.inl hn)
  have rfB : tRight (tRn f b) = true := tRn_right b rB fun n hn => hfb n (.inr hn)
  have H9A : Hid (∀ n ∈ tV (tRn f a), n ≤ 999) := fun n hn => by obtain ⟨m, hm, rfl⟩ := tRn_vars a n hn; exact (hfb m (.inl hm)).2
  have H9B : Hid (∀ n ∈ tV (tRn f b), n ≤ 999) := fun n hn => by obtain ⟨m, hm, rfl⟩ := tRn_vars b n hn; exact (hfb m (.inr hm)).2
  have hrt : ∀ t ∈ [a, b], tRight t = true := fun t ht => by simp at ht; rcases ht with rfl | rfl <;> assumption
  have HAl : Hid (tSames (rn 0 [tRn f a, tRn f b]) (rn 0 [a, b]) = true) := (tSames_iff _ _).2 (rn_inj (l := [a, b]) hrt hfi)
  have z1 := tRn_size f a
  have z2 := tRn_size f b
  have HAk : Hid (∀ (us vs : List TV) (B C : Option Addr) w, Trs w (fun _ => True) [tRn f a, tRn f b] us → Rd w B (us.flatMap tvE) → Trs w (fun _ => True) [a, b] vs → Rd w C (vs.flatMap tvE) → Calls Tryz.prog 19 #[.slice B 2 2, .slice C 2 2] w fun e w' => e = .returned (.bool true) ∧ Keeps w w' []) := fun us vs B C w k1 k2 k3 k4 => by
    have hv1 := tVars_sizes [tRn f a, tRn f b]
    have hv2 := tVars_sizes [a, b]
    simp only [tSizes] at hv1 hv2
    have h := refAlikeL_any [tRn f a, tRn f b] [a, b] us vs B C 2 2 2 2 w k1 k2 rfl (by omega) (fun t ht => by simp at ht; rcases ht with rfl | rfl <;> assumption) (by omega) k3 k4 rfl (by omega) hrt (by omega)
    rw [HAl.out] at h
    exact h
  obtain ⟨ta, hta⟩ : ∃ ta, tRn f a = ta := ⟨_, rfl⟩
  obtain ⟨tb, htb⟩ : ∃ tb, tRn f b = tb := ⟨_, rfl⟩
  rw [hta] at hr1 H9A HAk z1
  rw [htb] at hr2 H9B HAk z2
  have HTA : Hid (Rp H2 c1 ta ∧ tSize ta ≤ 10000 ∧ ∀ n ∈ tV ta, n ≤ 999) := ⟨hr1, by omega, H9A.out⟩
  have HTB : Hid (Rp H2 c2 tb ∧ tSize tb ≤ 10000 ∧ ∀ n ∈ tV tb, n ≤ 999) := ⟨hr2, by omega, H9B.out⟩
  have HC1 := Lib.hid hc1
  have HC2 := Lib.hid hc2
  have HOK := Lib.hid hok
  have HU0 := Lib.hid hSt
  have HL2 := Lib.hid hlen2
  clear h0 h1 h2 r2 g2 hS ha hb rA rB sA sB hr1 hr2 hfb hfi hok hc1 hc2 hSt hlen2 rfA rfB hrt z1 z2 hta htb H9A H9B HAl
  unfold tvV
  go_enter Tryz.func3, Tryz.ntmps3
  go_upto_region 1 with fail
  have hB0 : Blk ((w.alloc (.cells #[.int .i64 x0.k, .int .i64 x0.n, .string x0.s, .slice x0.A x0.len x0.c] 24)).alloc (.cells #[.int .i64 x1.k, .int .i64 x1.n, .string x1.s, .slice x1.A x1.len x1.c] 24)) w.heap.size 24 #[.int .i64 x0.k, .int .i64 x0.n, .string x0.s, .slice x0.A x0.len x0.c] := (Blk.new _ _ _).alloc _
  have hB1 : Blk ((w.alloc (.cells #[.int .i64 x0.k, .int .i64 x0.n, .string x0.s, .slice x0.A x0.len x0.c] 24)).alloc (.cells #[.int .i64 x1.k, .int .i64 x1.n, .string x1.s, .slice x1.A x1.len x1.c] 24)) (w.heap.size + 1) 24 #[.int .i64 x1.k, .int .i64 x1.n, .string x1.s, .slice x1.A x1.len x1.c] := Blk.newAt _ _ (by simp)
  have hK0 : Keeps w ((w.alloc (.cells #[.int .i64 x0.k, .int .i64 x0.n, .string x0.s, .slice x0.A x0.len x0.c] 24)).alloc (.cells #[.int .i64 x1.k, .int .i64 x1.n, .string x1.s, .slice x1.A x1.len x1.c] 24)) [] := ((Keeps.refl w []).alloc _).alloc _
  generalize ((w.alloc (.cells #[.int .i64 x0.k, .int .i64 x0.n, .string x0.s, .slice x0.A x0.len x0.c] 24)).alloc (.cells #[.int .i64 x1.k, .int .i64 x1.n, .string x1.s, .slice x1.A x1.len x1.c] 24)) = w6 at hB0 hB1 hK0 ⊢
  have HQ0 := Lib.hid hB0
  have HQ1 := Lib.hid hB1
  have HK0 := Lib.hid hK0
  have HA1 := Lib.hid (HA0.out.keep hK0)
  have HB1 := Lib.hid (HB0.out.keep hK0)
  clear hB0 hB1 hK0 HA0 HB0
  have HP : Hid (∀ W', Keeps w6 W' [] → (Keeps w6 W' [] ∧ W'.cell? ⟨w.heap.size, 0, none⟩ = some (.int .i64 x0.k) ∧ W'.cell? ⟨w.heap.size, 1, none⟩ = some (.int .i64 x0.n) ∧ W'.cell? ⟨w.heap.size, 2, none⟩ = some (.string x0.s) ∧ W'.cell? ⟨w.heap.size, 3, none⟩ = some (.slice x0.A x0.len x0.c) ∧ W'.cell? ⟨(w.heap.size + 1), 0, none⟩ = some (.int .i64 x1.k) ∧ W'.cell? ⟨(w.heap.size + 1), 1, none⟩ = some (.int .i64 x1.n) ∧ W'.cell? ⟨(w.heap.size + 1), 2, none⟩ = some (.string x1.s) ∧ W'.cell? ⟨(w.heap.size + 1), 3, none⟩ = some (.slice x1.A x1.len x1.c))) := fun W' k => by
    have b0 := HQ0.out.keep k (by simp)
    have b1 := HQ1.out.keep k (by simp)
    exact ⟨k, b0.cell 0, b0.cell 1, b0.cell 2, b0.cell 3, b1.cell 0, b1.cell 1, b1.cell 2, b1.cell 3⟩
  refine wp_region_tw (fun W' => Keeps w6 W' [] ∧ W'.cell? ⟨w.heap.size, 0, none⟩ = some (.int .i64 x0.k) ∧ W'.cell? ⟨w.heap.size, 1, none⟩ = some (.int .i64 x0.n) ∧ W'.cell? ⟨w.heap.size, 2, none⟩ = some (.string x0.s) ∧ W'.cell? ⟨w.heap.size, 3, none⟩ = some (.slice x0.A x0.len x0.c) ∧ W'.cell? ⟨(w.heap.size + 1), 0, none⟩ = some (.int .i64 x1.k) ∧ W'.cell? ⟨(w.heap.size + 1), 1, none⟩ = some (.int .i64 x1.n) ∧ W'.cell? ⟨(w.heap.size + 1), 2, none⟩ = some (.string x1.s) ∧ W'.cell? ⟨(w.heap.size + 1), 3, none⟩ = some (.slice x1.A x1.len x1.c)) 4 [.take 0, .take 2, .go 1, .go 3] [(4, false), (5, false)] (by kernel_rfl) (by kernel_rfl) (fun w1 w2 k h => HP.out _ (h.1.trans k)) (by exact HP.out _ (Keeps.refl _ []).drew) (fun _ => ?_)
  (repeat (first | (refine wpTw_take (v := ?_) rfl ?_ (by rfl) ?_; rotate_left; (focus (intro w' hSw; (try dsimp only at hSw); go_simp; (try with_reducible rfl); done)); simp only [Act.put, List.setIfInBounds_toArray, List.set_cons_zero, List.set_cons_succ]) | (refine wpTw_skip rfl (by rfl) ?_; simp only [Act.put, List.setIfInBounds_toArray, List.set_cons_zero, List.set_cons_succ])))
  refine wpTw_go rfl (fun W1 hk1 hS1 K hK => ?_)
  have J1 := Lib.hid hS1.1
  have L1 := Lib.hid hk1
  clear hS1 hk1
  go_simp
  refine (HF0.out _ (HA1.out.keep J1.out)).mono ?_
  rintro e w1 ⟨a1, rfl, ha1, k1⟩
  have K1 := Lib.hid (J1.out.trans k1)
  have N1 := Lib.hid (L1.out.trans k1)
  have HA2 := Lib.hid ha1
  unfold tvV
  clear ha1
  refine hK.out _ _ k1 (HP.out _ K1.out) (fun _ => ?_)
  clear hK K
  (try simp only [Act.put, List.setIfInBounds_toArray, List.set_cons_zero, List.set_cons_succ])
  refine wpTw_go rfl (fun W2 hk2 hS2 K hK => ?_)
  have J2 := Lib.hid hS2.1
  have L2 := Lib.hid hk2
  clear hS2 hk2
  go_simp
  refine (HF1.out _ (HB1.out.keep J2.out)).mono ?_
  rintro e w2 ⟨b1, rfl, hb1, k2⟩
  have K2 := Lib.hid (J2.out.trans k2)
  have N2 := Lib.hid (L2.out.trans k2)
  have HB2 := Lib.hid hb1
  unfold tvV
  clear hb1
  refine hK.out _ _ k2 (HP.out _ K2.out) (fun _ => ?_)
  clear hK K
  (try simp only [Act.put, List.setIfInBounds_toArray, List.set_cons_zero, List.set_cons_succ])
  have q := HQ0.out.keep K2.out (by simp)
  have p := HQ1.out.keep K2.out (by simp)
  have qc0 := q.cell 0
  have qf0 := q.frozen 0
  have qc1 := q.cell 1
  have qf1 := q.frozen 1
  have qc2 := q.cell 2
  have qf2 := q.frozen 2
  have qc3 := q.cell 3
  have qf3 := q.frozen 3
  have pc0 := p.cell 0
  have pf0 := p.frozen 0
  have pc1 := p.cell 1
  have pf1 := p.frozen 1
  have pc2 := p.cell 2
  have pf2 := p.frozen 2
  have pc3 := p.cell 3
  have pf3 := p.frozen 3
  change wpTy _ _ _ _ _ _ _ _
  refine wpTy_tail rfl (by decide) (fun K hK => ?_)
  go_simp
  refine hK.out _ _ ?_; clear hK K; (try simp only [Act.put, List.setIfInBounds_toArray, List.set_cons_zero, List.set_cons_succ])
  refine wpTy_last rfl (by decide) (fun K hK => ?_)
  go_simp
  refine hK.out _ _ (NoPanic.normal ?_)
  clear hK K
  (try simp only [Act.put, List.setIfInBounds_toArray, List.set_cons_zero, List.set_cons_succ])
  change Exit.then _ _ _ _ (set4 (set4 w2 w.heap.size (.int .i64 a1.k) (.int .i64 a1.n) (.string a1.s) (.slice a1.A a1.len a1.c)) (w.heap.size + 1) (.int .i64 b1.k) (.int .i64 b1.n) (.string b1.s) (.slice b1.A b1.len b1.c))
  have hlt := HQ1.out.lt
  have hw1 := J1.out.size
  have hw2 := J2.out.size
  have HQ2 := Lib.hid ((q.put4 (.int .i64 a1.k) (.int .i64 a1.n) (.string a1.s) (.slice a1.A a1.len a1.c)).far4 (g' := w.heap.size + 1) (by omega) (.int .i64 b1.k) (.int .i64 b1.n) (.string b1.s) (.slice b1.A b1.len b1.c))
  have HQ3 := Lib.hid ((p.far4 (g' := w.heap.size) (by omega) (.int .i64 a1.k) (.int .i64 a1.n) (.string a1.s) (.slice a1.A a1.len a1.c)).put4 (.int .i64 b1.k) (.int .i64 b1.n) (.string b1.s) (.slice b1.A b1.len b1.c))
  have HK3 := Lib.hid (((HK0.out.trans K2.out).put4 (.inr (Nat.le_refl _)) (.int .i64 a1.k) (.int .i64 a1.n) (.string a1.s) (.slice a1.A a1.len a1.c)).put4 (g := w.heap.size + 1) (.inr (by omega)) (.int .i64 b1.k) (.int .i64 b1.n) (.string b1.s) (.slice b1.A b1.len b1.c))
  have HA3 := Lib.hid (((((HA2.out.keep N2.out).far4 (g := w.heap.size) (by omega) (.int .i64 a1.k) (.int .i64 a1.n) (.string a1.s) (.slice a1.A a1.len a1.c)).far4 (g := w.heap.size + 1) (by omega) (.int .i64 b1.k) (.int .i64 b1.n) (.string b1.s) (.slice b1.A b1.len b1.c))).mono (S' := fun _ => True) (fun _ _ => trivial))
  have HB3 := Lib.hid (((HB2.out.far4 (g := w.heap.size) (by omega) (.int .i64 a1.k) (.int .i64 a1.n) (.string a1.s) (.slice a1.A a1.len a1.c)).far4 (g := w.heap.size + 1) (by omega) (.int .i64 b1.k) (.int .i64 b1.n) (.string b1.s) (.slice b1.A b1.len b1.c)).mono (S' := fun _ => True) (fun _ _ => trivial))
  generalize set4 (set4 w2 w.heap.size (.int .i64 a1.k) (.int .i64 a1.n) (.string a1.s) (.slice a1.A a1.len a1.c)) (w.heap.size + 1) (.int .i64 b1.k) (.int .i64 b1.n) (.string b1.s) (.slice b1.A b1.len b1.c) = w3 at HQ2 HQ3 HK3 HA3 HB3 ⊢
  clear HQ0 HQ1 HK0 HA1 HB1 HA2 HB2 HP HF0 HF1 J1 J2 K1 K2 L1 L2 N1 N2 hlt hw1 hw2 q p k1 k2
  clear qc0 qf0 qc1 qf1 qc2 qf2 qc3 qf3 pc0 pf0 pc1 pf1 pc2 pf2 pc3 pf3
  have q0 := HQ2.out.cell 0
  have q1 := HQ2.out.cell 1
  have q2 := HQ2.out.cell 2
  have q3 := HQ2.out.cell 3
  have p0 := HQ3.out.cell 0
  have p1 := HQ3.out.cell 1
  have p2 := HQ3.out.cell 2
  have p3 := HQ3.out.cell 3
  go_wp2_with fail
  refine (HPr.out a1 b1 _ HA3.out HB3.out).mono ?_
  rintro e w4 ⟨base, hb, L, rfl, hp, hL, k4⟩
  have HP4 := Lib.hid hp
  have HL4 := Lib.hid hL
  have HK4 := Lib.hid k4
  clear hp hL k4 q0 q1 q2 q3 p0 p1 p2 p3 HPr
  go_wp2_with fail
  refine (told5_any _ (HSt.out.keep (HK3.out.trans HK4.out))).mono ?_
  rintro e w5 ⟨rfl, k5⟩
  have HP5 := Lib.hid (HP4.out.keep k5 (by simp))
  have HK5 := Lib.hid (HK4.out.trans k5)
  have hCl : Calls Tryz.prog 8 #[.pointer (some ⟨hb, 0, none⟩)] w5 (Copied w5 28 H2.cells) := by
    obtain ⟨ag, ah, vb, AA, FA, TA, MA, ca, nt, ct, nm, cm, cf, _, hm⟩ := HP5.out
    exact hcells_any hm
  have HCl := Lib.hid hCl
  clear hCl k5 HP4
  go_wp2_with fail
  refine HCl.out.mono ?_
  rintro e w7 ⟨A7, d7, rfl, ho7, be7⟩
  have HO7 := Lib.hid ho7
  have HK7 := Lib.hid (Keeps.nil_of be7)
  clear ho7 be7 HCl
  go_wp2_with fail
  refine (lawCells_any A7 _ d7 H2.cells _ w7 rfl (by have := HL2.out; omega) (nums_own HO7.out) (Nat.le_refl _)).mono ?_
  rintro e w8 ⟨A8, d8, rfl, ho8, be8⟩
  have HO8 := Lib.hid ho8
  have k8 := HK7.out.trans (Keeps.nil_of be8)
  have HP8 := Lib.hid (HP5.out.keep k8 (by simp))
  have HK8 := Lib.hid (HK5.out.trans k8)
  have HLt := Lib.hid HP8.out.lt
  have hLw : ∀ b ∈ L, b < w7.heap.size := fun b hb => Nat.lt_of_lt_of_le (HP5.out.lt b hb) HK7.out.size
  have HL8 : Hid (∀ W, Keeps w8 W L → Keeps w3 W [] ∧ Nums .u64 W W.heap.size A8 H2.cells) := fun W k => by
    refine ⟨((HK8.out.to_ L).trans k).more (fun b hb' hm => absurd (HL4.out b hm) (by omega)), ?_⟩
    exact nums_own (own_keepS HO8.out k hLw)
  clear ho8 be8 k8 HO8 HO7 HP5 HK5 HK7 HL4 hLw HLt HK4
  go_wp2_with fail
  refine (umark_any HP8.out HU0.out).mono ?_
  rintro e w9 ⟨rfl, hw9⟩
  have HW9 := Lib.hid hw9
  clear hw9 HP8 HU0 HK8
  have HLs : Hid (l2.length = n2) := HN2
  go_wp2_with fail
  rename_i K0 hK0
  have HEnd : ∀ (v0 v1 v2 v5 v6 v10 v12 v13 v14 v15 v16 v17 v18 v19 v20 v21 v22 v23 v24 v25 v26 v27 v28 v29 v30 v31 v32 v33 v34 v35 v36 v37 v38 v39 v40 v41 v42 v43 v44 v45 v46 v47 v48 v49 v50 v51 v52 v53 v54 v55 v56 v57 v58 v59 v60 v61 v62 v63 v64 v65 v66 v67 v68 v69 v70 v71 v72 v73 v74 v75 v76 v77 v78 v79 v80 v81 v82 v83 v84 v85 v86 v87 v88 v89 v90 v91 v92 v93 v94 v95 v96 v97 v98 v99 v100 v101 v102 v103 v104 v105 v106 v107 v108 v109 v110 v111 v112 v113 v114 v115 v116 v117 v118 v119 v120 v121 v122 v123 v124 v125 v126 v127 v128 v129 v130 v131 v132 v133 v134 v135 v136 v137 v138 v139 v140 v141 v142 v143 v144 v145 v146 v147 v148 v149 v150 v151 v152 v153 v154 v155 v156 v157 v158 v159 v160 v161 v162 v163 v164 v165 v166 v167 v168 v169 v170 v171 v172 v173 v174 v175 v176 v177 v178 v179 v180 v181 v182 v183 v184 v185 v186 v187 v188 v189 v190 v191 v192 v193 v194 : Value) (W : World) (kk : Nat), kk ≤ 5 → HuW w8 base hb L H2 kk kk W → K0 ⟨#[v0, v1, v2, .pointer (some ⟨w.heap.size, 0, none⟩), .pointer (some ⟨w.heap.size + 1, 0, none⟩), v5, v6, .pointer (some ⟨hb, 0, none⟩), .int .u64 c1, .int .u64 c2, v10, .slice A8 H2.cells.length d8, v12, v13, v14, v15, v16, v17, v18, v19, v20, v21, v22, v23, v24, v25, v26, v27, v28, v29, v30, v31, v32, v33, v34, v35, v36, v37, v38, v39, v40, v41, v42, v43, v44, v45, v46, v47, v48, v49, v50, v51, v52, v53, v54, v55, v56, v57, v58, v59, v60, v61, v62, v63, v64, v65, v66, v67, v68, v69, v70, v71, v72, v73, v74, v75, v76, v77, v78, v79, v80, v81, v82, v83, v84, v85, v86, v87, v88, v89, v90, v91, v92, v93, v94, v95, v96, v97, v98, v99, v100, v101, v102, v103, v104, v105, v106, v107, v108, v109, v110, v111, v112, v113, v114, v115, v116, v117, v118, v119, v120, v121, v122, v123, v124, v125, v126, v127, v128, v129, v130, v131, v132, v133, v134, v135, v136, v137, v138, v139, v140, v141, v142, v143, v144, v145, v146, v147, v148, v149, v150, v151, v152, v153, v154, v155, v156, v157, v158, v159, v160, v161, v162, v163, v164, v165, v166, v167, v168, v169, v170, v171, v172, v173, v174, v175, v176, v177, v178, v179, v180, v181, v182, v183, v184, v185, v186, v187, v188, v189, v190, v191, v192, v193, v194], []⟩ W := by
    intro v0 v1 v2 v5 v6 v10 v12 v13 v14 v15 v16 v17 v18 v19 v20 v21 v22 v23 v24 v25 v26 v27 v28 v29 v30 v31 v32 v33 v34 v35 v36 v37 v38 v39 v40 v41 v42 v43 v44 v45 v46 v47 v48 v49 v50 v51 v52 v53 v54 v55 v56 v57 v58 v59 v60 v61 v62 v63 v64 v65 v66 v67 v68 v69 v70 v71 v72 v73 v74 v75 v76 v77 v78 v79 v80 v81 v82 v83 v84 v85 v86 v87 v88 v89 v90 v91 v92 v93 v94 v95 v96 v97 v98 v99 v100 v101 v102 v103 v104 v105 v106 v107 v108 v109 v110 v111 v112 v113 v114 v115 v116 v117 v118 v119 v120 v121 v122 v123 v124 v125 v126 v127 v128 v129 v130 v131 v132 v133 v134 v135 v136 v137 v138 v139 v140 v141 v142 v143 v144 v145 v146 v147 v148 v149 v150 v151 v152 v153 v154 v155 v156 v157 v158 v159 v160 v161 v162 v163 v164 v165 v166 v167 v168 v169 v170 v171 v172 v173 v174 v175 v176 v177 v178 v179 v180 v181 v182 v183 v184 v185 v186 v187 v188 v189 v190 v191 v192 v193 v194 W kk hk5 hw
    have HK5 := Lib.hid hk5
    have HWl := Lib.hid hw
    clear hw
    refine hK0 _ _ ?_
    clear hK0
    obtain ⟨wl, rfl⟩ : ∃ x, x = W := ⟨W, rfl⟩
    go_upto_region 19 with fail
    rename_i K1 hK1 K2 hK2
    have HEnd2 : ∀ (v0 v1 v2 v5 v6 v10 v12 v13 v14 v15 v16 v17 v18 v19 v20 v21 v22 v23 v24 v25 v26 v27 v28 v29 v30 v31 v32 v33 v34 v35 v36 v37 v38 v39 v40 v41 v42 v43 v44 v45 v46 v47 v48 v49 v50 v51 v52 v53 v54 v55 v56 v57 v58 v59 v60 v61 v62 v63 v64 v65 v66 v67 v68 v69 v70 v71 v72 v73 v74 v75 v76 v77 v78 v79 v80 v81 v82 v83 v84 v85 v86 v87 v88 v89 v90 v91 v92 v93 v94 v95 v96 v97 v98 v99 v100 v101 v102 v103 v104 v105 v106 v107 v108 v109 v110 v111 v112 v113 v114 v115 v116 v117 v118 v119 v120 v121 v122 v123 v124 v125 v126 v127 v128 v129 v130 v131 v132 v133 v134 v135 v136 v137 v138 v139 v140 v141 v142 v143 v144 v145 v146 v147 v148 v149 v150 v151 v152 v153 v154 v155 v156 v157 v158 v159 v160 v161 v162 v163 v164 v165 v166 v167 v168 v169 v170 v171 v172 v173 v174 v175 v176 v177 v178 v179 v180 v181 v182 v183 v184 v185 v186 v187 v188 v189 v190 v191 v192 v193 v194 : Value) (W : World) (j : Nat), j ≤ 20 → HuW w8 base hb L H2 kk j W → K1 ⟨#[v0, v1, v2, .pointer (some ⟨w.heap.size, 0, none⟩), .pointer (some ⟨w.heap.size + 1, 0, none⟩), v5, v6, .pointer (some ⟨hb, 0, none⟩), .int .u64 c1, .int .u64 c2, v10, .slice A8 H2.cells.length d8, v12, v13, v14, v15, v16, v17, v18, v19, v20, v21, v22, v23, v24, v25, v26, v27, v28, v29, v30, v31, v32, v33, v34, v35, v36, v37, v38, v39, v40, v41, v42, v43, v44, v45, v46, v47, v48, v49, v50, v51, v52, v53, v54, v55, v56, v57, v58, v59, v60, v61, v62, v63, v64, v65, v66, v67, v68, v69, v70, v71, v72, v73, v74, v75, v76, v77, v78, v79, v80, v81, v82, v83, v84, v85, v86, v87, v88, v89, v90, v91, v92, v93, v94, v95, v96, v97, v98, v99, v100, v101, v102, v103, v104, v105, v106, v107, v108, v109, v110, v111, v112, v113, v114, v115, v116, v117, v118, v119, v120, v121, v122, v123, v124, v125, v126, v127, v128, v129, v130, v131, v132, v133, v134, v135, v136, v137, v138, v139, v140, v141, v142, v143, v144, v145, v146, v147, v148, v149, v150, v151, v152, v153, v154, v155, v156, v157, v158, v159, v160, v161, v162, v163, v164, v165, v166, v167, v168, v169, v170, v171, v172, v173, v174, v175, v176, v177, v178, v179, v180, v181, v182, v183, v184, v185, v186, v187, v188, v189, v190, v191, v192, v193, v194], []⟩ W := by
      intro v0 v1 v2 v5 v6 v10 v12 v13 v14 v15 v16 v17 v18 v19 v20 v21 v22 v23 v24 v25 v26 v27 v28 v29 v30 v31 v32 v33 v34 v35 v36 v37 v38 v39 v40 v41 v42 v43 v44 v45 v46 v47 v48 v49 v50 v51 v52 v53 v54 v55 v56 v57 v58 v59 v60 v61 v62 v63 v64 v65 v66 v67 v68 v69 v70 v71 v72 v73 v74 v75 v76 v77 v78 v79 v80 v81 v82 v83 v84 v85 v86 v87 v88 v89 v90 v91 v92 v93 v94 v95 v96 v97 v98 v99 v100 v101 v102 v103 v104 v105 v106 v107 v108 v109 v110 v111 v112 v113 v114 v115 v116 v117 v118 v119 v120 v121 v122 v123 v124 v125 v126 v127 v128 v129 v130 v131 v132 v133 v134 v135 v136 v137 v138 v139 v140 v141 v142 v143 v144 v145 v146 v147 v148 v149 v150 v151 v152 v153 v154 v155 v156 v157 v158 v159 v160 v161 v162 v163 v164 v165 v166 v167 v168 v169 v170 v171 v172 v173 v174 v175 v176 v177 v178 v179 v180 v181 v182 v183 v184 v185 v186 v187 v188 v189 v190 v191 v192 v193 v194 W j hj hw
      have HWx := Lib.hid hw
      clear hw HWl
      refine hK1 _ _ ?_
      clear hK1
      obtain ⟨wx, rfl⟩ : ∃ x, x = W := ⟨W, rfl⟩
      go_upto_region 24 with fail
      go_wp2_with fail
      refine (uundo_any HWx.out HK5.out hj).mono ?_
      rintro e w50 ⟨rfl, hn50⟩
      have HN50 := Lib.hid hn50
      clear hn50
      go_wp2_with fail
      refine (ucells_any HN50.out).mono ?_
      rintro e w51 ⟨A51, d51, rfl, ho51, be51⟩
      have HO51 := Lib.hid ho51
      have HN51 := Lib.hid (HN50.out.keep (Keeps.nil_of be51))
      clear ho51 be51 HN50
      go_wp2_with fail
      refine (lawCells_any A51 _ d51 H2.cells _ w51 rfl (by have := HL2.out; omega) (nums_own HO51.out) (Nat.le_refl _)).mono ?_
      rintro e w52 ⟨A52, d52, rfl, ho52, be52⟩
      have HO52 := Lib.hid ho52
      have HN52 := Lib.hid (HN51.out.keep (Keeps.nil_of be52))
      clear ho52 be52 HN51 HO51
      go_wp2_with fail
      refine (same_eq A52 A8 _ d52 d8 H2.cells _ _ w52 rfl (by have := HL2.out; omega) (nums_own HO52.out) (HL8.out _ HN52.out.keeps).2).mono ?_
      rintro e w53 ⟨rfl, kq, rfl⟩
      have HN53 := Lib.hid (HN52.out.keep (Keeps.ofDrewN' w52 kq))
      clear HN52 HO52
      go_wp2_with fail
      refine (utrail_any HN53.out).mono ?_
      rintro e w54 ⟨A54, d54, rfl, k54⟩
      have HN54 := Lib.hid (HN53.out.keep k54)
      clear k54 HN53
      go_wp2_with fail
      refine (uread2_any HN54.out HOK.out HC1.out HTA.out.1 (by have := HTA.out.2.1; omega) HTA.out.2.2).mono ?_
      rintro e w55 ⟨y2, rfl, ht2, k55⟩
      have kk55 := k55.alloc (.cells #[.int .i64 y2.k, .int .i64 y2.n, .string y2.s, .slice y2.A y2.len y2.c] 40)
      have HY2a : Hid (Blk (w55.alloc (.cells #[.int .i64 y2.k, .int .i64 y2.n, .string y2.s, .slice y2.A y2.len y2.c] 40)) w55.heap.size 40 #[.int .i64 y2.k, .int .i64 y2.n, .string y2.s, .slice y2.A y2.len y2.c]) := Blk.new _ _ _
      have HYT2 := Lib.hid (ht2.keep ((Keeps.refl w55 []).alloc (.cells #[.int .i64 y2.k, .int .i64 y2.n, .string y2.s, .slice y2.A y2.len y2.c] 40)))
      have HN55 := Lib.hid (HN54.out.keep kk55)
      unfold tvV
      clear ht2 k55 kk55 HN54
      go_wp2_with fail
      refine (uread2_any HN55.out HOK.out HC2.out HTB.out.1 (by have := HTB.out.2.1; omega) HTB.out.2.2).mono ?_
      rintro e w56 ⟨y3, rfl, ht3, k56⟩
      have kk56 := k56.alloc (.cells #[.int .i64 y3.k, .int .i64 y3.n, .string y3.s, .slice y3.A y3.len y3.c] 40)
      have HY3 : Hid (Blk (w56.alloc (.cells #[.int .i64 y3.k, .int .i64 y3.n, .string y3.s, .slice y3.A y3.len y3.c] 40)) w56.heap.size 40 #[.int .i64 y3.k, .int .i64 y3.n, .string y3.s, .slice y3.A y3.len y3.c]) := Blk.new _ _ _
      have HYT3 := Lib.hid (ht3.keep ((Keeps.refl w56 []).alloc (.cells #[.int .i64 y3.k, .int .i64 y3.n, .string y3.s, .slice y3.A y3.len y3.c] 40)))
      have HYA2 := Lib.hid (HYT2.out.keep kk56)
      have HY4 := Lib.hid (HY2a.out.keep kk56 (by simp))
      have HN56 := Lib.hid (HN55.out.keep kk56)
      have kx := (HL8.out _ HN56.out.keeps).1
      have HQ4 := Lib.hid (HQ2.out.keep kx (by simp))
      have HQ5 := Lib.hid (HQ3.out.keep kx (by simp))
      have HA7 := Lib.hid (HA3.out.keep kx)
      have HB7 := Lib.hid (HB3.out.keep kx)
      unfold tvV
      clear ht3 k56 kk56 HN55 HY2a HYT2 kx
      go_upto_region 28 with fail
      generalize w56.alloc (.cells #[.int .i64 y3.k, .int .i64 y3.n, .string y3.s, .slice y3.A y3.len y3.c] 40) = w57 at *
      generalize w55.heap.size = yc0 at *
      generalize w56.heap.size = yc1 at *
      have HP : Hid (∀ W', Keeps w57 W' [] → (Keeps w57 W' [] ∧ W'.cell? ⟨w.heap.size, 0, none⟩ = some (.int .i64 a1.k) ∧ W'.cell? ⟨w.heap.size, 1, none⟩ = some (.int .i64 a1.n) ∧ W'.cell? ⟨w.heap.size, 2, none⟩ = some (.string a1.s) ∧ W'.cell? ⟨w.heap.size, 3, none⟩ = some (.slice a1.A a1.len a1.c) ∧ W'.cell? ⟨(w.heap.size + 1), 0, none⟩ = some (.int .i64 b1.k) ∧ W'.cell? ⟨(w.heap.size + 1), 1, none⟩ = some (.int .i64 b1.n) ∧ W'.cell? ⟨(w.heap.size + 1), 2, none⟩ = some (.string b1.s) ∧ W'.cell? ⟨(w.heap.size + 1), 3, none⟩ = some (.slice b1.A b1.len b1.c) ∧ W'.cell? ⟨yc0, 0, none⟩ = some (.int .i64 y2.k) ∧ W'.cell? ⟨yc0, 1, none⟩ = some (.int .i64 y2.n) ∧ W'.cell? ⟨yc0, 2, none⟩ = some (.string y2.s) ∧ W'.cell? ⟨yc0, 3, none⟩ = some (.slice y2.A y2.len y2.c) ∧ W'.cell? ⟨yc1, 0, none⟩ = some (.int .i64 y3.k) ∧ W'.cell? ⟨yc1, 1, none⟩ = some (.int .i64 y3.n) ∧ W'.cell? ⟨yc1, 2, none⟩ = some (.string y3.s) ∧ W'.cell? ⟨yc1, 3, none⟩ = some (.slice y3.A y3.len y3.c))) := fun W' k => by
        have b0 := HQ4.out.keep k (by simp)
        have b1 := HQ5.out.keep k (by simp)
        have b2 := HY4.out.keep k (by simp)
        have b3 := HY3.out.keep k (by simp)
        exact ⟨k, b0.cell 0, b0.cell 1, b0.cell 2, b0.cell 3, b1.cell 0, b1.cell 1, b1.cell 2, b1.cell 3, b2.cell 0, b2.cell 1, b2.cell 2, b2.cell 3, b3.cell 0, b3.cell 1, b3.cell 2, b3.cell 3⟩
      refine wp_region_tw (fun W' => Keeps w57 W' [] ∧ W'.cell? ⟨w.heap.size, 0, none⟩ = some (.int .i64 a1.k) ∧ W'.cell? ⟨w.heap.size, 1, none⟩ = some (.int .i64 a1.n) ∧ W'.cell? ⟨w.heap.size, 2, none⟩ = some (.string a1.s) ∧ W'.cell? ⟨w.heap.size, 3, none⟩ = some (.slice a1.A a1.len a1.c) ∧ W'.cell? ⟨(w.heap.size + 1), 0, none⟩ = some (.int .i64 b1.k) ∧ W'.cell? ⟨(w.heap.size + 1), 1, none⟩ = some (.int .i64 b1.n) ∧ W'.cell? ⟨(w.heap.size + 1), 2, none⟩ = some (.string b1.s) ∧ W'.cell? ⟨(w.heap.size + 1), 3, none⟩ = some (.slice b1.A b1.len b1.c) ∧ W'.cell? ⟨yc0, 0, none⟩ = some (.int .i64 y2.k) ∧ W'.cell? ⟨yc0, 1, none⟩ = some (.int .i64 y2.n) ∧ W'.cell? ⟨yc0, 2, none⟩ = some (.string y2.s) ∧ W'.cell? ⟨yc0, 3, none⟩ = some (.slice y2.A y2.len y2.c) ∧ W'.cell? ⟨yc1, 0, none⟩ = some (.int .i64 y3.k) ∧ W'.cell? ⟨yc1, 1, none⟩ = some (.int .i64 y3.n) ∧ W'.cell? ⟨yc1, 2, none⟩ = some (.string y3.s) ∧ W'.cell? ⟨yc1, 3, none⟩ = some (.slice y3.A y3.len y3.c)) 15 [.take 0, .take 1, .take 2, .take 3, .take 4, .take 5, .take 6, .take 12, .take 13, .take 7, .take 9, .op ⟨14, 183, fun b => .slice (some ⟨b, 0, none⟩) 2 2, 24, #[.int .i64 a1.k, .int .i64 a1.n, .string a1.s, .slice a1.A a1.len a1.c, .int .i64 b1.k, .int .i64 b1.n, .string b1.s, .slice b1.A b1.len b1.c]⟩, .go 8, .go 10, .go 11, .cl] [(15, false), (16, false), (17, false), (18, false), (19, false), (20, false), (21, false), (22, false), (23, false), (24, false), (25, false), (26, false)] (by kernel_rfl) (by kernel_rfl) (fun w1 w2 k h => HP.out _ (h.1.trans k)) (by exact HP.out _ (Keeps.refl _ []).drew) (fun _ => ?_)
      (repeat (first | (refine wpTw_take (v := ?_) rfl ?_ (by rfl) ?_; rotate_left; (focus (intro w' hSw; (try dsimp only at hSw); go_simp; (try with_reducible rfl); done)); simp only [Act.put, List.setIfInBounds_toArray, List.set_cons_zero, List.set_cons_succ]) | (refine wpTw_skip rfl (by rfl) ?_; simp only [Act.put, List.setIfInBounds_toArray, List.set_cons_zero, List.set_cons_succ])))
      (refine wpTw_op rfl rfl (by intro w' hSw; (try dsimp only at hSw); go_simp; (try with_reducible rfl); done) (by rfl) ?_; simp only [List.nil_append])
      refine wpTw_go rfl (fun W61 hk61 hS61 K hK => ?_)
      have J61 := Lib.hid hS61.1
      have L61 := Lib.hid hk61
      clear hS61 hk61
      go_simp
      refine (HFr.out ta y2 _ HTA.out.2.1 (HYA2.out.keep J61.out)).mono ?_
      rintro e w61 ⟨x2, rfl, hx2, k61⟩
      have K61 := Lib.hid (J61.out.trans k61)
      have N61 := Lib.hid (L61.out.trans k61)
      have HX2 := Lib.hid (hx2.mono (S' := fun _ => True) fun _ _ => trivial)
      unfold tvV
      clear hx2
      refine hK.out _ _ k61 (HP.out _ K61.out) (fun _ => ?_)
      clear hK K
      (try simp only [Act.put, List.setIfInBounds_toArray, List.set_cons_zero, List.set_cons_succ])
      refine wpTw_go rfl (fun W62 hk62 hS62 K hK => ?_)
      have J62 := Lib.hid hS62.1
      have L62 := Lib.hid hk62
      clear hS62 hk62
      go_simp
      refine (HFr.out tb y3 _ HTB.out.2.1 (HYT3.out.keep J62.out)).mono ?_
      rintro e w62 ⟨x3, rfl, hx3, k62⟩
      have K62 := Lib.hid (J62.out.trans k62)
      have N62 := Lib.hid (L62.out.trans k62)
      have HX3 := Lib.hid (hx3.mono (S' := fun _ => True) fun _ _ => trivial)
      unfold tvV
      clear hx3
      refine hK.out _ _ k62 (HP.out _ K62.out) (fun _ => ?_)
      clear hK K
      (try simp only [Act.put, List.setIfInBounds_toArray, List.set_cons_zero, List.set_cons_succ])
      refine wpTw_go rfl (fun W63 hk63 hS63 K hK => ?_)
      have J63 := Lib.hid hS63.1
      have L63 := Lib.hid hk63
      clear hS63 hk63
      go_simp
      have k63 : Keeps W63 (W63.alloc (.cells #[.int .i64 x2.k, .int .i64 x2.n, .string x2.s, .slice x2.A x2.len x2.c, .int .i64 x3.k, .int .i64 x3.n, .string x3.s, .slice x3.A x3.len x3.c] 24)) [] := (Keeps.refl _ []).alloc _
      have HG := Lib.hid (Blk.new W63 24 #[.int .i64 x2.k, .int .i64 x2.n, .string x2.s, .slice x2.A x2.len x2.c, .int .i64 x3.k, .int .i64 x3.n, .string x3.s, .slice x3.A x3.len x3.c])
      have K63 := Lib.hid (J63.out.trans k63)
      have N63 := Lib.hid (L63.out.trans k63)
      refine hK.out _ _ k63 (HP.out _ K63.out) (fun _ => ?_)
      clear hK K
      (try simp only [Act.put, List.setIfInBounds_toArray, List.set_cons_zero, List.set_cons_succ])
      generalize W63.alloc (.cells #[.int .i64 x2.k, .int .i64 x2.n, .string x2.s, .slice x2.A x2.len x2.c, .int .i64 x3.k, .int .i64 x3.n, .string x3.s, .slice x3.A x3.len x3.c] 24) = w63 at *
      generalize W63.heap.size = gb at *
      refine wpTw_cl (fun W64 hk64 hS64 => ?_)
      intro hc hc_b hc_u hc_x hc_B
      dsimp only at hc_B
      have J64 := Lib.hid hS64.1
      have L64 := Lib.hid hk64
      clear hS64 hk64
      have hc_61 := hc_x (W61.heap.size, w61.heap.size) (by simp)
      dsimp only at hc_61
      have hc_62 := hc_x (W62.heap.size, w62.heap.size) (by simp)
      dsimp only at hc_62
      have hc_H := Lib.hid hc_B
      clear hc_x hc_B
      clear hc_u
      (try simp only [Act.put, List.setIfInBounds_toArray, List.set_cons_zero, List.set_cons_succ])
      change wpTy _ _ _ _ _ _ _ _
      refine wpTy_tail rfl (by decide) (fun K hK => ?_)
      go_simp
      refine (HAk.out [x2, x3] [a1, b1] (some ⟨gb, 0, none⟩) (some ⟨hc, 0, none⟩) _ (Trs.twoH (HX2.out.keep (N62.out.trans (N63.out.trans L64.out))) (HX3.out.keep (N63.out.trans L64.out))) (Rd.twoH (HG.out.keep L64.out (by simp))) (Trs.twoH (HA7.out.keep J64.out) (HB7.out.keep J64.out)) (Rd.twoH hc_H.out)).mono ?_
      rintro e w65 ⟨rfl, k65⟩
      have HN65 := Lib.hid (HN56.out.keep (J64.out.trans k65))
      refine hK.out _ _ ?_; clear hK K; (try simp only [Act.put, List.setIfInBounds_toArray, List.set_cons_zero, List.set_cons_succ])
      refine wpTy_tail rfl (by decide) (fun K hK => ?_)
      go_simp
      refine hK.out _ _ ?_; clear hK K; (try simp only [Act.put, List.setIfInBounds_toArray, List.set_cons_zero, List.set_cons_succ])
      refine wpTy_tail rfl (by decide) (fun K hK => ?_)
      go_simp
      refine hK.out _ _ ?_; clear hK K; (try simp only [Act.put, List.setIfInBounds_toArray, List.set_cons_zero, List.set_cons_succ])
      refine wpTy_tail rfl (by decide) (fun K hK => ?_)
      go_simp
      refine hK.out _ _ ?_; clear hK K; (try simp only [Act.put, List.setIfInBounds_toArray, List.set_cons_zero, List.set_cons_succ])
      refine wpTy_tail rfl (by decide) (fun K hK => ?_)
      go_simp
      refine (udrop_yes HN65.out).mono ?_
      rintro e w66 ⟨rfl, hd66⟩
      have HD66 := Lib.hid hd66
      clear hd66
      refine hK.out _ _ ?_; clear hK K; (try simp only [Act.put, List.setIfInBounds_toArray, List.set_cons_zero, List.set_cons_succ])
      refine wpTy_tail rfl (by decide) (fun K hK => ?_)
      go_simp
      refine hK.out _ _ ?_; clear hK K; (try simp only [Act.put, List.setIfInBounds_toArray, List.set_cons_zero, List.set_cons_succ])
      refine wpTy_tail rfl (by decide) (fun K hK => ?_)
      go_simp
      refine hK.out _ _ ?_; clear hK K; (try simp only [Act.put, List.setIfInBounds_toArray, List.set_cons_zero, List.set_cons_succ])
      refine wpTy_tail rfl (by decide) (fun K hK => ?_)
      go_simp
      refine hK.out _ _ ?_; clear hK K; (try simp only [Act.put, List.setIfInBounds_toArray, List.set_cons_zero, List.set_cons_succ])
      refine wpTy_tail rfl (by decide) (fun K hK => ?_)
      go_simp
      refine (udrop_no HD66.out).mono ?_
      rintro e w67 ⟨rfl, rfl⟩
      refine hK.out _ _ ?_; clear hK K; (try simp only [Act.put, List.setIfInBounds_toArray, List.set_cons_zero, List.set_cons_succ])
      refine wpTy_tail rfl (by decide) (fun K hK => ?_)
      go_simp
      refine hK.out _ _ ?_; clear hK K; (try simp only [Act.put, List.setIfInBounds_toArray, List.set_cons_zero, List.set_cons_succ])
      refine wpTy_tail rfl (by decide) (fun K hK => ?_)
      go_simp
      refine hK.out _ _ ?_; clear hK K; (try simp only [Act.put, List.setIfInBounds_toArray, List.set_cons_zero, List.set_cons_succ])
      refine wpTy_last rfl (by decide) (fun K hK => ?_)
      go_simp
      refine hK.out _ _ (NoPanic.normal ?_)
      clear hK K
      (try simp only [Act.put, List.setIfInBounds_toArray, List.set_cons_zero, List.set_cons_succ])
      go_wp2_with fail
      go_ret
      exact ⟨rfl, HK3.out.trans (HL8.out _ HD66.out.keeps).1⟩
    clear hK1
    go_wp2_with fail
    refine (uread_any HWl.out HC1.out).mono ?_
    rintro e w44 ⟨yq, erq, rfl, kw44, sq, htw44, hsw44⟩
    have kk := kw44.alloc (.cells #[.int .i64 yq.k, .int .i64 yq.n, .string yq.s, .slice yq.A yq.len yq.c] 40)
    have HTq := Lib.hid (htw44.keep ((Keeps.refl w44 []).alloc (.cells #[.int .i64 yq.k, .int .i64 yq.n, .string yq.s, .slice yq.A yq.len yq.c] 40)))
    have HSq := Lib.hid hsw44
    have HWq := Lib.hid (HWl.out.keep kk)
    have HBq : Hid (Blk (w44.alloc (.cells #[.int .i64 yq.k, .int .i64 yq.n, .string yq.s, .slice yq.A yq.len yq.c] 40)) w44.heap.size 40 #[.int .i64 yq.k, .int .i64 yq.n, .string yq.s, .slice yq.A yq.len yq.c]) := Blk.new _ _ _
    have q0 := HBq.out.cell 0
    have q1 := HBq.out.cell 1
    have q2 := HBq.out.cell 2
    have q3 := HBq.out.cell 3
    unfold tvV
    clear htw44 kw44 kk hsw44 HBq
    by_cases heq : erq = 0
    · subst heq
      go_wp2_with fail
      refine (HFr.out sq yq _ HSq.out HTq.out).mono ?_
      rintro e wuyq ⟨zyq, rfl, hz, k⟩
      have HZq := Lib.hid (hz.mono (S' := fun _ => True) fun _ _ => trivial)
      have HWqu := Lib.hid (HWq.out.keep k)
      unfold tvV
      clear hz k q0 q1 q2 q3
      go_wp2_with fail
      refine (HSz.out sq zyq _ HSq.out HZq.out).mono ?_
      rintro e wvyq ⟨rfl, k⟩
      have HWqv := Lib.hid (HWqu.out.keep k)
      clear k
      by_cases hzq : tSize sq < 200
      · have dq : (tSize sq : Int) < 200 := by omega
        have dq' : decide ((tSize sq : Int) < 200) = true := decide_eq_true dq
        go_wp2_with fail
        refine (uread_any HWqv.out HC2.out).mono ?_
        rintro e w45 ⟨yr, err, rfl, kw45, sr, htw45, hsw45⟩
        have kk := kw45.alloc (.cells #[.int .i64 yr.k, .int .i64 yr.n, .string yr.s, .slice yr.A yr.len yr.c] 40)
        have HTr := Lib.hid (htw45.keep ((Keeps.refl w45 []).alloc (.cells #[.int .i64 yr.k, .int .i64 yr.n, .string yr.s, .slice yr.A yr.len yr.c] 40)))
        have HSr := Lib.hid hsw45
        have HWr := Lib.hid (HWqv.out.keep kk)
        have HBr : Hid (Blk (w45.alloc (.cells #[.int .i64 yr.k, .int .i64 yr.n, .string yr.s, .slice yr.A yr.len yr.c] 40)) w45.heap.size 40 #[.int .i64 yr.k, .int .i64 yr.n, .string yr.s, .slice yr.A yr.len yr.c]) := Blk.new _ _ _
        have q0 := HBr.out.cell 0
        have q1 := HBr.out.cell 1
        have q2 := HBr.out.cell 2
        have q3 := HBr.out.cell 3
        unfold tvV
        clear htw45 kw45 kk hsw45 HBr
        by_cases her : err = 0
        · subst her
          go_wp2_with fail
          refine (HFr.out sr yr _ HSr.out HTr.out).mono ?_
          rintro e wuyr ⟨zyr, rfl, hz, k⟩
          have HZr := Lib.hid (hz.mono (S' := fun _ => True) fun _ _ => trivial)
          have HWru := Lib.hid (HWr.out.keep k)
          unfold tvV
          clear hz k q0 q1 q2 q3
          go_wp2_with fail
          refine (HSz.out sr zyr _ HSr.out HZr.out).mono ?_
          rintro e wvyr ⟨rfl, k⟩
          have HWrv := Lib.hid (HWru.out.keep k)
          clear k
          by_cases hzr : tSize sr < 200
          · have dr : (tSize sr : Int) < 200 := by omega
            have dr' : decide ((tSize sr : Int) < 200) = true := decide_eq_true dr
            go_wp2_with fail
            refine (uunify_any HWrv.out (by have := HK5.out; omega) HC1.out HC2.out).mono ?_
            rintro e w46 ⟨ux, uy, rfl, hw46⟩
            have HW46 := Lib.hid hw46
            clear hw46
            go_wp2_with fail
            exact HEnd2 _ _ _ _ _ _ _ _ _ _ _ _ _ _ _ _ _ _ _ _ _ _ _ _ _ _ _ _ _ _ _ _ _ _ _ _ _ _ _ _ _ _ _ _ _ _ _ _ _ _ _ _ _ _ _ _ _ _ _ _ _ _ _ _ _ _ _ _ _ _ _ _ _ _ _ _ _ _ _ _ _ _ _ _ _ _ _ _ _ _ _ _ _ _ _ _ _ _ _ _ _ _ _ _ _ _ _ _ _ _ _ _ _ _ _ _ _ _ _ _ _ _ _ _ _ _ _ _ _ _ _ _ _ _ _ _ _ _ _ _ _ _ _ _ _ _ _ _ _ _ _ _ _ _ _ _ _ _ _ _ _ _ _ _ _ _ _ _ _ _ _ _ _ _ _ _ _ _ _ _ _ _ _ _ _ _ _ _ _ _ (kk + 1) (by omega) HW46.out
          · have dr : ¬ (tSize sr : Int) < 200 := by omega
            have dr' : decide ((tSize sr : Int) < 200) = false := decide_eq_false dr
            go_wp2_with fail
            exact HEnd2 _ _ _ _ _ _ _ _ _ _ _ _ _ _ _ _ _ _ _ _ _ _ _ _ _ _ _ _ _ _ _ _ _ _ _ _ _ _ _ _ _ _ _ _ _ _ _ _ _ _ _ _ _ _ _ _ _ _ _ _ _ _ _ _ _ _ _ _ _ _ _ _ _ _ _ _ _ _ _ _ _ _ _ _ _ _ _ _ _ _ _ _ _ _ _ _ _ _ _ _ _ _ _ _ _ _ _ _ _ _ _ _ _ _ _ _ _ _ _ _ _ _ _ _ _ _ _ _ _ _ _ _ _ _ _ _ _ _ _ _ _ _ _ _ _ _ _ _ _ _ _ _ _ _ _ _ _ _ _ _ _ _ _ _ _ _ _ _ _ _ _ _ _ _ _ _ _ _ _ _ _ _ _ _ _ _ _ _ _ _ kk (by omega) HWrv.out
        · have dr : (err == 0) = false := by simpa using her
          clear q0 q1 q2 q3
          go_wp2_with fail
          exact HEnd2 _ _ _ _ _ _ _ _ _ _ _ _ _ _ _ _ _ _ _ _ _ _ _ _ _ _ _ _ _ _ _ _ _ _ _ _ _ _ _ _ _ _ _ _ _ _ _ _ _ _ _ _ _ _ _ _ _ _ _ _ _ _ _ _ _ _ _ _ _ _ _ _ _ _ _ _ _ _ _ _ _ _ _ _ _ _ _ _ _ _ _ _ _ _ _ _ _ _ _ _ _ _ _ _ _ _ _ _ _ _ _ _ _ _ _ _ _ _ _ _ _ _ _ _ _ _ _ _ _ _ _ _ _ _ _ _ _ _ _ _ _ _ _ _ _ _ _ _ _ _ _ _ _ _ _ _ _ _ _ _ _ _ _ _ _ _ _ _ _ _ _ _ _ _ _ _ _ _ _ _ _ _ _ _ _ _ _ _ _ _ kk (by omega) HWr.out
      · have dq : ¬ (tSize sq : Int) < 200 := by omega
        have dq' : decide ((tSize sq : Int) < 200) = false := decide_eq_false dq
        go_wp2_with fail
        exact HEnd2 _ _ _ _ _ _ _ _ _ _ _ _ _ _ _ _ _ _ _ _ _ _ _ _ _ _ _ _ _ _ _ _ _ _ _ _ _ _ _ _ _ _ _ _ _ _ _ _ _ _ _ _ _ _ _ _ _ _ _ _ _ _ _ _ _ _ _ _ _ _ _ _ _ _ _ _ _ _ _ _ _ _ _ _ _ _ _ _ _ _ _ _ _ _ _ _ _ _ _ _ _ _ _ _ _ _ _ _ _ _ _ _ _ _ _ _ _ _ _ _ _ _ _ _ _ _ _ _ _ _ _ _ _ _ _ _ _ _ _ _ _ _ _ _ _ _ _ _ _ _ _ _ _ _ _ _ _ _ _ _ _ _ _ _ _ _ _ _ _ _ _ _ _ _ _ _ _ _ _ _ _ _ _ _ _ _ _ _ _ _ kk (by omega) HWqv.out
    · have dq : (erq == 0) = false := by simpa using heq
      clear q0 q1 q2 q3
      go_wp2_with fail
      exact HEnd2 _ _ _ _ _ _ _ _ _ _ _ _ _ _ _ _ _ _ _ _ _ _ _ _ _ _ _ _ _ _ _ _ _ _ _ _ _ _ _ _ _ _ _ _ _ _ _ _ _ _ _ _ _ _ _ _ _ _ _ _ _ _ _ _ _ _ _ _ _ _ _ _ _ _ _ _ _ _ _ _ _ _ _ _ _ _ _ _ _ _ _ _ _ _ _ _ _ _ _ _ _ _ _ _ _ _ _ _ _ _ _ _ _ _ _ _ _ _ _ _ _ _ _ _ _ _ _ _ _ _ _ _ _ _ _ _ _ _ _ _ _ _ _ _ _ _ _ _ _ _ _ _ _ _ _ _ _ _ _ _ _ _ _ _ _ _ _ _ _ _ _ _ _ _ _ _ _ _ _ _ _ _ _ _ _ _ _ _ _ _ kk (by omega) HWq.out
  clear hK0
  go_loopw [12, 13] (fun last i wr => ∃ (k : Nat) (cl : Int), k ≤ n2 ∧ k ≤ 5 ∧ i = .int .i64 k ∧ last = .int .u64 cl ∧ COk cl ∧ HuW w8 base hb L H2 k k wr) (fun _ i _ => 5 - (intOf i).toNat)
  case atStart => exact ⟨0, c1, Nat.zero_le _, Nat.zero_le _, rfl, rfl, HC1.out, HW9.out⟩
  case round =>
    obtain ⟨k, cl, hk, hk5, rfl, rfl, hcl, hw⟩ := hrel
    have HCL := Lib.hid hcl
    have HW := Lib.hid hw
    clear hcl hw
    by_cases hlt : k < n2 ∧ k < 5
    · obtain ⟨tk, hx⟩ := at_of HN2.out hlt.1
      have hKK := HK3.out.trans (HL8.out _ HW.out.keeps).1
      obtain ⟨v', bk, off, _, htr, hAe, hbk, p0, p1, p2, p3⟩ := (HT0.out.keep hKK).get (HR0.out.keep hKK) hx
      subst hAe
      have HTr := Lib.hid htr
      have b0 : (0 : Int) ≤ (k : Int) := Int.natCast_nonneg _
      have b1 : (k : Int) < (n2 : Int) := by omega
      have b2 : (k : Int) < 5 := by omega
      have HK5 := Lib.hid hlt.2
      clear htr hx hKK
      go_wp2_with fail
      refine (HFx.out tk v' _ HTr.out).mono ?_
      rintro e w10 ⟨u, rfl, hu, k10⟩
      have HW10 := Lib.hid (HW.out.keep k10)
      have HU := Lib.hid (hu.mono (S' := fun _ => True) fun _ _ => trivial)
      unfold tvV
      clear hu k10 p0 p1 p2 p3 hbk
      go_wp2_with fail
      refine (HTo.out (lFix tk) u _ (lFix_right tk) HU.out).mono ?_
      rintro e w11 ⟨u2, rfl, hu2, k11⟩
      have HBd := Lib.hid (ubuild_any HW10.out k11 (by have := HK5.out; omega) (lFix_right tk) (lFix_size2 tk) hu2)
      unfold tvV at HBd ⊢
      clear hu2 k11 HU
      go_wp2_with fail
      refine HBd.out.mono ?_
      rintro e w12 ⟨cn, rfl, hcn, hw12⟩
      have HCN := Lib.hid hcn
      have HW12 := Lib.hid hw12
      clear hcn hw12 HBd HW10
      go_wp2_with fail
      refine (uread_any HW12.out HCL.out).mono ?_
      rintro e w13 ⟨y0, er0, rfl, k13, s0, ht0, hs0⟩
      have kk13 := k13.alloc (.cells #[.int .i64 y0.k, .int .i64 y0.n, .string y0.s, .slice y0.A y0.len y0.c] 40)
      have HY0 : Hid (Blk (w13.alloc (.cells #[.int .i64 y0.k, .int .i64 y0.n, .string y0.s, .slice y0.A y0.len y0.c] 40)) w13.heap.size 40 #[.int .i64 y0.k, .int .i64 y0.n, .string y0.s, .slice y0.A y0.len y0.c]) := Blk.new _ _ _
      have HYT0 := Lib.hid (ht0.keep ((Keeps.refl w13 []).alloc (.cells #[.int .i64 y0.k, .int .i64 y0.n, .string y0.s, .slice y0.A y0.len y0.c] 40)))
      have HS0 := Lib.hid hs0
      have HW13 := Lib.hid (HW12.out.keep kk13)
      unfold tvV
      clear ht0 k13 kk13 hs0 HW12
      go_wp2_with fail
      refine (uread_any HW13.out HCN.out).mono ?_
      rintro e w14 ⟨y1, er1, rfl, k14, s1, ht1, hs1⟩
      have kk14 := k14.alloc (.cells #[.int .i64 y1.k, .int .i64 y1.n, .string y1.s, .slice y1.A y1.len y1.c] 40)
      have HY1 : Hid (Blk (w14.alloc (.cells #[.int .i64 y1.k, .int .i64 y1.n, .string y1.s, .slice y1.A y1.len y1.c] 40)) w14.heap.size 40 #[.int .i64 y1.k, .int .i64 y1.n, .string y1.s, .slice y1.A y1.len y1.c]) := Blk.new _ _ _
      have HYT1 := Lib.hid (ht1.keep ((Keeps.refl w14 []).alloc (.cells #[.int .i64 y1.k, .int .i64 y1.n, .string y1.s, .slice y1.A y1.len y1.c] 40)))
      have HYA := Lib.hid (HYT0.out.keep kk14)
      have HY2 := Lib.hid (HY0.out.keep kk14 (by simp))
      have HS1 := Lib.hid hs1
      have HW14 := Lib.hid (HW13.out.keep kk14)
      unfold tvV
      clear ht1 k14 kk14 hs1 HW13 HYT0 HY0
      go_upto_region 16 with fail
      generalize w14.alloc (.cells #[.int .i64 y1.k, .int .i64 y1.n, .string y1.s, .slice y1.A y1.len y1.c] 40) = w15 at *
      generalize w13.heap.size = yb0 at *
      generalize w14.heap.size = yb1 at *
      by_cases he0 : er0 = 0
      · subst he0
        by_cases he1 : er1 = 0
        · subst he1
          have HP : Hid (∀ W', Keeps w15 W' [] → (Keeps w15 W' [] ∧ W'.cell? ⟨yb0, 0, none⟩ = some (.int .i64 y0.k) ∧ W'.cell? ⟨yb0, 1, none⟩ = some (.int .i64 y0.n) ∧ W'.cell? ⟨yb0, 2, none⟩ = some (.string y0.s) ∧ W'.cell? ⟨yb0, 3, none⟩ = some (.slice y0.A y0.len y0.c) ∧ W'.cell? ⟨yb1, 0, none⟩ = some (.int .i64 y1.k) ∧ W'.cell? ⟨yb1, 1, none⟩ = some (.int .i64 y1.n) ∧ W'.cell? ⟨yb1, 2, none⟩ = some (.string y1.s) ∧ W'.cell? ⟨yb1, 3, none⟩ = some (.slice y1.A y1.len y1.c))) := fun W' k => by
            have b0 := HY2.out.keep k (by simp)
            have b1 := HY1.out.keep k (by simp)
            exact ⟨k, b0.cell 0, b0.cell 1, b0.cell 2, b0.cell 3, b1.cell 0, b1.cell 1, b1.cell 2, b1.cell 3⟩
          refine wp_region_tw (fun W' => Keeps w15 W' [] ∧ W'.cell? ⟨yb0, 0, none⟩ = some (.int .i64 y0.k) ∧ W'.cell? ⟨yb0, 1, none⟩ = some (.int .i64 y0.n) ∧ W'.cell? ⟨yb0, 2, none⟩ = some (.string y0.s) ∧ W'.cell? ⟨yb0, 3, none⟩ = some (.slice y0.A y0.len y0.c) ∧ W'.cell? ⟨yb1, 0, none⟩ = some (.int .i64 y1.k) ∧ W'.cell? ⟨yb1, 1, none⟩ = some (.int .i64 y1.n) ∧ W'.cell? ⟨yb1, 2, none⟩ = some (.string y1.s) ∧ W'.cell? ⟨yb1, 3, none⟩ = some (.slice y1.A y1.len y1.c)) 15 [.take 0, .take 1, .take 2, .take 3, .take 4, .take 5, .take 6, .take 7, .take 10, .go 8, .go 9, .go 11, .go 12, .take 13, .take 14] [(15, false)] (by kernel_rfl) (by kernel_rfl) (fun w1 w2 k h => HP.out _ (h.1.trans k)) (by exact HP.out _ (Keeps.refl _ []).drew) (fun _ => ?_)
          (repeat (first | (refine wpTw_take (v := ?_) rfl ?_ (by rfl) ?_; rotate_left; (focus (intro w' hSw; (try dsimp only at hSw); go_simp; (try with_reducible rfl); done)); simp only [Act.put, List.setIfInBounds_toArray, List.set_cons_zero, List.set_cons_succ]) | (refine wpTw_skip rfl (by rfl) ?_; simp only [Act.put, List.setIfInBounds_toArray, List.set_cons_zero, List.set_cons_succ])))
          refine wpTw_go rfl (fun W38 hk38 hS38 K hK => ?_)
          have J38 := Lib.hid hS38.1
          have L38 := Lib.hid hk38
          clear hS38 hk38
          go_simp
          refine (HFr.out s0 y0 _ HS0.out (HYA.out.keep J38.out)).mono ?_
          rintro e w38 ⟨z0, rfl, hz0, k38⟩
          have K38 := Lib.hid (J38.out.trans k38)
          have N38 := Lib.hid (L38.out.trans k38)
          have HZ0 := Lib.hid (hz0.mono (S' := fun _ => True) fun _ _ => trivial)
          unfold tvV
          clear hz0
          refine hK.out _ _ k38 (HP.out _ K38.out) (fun _ => ?_)
          clear hK K
          (try simp only [Act.put, List.setIfInBounds_toArray, List.set_cons_zero, List.set_cons_succ])
          refine wpTw_go rfl (fun W39 hk39 hS39 K hK => ?_)
          have J39 := Lib.hid hS39.1
          have L39 := Lib.hid hk39
          clear hS39 hk39
          go_simp
          refine (HSz.out s0 z0 _ HS0.out (HZ0.out.keep L39.out)).mono ?_
          rintro e w39 ⟨rfl, k39⟩
          have K39 := Lib.hid (J39.out.trans k39)
          have N39 := Lib.hid (L39.out.trans k39)
          refine hK.out _ _ k39 (HP.out _ K39.out) (fun _ => ?_)
          clear hK K
          (try simp only [Act.put, List.setIfInBounds_toArray, List.set_cons_zero, List.set_cons_succ])
          refine wpTw_go rfl (fun W41 hk41 hS41 K hK => ?_)
          have J41 := Lib.hid hS41.1
          have L41 := Lib.hid hk41
          clear hS41 hk41
          go_simp
          refine (HFr.out s1 y1 _ HS1.out (HYT1.out.keep J41.out)).mono ?_
          rintro e w41 ⟨z1, rfl, hz1, k41⟩
          have K41 := Lib.hid (J41.out.trans k41)
          have N41 := Lib.hid (L41.out.trans k41)
          have HZ1 := Lib.hid (hz1.mono (S' := fun _ => True) fun _ _ => trivial)
          unfold tvV
          clear hz1
          refine hK.out _ _ k41 (HP.out _ K41.out) (fun _ => ?_)
          clear hK K
          (try simp only [Act.put, List.setIfInBounds_toArray, List.set_cons_zero, List.set_cons_succ])
          refine wpTw_go rfl (fun W42 hk42 hS42 K hK => ?_)
          have J42 := Lib.hid hS42.1
          have L42 := Lib.hid hk42
          clear hS42 hk42
          go_simp
          refine (HSz.out s1 z1 _ HS1.out (HZ1.out.keep L42.out)).mono ?_
          rintro e w42 ⟨rfl, k42⟩
          have K42 := Lib.hid (J42.out.trans k42)
          have N42 := Lib.hid (L42.out.trans k42)
          refine hK.out _ _ k42 (HP.out _ K42.out) (fun _ => ?_)
          clear hK K
          (try simp only [Act.put, List.setIfInBounds_toArray, List.set_cons_zero, List.set_cons_succ])
          (repeat (first | (refine wpTw_take (v := ?_) rfl ?_ (by rfl) ?_; rotate_left; (focus (intro w' hSw; (try dsimp only at hSw); go_simp; (try with_reducible rfl); done)); simp only [Act.put, List.setIfInBounds_toArray, List.set_cons_zero, List.set_cons_succ]) | (refine wpTw_skip rfl (by rfl) ?_; simp only [Act.put, List.setIfInBounds_toArray, List.set_cons_zero, List.set_cons_succ])))
          change wpTy _ _ _ _ _ _ _ _
          refine wpTy_last rfl (by decide) (fun K hK => ?_)
          go_simp
          refine hK.out _ _ (NoPanic.normal ?_)
          clear hK K
          (try simp only [Act.put, List.setIfInBounds_toArray, List.set_cons_zero, List.set_cons_succ])
          have HW42 := Lib.hid (HW14.out.keep K42.out)
          generalize decide (IntKind.i64.wrap (↑(tSize s0) + ↑(tSize s1)) < 200) = B
          cases B with
          | true =>
            go_wp2_with fail
            refine (uunify_any HW42.out (by have := HK5.out; omega) HCL.out HCN.out).mono ?_
            rintro e w16 ⟨ux, uy, rfl, hw16⟩
            have HW16 := Lib.hid hw16
            clear hw16
            go_wp2_with fail
            go_roundw
            case rel => exact ⟨k + 1, cn, by have := hlt.1; omega, by have := hlt.2; omega, by go_num, rfl, HCN.out, HW16.out⟩
            case measure => simp [intOf]; have := hlt.2; omega
          | false =>
            go_wp2_with fail
            go_roundw
            case rel => exact ⟨k + 1, cn, by have := hlt.1; omega, by have := hlt.2; omega, by go_num, rfl, HCN.out, HW42.out.more (by omega)⟩
            case measure => simp [intOf]; have := hlt.2; omega
        · have d1 : (er1 == 0) = false := by simpa using he1
          have HP : Hid (∀ W', Keeps w15 W' [] → (Keeps w15 W' [] ∧ W'.cell? ⟨yb0, 0, none⟩ = some (.int .i64 y0.k) ∧ W'.cell? ⟨yb0, 1, none⟩ = some (.int .i64 y0.n) ∧ W'.cell? ⟨yb0, 2, none⟩ = some (.string y0.s) ∧ W'.cell? ⟨yb0, 3, none⟩ = some (.slice y0.A y0.len y0.c) ∧ W'.cell? ⟨yb1, 0, none⟩ = some (.int .i64 y1.k) ∧ W'.cell? ⟨yb1, 1, none⟩ = some (.int .i64 y1.n) ∧ W'.cell? ⟨yb1, 2, none⟩ = some (.string y1.s) ∧ W'.cell? ⟨yb1, 3, none⟩ = some (.slice y1.A y1.len y1.c))) := fun W' k => by
            have b0 := HY2.out.keep k (by simp)
            have b1 := HY1.out.keep k (by simp)
            exact ⟨k, b0.cell 0, b0.cell 1, b0.cell 2, b0.cell 3, b1.cell 0, b1.cell 1, b1.cell 2, b1.cell 3⟩
          refine wp_region_tw (fun W' => Keeps w15 W' [] ∧ W'.cell? ⟨yb0, 0, none⟩ = some (.int .i64 y0.k) ∧ W'.cell? ⟨yb0, 1, none⟩ = some (.int .i64 y0.n) ∧ W'.cell? ⟨yb0, 2, none⟩ = some (.string y0.s) ∧ W'.cell? ⟨yb0, 3, none⟩ = some (.slice y0.A y0.len y0.c) ∧ W'.cell? ⟨yb1, 0, none⟩ = some (.int .i64 y1.k) ∧ W'.cell? ⟨yb1, 1, none⟩ = some (.int .i64 y1.n) ∧ W'.cell? ⟨yb1, 2, none⟩ = some (.string y1.s) ∧ W'.cell? ⟨yb1, 3, none⟩ = some (.slice y1.A y1.len y1.c)) 15 [.take 0, .take 1, .take 2, .take 3, .take 4, .take 5, .take 6, .take 7, .take 10, .go 8, .go 9, .go 11, .go 12, .take 13, .take 14] [(15, false)] (by kernel_rfl) (by kernel_rfl) (fun w1 w2 k h => HP.out _ (h.1.trans k)) (by exact HP.out _ (Keeps.refl _ []).drew) (fun _ => ?_)
          (repeat (first | (refine wpTw_take (v := ?_) rfl ?_ (by rfl) ?_; rotate_left; (focus (intro w' hSw; (try dsimp only at hSw); go_simp; (try with_reducible rfl); done)); simp only [Act.put, List.setIfInBounds_toArray, List.set_cons_zero, List.set_cons_succ]) | (refine wpTw_skip rfl (by rfl) ?_; simp only [Act.put, List.setIfInBounds_toArray, List.set_cons_zero, List.set_cons_succ])))
          refine wpTw_go rfl (fun W38 hk38 hS38 K hK => ?_)
          have J38 := Lib.hid hS38.1
          have L38 := Lib.hid hk38
          clear hS38 hk38
          go_simp
          have k38 : Keeps W38 W38 [] := Keeps.refl _ []
          have K38 := J38
          have N38 := L38
          refine hK.out _ _ k38 (HP.out _ J38.out) (fun _ => ?_)
          clear hK K
          (try simp only [Act.put, List.setIfInBounds_toArray, List.set_cons_zero, List.set_cons_succ])
          obtain ⟨w38, rfl⟩ : ∃ x, x = W38 := ⟨W38, rfl⟩
          refine wpTw_go rfl (fun W39 hk39 hS39 K hK => ?_)
          have J39 := Lib.hid hS39.1
          have L39 := Lib.hid hk39
          clear hS39 hk39
          go_simp
          have k39 : Keeps W39 W39 [] := Keeps.refl _ []
          have K39 := J39
          have N39 := L39
          refine hK.out _ _ k39 (HP.out _ J39.out) (fun _ => ?_)
          clear hK K
          (try simp only [Act.put, List.setIfInBounds_toArray, List.set_cons_zero, List.set_cons_succ])
          obtain ⟨w39, rfl⟩ : ∃ x, x = W39 := ⟨W39, rfl⟩
          refine wpTw_go rfl (fun W41 hk41 hS41 K hK => ?_)
          have J41 := Lib.hid hS41.1
          have L41 := Lib.hid hk41
          clear hS41 hk41
          go_simp
          have k41 : Keeps W41 W41 [] := Keeps.refl _ []
          have K41 := J41
          have N41 := L41
          refine hK.out _ _ k41 (HP.out _ J41.out) (fun _ => ?_)
          clear hK K
          (try simp only [Act.put, List.setIfInBounds_toArray, List.set_cons_zero, List.set_cons_succ])
          obtain ⟨w41, rfl⟩ : ∃ x, x = W41 := ⟨W41, rfl⟩
          refine wpTw_go rfl (fun W42 hk42 hS42 K hK => ?_)
          have J42 := Lib.hid hS42.1
          have L42 := Lib.hid hk42
          clear hS42 hk42
          go_simp
          have k42 : Keeps W42 W42 [] := Keeps.refl _ []
          have K42 := J42
          have N42 := L42
          refine hK.out _ _ k42 (HP.out _ J42.out) (fun _ => ?_)
          clear hK K
          (try simp only [Act.put, List.setIfInBounds_toArray, List.set_cons_zero, List.set_cons_succ])
          obtain ⟨w42, rfl⟩ : ∃ x, x = W42 := ⟨W42, rfl⟩
          (repeat (first | (refine wpTw_take (v := ?_) rfl ?_ (by rfl) ?_; rotate_left; (focus (intro w' hSw; (try dsimp only at hSw); go_simp; (try with_reducible rfl); done)); simp only [Act.put, List.setIfInBounds_toArray, List.set_cons_zero, List.set_cons_succ]) | (refine wpTw_skip rfl (by rfl) ?_; simp only [Act.put, List.setIfInBounds_toArray, List.set_cons_zero, List.set_cons_succ])))
          change wpTy _ _ _ _ _ _ _ _
          refine wpTy_last rfl (by decide) (fun K hK => ?_)
          go_simp
          refine hK.out _ _ (NoPanic.normal ?_)
          clear hK K
          (try simp only [Act.put, List.setIfInBounds_toArray, List.set_cons_zero, List.set_cons_succ])
          have HW42 := Lib.hid (HW14.out.keep K42.out)
          go_wp2_with fail
          go_roundw
          case rel => exact ⟨k + 1, cn, by have := hlt.1; omega, by have := hlt.2; omega, by go_num, rfl, HCN.out, HW42.out.more (by omega)⟩
          case measure => simp [intOf]; have := hlt.2; omega
      · have d0 : (er0 == 0) = false := by simpa using he0
        have HP : Hid (∀ W', Keeps w15 W' [] → (Keeps w15 W' [] ∧ W'.cell? ⟨yb0, 0, none⟩ = some (.int .i64 y0.k) ∧ W'.cell? ⟨yb0, 1, none⟩ = some (.int .i64 y0.n) ∧ W'.cell? ⟨yb0, 2, none⟩ = some (.string y0.s) ∧ W'.cell? ⟨yb0, 3, none⟩ = some (.slice y0.A y0.len y0.c) ∧ W'.cell? ⟨yb1, 0, none⟩ = some (.int .i64 y1.k) ∧ W'.cell? ⟨yb1, 1, none⟩ = some (.int .i64 y1.n) ∧ W'.cell? ⟨yb1, 2, none⟩ = some (.string y1.s) ∧ W'.cell? ⟨yb1, 3, none⟩ = some (.slice y1.A y1.len y1.c))) := fun W' k => by
          have b0 := HY2.out.keep k (by simp)
          have b1 := HY1.out.keep k (by simp)
          exact ⟨k, b0.cell 0, b0.cell 1, b0.cell 2, b0.cell 3, b1.cell 0, b1.cell 1, b1.cell 2, b1.cell 3⟩
        refine wp_region_tw (fun W' => Keeps w15 W' [] ∧ W'.cell? ⟨yb0, 0, none⟩ = some (.int .i64 y0.k) ∧ W'.cell? ⟨yb0, 1, none⟩ = some (.int .i64 y0.n) ∧ W'.cell? ⟨yb0, 2, none⟩ = some (.string y0.s) ∧ W'.cell? ⟨yb0, 3, none⟩ = some (.slice y0.A y0.len y0.c) ∧ W'.cell? ⟨yb1, 0, none⟩ = some (.int .i64 y1.k) ∧ W'.cell? ⟨yb1, 1, none⟩ = some (.int .i64 y1.n) ∧ W'.cell? ⟨yb1, 2, none⟩ = some (.string y1.s) ∧ W'.cell? ⟨yb1, 3, none⟩ = some (.slice y1.A y1.len y1.c)) 15 [.take 0, .take 1, .take 2, .take 3, .take 4, .take 5, .take 6, .take 7, .take 10, .go 8, .go 9, .go 11, .go 12, .take 13, .take 14] [(15, false)] (by kernel_rfl) (by kernel_rfl) (fun w1 w2 k h => HP.out _ (h.1.trans k)) (by exact HP.out _ (Keeps.refl _ []).drew) (fun _ => ?_)
        (repeat (first | (refine wpTw_take (v := ?_) rfl ?_ (by rfl) ?_; rotate_left; (focus (intro w' hSw; (try dsimp only at hSw); go_simp; (try with_reducible rfl); done)); simp only [Act.put, List.setIfInBounds_toArray, List.set_cons_zero, List.set_cons_succ]) | (refine wpTw_skip rfl (by rfl) ?_; simp only [Act.put, List.setIfInBounds_toArray, List.set_cons_zero, List.set_cons_succ])))
        refine wpTw_go rfl (fun W38 hk38 hS38 K hK => ?_)
        have J38 := Lib.hid hS38.1
        have L38 := Lib.hid hk38
        clear hS38 hk38
        go_simp
        have k38 : Keeps W38 W38 [] := Keeps.refl _ []
        have K38 := J38
        have N38 := L38
        refine hK.out _ _ k38 (HP.out _ J38.out) (fun _ => ?_)
        clear hK K
        (try simp only [Act.put, List.setIfInBounds_toArray, List.set_cons_zero, List.set_cons_succ])
        obtain ⟨w38, rfl⟩ : ∃ x, x = W38 := ⟨W38, rfl⟩
        refine wpTw_go rfl (fun W39 hk39 hS39 K hK => ?_)
        have J39 := Lib.hid hS39.1
        have L39 := Lib.hid hk39
        clear hS39 hk39
        go_simp
        have k39 : Keeps W39 W39 [] := Keeps.refl _ []
        have K39 := J39
        have N39 := L39
        refine hK.out _ _ k39 (HP.out _ J39.out) (fun _ => ?_)
        clear hK K
        (try simp only [Act.put, List.setIfInBounds_toArray, List.set_cons_zero, List.set_cons_succ])
        obtain ⟨w39, rfl⟩ : ∃ x, x = W39 := ⟨W39, rfl⟩
        refine wpTw_go rfl (fun W41 hk41 hS41 K hK => ?_)
        have J41 := Lib.hid hS41.1
        have L41 := Lib.hid hk41
        clear hS41 hk41
        go_simp
        have k41 : Keeps W41 W41 [] := Keeps.refl _ []
        have K41 := J41
        have N41 := L41
        refine hK.out _ _ k41 (HP.out _ J41.out) (fun _ => ?_)
        clear hK K
        (try simp only [Act.put, List.setIfInBounds_toArray, List.set_cons_zero, List.set_cons_succ])
        obtain ⟨w41, rfl⟩ : ∃ x, x = W41 := ⟨W41, rfl⟩
        refine wpTw_go rfl (fun W42 hk42 hS42 K hK => ?_)
        have J42 := Lib.hid hS42.1
        have L42 := Lib.hid hk42
        clear hS42 hk42
        go_simp
        have k42 : Keeps W42 W42 [] := Keeps.refl _ []
        have K42 := J42
        have N42 := L42
        refine hK.out _ _ k42 (HP.out _ J42.out) (fun _ => ?_)
        clear hK K
        (try simp only [Act.put, List.setIfInBounds_toArray, List.set_cons_zero, List.set_cons_succ])
        obtain ⟨w42, rfl⟩ : ∃ x, x = W42 := ⟨W42, rfl⟩
        (repeat (first | (refine wpTw_take (v := ?_) rfl ?_ (by rfl) ?_; rotate_left; (focus (intro w' hSw; (try dsimp only at hSw); go_simp; (try with_reducible rfl); done)); simp only [Act.put, List.setIfInBounds_toArray, List.set_cons_zero, List.set_cons_succ]) | (refine wpTw_skip rfl (by rfl) ?_; simp only [Act.put, List.setIfInBounds_toArray, List.set_cons_zero, List.set_cons_succ])))
        change wpTy _ _ _ _ _ _ _ _
        refine wpTy_last rfl (by decide) (fun K hK => ?_)
        go_simp
        refine hK.out _ _ (NoPanic.normal ?_)
        clear hK K
        (try simp only [Act.put, List.setIfInBounds_toArray, List.set_cons_zero, List.set_cons_succ])
        have HW42 := Lib.hid (HW14.out.keep K42.out)
        go_wp2_with fail
        go_roundw
        case rel => exact ⟨k + 1, cn, by have := hlt.1; omega, by have := hlt.2; omega, by go_num, rfl, HCN.out, HW42.out.more (by omega)⟩
        case measure => simp [intOf]; have := hlt.2; omega
    · by_cases hn : k < n2
      · obtain rfl : k = 5 := by omega
        have bn1 : (5 : Int) < (n2 : Int) := by omega
        obtain ⟨wl, rfl⟩ : ∃ x, x = wr := ⟨wr, rfl⟩
        go_wp2_with fail
        exact HEnd _ _ _ _ _ _ _ _ _ _ _ _ _ _ _ _ _ _ _ _ _ _ _ _ _ _ _ _ _ _ _ _ _ _ _ _ _ _ _ _ _ _ _ _ _ _ _ _ _ _ _ _ _ _ _ _ _ _ _ _ _ _ _ _ _ _ _ _ _ _ _ _ _ _ _ _ _ _ _ _ _ _ _ _ _ _ _ _ _ _ _ _ _ _ _ _ _ _ _ _ _ _ _ _ _ _ _ _ _ _ _ _ _ _ _ _ _ _ _ _ _ _ _ _ _ _ _ _ _ _ _ _ _ _ _ _ _ _ _ _ _ _ _ _ _ _ _ _ _ _ _ _ _ _ _ _ _ _ _ _ _ _ _ _ _ _ _ _ _ _ _ _ _ _ _ _ _ _ _ _ _ _ _ _ _ _ _ _ _ _ 5 (by omega) HW.out
      · obtain rfl : k = n2 := by omega
        obtain ⟨wl, rfl⟩ : ∃ x, x = wr := ⟨wr, rfl⟩
        go_wp2_with fail
        exact HEnd _ _ _ _ _ _ _ _ _ _ _ _ _ _ _ _ _ _ _ _ _ _ _ _ _ _ _ _ _ _ _ _ _ _ _ _ _ _ _ _ _ _ _ _ _ _ _ _ _ _ _ _ _ _ _ _ _ _ _ _ _ _ _ _ _ _ _ _ _ _ _ _ _ _ _ _ _ _ _ _ _ _ _ _ _ _ _ _ _ _ _ _ _ _ _ _ _ _ _ _ _ _ _ _ _ _ _ _ _ _ _ _ _ _ _ _ _ _ _ _ _ _ _ _ _ _ _ _ _ _ _ _ _ _ _ _ _ _ _ _ _ _ _ _ _ _ _ _ _ _ _ _ _ _ _ _ _ _ _ _ _ _ _ _ _ _ _ _ _ _ _ _ _ _ _ _ _ _ _ _ _ _ _ _ _ _ _ _ _ _ _ hk5 HW.out
end Go.Proofs.YtnonfmaehfmigaaGreatDoor
