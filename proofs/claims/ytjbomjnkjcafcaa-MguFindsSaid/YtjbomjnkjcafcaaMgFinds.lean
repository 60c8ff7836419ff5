/- MguFinds: the walk. Printed by gen_mgfinds.py. -/
import Derived.Test.YtjbomjnkjcafcaaMgTold
import Derived.Test.YtjbomjnkjcafcaaMgMostLaw
import Derived.Test.YtjbomjnkjcafcaaMgRUnify
import Derived.Test.YtjbomjnkjcafcaaMgRUState
import Derived.Test.YtjbomjnkjcafcaaTmInts
namespace Go.Proofs.Ytjbomjnkjcafcaa
open Go.RowKit

/-- What both tell. -/
structure Finds (a b : Tm) (res : Res) (sv : Sbt) (m : Nat) (code : Int) : Prop where
  len : sv.length = m
  few : m ≤ 6
  rt : ∀ p ∈ sv, tRight p.2 = true
  tel : ∀ w e w', UDone w res e w' → ∃ A c, e = .returned (.tuple #[.slice A m c, .int .i64 code]) ∧ Sub w' (fun _ => True) sv A ∧ Keeps w w' []
  one : code = 0 → ∃ z, apD sv deepest a = z ∧ apD sv deepest b = z
theorem finds_law {a b : Tm} (ia : In Vs6 a) (ib : In Vs6 b) : ∃ fuel res sv m code, uRun fuel [(a, b)] [] = some res ∧ Finds a b res sv m code := by
  obtain ⟨fuel, res, hr, hg⟩ := unify_good few6 (by decide) ia ib
  have bad : ∀ code : Int, code ≠ 0 → (∀ w e w', UDone w res e w' → Keeps w w' [] ∧ e = .returned (.tuple #[.slice none 0 0, .int .i64 code])) → Finds a b res [] 0 code := fun code h0 h =>
    ⟨rfl, Nat.zero_le _, (fun p hp => by cases hp), fun w e w' hd => ⟨none, 0, (h w e w' hd).2, ⟨⟨[], Prs.nil, Rd.nil⟩⟩, (h w e w' hd).1⟩, fun h1 => absurd h1 h0⟩
  cases res with
  | ok s =>
    obtain ⟨g, r, ui, hun, _, hmost⟩ := hg
    have si := solved_si few6 (by decide) ui
    refine ⟨fuel, _, solvedT s, s.length, 0, hr, solved_len ui.si.nd, Nat.le_trans ui.len (by decide), si.rt, fun w e w' h => ?_, fun _ => ⟨tS g a, solved_ap few6 (by decide) ui ia.rt, ?_⟩⟩
    · obtain ⟨h1, A, c, h2, h3⟩ := h
      exact ⟨A, c, h2, h3, h1⟩
    · rw [solved_ap few6 (by decide) ui ib.rt]
      exact (hun (a, b) (by simp)).symm
  | cyc => exact ⟨fuel, _, [], 0, 15, hr, bad 15 (by decide) fun w e w' h => h⟩
  | clash => exact ⟨fuel, _, [], 0, 16, hr, bad 16 (by decide) fun w e w' h => h⟩
set_option maxRecDepth 100000 in
set_option maxHeartbeats 6400000 in
theorem mguFinds_any (t0 : Tm) (x0 : TV) (t1 : Tm) (x1 : TV) (w : World) (h0 : Tr w (fun _ => True) t0 x0) (h1 : Tr w (fun _ => True) t1 x1) : Calls Try.prog 4 #[tvV x0, tvV x1] w fun e w' => e = .returned (.bool true) ∧ Keeps w w' [] := by
  have HA0 := Lib.hid h0
  have HB0 := Lib.hid h1
  have HFx : Hid (∀ (t : Tm) (v : TV) (w : World), Tr w (fun _ => True) t v → Calls Try.prog 7 #[.agg #[.int .i64 v.k, .int .i64 v.n, .string v.s, .slice v.A v.len v.c]] w (TDone [] (fun b => w.heap.size ≤ b) w (lFix t))) := fun t v w h => lFix_any t v w h
  have HTo : Hid (∀ (t : Tm) (v : TV) (w : World), tRight t = true → Tr w (fun _ => True) t v → Calls Try.prog 8 #[.agg #[.int .i64 v.k, .int .i64 v.n, .string v.s, .slice v.A v.len v.c]] w (TDone [] (fun b => w.heap.size ≤ b) w t)) := fun t v w h1 h2 => tmToW_any t v w h2 (tWid_of_right h1)
  have HFr : Hid (∀ (t : Tm) (v : TV) (w : World), tRight t = true → Tr w (fun _ => True) t v → Calls Try.prog 17 #[.agg #[.int .i64 v.k, .int .i64 v.n, .string v.s, .slice v.A v.len v.c]] w (TDone [] (fun b => w.heap.size ≤ b) w t)) := fun t v w h1 h2 => tmFromW_any t v w h2 (tWid_of_right h1)
  have HSm : Hid (∀ (t : Tm) (u v : TV) (w : World), Tr w (fun _ => True) t u → Tr w (fun _ => True) t v → Calls Try.prog 18 #[.agg #[.int .i64 u.k, .int .i64 u.n, .string u.s, .slice u.A u.len u.c], .agg #[.int .i64 v.k, .int .i64 v.n, .string v.s, .slice v.A v.len v.c]] w fun e w' => e = .returned (.bool true) ∧ Keeps w w' []) := fun t u v w h1 h2 => by
    have h3 := same_any t t u v w h1 h2
    rw [(tSame_iff t t).2 rfl] at h3
    exact h3
  have HRs : Hid (∀ (t : Tm) (u v : TV) (w : World), Tr w (fun _ => True) t u → Tr w (fun _ => True) t v → Calls Try.prog 16 #[.agg #[.int .i64 u.k, .int .i64 u.n, .string u.s, .slice u.A u.len u.c], .agg #[.int .i64 v.k, .int .i64 v.n, .string v.s, .slice v.A v.len v.c]] w fun e w' => e = .returned (.bool true) ∧ Keeps w w' []) := fun t u v w h1 h2 => by
    have h3 := refSame_any t t u v w h1 h2
    rw [(tSame_iff t t).2 rfl] at h3
    exact h3
  obtain ⟨a, ha⟩ : ∃ a, lFix t0 = a := ⟨_, rfl⟩
  obtain ⟨b, hb⟩ : ∃ b, lFix t1 = b := ⟨_, rfl⟩
  have IA : Hid (In Vs6 a) := by rw [← ha]; exact lFix_in t0
  have IB : Hid (In Vs6 b) := by rw [← hb]; exact lFix_in t1
  have DA : Hid (tDep a ≤ 5) := by rw [← ha]; exact lFix_dep t0
  have DB : Hid (tDep b ≤ 5) := by rw [← hb]; exact lFix_dep t1
  have HF0 : Hid (∀ w, Tr w (fun _ => True) t0 x0 → Calls Try.prog 7 #[.agg #[.int .i64 x0.k, .int .i64 x0.n, .string x0.s, .slice x0.A x0.len x0.c]] w (TDone [] (fun b => w.heap.size ≤ b) w a)) := fun w h => by rw [← ha]; exact HFx.out t0 x0 w h
  have HF1 : Hid (∀ w, Tr w (fun _ => True) t1 x1 → Calls Try.prog 7 #[.agg #[.int .i64 x1.k, .int .i64 x1.n, .string x1.s, .slice x1.A x1.len x1.c]] w (TDone [] (fun b => w.heap.size ≤ b) w b)) := fun w h => by rw [← hb]; exact HFx.out t1 x1 w h
  obtain ⟨fuel, res, sv, m, code, hrun, hfd⟩ := finds_law IA.out IB.out
  have HFd := Lib.hid hfd
  have HUn : Hid (∀ u v w, Tr w (fun _ => True) a u → Tr w (fun _ => True) b v → Calls Try.prog 11 #[.agg #[.int .i64 u.k, .int .i64 u.n, .string u.s, .slice u.A u.len u.c], .agg #[.int .i64 v.k, .int .i64 v.n, .string v.s, .slice v.A v.len v.c]] w fun e w' => ∃ A c, e = .returned (.tuple #[.slice A m c, .int .i64 code]) ∧ Sub w' (fun _ => True) sv A ∧ Keeps w w' []) := fun u v w h1 h2 => (unify_any Vs6 few6 (by decide) a b u v w h1 h2 IA.out IB.out (Nat.le_trans DA.out (by decide)) (Nat.le_trans DB.out (by decide)) fuel _ hrun).mono fun e w' h => HFd.out.tel w e w' h
  have HRn : Hid (∀ u v w, Tr w (fun _ => True) a u → Tr w (fun _ => True) b v → Calls Try.prog 13 #[.agg #[.int .i64 u.k, .int .i64 u.n, .string u.s, .slice u.A u.len u.c], .agg #[.int .i64 v.k, .int .i64 v.n, .string v.s, .slice v.A v.len v.c]] w fun e w' => ∃ A c, e = .returned (.tuple #[.slice A m c, .int .i64 code]) ∧ Sub w' (fun _ => True) sv A ∧ Keeps w w' []) := fun u v w h1 h2 => (refUnify_any Vs6 few6 (by decide) a b u v w h1 h2 IA.out IB.out (Nat.le_trans DA.out (by decide)) (Nat.le_trans DB.out (by decide)) fuel _ hrun).mono fun e w' h => HFd.out.tel w e w' h
  clear h0 h1 ha hb hrun hfd HFx DA DB
  unfold tvV
  go_enter Try.func4, Try.ntmps4
  go_upto_region 1 with fail
  have hB0 : Blk ((w.alloc (.cells #[.int .i64 x0.k, .int .i64 x0.n, .string x0.s, .slice x0.A x0.len x0.c] 24)).alloc (.cells #[.int .i64 x1.k, .int .i64 x1.n, .string x1.s, .slice x1.A x1.len x1.c] 24)) w.heap.size 24 #[.int .i64 x0.k, .int .i64 x0.n, .string x0.s, .slice x0.A x0.len x0.c] := (Blk.new _ _ _).alloc _
  have hB1 : Blk ((w.alloc (.cells #[.int .i64 x0.k, .int .i64 x0.n, .string x0.s, .slice x0.A x0.len x0.c] 24)).alloc (.cells #[.int .i64 x1.k, .int .i64 x1.n, .string x1.s, .slice x1.A x1.len x1.c] 24)) (w.heap.size + 1) 24 #[.int .i64 x1.k, .int .i64 x1.n, .string x1.s, .slice x1.A x1.len x1.c] := Blk.newAt _ _ (by simp)
  have hK0 : Keeps w ((w.alloc (.cells #[.int .i64 x0.k, .int .i64 x0.n, .string x0.s, .slice x0.A x0.len x0.c] 24)).alloc (.cells #[.int .i64 x1.k, .int .i64 x1.n, .string x1.s, .slice x1.A x1.len x1.c] 24)) [] := ((Keeps.refl w []).alloc _).alloc _
  generalize ((w.alloc (.cells #[.int .i64 x0.k, .int .i64 x0.n, .string x0.s, .slice x0.A x0.len x0.c] 24)).alloc (.cells #[.int .i64 x1.k, .int .i64 x1.n, .string x1.s, .slice x1.A x1.len x1.c] 24)) = w6 at hB0 hB1 hK0 ⊢
  have HQ0 := Lib.hid hB0
  have HQ1 := Lib.hid hB1
  have HK0 := Lib.hid hK0
  have HA1 := Lib.hid (HA0.out.keep hK0)
  have HB1 := Lib.hid (HB0.out.keep hK0)
  clear hB0 hB1 hK0 HA0 HB0
  have HP : Hid (∀ W', Keeps w6 W' [] → (Keeps w6 W' [] ∧ W'.cell? ⟨w.heap.size, 0, none⟩ = some (.int .i64 x0.k) ∧ W'.cell? ⟨w.heap.size, 1, none⟩ = some (.int .i64 x0.n) ∧ W'.cell? ⟨w.heap.size, 2, none⟩ = some (.string x0.s) ∧ W'.cell? ⟨w.heap.size, 3, none⟩ = some (.slice x0.A x0.len x0.c) ∧ W'.cell? ⟨(w.heap.size + 1), 0, none⟩ = some (.int .i64 x1.k) ∧ W'.cell? ⟨(w.heap.size + 1), 1, none⟩ = some (.int .i64 x1.n) ∧ W'.cell? ⟨(w.heap.size + 1), 2, none⟩ = some (.string x1.s) ∧ W'.cell? ⟨(w.heap.size + 1), 3, none⟩ = some (.slice x1.A x1.len x1.c))) := fun W' k => by
    have b0 := HQ0.out.keep k (by simp)
    have b1 := HQ1.out.keep k (by simp)
    exact ⟨k, b0.cell 0, b0.cell 1, b0.cell 2, b0.cell 3, b1.cell 0, b1.cell 1, b1.cell 2, b1.cell 3⟩
  refine wp_region_tw (fun W' => Keeps w6 W' [] ∧ W'.cell? ⟨w.heap.size, 0, none⟩ = some (.int .i64 x0.k) ∧ W'.cell? ⟨w.heap.size, 1, none⟩ = some (.int .i64 x0.n) ∧ W'.cell? ⟨w.heap.size, 2, none⟩ = some (.string x0.s) ∧ W'.cell? ⟨w.heap.size, 3, none⟩ = some (.slice x0.A x0.len x0.c) ∧ W'.cell? ⟨(w.heap.size + 1), 0, none⟩ = some (.int .i64 x1.k) ∧ W'.cell? ⟨(w.heap.size + 1), 1, none⟩ = some (.int .i64 x1.n) ∧ W'.cell? ⟨(w.heap.size + 1), 2, none⟩ = some (.string x1.s) ∧ W'.cell? ⟨(w.heap.size + 1), 3, none⟩ = some (.slice x1.A x1.len x1.c)) 4 [.take 0, .take 2, .go 1, .go 3] [(4, false), (5, false)] (by kernel_rfl) (by kernel_rfl) (fun w1 w2 k h => HP.out _ (h.1.trans k)) (by exact HP.out _ (Keeps.refl _ []).drew) (fun _ => ?_)
  (repeat (first | (refine wpTw_take (v := ?_) rfl ?_ (by rfl) ?_; rotate_left; (focus (intro w' hSw; (try dsimp only at hSw); go_simp; (try with_reducible rfl); done)); simp only [Act.put, List.setIfInBounds_toArray, List.set_cons_zero, List.set_cons_succ]) | (refine wpTw_skip rfl (by rfl) ?_; simp only [Act.put, List.setIfInBounds_toArray, List.set_cons_zero, List.set_cons_succ])))
  refine wpTw_go rfl (fun W1 hk1 hS1 K hK => ?_)
  have J1 := Lib.hid hS1.1
  have L1 := Lib.hid hk1
  clear hS1 hk1
  go_simp
  refine (HF0.out _ (HA1.out.keep J1.out)).mono ?_
  rintro e w1 ⟨a1, rfl, ha1, k1⟩
  have K1 := Lib.hid (J1.out.trans k1)
  have N1 := Lib.hid (L1.out.trans k1)
  have HA2 := Lib.hid ha1
  unfold tvV
  clear ha1
  refine hK.out _ _ k1 (HP.out _ K1.out) (fun _ => ?_)
  clear hK K
  (try simp only [Act.put, List.setIfInBounds_toArray, List.set_cons_zero, List.set_cons_succ])
  refine wpTw_go rfl (fun W2 hk2 hS2 K hK => ?_)
  have J2 := Lib.hid hS2.1
  have L2 := Lib.hid hk2
  clear hS2 hk2
  go_simp
  refine (HF1.out _ (HB1.out.keep J2.out)).mono ?_
  rintro e w2 ⟨b1, rfl, hb1, k2⟩
  have K2 := Lib.hid (J2.out.trans k2)
  have N2 := Lib.hid (L2.out.trans k2)
  have HB2 := Lib.hid hb1
  unfold tvV
  clear hb1
  refine hK.out _ _ k2 (HP.out _ K2.out) (fun _ => ?_)
  clear hK K
  (try simp only [Act.put, List.setIfInBounds_toArray, List.set_cons_zero, List.set_cons_succ])
  have q := HQ0.out.keep K2.out (by simp)
  have p := HQ1.out.keep K2.out (by simp)
  have qc0 := q.cell 0
  have qf0 := q.frozen 0
  have qc1 := q.cell 1
  have qf1 := q.frozen 1
  have qc2 := q.cell 2
  have qf2 := q.frozen 2
  have qc3 := q.cell 3
  have qf3 := q.frozen 3
  have pc0 := p.cell 0
  have pf0 := p.frozen 0
  have pc1 := p.cell 1
  have pf1 := p.frozen 1
  have pc2 := p.cell 2
  have pf2 := p.frozen 2
  have pc3 := p.cell 3
  have pf3 := p.frozen 3
  change wpTy _ _ _ _ _ _ _ _
  refine wpTy_tail rfl (by decide) (fun K hK => ?_)
  go_simp
  refine hK.out _ _ ?_; clear hK K; (try simp only [Act.put, List.setIfInBounds_toArray, List.set_cons_zero, List.set_cons_succ])
  refine wpTy_last rfl (by decide) (fun K hK => ?_)
  go_simp
  refine hK.out _ _ (NoPanic.normal ?_)
  clear hK K
  (try simp only [Act.put, List.setIfInBounds_toArray, List.set_cons_zero, List.set_cons_succ])
  change Exit.then _ _ _ _ (set4 (set4 w2 w.heap.size (.int .i64 a1.k) (.int .i64 a1.n) (.string a1.s) (.slice a1.A a1.len a1.c)) (w.heap.size + 1) (.int .i64 b1.k) (.int .i64 b1.n) (.string b1.s) (.slice b1.A b1.len b1.c))
  have hlt := HQ1.out.lt
  have hw1 := J1.out.size
  have hw2 := J2.out.size
  have HQ2 := Lib.hid ((q.put4 (.int .i64 a1.k) (.int .i64 a1.n) (.string a1.s) (.slice a1.A a1.len a1.c)).far4 (g' := w.heap.size + 1) (by omega) (.int .i64 b1.k) (.int .i64 b1.n) (.string b1.s) (.slice b1.A b1.len b1.c))
  have HQ3 := Lib.hid ((p.far4 (g' := w.heap.size) (by omega) (.int .i64 a1.k) (.int .i64 a1.n) (.string a1.s) (.slice a1.A a1.len a1.c)).put4 (.int .i64 b1.k) (.int .i64 b1.n) (.string b1.s) (.slice b1.A b1.len b1.c))
  have HK3 := Lib.hid (((HK0.out.trans K2.out).put4 (.inr (Nat.le_refl _)) (.int .i64 a1.k) (.int .i64 a1.n) (.string a1.s) (.slice a1.A a1.len a1.c)).put4 (g := w.heap.size + 1) (.inr (by omega)) (.int .i64 b1.k) (.int .i64 b1.n) (.string b1.s) (.slice b1.A b1.len b1.c))
  have HA3 := Lib.hid (((((HA2.out.keep N2.out).far4 (g := w.heap.size) (by omega) (.int .i64 a1.k) (.int .i64 a1.n) (.string a1.s) (.slice a1.A a1.len a1.c)).far4 (g := w.heap.size + 1) (by omega) (.int .i64 b1.k) (.int .i64 b1.n) (.string b1.s) (.slice b1.A b1.len b1.c))).mono (S' := fun _ => True) (fun _ _ => trivial))
  have HB3 := Lib.hid (((HB2.out.far4 (g := w.heap.size) (by omega) (.int .i64 a1.k) (.int .i64 a1.n) (.string a1.s) (.slice a1.A a1.len a1.c)).far4 (g := w.heap.size + 1) (by omega) (.int .i64 b1.k) (.int .i64 b1.n) (.string b1.s) (.slice b1.A b1.len b1.c)).mono (S' := fun _ => True) (fun _ _ => trivial))
  generalize set4 (set4 w2 w.heap.size (.int .i64 a1.k) (.int .i64 a1.n) (.string a1.s) (.slice a1.A a1.len a1.c)) (w.heap.size + 1) (.int .i64 b1.k) (.int .i64 b1.n) (.string b1.s) (.slice b1.A b1.len b1.c) = w3 at HQ2 HQ3 HK3 HA3 HB3 ⊢
  clear HQ0 HQ1 HK0 HA1 HB1 HA2 HB2 HP HF0 HF1 J1 J2 K1 K2 L1 L2 N1 N2 hlt hw1 hw2 q p k1 k2
  clear qc0 qf0 qc1 qf1 qc2 qf2 qc3 qf3 pc0 pf0 pc1 pf1 pc2 pf2 pc3 pf3
  go_upto_region 2 with fail
  have HP : Hid (∀ W', Keeps w3 W' [] → (Keeps w3 W' [] ∧ W'.cell? ⟨w.heap.size, 0, none⟩ = some (.int .i64 a1.k) ∧ W'.cell? ⟨w.heap.size, 1, none⟩ = some (.int .i64 a1.n) ∧ W'.cell? ⟨w.heap.size, 2, none⟩ = some (.string a1.s) ∧ W'.cell? ⟨w.heap.size, 3, none⟩ = some (.slice a1.A a1.len a1.c) ∧ W'.cell? ⟨(w.heap.size + 1), 0, none⟩ = some (.int .i64 b1.k) ∧ W'.cell? ⟨(w.heap.size + 1), 1, none⟩ = some (.int .i64 b1.n) ∧ W'.cell? ⟨(w.heap.size + 1), 2, none⟩ = some (.string b1.s) ∧ W'.cell? ⟨(w.heap.size + 1), 3, none⟩ = some (.slice b1.A b1.len b1.c))) := fun W' k => by
    have b0 := HQ2.out.keep k (by simp)
    have b1 := HQ3.out.keep k (by simp)
    exact ⟨k, b0.cell 0, b0.cell 1, b0.cell 2, b0.cell 3, b1.cell 0, b1.cell 1, b1.cell 2, b1.cell 3⟩
  refine wp_region_tw (fun W' => Keeps w3 W' [] ∧ W'.cell? ⟨w.heap.size, 0, none⟩ = some (.int .i64 a1.k) ∧ W'.cell? ⟨w.heap.size, 1, none⟩ = some (.int .i64 a1.n) ∧ W'.cell? ⟨w.heap.size, 2, none⟩ = some (.string a1.s) ∧ W'.cell? ⟨w.heap.size, 3, none⟩ = some (.slice a1.A a1.len a1.c) ∧ W'.cell? ⟨(w.heap.size + 1), 0, none⟩ = some (.int .i64 b1.k) ∧ W'.cell? ⟨(w.heap.size + 1), 1, none⟩ = some (.int .i64 b1.n) ∧ W'.cell? ⟨(w.heap.size + 1), 2, none⟩ = some (.string b1.s) ∧ W'.cell? ⟨(w.heap.size + 1), 3, none⟩ = some (.slice b1.A b1.len b1.c)) 6 [.op ⟨4, 5, fun b => .pointer (some ⟨b, 0, none⟩), 30, #[.int .i64 0, .int .i64 0, .string ⟨#[]⟩, .slice none 0 0]⟩, .op ⟨5, 6, fun b => .pointer (some ⟨b, 0, none⟩), 30, #[.int .i64 0, .int .i64 0, .string ⟨#[]⟩, .slice none 0 0]⟩, .take 0, .take 2, .go 1, .go 3, .cl] [(6, false), (7, false)] (by kernel_rfl) (by kernel_rfl) (fun w1 w2 k h => HP.out _ (h.1.trans k)) (by exact HP.out _ (Keeps.refl _ []).drew) (fun _ => ?_)
  (refine wpTw_op rfl rfl (by intro w' hSw; (try dsimp only at hSw); go_simp; (try with_reducible rfl); done) (by rfl) ?_; simp only [List.nil_append])
  (refine wpTw_op rfl rfl (by intro w' hSw; (try dsimp only at hSw); go_simp; (try with_reducible rfl); done) (by rfl) ?_; simp only [List.nil_append, List.cons_append])
  (repeat (first | (refine wpTw_take (v := ?_) rfl ?_ (by rfl) ?_; rotate_left; (focus (intro w' hSw; (try dsimp only at hSw); go_simp; (try with_reducible rfl); done)); simp only [Act.put, List.setIfInBounds_toArray, List.set_cons_zero, List.set_cons_succ]) | (refine wpTw_skip rfl (by rfl) ?_; simp only [Act.put, List.setIfInBounds_toArray, List.set_cons_zero, List.set_cons_succ])))
  refine wpTw_go rfl (fun W11 hk11 hS11 K hK => ?_)
  have J11 := Lib.hid hS11.1
  have L11 := Lib.hid hk11
  clear hS11 hk11
  go_simp
  refine (HTo.out a a1 _ IA.out.rt (HA3.out.keep J11.out)).mono ?_
  rintro e w11 ⟨u1, rfl, hu1, k11⟩
  have K11 := Lib.hid (J11.out.trans k11)
  have N11 := Lib.hid (L11.out.trans k11)
  have HU1 := Lib.hid hu1.here
  unfold tvV
  clear hu1
  refine hK.out _ _ k11 (HP.out _ K11.out) (fun _ => ?_)
  clear hK K
  (try simp only [Act.put, List.setIfInBounds_toArray, List.set_cons_zero, List.set_cons_succ])
  refine wpTw_go rfl (fun W12 hk12 hS12 K hK => ?_)
  have J12 := Lib.hid hS12.1
  have L12 := Lib.hid hk12
  clear hS12 hk12
  go_simp
  refine (HTo.out b b1 _ IB.out.rt (HB3.out.keep J12.out)).mono ?_
  rintro e w12 ⟨u2, rfl, hu2, k12⟩
  have K12 := Lib.hid (J12.out.trans k12)
  have N12 := Lib.hid (L12.out.trans k12)
  have HU2 := Lib.hid hu2.here
  unfold tvV
  clear hu2
  refine hK.out _ _ k12 (HP.out _ K12.out) (fun _ => ?_)
  clear hK K
  (try simp only [Act.put, List.setIfInBounds_toArray, List.set_cons_zero, List.set_cons_succ])
  refine wpTw_cl (fun W13 hk13 hS13 => ?_)
  intro xb xb_b xb_u xb_x xb_B
  dsimp only at xb_B
  intro yb yb_b yb_u yb_x yb_B
  dsimp only at yb_B
  have J13 := Lib.hid hS13.1
  have L13 := Lib.hid hk13
  clear hS13 hk13
  have xb_11 := xb_x (W11.heap.size, w11.heap.size) (by simp)
  dsimp only at xb_11
  have xb_12 := xb_x (W12.heap.size, w12.heap.size) (by simp)
  dsimp only at xb_12
  have xb_H := Lib.hid xb_B
  clear xb_x xb_B
  have yb_11 := yb_x (W11.heap.size, w11.heap.size) (by simp)
  dsimp only at yb_11
  have yb_12 := yb_x (W12.heap.size, w12.heap.size) (by simp)
  dsimp only at yb_12
  have yb_H := Lib.hid yb_B
  clear yb_x yb_B
  clear xb_u
  simp only [List.mem_cons, List.not_mem_nil, or_false] at yb_u
  (try simp only [Act.put, List.setIfInBounds_toArray, List.set_cons_zero, List.set_cons_succ])
  have q := xb_H.out
  have p := yb_H.out
  have qc0 := q.cell 0
  have qf0 := q.frozen 0
  have qc1 := q.cell 1
  have qf1 := q.frozen 1
  have qc2 := q.cell 2
  have qf2 := q.frozen 2
  have qc3 := q.cell 3
  have qf3 := q.frozen 3
  have pc0 := p.cell 0
  have pf0 := p.frozen 0
  have pc1 := p.cell 1
  have pf1 := p.frozen 1
  have pc2 := p.cell 2
  have pf2 := p.frozen 2
  have pc3 := p.cell 3
  have pf3 := p.frozen 3
  change wpTy _ _ _ _ _ _ _ _
  refine wpTy_tail rfl (by decide) (fun K hK => ?_)
  go_simp
  refine hK.out _ _ ?_; clear hK K; (try simp only [Act.put, List.setIfInBounds_toArray, List.set_cons_zero, List.set_cons_succ])
  refine wpTy_last rfl (by decide) (fun K hK => ?_)
  go_simp
  refine hK.out _ _ (NoPanic.normal ?_)
  clear hK K
  (try simp only [Act.put, List.setIfInBounds_toArray, List.set_cons_zero, List.set_cons_succ])
  change Exit.then _ _ _ _ (set4 (set4 W13 xb (.int .i64 u1.k) (.int .i64 u1.n) (.string u1.s) (.slice u1.A u1.len u1.c)) yb (.int .i64 u2.k) (.int .i64 u2.n) (.string u2.s) (.slice u2.A u2.len u2.c))
  have m0 := HK3.out.size
  have l0 := HQ2.out.lt
  have l1 := HQ3.out.lt
  have HX := Lib.hid ((q.put4 (.int .i64 u1.k) (.int .i64 u1.n) (.string u1.s) (.slice u1.A u1.len u1.c)).far4 (g' := yb) (by omega) (.int .i64 u2.k) (.int .i64 u2.n) (.string u2.s) (.slice u2.A u2.len u2.c))
  have HY := Lib.hid ((p.far4 (g' := xb) (by omega) (.int .i64 u1.k) (.int .i64 u1.n) (.string u1.s) (.slice u1.A u1.len u1.c)).put4 (.int .i64 u2.k) (.int .i64 u2.n) (.string u2.s) (.slice u2.A u2.len u2.c))
  have HW8 := Lib.hid ((J13.out.put4 (g := xb) (.inr (by omega)) (.int .i64 u1.k) (.int .i64 u1.n) (.string u1.s) (.slice u1.A u1.len u1.c)).put4 (g := yb) (.inr (by omega)) (.int .i64 u2.k) (.int .i64 u2.n) (.string u2.s) (.slice u2.A u2.len u2.c))
  have HTx := Lib.hid ((((HU1.out.keep (N12.out.trans L13.out)).far4 (g := xb) (by omega) (.int .i64 u1.k) (.int .i64 u1.n) (.string u1.s) (.slice u1.A u1.len u1.c)).far4 (g := yb) (by omega) (.int .i64 u2.k) (.int .i64 u2.n) (.string u2.s) (.slice u2.A u2.len u2.c)).mono (S' := fun _ => True) fun _ _ => trivial)
  have HTy := Lib.hid ((((HU2.out.keep L13.out).far4 (g := xb) (by omega) (.int .i64 u1.k) (.int .i64 u1.n) (.string u1.s) (.slice u1.A u1.len u1.c)).far4 (g := yb) (by omega) (.int .i64 u2.k) (.int .i64 u2.n) (.string u2.s) (.slice u2.A u2.len u2.c)).mono (S' := fun _ => True) fun _ _ => trivial)
  generalize set4 (set4 W13 xb (.int .i64 u1.k) (.int .i64 u1.n) (.string u1.s) (.slice u1.A u1.len u1.c)) yb (.int .i64 u2.k) (.int .i64 u2.n) (.string u2.s) (.slice u2.A u2.len u2.c) = w8 at HX HY HW8 HTx HTy ⊢
  have HA8 := Lib.hid (HA3.out.keep HW8.out)
  have HB8 := Lib.hid (HB3.out.keep HW8.out)
  have HP0 := Lib.hid (HQ2.out.keep HW8.out (by simp))
  have HP1 := Lib.hid (HQ3.out.keep HW8.out (by simp))
  have HK8 := Lib.hid (HK3.out.trans HW8.out)
  clear HU1 HU2 HP J11 J12 J13 K11 K12 L11 L12 L13 N11 N12 q p k11 k12 xb_b yb_b yb_u xb_H yb_H xb_11 xb_12 yb_11 yb_12 m0 l0 l1 HA3 HB3 HQ2 HQ3 HW8 HK3
  clear qc0 qf0 qc1 qf1 qc2 qf2 qc3 qf3 pc0 pf0 pc1 pf1 pc2 pf2 pc3 pf3
  have q0 := HX.out.cell 0
  have q1 := HX.out.cell 1
  have q2 := HX.out.cell 2
  have q3 := HX.out.cell 3
  have p0 := HY.out.cell 0
  have p1 := HY.out.cell 1
  have p2 := HY.out.cell 2
  have p3 := HY.out.cell 3
  go_wp2_with fail
  refine (HUn.out u1 u2 _ HTx.out HTy.out).mono ?_
  rintro e w9 ⟨A1, c1, rfl, hs9, k9⟩
  have HS9 := Lib.hid hs9
  have K9 := Lib.hid k9
  clear hs9 k9 q0 q1 q2 q3 p0 p1 p2 p3
  have q0 := (HP0.out.keep K9.out (by simp)).cell 0
  have q1 := (HP0.out.keep K9.out (by simp)).cell 1
  have q2 := (HP0.out.keep K9.out (by simp)).cell 2
  have q3 := (HP0.out.keep K9.out (by simp)).cell 3
  have p0 := (HP1.out.keep K9.out (by simp)).cell 0
  have p1 := (HP1.out.keep K9.out (by simp)).cell 1
  have p2 := (HP1.out.keep K9.out (by simp)).cell 2
  have p3 := (HP1.out.keep K9.out (by simp)).cell 3
  go_wp2_with fail
  refine (HRn.out a1 b1 _ (HA8.out.keep K9.out) (HB8.out.keep K9.out)).mono ?_
  rintro e w10 ⟨A2, c2, rfl, hs10, k10⟩
  have K10 := Lib.hid (K9.out.trans k10)
  have HS1 := Lib.hid (HS9.out.keep k10)
  have HS2 := Lib.hid hs10
  have HXa := Lib.hid (HX.out.keep K10.out (by simp))
  have HYa := Lib.hid (HY.out.keep K10.out (by simp))
  have HPa := Lib.hid (HP0.out.keep K10.out (by simp))
  have HAa := Lib.hid (HA8.out.keep K10.out)
  have HTa := Lib.hid (HTx.out.keep K10.out)
  have HTb := Lib.hid (HTy.out.keep K10.out)
  have HKa := Lib.hid (HK8.out.trans K10.out)
  clear hs10 k10 q0 q1 q2 q3 p0 p1 p2 p3 HX HY HP0 HP1 HA8 HB8 HTx HTy HK8 HS9 K9 K10 HUn HRn
  go_upto_region 5 with fail
  have HP : Hid (∀ W', Keeps w10 W' [] → (Keeps w10 W' [] ∧ W'.cell? ⟨xb, 0, none⟩ = some (.int .i64 u1.k) ∧ W'.cell? ⟨xb, 1, none⟩ = some (.int .i64 u1.n) ∧ W'.cell? ⟨xb, 2, none⟩ = some (.string u1.s) ∧ W'.cell? ⟨xb, 3, none⟩ = some (.slice u1.A u1.len u1.c) ∧ W'.cell? ⟨w.heap.size, 0, none⟩ = some (.int .i64 a1.k) ∧ W'.cell? ⟨w.heap.size, 1, none⟩ = some (.int .i64 a1.n) ∧ W'.cell? ⟨w.heap.size, 2, none⟩ = some (.string a1.s) ∧ W'.cell? ⟨w.heap.size, 3, none⟩ = some (.slice a1.A a1.len a1.c))) := fun W' k => by
    have b0 := HXa.out.keep k (by simp)
    have b1 := HPa.out.keep k (by simp)
    exact ⟨k, b0.cell 0, b0.cell 1, b0.cell 2, b0.cell 3, b1.cell 0, b1.cell 1, b1.cell 2, b1.cell 3⟩
  refine wp_region_tw (fun W' => Keeps w10 W' [] ∧ W'.cell? ⟨xb, 0, none⟩ = some (.int .i64 u1.k) ∧ W'.cell? ⟨xb, 1, none⟩ = some (.int .i64 u1.n) ∧ W'.cell? ⟨xb, 2, none⟩ = some (.string u1.s) ∧ W'.cell? ⟨xb, 3, none⟩ = some (.slice u1.A u1.len u1.c) ∧ W'.cell? ⟨w.heap.size, 0, none⟩ = some (.int .i64 a1.k) ∧ W'.cell? ⟨w.heap.size, 1, none⟩ = some (.int .i64 a1.n) ∧ W'.cell? ⟨w.heap.size, 2, none⟩ = some (.string a1.s) ∧ W'.cell? ⟨w.heap.size, 3, none⟩ = some (.slice a1.A a1.len a1.c)) 20 [.go 0, .take 1, .take 2, .take 3, .take 4, .take 5, .take 6, .take 7, .take 8, .take 10, .go 9, .go 11, .take 12, .take 13, .take 14, .take 15, .take 17, .go 16, .go 18, .take 19] [(20, false)] (by kernel_rfl) (by kernel_rfl) (fun w1 w2 k h => HP.out _ (h.1.trans k)) (by exact HP.out _ (Keeps.refl _ []).drew) (fun _ => ?_)
  (repeat (first | (refine wpTw_take (v := ?_) rfl ?_ (by rfl) ?_; rotate_left; (focus (intro w' hSw; (try dsimp only at hSw); go_simp; (try with_reducible rfl); done)); simp only [Act.put, List.setIfInBounds_toArray, List.set_cons_zero, List.set_cons_succ]) | (refine wpTw_skip rfl (by rfl) ?_; simp only [Act.put, List.setIfInBounds_toArray, List.set_cons_zero, List.set_cons_succ])))
  refine wpTw_go rfl (fun W20 hk20 hS20 K hK => ?_)
  have J20 := Lib.hid hS20.1
  have L20 := Lib.hid hk20
  clear hS20 hk20
  go_simp
  refine (told4_any _).mono ?_
  rintro e w20 ⟨rfl, k20⟩
  have K20 := Lib.hid (J20.out.trans k20)
  have N20 := Lib.hid (L20.out.trans k20)
  refine hK.out _ _ k20 (HP.out _ K20.out) (fun _ => ?_)
  clear hK K
  (try simp only [Act.put, List.setIfInBounds_toArray, List.set_cons_zero, List.set_cons_succ])
  (repeat (first | (refine wpTw_take (v := ?_) rfl ?_ (by rfl) ?_; rotate_left; (focus (intro w' hSw; (try dsimp only at hSw); go_simp; (try with_reducible rfl); done)); simp only [Act.put, List.setIfInBounds_toArray, List.set_cons_zero, List.set_cons_succ]) | (refine wpTw_skip rfl (by rfl) ?_; simp only [Act.put, List.setIfInBounds_toArray, List.set_cons_zero, List.set_cons_succ])))
  refine wpTw_go rfl (fun W21 hk21 hS21 K hK => ?_)
  have J21 := Lib.hid hS21.1
  have L21 := Lib.hid hk21
  clear hS21 hk21
  go_simp
  refine (from4_any sv A1 m c1 _ (HS1.out.keep J21.out) HFd.out.len (by have := HFd.out.few; omega) (fun p hp => tWid_of_right (HFd.out.rt p hp))).mono ?_
  rintro e w21 ⟨A3, c3, rfl, hs3, k21⟩
  have K21 := Lib.hid (J21.out.trans k21)
  have N21 := Lib.hid (L21.out.trans k21)
  have HS3 := Lib.hid hs3
  clear hs3
  refine hK.out _ _ k21 (HP.out _ K21.out) (fun _ => ?_)
  clear hK K
  (try simp only [Act.put, List.setIfInBounds_toArray, List.set_cons_zero, List.set_cons_succ])
  refine wpTw_go rfl (fun W22 hk22 hS22 K hK => ?_)
  have J22 := Lib.hid hS22.1
  have L22 := Lib.hid hk22
  clear hS22 hk22
  go_simp
  refine (refSameP_any sv A3 A2 m c3 c2 _ (HS3.out.keep L22.out) (HS2.out.keep J22.out) HFd.out.len (by have := HFd.out.few; omega)).mono ?_
  rintro e w22 ⟨rfl, k22⟩
  have K22 := Lib.hid (J22.out.trans k22)
  have N22 := Lib.hid (L22.out.trans k22)
  refine hK.out _ _ k22 (HP.out _ K22.out) (fun _ => ?_)
  clear hK K
  (try simp only [Act.put, List.setIfInBounds_toArray, List.set_cons_zero, List.set_cons_succ])
  (repeat (first | (refine wpTw_take (v := ?_) rfl ?_ (by rfl) ?_; rotate_left; (focus (intro w' hSw; (try dsimp only at hSw); go_simp; (try with_reducible rfl); done)); simp only [Act.put, List.setIfInBounds_toArray, List.set_cons_zero, List.set_cons_succ]) | (refine wpTw_skip rfl (by rfl) ?_; simp only [Act.put, List.setIfInBounds_toArray, List.set_cons_zero, List.set_cons_succ])))
  refine wpTw_go rfl (fun W23 hk23 hS23 K hK => ?_)
  have J23 := Lib.hid hS23.1
  have L23 := Lib.hid hk23
  clear hS23 hk23
  go_simp
  refine (HFr.out a u1 _ IA.out.rt (HTa.out.keep J23.out)).mono ?_
  rintro e w23 ⟨f1, rfl, hf1, k23⟩
  have K23 := Lib.hid (J23.out.trans k23)
  have N23 := Lib.hid (L23.out.trans k23)
  have HF1 := Lib.hid (hf1.mono (S' := fun _ => True) fun _ _ => trivial)
  unfold tvV
  clear hf1
  refine hK.out _ _ k23 (HP.out _ K23.out) (fun _ => ?_)
  clear hK K
  (try simp only [Act.put, List.setIfInBounds_toArray, List.set_cons_zero, List.set_cons_succ])
  refine wpTw_go rfl (fun W24 hk24 hS24 K hK => ?_)
  have J24 := Lib.hid hS24.1
  have L24 := Lib.hid hk24
  clear hS24 hk24
  go_simp
  refine (HRs.out a f1 a1 _ (HF1.out.keep L24.out) (HAa.out.keep J24.out)).mono ?_
  rintro e w24 ⟨rfl, k24⟩
  have K24 := Lib.hid (J24.out.trans k24)
  have N24 := Lib.hid (L24.out.trans k24)
  refine hK.out _ _ k24 (HP.out _ K24.out) (fun _ => ?_)
  clear hK K
  (try simp only [Act.put, List.setIfInBounds_toArray, List.set_cons_zero, List.set_cons_succ])
  (repeat (first | (refine wpTw_take (v := ?_) rfl ?_ (by rfl) ?_; rotate_left; (focus (intro w' hSw; (try dsimp only at hSw); go_simp; (try with_reducible rfl); done)); simp only [Act.put, List.setIfInBounds_toArray, List.set_cons_zero, List.set_cons_succ]) | (refine wpTw_skip rfl (by rfl) ?_; simp only [Act.put, List.setIfInBounds_toArray, List.set_cons_zero, List.set_cons_succ])))
  change wpTy _ _ _ _ _ _ _ _
  refine wpTy_last rfl (by decide) (fun K hK => ?_)
  go_simp
  refine hK.out _ _ (NoPanic.normal ?_)
  clear hK K
  (try simp only [Act.put, List.setIfInBounds_toArray, List.set_cons_zero, List.set_cons_succ])
  have HXb := Lib.hid (HXa.out.keep K24.out (by simp))
  have HYb := Lib.hid (HYa.out.keep K24.out (by simp))
  have HTx := Lib.hid (HTa.out.keep K24.out)
  have HTy := Lib.hid (HTb.out.keep K24.out)
  have HKb := Lib.hid (HKa.out.trans K24.out)
  by_cases hc : code = 0
  · subst hc
    obtain ⟨z, hza, hzb⟩ := HFd.out.one rfl
    have HPx : Hid (∀ (u : TV) W', Keeps w24 W' [] → Tr W' (fun _ => True) a u → Calls Try.prog 10 #[.slice A1 m c1, .agg #[.int .i64 u.k, .int .i64 u.n, .string u.s, .slice u.A u.len u.c]] W' (fun e w' => ∃ z', e = .returned (.agg #[.int .i64 z'.k, .int .i64 z'.n, .string z'.s, .slice z'.A z'.len z'.c]) ∧ Tr w' (fun _ => True) z z' ∧ Keeps W' w' [])) := fun u W' k h => by
      have h4 := (applyTop_any sv A1 m c1 HFd.out.len (by have := HFd.out.few; omega) (fun p hp => tWid_of_right (HFd.out.rt p hp)) a u W' (fun b => True ∧ b < W'.heap.size) (fun b h => h.2) h.here (tWid_of_right IA.out.rt) ((((HS1.out.keep K24.out).here).mono fun b hb => ⟨trivial, Nat.lt_of_lt_of_le hb.2 k.size⟩).keep k))
      rw [hza] at h4
      exact h4.mono fun e w' ⟨z', h1, h2, h3⟩ => ⟨z', h1, h2.mono fun _ _ => trivial, h3⟩
    have HPy : Hid (∀ (u : TV) W', Keeps w24 W' [] → Tr W' (fun _ => True) b u → Calls Try.prog 10 #[.slice A1 m c1, .agg #[.int .i64 u.k, .int .i64 u.n, .string u.s, .slice u.A u.len u.c]] W' (fun e w' => ∃ z', e = .returned (.agg #[.int .i64 z'.k, .int .i64 z'.n, .string z'.s, .slice z'.A z'.len z'.c]) ∧ Tr w' (fun _ => True) z z' ∧ Keeps W' w' [])) := fun u W' k h => by
      have h4 := (applyTop_any sv A1 m c1 HFd.out.len (by have := HFd.out.few; omega) (fun p hp => tWid_of_right (HFd.out.rt p hp)) b u W' (fun b => True ∧ b < W'.heap.size) (fun b h => h.2) h.here (tWid_of_right IB.out.rt) ((((HS1.out.keep K24.out).here).mono fun b hb => ⟨trivial, Nat.lt_of_lt_of_le hb.2 k.size⟩).keep k))
      rw [hzb] at h4
      exact h4.mono fun e w' ⟨z', h1, h2, h3⟩ => ⟨z', h1, h2.mono fun _ _ => trivial, h3⟩
    clear hza hzb HXa HYa HPa HAa HTa HTb HKa HP
    go_upto_region 7 with fail
    have HP : Hid (∀ W', Keeps w24 W' [] → (Keeps w24 W' [] ∧ W'.cell? ⟨xb, 0, none⟩ = some (.int .i64 u1.k) ∧ W'.cell? ⟨xb, 1, none⟩ = some (.int .i64 u1.n) ∧ W'.cell? ⟨xb, 2, none⟩ = some (.string u1.s) ∧ W'.cell? ⟨xb, 3, none⟩ = some (.slice u1.A u1.len u1.c) ∧ W'.cell? ⟨yb, 0, none⟩ = some (.int .i64 u2.k) ∧ W'.cell? ⟨yb, 1, none⟩ = some (.int .i64 u2.n) ∧ W'.cell? ⟨yb, 2, none⟩ = some (.string u2.s) ∧ W'.cell? ⟨yb, 3, none⟩ = some (.slice u2.A u2.len u2.c))) := fun W' k => by
      have b0 := HXb.out.keep k (by simp)
      have b1 := HYb.out.keep k (by simp)
      exact ⟨k, b0.cell 0, b0.cell 1, b0.cell 2, b0.cell 3, b1.cell 0, b1.cell 1, b1.cell 2, b1.cell 3⟩
    refine wp_region_tw (fun W' => Keeps w24 W' [] ∧ W'.cell? ⟨xb, 0, none⟩ = some (.int .i64 u1.k) ∧ W'.cell? ⟨xb, 1, none⟩ = some (.int .i64 u1.n) ∧ W'.cell? ⟨xb, 2, none⟩ = some (.string u1.s) ∧ W'.cell? ⟨xb, 3, none⟩ = some (.slice u1.A u1.len u1.c) ∧ W'.cell? ⟨yb, 0, none⟩ = some (.int .i64 u2.k) ∧ W'.cell? ⟨yb, 1, none⟩ = some (.int .i64 u2.n) ∧ W'.cell? ⟨yb, 2, none⟩ = some (.string u2.s) ∧ W'.cell? ⟨yb, 3, none⟩ = some (.slice u2.A u2.len u2.c)) 11 [.take 0, .take 1, .take 2, .take 3, .take 4, .take 6, .take 7, .go 5, .go 8, .go 9, .take 10] [(11, false)] (by kernel_rfl) (by kernel_rfl) (fun w1 w2 k h => HP.out _ (h.1.trans k)) (by exact HP.out _ (Keeps.refl _ []).drew) (fun _ => ?_)
    (repeat (first | (refine wpTw_take (v := ?_) rfl ?_ (by rfl) ?_; rotate_left; (focus (intro w' hSw; (try dsimp only at hSw); go_simp; (try with_reducible rfl); done)); simp only [Act.put, List.setIfInBounds_toArray, List.set_cons_zero, List.set_cons_succ]) | (refine wpTw_skip rfl (by rfl) ?_; simp only [Act.put, List.setIfInBounds_toArray, List.set_cons_zero, List.set_cons_succ])))
    refine wpTw_go rfl (fun W31 hk31 hS31 K hK => ?_)
    have J31 := Lib.hid hS31.1
    have L31 := Lib.hid hk31
    clear hS31 hk31
    go_simp
    refine (HPx.out u1 _ J31.out (HTx.out.keep J31.out)).mono ?_
    rintro e w31 ⟨z1, rfl, hz1, k31⟩
    have K31 := Lib.hid (J31.out.trans k31)
    have N31 := Lib.hid (L31.out.trans k31)
    have HZ1 := Lib.hid hz1
    clear hz1
    refine hK.out _ _ k31 (HP.out _ K31.out) (fun _ => ?_)
    clear hK K
    (try simp only [Act.put, List.setIfInBounds_toArray, List.set_cons_zero, List.set_cons_succ])
    refine wpTw_go rfl (fun W32 hk32 hS32 K hK => ?_)
    have J32 := Lib.hid hS32.1
    have L32 := Lib.hid hk32
    clear hS32 hk32
    go_simp
    refine (HPy.out u2 _ J32.out (HTy.out.keep J32.out)).mono ?_
    rintro e w32 ⟨z2, rfl, hz2, k32⟩
    have K32 := Lib.hid (J32.out.trans k32)
    have N32 := Lib.hid (L32.out.trans k32)
    have HZ2 := Lib.hid hz2
    clear hz2
    refine hK.out _ _ k32 (HP.out _ K32.out) (fun _ => ?_)
    clear hK K
    (try simp only [Act.put, List.setIfInBounds_toArray, List.set_cons_zero, List.set_cons_succ])
    refine wpTw_go rfl (fun W33 hk33 hS33 K hK => ?_)
    have J33 := Lib.hid hS33.1
    have L33 := Lib.hid hk33
    clear hS33 hk33
    go_simp
    refine (HSm.out z z1 z2 _ (HZ1.out.keep (N32.out.trans L33.out)) (HZ2.out.keep L33.out)).mono ?_
    rintro e w33 ⟨rfl, k33⟩
    have K33 := Lib.hid (J33.out.trans k33)
    have N33 := Lib.hid (L33.out.trans k33)
    refine hK.out _ _ k33 (HP.out _ K33.out) (fun _ => ?_)
    clear hK K
    (try simp only [Act.put, List.setIfInBounds_toArray, List.set_cons_zero, List.set_cons_succ])
    (repeat (first | (refine wpTw_take (v := ?_) rfl ?_ (by rfl) ?_; rotate_left; (focus (intro w' hSw; (try dsimp only at hSw); go_simp; (try with_reducible rfl); done)); simp only [Act.put, List.setIfInBounds_toArray, List.set_cons_zero, List.set_cons_succ]) | (refine wpTw_skip rfl (by rfl) ?_; simp only [Act.put, List.setIfInBounds_toArray, List.set_cons_zero, List.set_cons_succ])))
    change wpTy _ _ _ _ _ _ _ _
    refine wpTy_last rfl (by decide) (fun K hK => ?_)
    go_simp
    refine hK.out _ _ (NoPanic.normal ?_)
    clear hK K
    (try simp only [Act.put, List.setIfInBounds_toArray, List.set_cons_zero, List.set_cons_succ])
    go_wp2_with fail
    go_ret
    exact ⟨rfl, HKb.out.trans K33.out⟩
  · have hc2 : (code != 0) = true := by simpa using hc
    have hc3 : (code == 0) = false := by simpa using hc
    clear HXa HYa HPa HAa HTa HTb HKa HP
    go_upto_region 7 with fail
    have HP : Hid (∀ W', Keeps w24 W' [] → (Keeps w24 W' [] ∧ W'.cell? ⟨xb, 0, none⟩ = some (.int .i64 u1.k) ∧ W'.cell? ⟨xb, 1, none⟩ = some (.int .i64 u1.n) ∧ W'.cell? ⟨xb, 2, none⟩ = some (.string u1.s) ∧ W'.cell? ⟨xb, 3, none⟩ = some (.slice u1.A u1.len u1.c) ∧ W'.cell? ⟨yb, 0, none⟩ = some (.int .i64 u2.k) ∧ W'.cell? ⟨yb, 1, none⟩ = some (.int .i64 u2.n) ∧ W'.cell? ⟨yb, 2, none⟩ = some (.string u2.s) ∧ W'.cell? ⟨yb, 3, none⟩ = some (.slice u2.A u2.len u2.c))) := fun W' k => by
      have b0 := HXb.out.keep k (by simp)
      have b1 := HYb.out.keep k (by simp)
      exact ⟨k, b0.cell 0, b0.cell 1, b0.cell 2, b0.cell 3, b1.cell 0, b1.cell 1, b1.cell 2, b1.cell 3⟩
    refine wp_region_tw (fun W' => Keeps w24 W' [] ∧ W'.cell? ⟨xb, 0, none⟩ = some (.int .i64 u1.k) ∧ W'.cell? ⟨xb, 1, none⟩ = some (.int .i64 u1.n) ∧ W'.cell? ⟨xb, 2, none⟩ = some (.string u1.s) ∧ W'.cell? ⟨xb, 3, none⟩ = some (.slice u1.A u1.len u1.c) ∧ W'.cell? ⟨yb, 0, none⟩ = some (.int .i64 u2.k) ∧ W'.cell? ⟨yb, 1, none⟩ = some (.int .i64 u2.n) ∧ W'.cell? ⟨yb, 2, none⟩ = some (.string u2.s) ∧ W'.cell? ⟨yb, 3, none⟩ = some (.slice u2.A u2.len u2.c)) 11 [.take 0, .take 1, .take 2, .take 3, .take 4, .take 6, .take 7, .go 5, .go 8, .go 9, .take 10] [(11, false)] (by kernel_rfl) (by kernel_rfl) (fun w1 w2 k h => HP.out _ (h.1.trans k)) (by exact HP.out _ (Keeps.refl _ []).drew) (fun _ => ?_)
    (repeat (first | (refine wpTw_take (v := ?_) rfl ?_ (by rfl) ?_; rotate_left; (focus (intro w' hSw; (try dsimp only at hSw); go_simp; (try with_reducible rfl); done)); simp only [Act.put, List.setIfInBounds_toArray, List.set_cons_zero, List.set_cons_succ]) | (refine wpTw_skip rfl (by rfl) ?_; simp only [Act.put, List.setIfInBounds_toArray, List.set_cons_zero, List.set_cons_succ])))
    refine wpTw_go rfl (fun W41 hk41 hS41 K hK => ?_)
    have J41 := Lib.hid hS41.1
    clear hS41 hk41
    go_simp
    refine hK.out _ _ (Keeps.refl _ []) (HP.out _ J41.out) (fun _ => ?_)
    clear hK K
    (try simp only [Act.put, List.setIfInBounds_toArray, List.set_cons_zero, List.set_cons_succ])
    refine wpTw_go rfl (fun W42 hk42 hS42 K hK => ?_)
    have J42 := Lib.hid hS42.1
    clear hS42 hk42
    go_simp
    refine hK.out _ _ (Keeps.refl _ []) (HP.out _ J42.out) (fun _ => ?_)
    clear hK K
    (try simp only [Act.put, List.setIfInBounds_toArray, List.set_cons_zero, List.set_cons_succ])
    refine wpTw_go rfl (fun W43 hk43 hS43 K hK => ?_)
    have J43 := Lib.hid hS43.1
    clear hS43 hk43
    go_simp
    refine hK.out _ _ (Keeps.refl _ []) (HP.out _ J43.out) (fun _ => ?_)
    clear hK K
    (try simp only [Act.put, List.setIfInBounds_toArray, List.set_cons_zero, List.set_cons_succ])
    (repeat (first | (refine wpTw_take (v := ?_) rfl ?_ (by rfl) ?_; rotate_left; (focus (intro w' hSw; (try dsimp only at hSw); go_simp; (try with_reducible rfl); done)); simp only [Act.put, List.setIfInBounds_toArray, List.set_cons_zero, List.set_cons_succ]) | (refine wpTw_skip rfl (by rfl) ?_; simp only [Act.put, List.setIfInBounds_toArray, List.set_cons_zero, List.set_cons_succ])))
    change wpTy _ _ _ _ _ _ _ _
    refine wpTy_last rfl (by decide) (fun K hK => ?_)
    go_simp
    refine hK.out _ _ (NoPanic.normal ?_)
    clear hK K
    (try simp only [Act.put, List.setIfInBounds_toArray, List.set_cons_zero, List.set_cons_succ])
    go_wp2_with fail
    go_ret
    exact ⟨rfl, HKb.out.trans J43.out⟩
end Go.Proofs.Ytjbomjnkjcafcaa
