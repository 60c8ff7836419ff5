/- TermTexts: the walk. Printed by gen_tmtexts.py. -/
import Derived.Test.YtjbomjnkjcafcaaDoorTmInts
import Derived.Test.YtjbomjnkjcafcaaDoorTmRText
import Derived.Test.YtjbomjnkjcafcaaDoorTmRVarsB
import Derived.Test.YtjbomjnkjcafcaaDoorTmParse
import Derived.Test.YtjbomjnkjcafcaaDoorTmTold
import Derived.Test.YtjbomjnkjcafcaaDoorTmTo
import Derived.Test.YtjbomjnkjcafcaaDoorTmSame
import Derived.Test.YtjbomjnkjcafcaaDoorTmSize
import Derived.Test.YtjbomjnkjcafcaaDoorText4
import Derived.Test.YtjbomjnkjcafcaaDoorFour
namespace Go.Proofs.YtjbomjnkjcafcaaDoor
open Go.RowKit

theorem str_eq_same (a b : Tm) (ha : tRight a = true) (hb : tRight b = true) : decide (stB (tText a) = stB (tText b)) = tSame a b := by
  rw [Bool.eq_iff_iff, decide_eq_true_eq, tSame_iff]
  refine ⟨fun h => text_inj ha hb numR_ok ?_, fun h => by rw [h]⟩
  have h2 : (stB (tText a)).data.toList = (stB (tText b)).data.toList := by rw [h]
  exact h2
/-- Two terms' cells, one behind the other. -/
theorem Rd.two {w : World} {b : Nat} {t : TypeId} {u v : TV} (h : Blk w b t ((tvE u ++ tvE v).toArray)) : Rd w (some ⟨b, 0, none⟩) ([u, v].flatMap tvE) := by
  intro i hi
  have hi' : i < 8 := by simpa [tvE] using hi
  refine ⟨b, 0, ([u, v].flatMap tvE)[i], rfl, h.lt, ?_, List.getElem?_eq_getElem hi⟩
  rw [h.cell (0 + i)]
  simp [List.flatMap_cons]
theorem Nums.at0 {K : IntKind} {w w' : World} {A : Option Addr} {l : List Int} (h : Nums K w w.heap.size A l) (k : Keeps w w' []) : Nums K w' w'.heap.size A l := (h.below k.toBelow).more k.size
theorem Trs.two {w : World} {S : Nat → Prop} {a b : Tm} {u v : TV} (h1 : Tr w S a u) (h2 : Tr w S b v) : Trs w S [a, b] [u, v] := (Trs.nil.snoc h1).snoc h2
set_option maxRecDepth 100000 in
set_option maxHeartbeats 6400000 in
theorem termTexts_any (t0 : Tm) (x0 : TV) (t1 : Tm) (x1 : TV) (w : World) (h0 : Tr w (fun _ => True) t0 x0) (h1 : Tr w (fun _ => True) t1 x1) (h : St w) : Calls Tryd.prog 5 #[tvV x0, tvV x1] w fun e w' => e = .returned (.bool true) ∧ Keeps w w' [] := by
  have HSt := Lib.hid h
  have HA0 := Lib.hid h0
  have HB0 := Lib.hid h1
  have HFx : Hid (∀ (t : Tm) (v : TV) (w : World), Tr w (fun _ => True) t v → Calls Tryd.prog 18 #[.agg #[.int .i64 v.k, .int .i64 v.n, .string v.s, .slice v.A v.len v.c]] w (TDone [] (fun b => w.heap.size ≤ b) w (lFix t))) := fun t v w h => lFix_any t v w h
  obtain ⟨a, ha⟩ : ∃ a, lFix t0 = a := ⟨_, rfl⟩
  obtain ⟨b, hb⟩ : ∃ b, lFix t1 = b := ⟨_, rfl⟩
  have rA : tRight a = true := by rw [← ha]; exact lFix_right t0
  have rB : tRight b = true := by rw [← hb]; exact lFix_right t1
  have zA : tSize a ≤ 121 := by rw [← ha]; exact lFix_size t0
  have zB : tSize b ≤ 121 := by rw [← hb]; exact lFix_size t1
  have HF0 : Hid (∀ w, Tr w (fun _ => True) t0 x0 → Calls Tryd.prog 18 #[.agg #[.int .i64 x0.k, .int .i64 x0.n, .string x0.s, .slice x0.A x0.len x0.c]] w (TDone [] (fun b => w.heap.size ≤ b) w a)) := fun w h => by rw [← ha]; exact HFx.out t0 x0 w h
  have HF1 : Hid (∀ w, Tr w (fun _ => True) t1 x1 → Calls Tryd.prog 18 #[.agg #[.int .i64 x1.k, .int .i64 x1.n, .string x1.s, .slice x1.A x1.len x1.c]] w (TDone [] (fun b => w.heap.size ≤ b) w b)) := fun w h => by rw [← hb]; exact HFx.out t1 x1 w h
  have HTo : Hid (∀ (t : Tm) (v : TV) (w : World), tSize t ≤ 121 → Tr w (fun _ => True) t v → Calls Tryd.prog 8 #[.agg #[.int .i64 v.k, .int .i64 v.n, .string v.s, .slice v.A v.len v.c]] w (TDone [] (fun b => w.heap.size ≤ b) w t)) := fun t v w h1 h2 => tmTo_any t v w h2 (by omega)
  have HFr : Hid (∀ (t : Tm) (v : TV) (w : World), tSize t ≤ 121 → Tr w (fun _ => True) t v → Calls Tryd.prog 12 #[.agg #[.int .i64 v.k, .int .i64 v.n, .string v.s, .slice v.A v.len v.c]] w (TDone [] (fun b => w.heap.size ≤ b) w t)) := fun t v w h1 h2 => tmFrom_any t v w h2 (by omega)
  have HTx : Hid (∀ (t : Tm) (v : TV) (w : World), tRight t = true → tSize t ≤ 121 → St w → Tr w (fun _ => True) t v → Calls Tryd.prog 15 #[.agg #[.int .i64 v.k, .int .i64 v.n, .string v.s, .slice v.A v.len v.c]] w fun e w' => e = .returned (.string (stB (tText t))) ∧ Keeps w w' []) := fun t v w h1 h2 h3 h4 => text_any t v w h4 h1 (by omega) h3.tab
  have HRx : Hid (∀ (t : Tm) (v : TV) (w : World), tRight t = true → tSize t ≤ 121 → Tr w (fun _ => True) t v → Calls Tryd.prog 19 #[.agg #[.int .i64 v.k, .int .i64 v.n, .string v.s, .slice v.A v.len v.c]] w fun e w' => e = .returned (.string (stB (tText t))) ∧ Keeps w w' []) := fun t v w h1 h2 h4 => refText_any t v w h4 h1 (by omega)
  have HSz : Hid (∀ (t : Tm) (v : TV) (w : World), tSize t ≤ 121 → Tr w (fun _ => True) t v → Calls Tryd.prog 20 #[.agg #[.int .i64 v.k, .int .i64 v.n, .string v.s, .slice v.A v.len v.c]] w fun e w' => e = .returned (.int .i64 (tSize t : Nat)) ∧ Keeps w w' []) := fun t v w h2 h4 => size_any t v w h4 (by omega)
  have HRz : Hid (∀ (t : Tm) (v : TV) (w : World), tSize t ≤ 121 → Tr w (fun _ => True) t v → Calls Tryd.prog 21 #[.agg #[.int .i64 v.k, .int .i64 v.n, .string v.s, .slice v.A v.len v.c]] w fun e w' => e = .returned (.int .i64 (tSize t : Nat)) ∧ Keeps w w' []) := fun t v w h2 h4 => refSize_any t v w h4 (by omega)
  have HSm : Hid (∀ (t t' : Tm) (u v : TV) (w : World), Tr w (fun _ => True) t u → Tr w (fun _ => True) t' v → Calls Tryd.prog 25 #[.agg #[.int .i64 u.k, .int .i64 u.n, .string u.s, .slice u.A u.len u.c], .agg #[.int .i64 v.k, .int .i64 v.n, .string v.s, .slice v.A v.len v.c]] w fun e w' => e = .returned (.bool (tSame t t')) ∧ Keeps w w' []) := fun t t' u v w h1 h2 => same_any t t' u v w h1 h2
  have HRs : Hid (∀ (t t' : Tm) (u v : TV) (w : World), Tr w (fun _ => True) t u → Tr w (fun _ => True) t' v → Calls Tryd.prog 11 #[.agg #[.int .i64 u.k, .int .i64 u.n, .string u.s, .slice u.A u.len u.c], .agg #[.int .i64 v.k, .int .i64 v.n, .string v.s, .slice v.A v.len v.c]] w fun e w' => e = .returned (.bool (tSame t t')) ∧ Keeps w w' []) := fun t t' u v w h1 h2 => refSame_any t t' u v w h1 h2
  have HPs : Hid (∀ w, St w → Calls Tryd.prog 13 #[.string (stB (tText a))] w fun e w' => ∃ v, e = .returned (.tuple #[.agg #[.int .i64 v.k, .int .i64 v.n, .string v.s, .slice v.A v.len v.c], .int .i64 0]) ∧ Tr w' (fun b => w.heap.size ≤ b) a v ∧ Keeps w w' []) := fun w hw => by
    have h1 := parse_any (stB (tText a)) w hw
    have h2 : (stB (tText a)).data.toList = tText a := rfl
    have h3 : parseP (tText a) = some a := by
      have := tText_few a rA
      unfold parseP
      rw [if_neg (by omega)]
      exact parse_cmp numP_ok rA
    rw [h2, h3] at h1
    exact h1
  have HSa : Hid (tSame a a = true) := (tSame_iff a a).2 rfl
  have HSe : Hid ((((stB (tText a)).toList == (stB (tText b)).toList) == tSame a b) = true) := by show _ = _; rw [str_eq, str_eq_same a b rA rB]; simp
  have HV : Hid (tSizes [a, b] ≤ 1000000) := by show _ ≤ _; simp only [tSizes]; omega
  have HRt : Hid (∀ x ∈ [a, b], tRight x = true) := by
    intro x hx
    simp only [List.mem_cons, List.not_mem_nil, or_false] at hx
    rcases hx with rfl | rfl
    · exact rA
    · exact rB
  have HVl : Hid ((tVars [a, b]).length ≤ 9223372036854775807) := by
    have h1 := tWalks_len [] [a, b]
    have h2 := HV.out
    show _ ≤ _
    unfold tVars
    simp only [List.length_nil] at h1
    omega
  have RA := Lib.hid rA
  have RB := Lib.hid rB
  have ZA := Lib.hid zA
  have ZB := Lib.hid zB
  clear h h0 h1 ha hb rA rB zA zB HFx
  unfold tvV
  go_enter Tryd.func5, Tryd.ntmps5
  go_upto_region 1 with fail
  have hB0 : Blk ((w.alloc (.cells #[.int .i64 x0.k, .int .i64 x0.n, .string x0.s, .slice x0.A x0.len x0.c] 24)).alloc (.cells #[.int .i64 x1.k, .int .i64 x1.n, .string x1.s, .slice x1.A x1.len x1.c] 24)) w.heap.size 24 #[.int .i64 x0.k, .int .i64 x0.n, .string x0.s, .slice x0.A x0.len x0.c] := (Blk.new _ _ _).alloc _
  have hB1 : Blk ((w.alloc (.cells #[.int .i64 x0.k, .int .i64 x0.n, .string x0.s, .slice x0.A x0.len x0.c] 24)).alloc (.cells #[.int .i64 x1.k, .int .i64 x1.n, .string x1.s, .slice x1.A x1.len x1.c] 24)) (w.heap.size + 1) 24 #[.int .i64 x1.k, .int .i64 x1.n, .string x1.s, .slice x1.A x1.len x1.c] := Blk.newAt _ _ (by simp)
  have hK0 : Keeps w ((w.alloc (.cells #[.int .i64 x0.k, .int .i64 x0.n, .string x0.s, .slice x0.A x0.len x0.c] 24)).alloc (.cells #[.int .i64 x1.k, .int .i64 x1.n, .string x1.s, .slice x1.A x1.len x1.c] 24)) [] := ((Keeps.refl w []).alloc _).alloc _
  generalize (w.alloc (.cells #[.int .i64 x0.k, .int .i64 x0.n, .string x0.s, .slice x0.A x0.len x0.c] 24)).alloc (.cells #[.int .i64 x1.k, .int .i64 x1.n, .string x1.s, .slice x1.A x1.len x1.c] 24) = w6 at hB0 hB1 hK0 ⊢
  have HQ0 := Lib.hid hB0
  have HQ1 := Lib.hid hB1
  have HK0 := Lib.hid hK0
  have HA1 := Lib.hid (HA0.out.keep hK0)
  have HB1 := Lib.hid (HB0.out.keep hK0)
  clear hB0 hB1 hK0 HA0 HB0
  have HP : Hid (∀ W', Keeps w6 W' [] → (Keeps w6 W' [] ∧ W'.cell? ⟨w.heap.size, 0, none⟩ = some (.int .i64 x0.k) ∧ W'.cell? ⟨w.heap.size, 1, none⟩ = some (.int .i64 x0.n) ∧ W'.cell? ⟨w.heap.size, 2, none⟩ = some (.string x0.s) ∧ W'.cell? ⟨w.heap.size, 3, none⟩ = some (.slice x0.A x0.len x0.c) ∧ W'.cell? ⟨(w.heap.size + 1), 0, none⟩ = some (.int .i64 x1.k) ∧ W'.cell? ⟨(w.heap.size + 1), 1, none⟩ = some (.int .i64 x1.n) ∧ W'.cell? ⟨(w.heap.size + 1), 2, none⟩ = some (.string x1.s) ∧ W'.cell? ⟨(w.heap.size + 1), 3, none⟩ = some (.slice x1.A x1.len x1.c))) := fun W' k => by
    have b0 := HQ0.out.keep k (by simp)
    have b1 := HQ1.out.keep k (by simp)
    exact ⟨k, b0.cell 0, b0.cell 1, b0.cell 2, b0.cell 3, b1.cell 0, b1.cell 1, b1.cell 2, b1.cell 3⟩
  refine wp_region_tw (fun W' => Keeps w6 W' [] ∧ W'.cell? ⟨w.heap.size, 0, none⟩ = some (.int .i64 x0.k) ∧ W'.cell? ⟨w.heap.size, 1, none⟩ = some (.int .i64 x0.n) ∧ W'.cell? ⟨w.heap.size, 2, none⟩ = some (.string x0.s) ∧ W'.cell? ⟨w.heap.size, 3, none⟩ = some (.slice x0.A x0.len x0.c) ∧ W'.cell? ⟨(w.heap.size + 1), 0, none⟩ = some (.int .i64 x1.k) ∧ W'.cell? ⟨(w.heap.size + 1), 1, none⟩ = some (.int .i64 x1.n) ∧ W'.cell? ⟨(w.heap.size + 1), 2, none⟩ = some (.string x1.s) ∧ W'.cell? ⟨(w.heap.size + 1), 3, none⟩ = some (.slice x1.A x1.len x1.c)) 4 [.take 0, .take 2, .go 1, .go 3] [(4, false), (5, false)] (by kernel_rfl) (by kernel_rfl) (fun w1 w2 k h => HP.out _ (h.1.trans k)) (by exact HP.out _ (Keeps.refl _ []).drew) (fun _ => ?_)
  (repeat (first | (refine wpTw_take (v := ?_) rfl ?_ (by rfl) ?_; rotate_left; (focus (intro w' hSw; (try dsimp only at hSw); go_simp; (try with_reducible rfl); done)); simp only [Act.put, List.setIfInBounds_toArray, List.set_cons_zero, List.set_cons_succ]) | (refine wpTw_skip rfl (by rfl) ?_; simp only [Act.put, List.setIfInBounds_toArray, List.set_cons_zero, List.set_cons_succ])))
  refine wpTw_go rfl (fun W1 hk1 hS1 K hK => ?_)
  have J1 := Lib.hid hS1.1
  have L1 := Lib.hid hk1
  clear hS1 hk1
  go_simp
  refine (HF0.out _ (HA1.out.keep J1.out)).mono ?_
  rintro e w1 ⟨a1, rfl, ha1, k1⟩
  have K1 := Lib.hid (J1.out.trans k1)
  have N1 := Lib.hid (L1.out.trans k1)
  have HA2 := Lib.hid ha1
  unfold tvV
  clear ha1
  refine hK.out _ _ k1 (HP.out _ K1.out) (fun _ => ?_)
  clear hK K
  (try simp only [Act.put, List.setIfInBounds_toArray, List.set_cons_zero, List.set_cons_succ])
  refine wpTw_go rfl (fun W2 hk2 hS2 K hK => ?_)
  have J2 := Lib.hid hS2.1
  have L2 := Lib.hid hk2
  clear hS2 hk2
  go_simp
  refine (HF1.out _ (HB1.out.keep J2.out)).mono ?_
  rintro e w2 ⟨b1, rfl, hb1, k2⟩
  have K2 := Lib.hid (J2.out.trans k2)
  have N2 := Lib.hid (L2.out.trans k2)
  have HB2 := Lib.hid hb1
  unfold tvV
  clear hb1
  refine hK.out _ _ k2 (HP.out _ K2.out) (fun _ => ?_)
  clear hK K
  (try simp only [Act.put, List.setIfInBounds_toArray, List.set_cons_zero, List.set_cons_succ])
  have q := HQ0.out.keep K2.out (by simp)
  have p := HQ1.out.keep K2.out (by simp)
  have qc0 := q.cell 0
  have qf0 := q.frozen 0
  have qc1 := q.cell 1
  have qf1 := q.frozen 1
  have qc2 := q.cell 2
  have qf2 := q.frozen 2
  have qc3 := q.cell 3
  have qf3 := q.frozen 3
  have pc0 := p.cell 0
  have pf0 := p.frozen 0
  have pc1 := p.cell 1
  have pf1 := p.frozen 1
  have pc2 := p.cell 2
  have pf2 := p.frozen 2
  have pc3 := p.cell 3
  have pf3 := p.frozen 3
  change wpTy _ _ _ _ _ _ _ _
  refine wpTy_tail rfl (by decide) (fun K hK => ?_)
  go_simp
  refine hK.out _ _ ?_; clear hK K; (try simp only [Act.put, List.setIfInBounds_toArray, List.set_cons_zero, List.set_cons_succ])
  refine wpTy_last rfl (by decide) (fun K hK => ?_)
  go_simp
  refine hK.out _ _ (NoPanic.normal ?_)
  clear hK K
  (try simp only [Act.put, List.setIfInBounds_toArray, List.set_cons_zero, List.set_cons_succ])
  change Exit.then _ _ _ _ (set4 (set4 w2 w.heap.size (.int .i64 a1.k) (.int .i64 a1.n) (.string a1.s) (.slice a1.A a1.len a1.c)) (w.heap.size + 1) (.int .i64 b1.k) (.int .i64 b1.n) (.string b1.s) (.slice b1.A b1.len b1.c))
  have hlt := HQ1.out.lt
  have hw1 := J1.out.size
  have hw2 := J2.out.size
  have HQ2 := Lib.hid ((q.put4 (.int .i64 a1.k) (.int .i64 a1.n) (.string a1.s) (.slice a1.A a1.len a1.c)).far4 (g' := w.heap.size + 1) (by omega) (.int .i64 b1.k) (.int .i64 b1.n) (.string b1.s) (.slice b1.A b1.len b1.c))
  have HQ3 := Lib.hid ((p.far4 (g' := w.heap.size) (by omega) (.int .i64 a1.k) (.int .i64 a1.n) (.string a1.s) (.slice a1.A a1.len a1.c)).put4 (.int .i64 b1.k) (.int .i64 b1.n) (.string b1.s) (.slice b1.A b1.len b1.c))
  have HK3 := Lib.hid (((HK0.out.trans K2.out).put4 (.inr (Nat.le_refl _)) (.int .i64 a1.k) (.int .i64 a1.n) (.string a1.s) (.slice a1.A a1.len a1.c)).put4 (g := w.heap.size + 1) (.inr (by omega)) (.int .i64 b1.k) (.int .i64 b1.n) (.string b1.s) (.slice b1.A b1.len b1.c))
  have HA3 := Lib.hid (((((HA2.out.keep N2.out).far4 (g := w.heap.size) (by omega) (.int .i64 a1.k) (.int .i64 a1.n) (.string a1.s) (.slice a1.A a1.len a1.c)).far4 (g := w.heap.size + 1) (by omega) (.int .i64 b1.k) (.int .i64 b1.n) (.string b1.s) (.slice b1.A b1.len b1.c))).mono (S' := fun _ => True) (fun _ _ => trivial))
  have HB3 := Lib.hid (((HB2.out.far4 (g := w.heap.size) (by omega) (.int .i64 a1.k) (.int .i64 a1.n) (.string a1.s) (.slice a1.A a1.len a1.c)).far4 (g := w.heap.size + 1) (by omega) (.int .i64 b1.k) (.int .i64 b1.n) (.string b1.s) (.slice b1.A b1.len b1.c)).mono (S' := fun _ => True) (fun _ _ => trivial))
  generalize set4 (set4 w2 w.heap.size (.int .i64 a1.k) (.int .i64 a1.n) (.string a1.s) (.slice a1.A a1.len a1.c)) (w.heap.size + 1) (.int .i64 b1.k) (.int .i64 b1.n) (.string b1.s) (.slice b1.A b1.len b1.c) = w3 at HQ2 HQ3 HK3 HA3 HB3 ⊢
  clear HQ0 HQ1 HK0 HA1 HB1 HA2 HB2 HP HF0 HF1 J1 J2 K1 K2 L1 L2 N1 N2 hlt hw1 hw2 q p k1 k2
  clear qc0 qf0 qc1 qf1 qc2 qf2 qc3 qf3 pc0 pf0 pc1 pf1 pc2 pf2 pc3 pf3
  go_upto_region 2 with fail
  have HP : Hid (∀ W', Keeps w3 W' [] → (Keeps w3 W' [] ∧ W'.cell? ⟨w.heap.size, 0, none⟩ = some (.int .i64 a1.k) ∧ W'.cell? ⟨w.heap.size, 1, none⟩ = some (.int .i64 a1.n) ∧ W'.cell? ⟨w.heap.size, 2, none⟩ = some (.string a1.s) ∧ W'.cell? ⟨w.heap.size, 3, none⟩ = some (.slice a1.A a1.len a1.c) ∧ W'.cell? ⟨(w.heap.size + 1), 0, none⟩ = some (.int .i64 b1.k) ∧ W'.cell? ⟨(w.heap.size + 1), 1, none⟩ = some (.int .i64 b1.n) ∧ W'.cell? ⟨(w.heap.size + 1), 2, none⟩ = some (.string b1.s) ∧ W'.cell? ⟨(w.heap.size + 1), 3, none⟩ = some (.slice b1.A b1.len b1.c))) := fun W' k => by
    have b0 := HQ2.out.keep k (by simp)
    have b1 := HQ3.out.keep k (by simp)
    exact ⟨k, b0.cell 0, b0.cell 1, b0.cell 2, b0.cell 3, b1.cell 0, b1.cell 1, b1.cell 2, b1.cell 3⟩
  refine wp_region_tw (fun W' => Keeps w3 W' [] ∧ W'.cell? ⟨w.heap.size, 0, none⟩ = some (.int .i64 a1.k) ∧ W'.cell? ⟨w.heap.size, 1, none⟩ = some (.int .i64 a1.n) ∧ W'.cell? ⟨w.heap.size, 2, none⟩ = some (.string a1.s) ∧ W'.cell? ⟨w.heap.size, 3, none⟩ = some (.slice a1.A a1.len a1.c) ∧ W'.cell? ⟨(w.heap.size + 1), 0, none⟩ = some (.int .i64 b1.k) ∧ W'.cell? ⟨(w.heap.size + 1), 1, none⟩ = some (.int .i64 b1.n) ∧ W'.cell? ⟨(w.heap.size + 1), 2, none⟩ = some (.string b1.s) ∧ W'.cell? ⟨(w.heap.size + 1), 3, none⟩ = some (.slice b1.A b1.len b1.c)) 6 [.op ⟨4, 5, fun b => .pointer (some ⟨b, 0, none⟩), 29, #[.int .i64 0, .int .i64 0, .string ⟨#[]⟩, .slice none 0 0]⟩, .op ⟨5, 6, fun b => .pointer (some ⟨b, 0, none⟩), 29, #[.int .i64 0, .int .i64 0, .string ⟨#[]⟩, .slice none 0 0]⟩, .take 0, .take 2, .go 1, .go 3, .cl] [(6, false), (7, false)] (by kernel_rfl) (by kernel_rfl) (fun w1 w2 k h => HP.out _ (h.1.trans k)) (by exact HP.out _ (Keeps.refl _ []).drew) (fun _ => ?_)
  (refine wpTw_op rfl rfl (by intro w' hSw; (try dsimp only at hSw); go_simp; (try with_reducible rfl); done) (by rfl) ?_; simp only [List.nil_append])
  (refine wpTw_op rfl rfl (by intro w' hSw; (try dsimp only at hSw); go_simp; (try with_reducible rfl); done) (by rfl) ?_; simp only [List.nil_append, List.cons_append])
  (repeat (first | (refine wpTw_take (v := ?_) rfl ?_ (by rfl) ?_; rotate_left; (focus (intro w' hSw; (try dsimp only at hSw); go_simp; (try with_reducible rfl); done)); simp only [Act.put, List.setIfInBounds_toArray, List.set_cons_zero, List.set_cons_succ]) | (refine wpTw_skip rfl (by rfl) ?_; simp only [Act.put, List.setIfInBounds_toArray, List.set_cons_zero, List.set_cons_succ])))
  refine wpTw_go rfl (fun W4 hk4 hS4 K hK => ?_)
  have J4 := Lib.hid hS4.1
  have L4 := Lib.hid hk4
  clear hS4 hk4
  go_simp
  refine (HTo.out a a1 _ ZA.out (HA3.out.keep J4.out)).mono ?_
  rintro e w4 ⟨c1, rfl, hc1, k4⟩
  have K4 := Lib.hid (J4.out.trans k4)
  have N4 := Lib.hid (L4.out.trans k4)
  have HC := Lib.hid hc1.here
  unfold tvV
  clear hc1
  refine hK.out _ _ k4 (HP.out _ K4.out) (fun _ => ?_)
  clear hK K
  (try simp only [Act.put, List.setIfInBounds_toArray, List.set_cons_zero, List.set_cons_succ])
  refine wpTw_go rfl (fun W5 hk5 hS5 K hK => ?_)
  have J5 := Lib.hid hS5.1
  have L5 := Lib.hid hk5
  clear hS5 hk5
  go_simp
  refine (HTo.out b b1 _ ZB.out (HB3.out.keep J5.out)).mono ?_
  rintro e w5 ⟨d1, rfl, hd1, k5⟩
  have K5 := Lib.hid (J5.out.trans k5)
  have N5 := Lib.hid (L5.out.trans k5)
  have HD := Lib.hid hd1.here
  unfold tvV
  clear hd1
  refine hK.out _ _ k5 (HP.out _ K5.out) (fun _ => ?_)
  clear hK K
  (try simp only [Act.put, List.setIfInBounds_toArray, List.set_cons_zero, List.set_cons_succ])
  refine wpTw_cl (fun W6 hk6 hS6 => ?_)
  intro xb xb_b xb_u xb_x xb_B
  dsimp only at xb_B
  intro yb yb_b yb_u yb_x yb_B
  dsimp only at yb_B
  have J6 := Lib.hid hS6.1
  have L6 := Lib.hid hk6
  clear hS6 hk6
  have xb_4 := xb_x (W4.heap.size, w4.heap.size) (by simp)
  dsimp only at xb_4
  have xb_5 := xb_x (W5.heap.size, w5.heap.size) (by simp)
  dsimp only at xb_5
  have xb_H := Lib.hid xb_B
  clear xb_x xb_B
  have yb_4 := yb_x (W4.heap.size, w4.heap.size) (by simp)
  dsimp only at yb_4
  have yb_5 := yb_x (W5.heap.size, w5.heap.size) (by simp)
  dsimp only at yb_5
  have yb_H := Lib.hid yb_B
  clear yb_x yb_B
  clear xb_u
  simp only [List.mem_cons, List.not_mem_nil, or_false] at yb_u
  (try simp only [Act.put, List.setIfInBounds_toArray, List.set_cons_zero, List.set_cons_succ])
  have q := xb_H.out
  have p := yb_H.out
  have qc0 := q.cell 0
  have qf0 := q.frozen 0
  have qc1 := q.cell 1
  have qf1 := q.frozen 1
  have qc2 := q.cell 2
  have qf2 := q.frozen 2
  have qc3 := q.cell 3
  have qf3 := q.frozen 3
  have pc0 := p.cell 0
  have pf0 := p.frozen 0
  have pc1 := p.cell 1
  have pf1 := p.frozen 1
  have pc2 := p.cell 2
  have pf2 := p.frozen 2
  have pc3 := p.cell 3
  have pf3 := p.frozen 3
  change wpTy _ _ _ _ _ _ _ _
  refine wpTy_tail rfl (by decide) (fun K hK => ?_)
  go_simp
  refine hK.out _ _ ?_; clear hK K; (try simp only [Act.put, List.setIfInBounds_toArray, List.set_cons_zero, List.set_cons_succ])
  refine wpTy_last rfl (by decide) (fun K hK => ?_)
  go_simp
  refine hK.out _ _ (NoPanic.normal ?_)
  clear hK K
  (try simp only [Act.put, List.setIfInBounds_toArray, List.set_cons_zero, List.set_cons_succ])
  change Exit.then _ _ _ _ (set4 (set4 W6 xb (.int .i64 c1.k) (.int .i64 c1.n) (.string c1.s) (.slice c1.A c1.len c1.c)) yb (.int .i64 d1.k) (.int .i64 d1.n) (.string d1.s) (.slice d1.A d1.len d1.c))
  have l2 := HQ2.out.lt
  have l3 := HQ3.out.lt
  have hw4 := J4.out.size
  have hw5 := J5.out.size
  have m4 := HK3.out.size
  have HP2 := Lib.hid (((HQ2.out.keep J6.out (by simp)).far4 (g' := xb) (by omega) (.int .i64 c1.k) (.int .i64 c1.n) (.string c1.s) (.slice c1.A c1.len c1.c)).far4 (g' := yb) (by omega) (.int .i64 d1.k) (.int .i64 d1.n) (.string d1.s) (.slice d1.A d1.len d1.c))
  have HP3 := Lib.hid (((HQ3.out.keep J6.out (by simp)).far4 (g' := xb) (by omega) (.int .i64 c1.k) (.int .i64 c1.n) (.string c1.s) (.slice c1.A c1.len c1.c)).far4 (g' := yb) (by omega) (.int .i64 d1.k) (.int .i64 d1.n) (.string d1.s) (.slice d1.A d1.len d1.c))
  have HX := Lib.hid ((q.put4 (.int .i64 c1.k) (.int .i64 c1.n) (.string c1.s) (.slice c1.A c1.len c1.c)).far4 (g' := yb) (by omega) (.int .i64 d1.k) (.int .i64 d1.n) (.string d1.s) (.slice d1.A d1.len d1.c))
  have HY := Lib.hid ((p.far4 (g' := xb) (by omega) (.int .i64 c1.k) (.int .i64 c1.n) (.string c1.s) (.slice c1.A c1.len c1.c)).put4 (.int .i64 d1.k) (.int .i64 d1.n) (.string d1.s) (.slice d1.A d1.len d1.c))
  have HK7 := Lib.hid (((HK3.out.trans J6.out).put4 (g := xb) (.inr (by omega)) (.int .i64 c1.k) (.int .i64 c1.n) (.string c1.s) (.slice c1.A c1.len c1.c)).put4 (g := yb) (.inr (by omega)) (.int .i64 d1.k) (.int .i64 d1.n) (.string d1.s) (.slice d1.A d1.len d1.c))
  have HA7 := Lib.hid ((((HA3.out.here.keep J6.out).far4 (g := xb) (by omega) (.int .i64 c1.k) (.int .i64 c1.n) (.string c1.s) (.slice c1.A c1.len c1.c)).far4 (g := yb) (by omega) (.int .i64 d1.k) (.int .i64 d1.n) (.string d1.s) (.slice d1.A d1.len d1.c)).mono (S' := fun _ => True) (fun _ _ => trivial))
  have HB7 := Lib.hid ((((HB3.out.here.keep J6.out).far4 (g := xb) (by omega) (.int .i64 c1.k) (.int .i64 c1.n) (.string c1.s) (.slice c1.A c1.len c1.c)).far4 (g := yb) (by omega) (.int .i64 d1.k) (.int .i64 d1.n) (.string d1.s) (.slice d1.A d1.len d1.c)).mono (S' := fun _ => True) (fun _ _ => trivial))
  have HC7 := Lib.hid ((((HC.out.keep (N5.out.trans L6.out)).far4 (g := xb) (by omega) (.int .i64 c1.k) (.int .i64 c1.n) (.string c1.s) (.slice c1.A c1.len c1.c)).far4 (g := yb) (by omega) (.int .i64 d1.k) (.int .i64 d1.n) (.string d1.s) (.slice d1.A d1.len d1.c)).mono (S' := fun _ => True) (fun _ _ => trivial))
  have HD7 := Lib.hid ((((HD.out.keep L6.out).far4 (g := xb) (by omega) (.int .i64 c1.k) (.int .i64 c1.n) (.string c1.s) (.slice c1.A c1.len c1.c)).far4 (g := yb) (by omega) (.int .i64 d1.k) (.int .i64 d1.n) (.string d1.s) (.slice d1.A d1.len d1.c)).mono (S' := fun _ => True) (fun _ _ => trivial))
  generalize set4 (set4 W6 xb (.int .i64 c1.k) (.int .i64 c1.n) (.string c1.s) (.slice c1.A c1.len c1.c)) yb (.int .i64 d1.k) (.int .i64 d1.n) (.string d1.s) (.slice d1.A d1.len d1.c) = w7 at HP2 HP3 HX HY HK7 HA7 HB7 HC7 HD7 ⊢
  clear HQ2 HQ3 HK3 HA3 HB3 HC HD HP J4 J5 J6 K4 K5 L4 L5 L6 N4 N5 l2 l3 hw4 hw5 m4 q p k4 k5 xb_4 xb_5 yb_4 yb_5 xb_b yb_b yb_u xb_H yb_H
  clear qc0 qf0 qc1 qf1 qc2 qf2 qc3 qf3 pc0 pf0 pc1 pf1 pc2 pf2 pc3 pf3
  go_upto_region 3 with fail
  have z0 := HX.out.cell 0
  have z1 := HX.out.cell 1
  have z2 := HX.out.cell 2
  have z3 := HX.out.cell 3
  go_wp2_with fail
  refine (HTx.out a c1 _ RA.out ZA.out (HSt.out.keep HK7.out) HC7.out).mono ?_
  rintro e w8 ⟨rfl, k8⟩
  have HS8 := Lib.hid (HSt.out.keep (HK7.out.trans k8))
  have HK8 := Lib.hid k8
  clear k8 z0 z1 z2 z3
  go_wp2_with fail
  refine (HPs.out _ HS8.out).mono ?_
  rintro e w9 ⟨e1, rfl, he1, k9⟩
  have HK9 := Lib.hid (HK8.out.trans k9)
  have HE := Lib.hid (he1.mono (S' := fun _ => True) (fun _ _ => trivial))
  clear k9 he1 HK8 HS8
  go_upto_region 5 with fail
  have kk : Keeps w9 (w9.alloc (.cells #[.int .i64 e1.k, .int .i64 e1.n, .string e1.s, .slice e1.A e1.len e1.c] 29)) [] := (Keeps.refl w9 []).alloc _
  have KK := Lib.hid (HK9.out.trans kk)
  have HE0 := Lib.hid (HE.out.keep kk)
  have HT0 : Hid (Blk (w9.alloc (.cells #[.int .i64 e1.k, .int .i64 e1.n, .string e1.s, .slice e1.A e1.len e1.c] 29)) w9.heap.size 29 #[.int .i64 e1.k, .int .i64 e1.n, .string e1.s, .slice e1.A e1.len e1.c]) := Blk.new _ _ _
  have HP0 := Lib.hid (HP2.out.keep KK.out (by simp))
  have HP1 := Lib.hid (HP3.out.keep KK.out (by simp))
  have HX0 := Lib.hid (HX.out.keep KK.out (by simp))
  have HY0 := Lib.hid (HY.out.keep KK.out (by simp))
  have HA0 := Lib.hid (HA7.out.keep KK.out)
  have HB0 := Lib.hid (HB7.out.keep KK.out)
  have HC0 := Lib.hid (HC7.out.keep KK.out)
  have HD0 := Lib.hid (HD7.out.keep KK.out)
  have HK0 := Lib.hid (HK7.out.trans KK.out)
  generalize w9.heap.size = tb at *
  generalize w9.alloc (.cells #[.int .i64 e1.k, .int .i64 e1.n, .string e1.s, .slice e1.A e1.len e1.c] 29) = w6 at *
  clear HP2 HP3 HX HY HK7 HA7 HB7 HC7 HD7 HK9 HE KK kk
  have HP : Hid (∀ W', Keeps w6 W' [] → (Keeps w6 W' [] ∧ W'.cell? ⟨w.heap.size, 0, none⟩ = some (.int .i64 a1.k) ∧ W'.cell? ⟨w.heap.size, 1, none⟩ = some (.int .i64 a1.n) ∧ W'.cell? ⟨w.heap.size, 2, none⟩ = some (.string a1.s) ∧ W'.cell? ⟨w.heap.size, 3, none⟩ = some (.slice a1.A a1.len a1.c) ∧ W'.cell? ⟨(w.heap.size + 1), 0, none⟩ = some (.int .i64 b1.k) ∧ W'.cell? ⟨(w.heap.size + 1), 1, none⟩ = some (.int .i64 b1.n) ∧ W'.cell? ⟨(w.heap.size + 1), 2, none⟩ = some (.string b1.s) ∧ W'.cell? ⟨(w.heap.size + 1), 3, none⟩ = some (.slice b1.A b1.len b1.c) ∧ W'.cell? ⟨xb, 0, none⟩ = some (.int .i64 c1.k) ∧ W'.cell? ⟨xb, 1, none⟩ = some (.int .i64 c1.n) ∧ W'.cell? ⟨xb, 2, none⟩ = some (.string c1.s) ∧ W'.cell? ⟨xb, 3, none⟩ = some (.slice c1.A c1.len c1.c) ∧ W'.cell? ⟨yb, 0, none⟩ = some (.int .i64 d1.k) ∧ W'.cell? ⟨yb, 1, none⟩ = some (.int .i64 d1.n) ∧ W'.cell? ⟨yb, 2, none⟩ = some (.string d1.s) ∧ W'.cell? ⟨yb, 3, none⟩ = some (.slice d1.A d1.len d1.c) ∧ W'.cell? ⟨tb, 0, none⟩ = some (.int .i64 e1.k) ∧ W'.cell? ⟨tb, 1, none⟩ = some (.int .i64 e1.n) ∧ W'.cell? ⟨tb, 2, none⟩ = some (.string e1.s) ∧ W'.cell? ⟨tb, 3, none⟩ = some (.slice e1.A e1.len e1.c))) := fun W' k => by
    have b0 := HP0.out.keep k (by simp)
    have b1 := HP1.out.keep k (by simp)
    have b2 := HX0.out.keep k (by simp)
    have b3 := HY0.out.keep k (by simp)
    have b4 := HT0.out.keep k (by simp)
    exact ⟨k, b0.cell 0, b0.cell 1, b0.cell 2, b0.cell 3, b1.cell 0, b1.cell 1, b1.cell 2, b1.cell 3, b2.cell 0, b2.cell 1, b2.cell 2, b2.cell 3, b3.cell 0, b3.cell 1, b3.cell 2, b3.cell 3, b4.cell 0, b4.cell 1, b4.cell 2, b4.cell 3⟩
  refine wp_region_tw (fun W' => Keeps w6 W' [] ∧ W'.cell? ⟨w.heap.size, 0, none⟩ = some (.int .i64 a1.k) ∧ W'.cell? ⟨w.heap.size, 1, none⟩ = some (.int .i64 a1.n) ∧ W'.cell? ⟨w.heap.size, 2, none⟩ = some (.string a1.s) ∧ W'.cell? ⟨w.heap.size, 3, none⟩ = some (.slice a1.A a1.len a1.c) ∧ W'.cell? ⟨(w.heap.size + 1), 0, none⟩ = some (.int .i64 b1.k) ∧ W'.cell? ⟨(w.heap.size + 1), 1, none⟩ = some (.int .i64 b1.n) ∧ W'.cell? ⟨(w.heap.size + 1), 2, none⟩ = some (.string b1.s) ∧ W'.cell? ⟨(w.heap.size + 1), 3, none⟩ = some (.slice b1.A b1.len b1.c) ∧ W'.cell? ⟨xb, 0, none⟩ = some (.int .i64 c1.k) ∧ W'.cell? ⟨xb, 1, none⟩ = some (.int .i64 c1.n) ∧ W'.cell? ⟨xb, 2, none⟩ = some (.string c1.s) ∧ W'.cell? ⟨xb, 3, none⟩ = some (.slice c1.A c1.len c1.c) ∧ W'.cell? ⟨yb, 0, none⟩ = some (.int .i64 d1.k) ∧ W'.cell? ⟨yb, 1, none⟩ = some (.int .i64 d1.n) ∧ W'.cell? ⟨yb, 2, none⟩ = some (.string d1.s) ∧ W'.cell? ⟨yb, 3, none⟩ = some (.slice d1.A d1.len d1.c) ∧ W'.cell? ⟨tb, 0, none⟩ = some (.int .i64 e1.k) ∧ W'.cell? ⟨tb, 1, none⟩ = some (.int .i64 e1.n) ∧ W'.cell? ⟨tb, 2, none⟩ = some (.string e1.s) ∧ W'.cell? ⟨tb, 3, none⟩ = some (.slice e1.A e1.len e1.c)) 54 [.go 0, .take 1, .take 2, .take 3, .go 4, .take 5, .take 6, .take 7, .take 8, .take 9, .take 10, .take 11, .take 12, .take 14, .go 13, .go 15, .take 16, .take 17, .take 18, .take 20, .go 19, .go 21, .take 22, .take 23, .take 24, .take 25, .take 26, .take 29, .take 30, .op ⟨31, 56, fun b => .slice (some ⟨b, 0, none⟩) 2 2, 24, #[.int .i64 a1.k, .int .i64 a1.n, .string a1.s, .slice a1.A a1.len a1.c, .int .i64 b1.k, .int .i64 b1.n, .string b1.s, .slice b1.A b1.len b1.c]⟩, .go 27, .go 28, .cl, .go 32, .go 33, .take 34, .take 35, .take 36, .take 37, .take 39, .take 40, .go 38, .go 41, .take 42, .take 43, .take 44, .take 45, .take 46, .take 49, .take 50, .go 47, .take 48, .go 51, .take 52, .take 53] [(54, false)] (by kernel_rfl) (by kernel_rfl) (fun w1 w2 k h => HP.out _ (h.1.trans k)) (by exact HP.out _ (Keeps.refl _ []).drew) (fun _ => ?_)
  refine wpTw_go rfl (fun W20 hk20 hS20 K hK => ?_)
  have J20 := Lib.hid hS20.1
  have L20 := Lib.hid hk20
  clear hS20 hk20
  go_simp
  refine (told3_any _ (HSt.out.keep (HK0.out.trans J20.out))).mono ?_
  rintro e w20 ⟨rfl, k20⟩
  have K20 := Lib.hid (J20.out.trans k20)
  have N20 := Lib.hid (L20.out.trans k20)
  refine hK.out _ _ k20 (HP.out _ K20.out) (fun _ => ?_)
  clear hK K
  (repeat (first | (refine wpTw_take (v := ?_) rfl ?_ (by rfl) ?_; rotate_left; (focus (intro w' hSw; (try dsimp only at hSw); go_simp; (try with_reducible rfl); done)); simp only [Act.put, List.setIfInBounds_toArray, List.set_cons_zero, List.set_cons_succ]) | (refine wpTw_skip rfl (by rfl) ?_; simp only [Act.put, List.setIfInBounds_toArray, List.set_cons_zero, List.set_cons_succ])))
  refine wpTw_go rfl (fun W21 hk21 hS21 K hK => ?_)
  have J21 := Lib.hid hS21.1
  have L21 := Lib.hid hk21
  clear hS21 hk21
  go_simp
  refine (HRx.out a a1 _ RA.out ZA.out (HA0.out.keep J21.out)).mono ?_
  rintro e w21 ⟨rfl, k21⟩
  have K21 := Lib.hid (J21.out.trans k21)
  have N21 := Lib.hid (L21.out.trans k21)
  refine hK.out _ _ k21 (HP.out _ K21.out) (fun _ => ?_)
  clear hK K
  (try simp only [Act.put, List.setIfInBounds_toArray, List.set_cons_zero, List.set_cons_succ])
  (repeat (first | (refine wpTw_take (v := ?_) rfl ?_ (by rfl) ?_; rotate_left; (focus (intro w' hSw; (try dsimp only at hSw); go_simp; (try with_reducible rfl); done)); simp only [Act.put, List.setIfInBounds_toArray, List.set_cons_zero, List.set_cons_succ]) | (refine wpTw_skip rfl (by rfl) ?_; simp only [Act.put, List.setIfInBounds_toArray, List.set_cons_zero, List.set_cons_succ])))
  refine wpTw_go rfl (fun W22 hk22 hS22 K hK => ?_)
  have J22 := Lib.hid hS22.1
  have L22 := Lib.hid hk22
  clear hS22 hk22
  go_simp
  refine (HFr.out a e1 _ ZA.out (HE0.out.keep J22.out)).mono ?_
  rintro e w22 ⟨f1, rfl, hf1, k22⟩
  have K22 := Lib.hid (J22.out.trans k22)
  have N22 := Lib.hid (L22.out.trans k22)
  have HF := Lib.hid (hf1.mono (S' := fun _ => True) (fun _ _ => trivial))
  unfold tvV
  clear hf1
  refine hK.out _ _ k22 (HP.out _ K22.out) (fun _ => ?_)
  clear hK K
  (try simp only [Act.put, List.setIfInBounds_toArray, List.set_cons_zero, List.set_cons_succ])
  (repeat (first | (refine wpTw_take (v := ?_) rfl ?_ (by rfl) ?_; rotate_left; (focus (intro w' hSw; (try dsimp only at hSw); go_simp; (try with_reducible rfl); done)); simp only [Act.put, List.setIfInBounds_toArray, List.set_cons_zero, List.set_cons_succ]) | (refine wpTw_skip rfl (by rfl) ?_; simp only [Act.put, List.setIfInBounds_toArray, List.set_cons_zero, List.set_cons_succ])))
  refine wpTw_go rfl (fun W23 hk23 hS23 K hK => ?_)
  have J23 := Lib.hid hS23.1
  have L23 := Lib.hid hk23
  clear hS23 hk23
  go_simp
  refine (HRs.out a a f1 a1 _ (HF.out.keep L23.out) (HA0.out.keep J23.out)).mono ?_
  rintro e w23 ⟨rfl, k23⟩
  have K23 := Lib.hid (J23.out.trans k23)
  have N23 := Lib.hid (L23.out.trans k23)
  rw [HSa.out]
  refine hK.out _ _ k23 (HP.out _ K23.out) (fun _ => ?_)
  clear hK K
  (try simp only [Act.put, List.setIfInBounds_toArray, List.set_cons_zero, List.set_cons_succ])
  (repeat (first | (refine wpTw_take (v := ?_) rfl ?_ (by rfl) ?_; rotate_left; (focus (intro w' hSw; (try dsimp only at hSw); go_simp; (try with_reducible rfl); done)); simp only [Act.put, List.setIfInBounds_toArray, List.set_cons_zero, List.set_cons_succ]) | (refine wpTw_skip rfl (by rfl) ?_; simp only [Act.put, List.setIfInBounds_toArray, List.set_cons_zero, List.set_cons_succ])))
  refine wpTw_go rfl (fun W24 hk24 hS24 K hK => ?_)
  have J24 := Lib.hid hS24.1
  have L24 := Lib.hid hk24
  clear hS24 hk24
  go_simp
  refine (HSz.out a c1 _ ZA.out (HC0.out.keep J24.out)).mono ?_
  rintro e w24 ⟨rfl, k24⟩
  have K24 := Lib.hid (J24.out.trans k24)
  have N24 := Lib.hid (L24.out.trans k24)
  refine hK.out _ _ k24 (HP.out _ K24.out) (fun _ => ?_)
  clear hK K
  (try simp only [Act.put, List.setIfInBounds_toArray, List.set_cons_zero, List.set_cons_succ])
  refine wpTw_go rfl (fun W25 hk25 hS25 K hK => ?_)
  have J25 := Lib.hid hS25.1
  have L25 := Lib.hid hk25
  clear hS25 hk25
  go_simp
  refine (HRz.out a a1 _ ZA.out (HA0.out.keep J25.out)).mono ?_
  rintro e w25 ⟨rfl, k25⟩
  have K25 := Lib.hid (J25.out.trans k25)
  have N25 := Lib.hid (L25.out.trans k25)
  refine hK.out _ _ k25 (HP.out _ K25.out) (fun _ => ?_)
  clear hK K
  (try simp only [Act.put, List.setIfInBounds_toArray, List.set_cons_zero, List.set_cons_succ])
  (repeat (first | (refine wpTw_take (v := ?_) rfl ?_ (by rfl) ?_; rotate_left; (focus (intro w' hSw; (try dsimp only at hSw); go_simp; (try with_reducible rfl); done)); simp only [Act.put, List.setIfInBounds_toArray, List.set_cons_zero, List.set_cons_succ]) | (refine wpTw_skip rfl (by rfl) ?_; simp only [Act.put, List.setIfInBounds_toArray, List.set_cons_zero, List.set_cons_succ])))
  (refine wpTw_op rfl rfl (by intro w' hSw; (try dsimp only at hSw); go_simp; (try with_reducible rfl); done) (by rfl) ?_; simp only [List.nil_append])
  refine wpTw_go rfl (fun W26 hk26 hS26 K hK => ?_)
  have J26 := Lib.hid hS26.1
  clear hS26 hk26
  go_simp
  have k26 : Keeps W26 (W26.alloc (.cells #[.int .i64 c1.k, .int .i64 c1.n, .string c1.s, .slice c1.A c1.len c1.c, .int .i64 d1.k, .int .i64 d1.n, .string d1.s, .slice d1.A d1.len d1.c] 29)) [] := (Keeps.refl _ []).alloc _
  have HG := Lib.hid (Blk.new W26 29 #[.int .i64 c1.k, .int .i64 c1.n, .string c1.s, .slice c1.A c1.len c1.c, .int .i64 d1.k, .int .i64 d1.n, .string d1.s, .slice d1.A d1.len d1.c])
  have K26 := Lib.hid (J26.out.trans k26)
  refine hK.out _ _ k26 (HP.out _ K26.out) (fun _ => ?_)
  clear hK K
  (try simp only [Act.put, List.setIfInBounds_toArray, List.set_cons_zero, List.set_cons_succ])
  generalize W26.alloc (.cells #[.int .i64 c1.k, .int .i64 c1.n, .string c1.s, .slice c1.A c1.len c1.c, .int .i64 d1.k, .int .i64 d1.n, .string d1.s, .slice d1.A d1.len d1.c] 29) = w26 at *
  generalize W26.heap.size = gb at *
  refine wpTw_go rfl (fun W27 hk27 hS27 K hK => ?_)
  have J27 := Lib.hid hS27.1
  have L27 := Lib.hid hk27
  clear hS27 hk27
  go_simp
  refine (vars_any [a, b] [c1, d1] (some ⟨gb, 0, none⟩) 2 2 _ (Trs.two (HC0.out.keep J27.out) (HD0.out.keep J27.out)) (Rd.two (HG.out.keep L27.out (by simp))) rfl HV.out).mono ?_
  rintro e w27 ⟨A1, n1, rfl, hn1, k27⟩
  have K27 := Lib.hid (J27.out.trans k27)
  have N27 := Lib.hid (L27.out.trans k27)
  have HN1 := Lib.hid hn1
  clear hn1
  refine hK.out _ _ k27 (HP.out _ K27.out) (fun _ => ?_)
  clear hK K
  (try simp only [Act.put, List.setIfInBounds_toArray, List.set_cons_zero, List.set_cons_succ])
  refine wpTw_cl (fun W28 hk28 hS28 => ?_)
  intro hb hb_b hb_u hb_x hb_B
  dsimp only at hb_B
  have J28 := Lib.hid hS28.1
  have L28 := Lib.hid hk28
  clear hS28 hk28
  have hb_27 := hb_x (W27.heap.size, w27.heap.size) (by simp)
  dsimp only at hb_27
  have hb_H := Lib.hid hb_B
  clear hb_x hb_B
  clear hb_u
  (try simp only [Act.put, List.setIfInBounds_toArray, List.set_cons_zero, List.set_cons_succ])
  refine wpTw_go rfl (fun W29 hk29 hS29 K hK => ?_)
  have J29 := Lib.hid hS29.1
  have L29 := Lib.hid hk29
  clear hS29 hk29
  go_simp
  refine (refVars_any [a, b] [a1, b1] (some ⟨hb, 0, none⟩) 2 2 _ (Trs.two (HA0.out.keep J29.out) (HB0.out.keep J29.out)) (Rd.two (hb_H.out.keep L29.out (by simp))) rfl HV.out HRt.out).mono ?_
  rintro e w29 ⟨A2, n2, rfl, hn2, k29⟩
  have K29 := Lib.hid (J29.out.trans k29)
  have N29 := Lib.hid (L29.out.trans k29)
  have HN2 := Lib.hid hn2
  clear hn2
  refine hK.out _ _ k29 (HP.out _ K29.out) (fun _ => ?_)
  clear hK K
  (try simp only [Act.put, List.setIfInBounds_toArray, List.set_cons_zero, List.set_cons_succ])
  refine wpTw_go rfl (fun W30 hk30 hS30 K hK => ?_)
  have J30 := Lib.hid hS30.1
  have L30 := Lib.hid hk30
  clear hS30 hk30
  go_simp
  refine (ints_any A1 A2 _ n1 n2 (tVars [a, b]) _ rfl HVl.out (HN1.out.at0 (L28.out.trans (N29.out.trans L30.out))) (HN2.out.at0 L30.out)).mono ?_
  rintro e w30 ⟨rfl, k30⟩
  have K30 := Lib.hid (J30.out.trans k30)
  have N30 := Lib.hid (L30.out.trans k30)
  refine hK.out _ _ k30 (HP.out _ K30.out) (fun _ => ?_)
  clear hK K
  (try simp only [Act.put, List.setIfInBounds_toArray, List.set_cons_zero, List.set_cons_succ])
  (repeat (first | (refine wpTw_take (v := ?_) rfl ?_ (by rfl) ?_; rotate_left; (focus (intro w' hSw; (try dsimp only at hSw); go_simp; (try with_reducible rfl); done)); simp only [Act.put, List.setIfInBounds_toArray, List.set_cons_zero, List.set_cons_succ]) | (refine wpTw_skip rfl (by rfl) ?_; simp only [Act.put, List.setIfInBounds_toArray, List.set_cons_zero, List.set_cons_succ])))
  refine wpTw_go rfl (fun W31 hk31 hS31 K hK => ?_)
  have J31 := Lib.hid hS31.1
  have L31 := Lib.hid hk31
  clear hS31 hk31
  go_simp
  refine (HSm.out a b c1 d1 _ (HC0.out.keep J31.out) (HD0.out.keep J31.out)).mono ?_
  rintro e w31 ⟨rfl, k31⟩
  have K31 := Lib.hid (J31.out.trans k31)
  have N31 := Lib.hid (L31.out.trans k31)
  refine hK.out _ _ k31 (HP.out _ K31.out) (fun _ => ?_)
  clear hK K
  (try simp only [Act.put, List.setIfInBounds_toArray, List.set_cons_zero, List.set_cons_succ])
  refine wpTw_go rfl (fun W32 hk32 hS32 K hK => ?_)
  have J32 := Lib.hid hS32.1
  have L32 := Lib.hid hk32
  clear hS32 hk32
  go_simp
  refine (HRs.out a b a1 b1 _ (HA0.out.keep J32.out) (HB0.out.keep J32.out)).mono ?_
  rintro e w32 ⟨rfl, k32⟩
  have K32 := Lib.hid (J32.out.trans k32)
  have N32 := Lib.hid (L32.out.trans k32)
  refine hK.out _ _ k32 (HP.out _ K32.out) (fun _ => ?_)
  clear hK K
  (try simp only [Act.put, List.setIfInBounds_toArray, List.set_cons_zero, List.set_cons_succ])
  (repeat (first | (refine wpTw_take (v := ?_) rfl ?_ (by rfl) ?_; rotate_left; (focus (intro w' hSw; (try dsimp only at hSw); go_simp; (try with_reducible rfl); done)); simp only [Act.put, List.setIfInBounds_toArray, List.set_cons_zero, List.set_cons_succ]) | (refine wpTw_skip rfl (by rfl) ?_; simp only [Act.put, List.setIfInBounds_toArray, List.set_cons_zero, List.set_cons_succ])))
  refine wpTw_go rfl (fun W33 hk33 hS33 K hK => ?_)
  have J33 := Lib.hid hS33.1
  have L33 := Lib.hid hk33
  clear hS33 hk33
  go_simp
  refine (HTx.out b d1 _ RB.out ZB.out (HSt.out.keep (HK0.out.trans J33.out)) (HD0.out.keep J33.out)).mono ?_
  rintro e w33 ⟨rfl, k33⟩
  have K33 := Lib.hid (J33.out.trans k33)
  have N33 := Lib.hid (L33.out.trans k33)
  refine hK.out _ _ k33 (HP.out _ K33.out) (fun _ => ?_)
  clear hK K
  (try simp only [Act.put, List.setIfInBounds_toArray, List.set_cons_zero, List.set_cons_succ])
  (repeat (first | (refine wpTw_take (v := ?_) rfl ?_ (by rfl) ?_; rotate_left; (focus (intro w' hSw; (try dsimp only at hSw); go_simp; (try with_reducible rfl); done)); simp only [Act.put, List.setIfInBounds_toArray, List.set_cons_zero, List.set_cons_succ]) | (refine wpTw_skip rfl (by rfl) ?_; simp only [Act.put, List.setIfInBounds_toArray, List.set_cons_zero, List.set_cons_succ])))
  refine wpTw_go rfl (fun W34 hk34 hS34 K hK => ?_)
  have J34 := Lib.hid hS34.1
  have L34 := Lib.hid hk34
  clear hS34 hk34
  go_simp
  refine (HRs.out a b a1 b1 _ (HA0.out.keep J34.out) (HB0.out.keep J34.out)).mono ?_
  rintro e w34 ⟨rfl, k34⟩
  have K34 := Lib.hid (J34.out.trans k34)
  have N34 := Lib.hid (L34.out.trans k34)
  refine hK.out _ _ k34 (HP.out _ K34.out) (fun _ => ?_)
  clear hK K
  (try simp only [Act.put, List.setIfInBounds_toArray, List.set_cons_zero, List.set_cons_succ])
  (repeat (first | (refine wpTw_take (v := ?_) rfl ?_ (by rfl) ?_; rotate_left; (focus (intro w' hSw; (try dsimp only at hSw); go_simp; (try with_reducible rfl); done)); simp only [Act.put, List.setIfInBounds_toArray, List.set_cons_zero, List.set_cons_succ]) | (refine wpTw_skip rfl (by rfl) ?_; simp only [Act.put, List.setIfInBounds_toArray, List.set_cons_zero, List.set_cons_succ])))
  change wpTy _ _ _ _ _ _ _ _
  refine wpTy_last rfl (by decide) (fun K hK => ?_)
  go_simp
  refine hK.out _ _ (NoPanic.normal ?_)
  clear hK K
  (try simp only [Act.put, List.setIfInBounds_toArray, List.set_cons_zero, List.set_cons_succ])
  go_wp2_with fail
  go_ret
  exact ⟨by rw [HSe.out]; rfl, HK0.out.trans K34.out⟩
end Go.Proofs.YtjbomjnkjcafcaaDoor
