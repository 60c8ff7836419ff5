/- The document's Unify. Printed by gen_mgrunify.py. -/
import Derived.Test.YtjbomjnkjcafcaaMgRUState
import Derived.Test.YtjbomjnkjcafcaaMgUnify
import Derived.Test.YtjbomjnkjcafcaaMgRTop
import Derived.Test.YtjbomjnkjcafcaaTmRVarsB
import Derived.Test.YtjbomjnkjcafcaaText4
namespace Go.Proofs.Ytjbomjnkjcafcaa
open Go.RowKit

theorem el_rleft : ElemT Try.prog 68 67 8 := elemT_of (b := 112) (z := .agg #[.int .i64 0, .int .i64 0, .string ⟨#[]⟩, .slice none 0 0, .int .i64 0, .int .i64 0, .string ⟨#[]⟩, .slice none 0 0]) Try.underlying68 (by kernel_rfl) (by omega) rfl (by omega)
theorem wrapI (z : Nat) (h : z ≤ 9223372036854775807) : IntKind.i64.wrap (z : Int) = (z : Int) := by
  simp only [IntKind.wrap_i64]
  omega
theorem cut_run (lb off k lc : Nat) (hlc : k + 1 ≤ lc) (W : World) : (Instr.slice 68 (.slice (some ⟨lb, off, none⟩) (k + 1) lc) (some (.int .i64 1)) none none).run Try.prog W = .ok (.slice (cutA lb off lc) k (lc - 1)) W := by
  have hz : (Go.sizeOf (Try.prog.elem 68)).run Try.prog W = .ok 8 W := by simp [go_sem]
  have h := run_slice_l (P := Try.prog) W 68 (some ⟨lb, off, none⟩) (k + 1) lc (by kernel_rfl) .i64 1 (by omega) (by omega)
  rw [h, hz]
  simp only [Result.andThen, sliced, cutA]
  have e1 : (1 : Int).toNat = 1 := rfl
  rw [e1]
  by_cases h1 : lc = 1
  · subst h1; simp
  · rw [if_neg h1, if_neg (by omega)]
    simp [add_lit]
set_option maxRecDepth 100000 in
set_option maxHeartbeats 6400000 in
theorem refUnify_any (Vs : List Int) (h9 : Few9 Vs) (h6 : Vs.length ≤ 6) (a b : Tm) (va vb : TV) (w : World) (ht : Tr w (fun _ => True) a va) (ht' : Tr w (fun _ => True) b vb) (ha : In Vs a) (hb : In Vs b) (da : tDep a ≤ d0) (db : tDep b ≤ d0)
    (f : Nat) (RES : Res) (hrun : uRun f [(a, b)] [] = some RES) : Calls Try.prog 13 #[tvV va, tvV vb] w (UDone w RES) := by
  have HUW := Lib.hid (UW.start ha hb da db)
  have HRun := Lib.hid hrun
  have HA := Lib.hid (ht.here.mono (S' := fun b => b < w.heap.size) fun b h => h.2)
  have HB := Lib.hid (ht'.here.mono (S' := fun b => b < w.heap.size) fun b h => h.2)
  have H9 := Lib.hid h9
  have H6 := Lib.hid h6
  clear ht ht' ha hb da db hrun h9 h6
  unfold tvV
  have hK0 : Keeps w (((w.alloc (.cells #[.int .i64 va.k, .int .i64 va.n, .string va.s, .slice va.A va.len va.c] 24)).alloc (.cells #[.int .i64 vb.k, .int .i64 vb.n, .string vb.s, .slice vb.A vb.len vb.c] 24)).alloc (.cells #[.int .i64 va.k, .int .i64 va.n, .string va.s, .slice va.A va.len va.c, .int .i64 vb.k, .int .i64 vb.n, .string vb.s, .slice vb.A vb.len vb.c] 67)) [] := (((Keeps.refl w []).alloc _).alloc _).alloc _
  have hR0 : Rd (((w.alloc (.cells #[.int .i64 va.k, .int .i64 va.n, .string va.s, .slice va.A va.len va.c] 24)).alloc (.cells #[.int .i64 vb.k, .int .i64 vb.n, .string vb.s, .slice vb.A vb.len vb.c] 24)).alloc (.cells #[.int .i64 va.k, .int .i64 va.n, .string va.s, .slice va.A va.len va.c, .int .i64 vb.k, .int .i64 vb.n, .string vb.s, .slice vb.A vb.len vb.c] 67)) (some ⟨w.heap.size + 1 + 1, 0, none⟩) ([(va, vb)].flatMap lvE) := by
    have h1 := Rd.of_blk (Blk.newAt (w := (w.alloc (.cells #[.int .i64 va.k, .int .i64 va.n, .string va.s, .slice va.A va.len va.c] 24)).alloc (.cells #[.int .i64 vb.k, .int .i64 vb.n, .string vb.s, .slice vb.A vb.len vb.c] 24)) (n := w.heap.size + 1 + 1) 67 #[.int .i64 va.k, .int .i64 va.n, .string va.s, .slice va.A va.len va.c, .int .i64 vb.k, .int .i64 vb.n, .string vb.s, .slice vb.A vb.len vb.c] (by simp))
    simpa [lvE] using h1
  have HU0 : Hid (RS w (((w.alloc (.cells #[.int .i64 va.k, .int .i64 va.n, .string va.s, .slice va.A va.len va.c] 24)).alloc (.cells #[.int .i64 vb.k, .int .i64 vb.n, .string vb.s, .slice vb.A vb.len vb.c] 24)).alloc (.cells #[.int .i64 va.k, .int .i64 va.n, .string va.s, .slice va.A va.len va.c, .int .i64 vb.k, .int .i64 vb.n, .string vb.s, .slice vb.A vb.len vb.c] 67)) [] [(a, b)] none 0 0 (some ⟨w.heap.size + 1 + 1, 0, none⟩) 1 1 [(va, vb)]) :=
    ⟨⟨⟨[], Prs.nil, Rd.nil⟩⟩, rfl, fun _ => rfl, hR0, RL.nil.cons (HA.out.keep hK0) (HB.out.keep hK0), rfl, (fun h => by cases h), Nat.le_refl _, hK0⟩
  clear hK0 hR0
  go_enter Try.func13, Try.ntmps13
  go_wp2_with fail
  go_loopg [6, 7] f (fun gk x6 x7 wr => ∃ s st A m c LA k lc ws, x6 = .slice A m c ∧ x7 = .slice LA k lc ∧ uRun gk st s = some RES ∧ UW Vs st s ∧ RS w wr s st A m c LA k lc ws)
  case atStart => exact ⟨[], [(a, b)], none, 0, 0, some ⟨w.heap.size + 1 + 1, 0, none⟩, 1, 1, [(va, vb)], rfl, rfl, HRun.out, HUW.out, HU0.out⟩
  case round =>
    clear HRun HUW HU0 HA HB
    obtain ⟨s, st, A, m, c, LA, k, lc, ws, rfl, rfl, hrun, huw, hus⟩ := hrel
    cases st with
    | nil =>
      obtain ⟨w1, rfl⟩ : ∃ w1, w1 = wr := ⟨wr, rfl⟩
      obtain rfl : k = 0 := by have := hus.sk; simpa using this.symm
      have HRes : Hid (RES = .ok s) := by
        cases gk with
        | zero => simp [uRun] at hrun
        | succ g => simp [uRun] at hrun; exact hrun.symm
      have hs6 := (huw.short H6.out).2
      have hm6 : m ≤ 6 := by have := hus.sm; omega
      have HN : Hid ((s.map (·.1)).Nodup) := by obtain ⟨g, r, ls, hv⟩ := huw; exact hv.ui.si.nd
      have HRt : Hid (∀ p ∈ s, tRight p.2 = true) := huw.sWid
      have HAp : Hid (∀ (t : Tm) (v : TV) (W' : World), tRight t = true → Keeps w1 W' [] → Tr W' (fun b => b < w.heap.size) t v → Calls Try.prog 34 #[.slice A m c, .agg #[.int .i64 v.k, .int .i64 v.n, .string v.s, .slice v.A v.len v.c]] W' (ApDone (fun b => b < w.heap.size) W' (apD s deepest t))) := fun t v W' h1 k h2 => by
        obtain ⟨g, r, ls, hv⟩ := huw
        have h3 := refApply_any hv.ui.si A m c hus.sm (by omega) t h1 v W' (fun b => b < w.heap.size) (fun b hb => Nat.lt_of_lt_of_le hb (hus.keep.trans k).size) h2 (hus.sub.keep k)
        rw [← hv.ui.si.ap deepest t h1 fun v _ hb => hv.ui.deep H6.out v hb] at h3
        exact h3
      have HM := Lib.hid hus.sm
      have HS := Lib.hid hus.sub
      have HKr := Lib.hid hus.keep
      clear hus huw hrun hs6
      go_wp2_with fail
      go_loopw [12, 13] (fun x12 x13 wo => ∃ (j : Nat) (OA : Option Addr) (oc : Nat) (us : List (Int × TV)), j ≤ m ∧ x13 = .int .i64 j ∧ x12 = .slice OA j oc ∧ wo.ownsRow w1.heap.size 74 5 (.slice OA j oc) j (us.flatMap pvE) ∧ Prs wo (fun b => b ∉ ownL (.slice OA j oc)) (((putS s).take j).foldl insK []) us ∧ Keeps w1 wo []) (fun _ i _ => m - (intOf i).toNat)
      case atStart => exact ⟨0, none, 0, [], Nat.zero_le _, rfl, rfl, World.ownsRow_nil _ _ _ _, Prs.nil, Keeps.refl _ _⟩
      case round =>
        obtain ⟨j, OA, oc, us, hj, rfl, rfl, ho, hp, hk⟩ := hrel
        obtain ⟨wo, rfl⟩ : ∃ wo, wo = wr := ⟨wr, rfl⟩
        have HO := Lib.hid ho
        have HP := Lib.hid hp
        have HK := Lib.hid hk
        clear ho hp
        by_cases hlt : j < m
        · obtain ⟨⟨x, t⟩, hx⟩ := at_of HM.out hlt
          obtain ⟨v', b, off, htr, rfl, hb, p0, p1, p2, p3, p4⟩ := HS.out.get hx
          have HX := Lib.hid hx
          have HTr := Lib.hid htr
          have HWt : Hid (tRight t = true) := HRt.out (x, t) (List.mem_of_getElem? hx)
          have b0 : (0 : Int) ≤ (j : Int) := Int.natCast_nonneg _
          have b1 : (j : Int) < (m : Int) := by omega
          have HW : Hid (∀ W', Keeps wo W' (ownL (.slice OA j oc)) → (W'.cell? ⟨b, off + j * 5, none⟩ = some (.int .i64 x) ∧ W'.cell? ⟨b, off + j * 5 + 1, none⟩ = some (.int .i64 v'.k) ∧ W'.cell? ⟨b, off + j * 5 + 2, none⟩ = some (.int .i64 v'.n) ∧ W'.cell? ⟨b, off + j * 5 + 3, none⟩ = some (.string v'.s) ∧ W'.cell? ⟨b, off + j * 5 + 4, none⟩ = some (.slice v'.A v'.len v'.c))) := fun W' kk =>
            have kc : ∀ i x, w1.cell? ⟨b, i, none⟩ = some x → W'.cell? ⟨b, i, none⟩ = some x := fun i x hx => ((kk.cell (p := ⟨b, i, none⟩) (Nat.lt_of_lt_of_le hb HK.out.size) (own_out HO.out hb)).trans (HK.out.cell0 hb)).trans hx
            ⟨kc _ _ p0, kc _ _ p1, kc _ _ p2, kc _ _ p3, kc _ _ p4⟩
          clear hx htr hk p0 p1 p2 p3 p4 hb
          go_upto_region 25 with fail
          refine wp_region_tx (fun W' => W'.cell? ⟨b, off + j * 5, none⟩ = some (.int .i64 x) ∧ W'.cell? ⟨b, off + j * 5 + 1, none⟩ = some (.int .i64 v'.k) ∧ W'.cell? ⟨b, off + j * 5 + 2, none⟩ = some (.int .i64 v'.n) ∧ W'.cell? ⟨b, off + j * 5 + 3, none⟩ = some (.string v'.s) ∧ W'.cell? ⟨b, off + j * 5 + 4, none⟩ = some (.slice v'.A v'.len v'.c)) [(0, true), (1, true), (2, true), (3, true), (4, true), (5, true), (6, true), (7, true), (8, true), (9, true), (10, true), (11, true), (12, false), (13, true), (14, false), (15, false), (16, false)] (by kernel_rfl) (by kernel_rfl) (HW.out _ ((Keeps.refl _ _).drew)) (fun hHeld => ?_)
          (repeat (first | (refine wpTx_take (v := ?_) rfl (by assumption) ?_ (by rfl) ?_; rotate_left; (focus (intro w' hSw; (try dsimp only at hSw); go_simp; (try with_reducible rfl); done)); simp only [Act.put, List.setIfInBounds_toArray, List.set_cons_zero, List.set_cons_succ]) | (refine wpTx_skip rfl (by assumption) (by rfl) ?_; simp only [Act.put, List.setIfInBounds_toArray, List.set_cons_zero, List.set_cons_succ])))
          refine wpTx_go rfl (fun K hK => ?_)
          go_simp
          refine (HAp.out t v' _ HWt.out (HK.out.trans (Keeps.refl _ []).drew) (HTr.out.keep (HK.out.trans (Keeps.refl _ []).drew))).mono ?_
          rintro e w3 ⟨u, rfl, hu, k3⟩
          have HU : Hid (Tr w3 (fun b => b < w.heap.size ∨ wo.heap.size ≤ b) (apD s deepest t) u) := hu
          unfold tvV
          clear hu
          refine hK.out _ _ ?_ ?_
          · exact HW.out _ (((Keeps.refl _ []).drew.trans k3).to_ _)
          (clear hHeld; intro hHeld; clear hK K; (try simp only [Act.put, List.setIfInBounds_toArray, List.set_cons_zero, List.set_cons_succ]))
          (repeat (first | (refine wpTx_take (v := ?_) rfl (by assumption) ?_ (by rfl) ?_; rotate_left; (focus (intro w' hSw; (try dsimp only at hSw); go_simp; (try with_reducible rfl); done)); simp only [Act.put, List.setIfInBounds_toArray, List.set_cons_zero, List.set_cons_succ]) | (refine wpTx_skip rfl (by assumption) (by rfl) ?_; simp only [Act.put, List.setIfInBounds_toArray, List.set_cons_zero, List.set_cons_succ])))
          refine wpTx_go rfl (fun K hK => ?_)
          go_simp
          refine hK.out _ _ ?_ ?_
          · exact HW.out _ ((((Keeps.refl _ []).drew.trans k3).alloc _).to_ _)
          (clear hHeld; intro hHeld; clear hK K; (try simp only [Act.put, List.setIfInBounds_toArray, List.set_cons_zero, List.set_cons_succ]))
          refine wpTx_go rfl (fun K hK => ?_)
          have hk4 : Keeps wo (w3.alloc (.cells #[.int .i64 x, .int .i64 u.k, .int .i64 u.n, .string u.s, .slice u.A u.len u.c] 74)) [] := ((Keeps.refl _ []).drew.trans k3).alloc _
          have hs3 : wo.heap.size ≤ w3.heap.size := ((Keeps.refl _ []).drew.trans k3).size
          have hs4 : w1.heap.size ≤ wo.heap.size := HK.out.size
          refine step_app _ el_rpair (by rfl) _ _ (by rfl) w1.heap.size OA j oc (us.flatMap pvE) (by rfl) (own_keep0 HO.out hk4) (some ⟨w3.heap.size, 0, none⟩) 1 1 (pvE (x, u)) (by rfl) (Rd.one w3 _ (pvE (x, u))) rfl (by simp) (by simp [pvE, Value.oneCell']) (by omega) (by simp; omega) ?_
          intro A' c' w2 hown hgrow hat
          have kg : Keeps (w3.alloc (.cells #[.int .i64 x, .int .i64 u.k, .int .i64 u.n, .string u.s, .slice u.A u.len u.c] 74)) w2 (ownL (.slice OA j oc)) := Keeps.ofGrown hgrow
          have hno : ∀ b, b < (w3.alloc (.cells #[.int .i64 x, .int .i64 u.k, .int .i64 u.n, .string u.s, .slice u.A u.len u.c] 74)).heap.size → b ∉ ownL (.slice OA j oc) → b ∉ ownL (.slice A' (j + 1) c') := fun b hb hn hm => by
            unfold ownL at hn hm
            simp only [Option.mem_toList] at hn hm
            rcases hat with h | h
            · rw [h] at hm; exact hn hm
            · rw [h] at hm
              simp only [Option.some.injEq] at hm
              omega
          have hkr := HKr.out.size
          have HN2 : Hid (w2.ownsRow w1.heap.size 74 5 (.slice A' (j + 1) c') (j + 1) ((us ++ [(x, u)]).flatMap pvE) ∧ Prs w2 (fun b => b ∉ ownL (.slice A' (j + 1) c')) (((putS s).take j).foldl insK []) us ∧ Tr w2 (fun b => b ∉ ownL (.slice A' (j + 1) c')) (apD s deepest t) u ∧ Keeps w1 w2 []) := by
            refine ⟨by rw [List.flatMap_append]; simpa using hown, ?_, ?_, HK.out.trans hk4 |>.app (own_keep0 HO.out hk4) (Nat.le_refl _) hgrow⟩
            · exact ((HP.out.keep hk4).here.keepL kg (fun b hb h => h.1 hb)).mono (S' := fun b => b ∉ ownL (.slice A' (j + 1) c')) fun b hb => hno b hb.2 hb.1
            · have h2 : Tr (w3.alloc (.cells #[.int .i64 x, .int .i64 u.k, .int .i64 u.n, .string u.s, .slice u.A u.len u.c] 74)) (fun b => b ∉ ownL (.slice OA j oc)) (apD s deepest t) u := (HU.out.keep ((Keeps.refl w3 []).alloc _)).mono fun b hb hm => by
                have := own_lt HO.out hm
                omega
              exact (h2.here.keepL kg (fun b hb h => h.1 hb)).mono fun b hb => hno b hb.2 hb.1
          clear hown hat hno
          refine hK.out _ _ ?_ ?_
          · exact HW.out _ (hk4.rest (Keeps.ofGrown hgrow))
          (clear hHeld; intro hHeld; clear hK K; (try simp only [Act.put, List.setIfInBounds_toArray, List.set_cons_zero, List.set_cons_succ]))
          refine wpTx_last rfl (fun K hK => ?_)
          go_simp
          refine hK.out _ _ (NoPanic.normal ?_); clear hK K; (try simp only [Act.put, List.setIfInBounds_toArray, List.set_cons_zero, List.set_cons_succ])
          clear hgrow kg k3 HU HO HP HW hk4 hs3 hs4 hkr HTr HAp
          obtain ⟨g5, rfl⟩ : ∃ g5, A' = some ⟨g5, 0, none⟩ := by obtain ⟨g5, h, _⟩ := own_at HN2.out.1 (by omega); exact ⟨g5, h⟩
          obtain ⟨sb, hsb⟩ : ∃ sb, ((putS s).take j).foldl insK [] = sb := ⟨_, rfl⟩
          rw [hsb] at HN2
          have hpl : (putS s).length = m := by unfold putS; rw [List.length_map]; exact HM.out
          have hfold := ins_all ((putS s).take j) [] List.Pairwise.nil (by
            have h1 := HN.out
            have h2 : ((putS s).map (·.1)).Nodup := by unfold putS; rw [List.map_map]; exact h1
            simpa using h2.sublist ((List.take_sublist j (putS s)).map _))
          rw [hsb] at hfold
          have HAsc := Lib.hid hfold.1
          have hul : us.length = j := by
            have h1 := HN2.out.2.1.len
            have h2 := hfold.2.length_eq
            rw [List.nil_append, List.length_take, hpl] at h2
            omega
          have HUl := Lib.hid hul
          have HStep : Hid (((putS s).take (j + 1)).foldl insK [] = insK sb (x, apD s deepest t)) := by
            have h1 : (putS s)[j]? = some (x, apD s deepest t) := by unfold putS; rw [List.getElem?_map, HX.out]; rfl
            show _ = _
            rw [List.take_add_one, h1, List.foldl_append, hsb]
            rfl
          have HIn : Hid (w2.ownsRow w1.heap.size 74 5 (.slice (some ⟨g5, 0, none⟩) (j + 1) c') (j + 1) ((ins us j (x, u)).flatMap pvE)) := by
            have h1 := HN2.out.1
            show World.ownsRow _ _ _ _ _ _ _
            rw [← hul, ins_end, hul]
            exact h1
          have b5 : wrap64 ((j : Int) + 1 - 1) = (j : Int) := by unfold wrap64; omega
          clear hsb hpl hfold hul HX
          go_wp2_with fail
          go_loopw [14] (fun x14 wi => ∃ (z : Nat) (zi : Int), z ≤ j ∧ zi = (z : Int) ∧ x14 = .int .i64 zi ∧ wi.ownsRow w1.heap.size 74 5 (.slice (some ⟨g5, 0, none⟩) (j + 1) c') (j + 1) ((ins us z (x, u)).flatMap pvE) ∧ (∀ q ∈ sb.drop z, x < q.1) ∧ Keeps w2 wi [g5]) (fun x14 _ => (intOf x14).toNat)
          case atStart =>
            refine ⟨j, _, Nat.le_refl _, rfl, rfl, HIn.out, ?_, Keeps.refl _ _⟩
            have h1 := HN2.out.2.1.len
            have h2 := HUl.out
            rw [List.drop_eq_nil_of_le (by omega)]
            simp
          case round =>
            obtain ⟨z, zi, hz, hzi, rfl, hown, hhi, hki⟩ := hrel
            obtain ⟨wi, rfl⟩ : ∃ wi, wi = wr := ⟨wr, rfl⟩
            have HEnd : Hid (∀ z, insK sb (x, apD s deepest t) = ins sb z (x, apD s deepest t) → z ≤ j → ∀ wi, wi.ownsRow w1.heap.size 74 5 (.slice (some ⟨g5, 0, none⟩) (j + 1) c') (j + 1) ((ins us z (x, u)).flatMap pvE) → Keeps w2 wi [g5] → Prs wi (fun b => b ∉ ownL (.slice (some ⟨g5, 0, none⟩) (j + 1) c')) (((putS s).take (j + 1)).foldl insK []) (ins us z (x, u)) ∧ Keeps w1 wi []) := fun z h1 h2 wi h3 h4 => by
              have hg5 : ∀ b ∈ [g5], ¬ b ∉ ownL (.slice (some ⟨g5, 0, none⟩) (j + 1) c') := fun b hb hn => hn (by simpa [ownL, Value.ownBlock] using hb)
              have hgw : w1.heap.size ≤ g5 := (own_lt HN2.out.1 (b := g5) (by simp [ownL, Value.ownBlock])).1
              refine ⟨?_, HN2.out.2.2.2.past6 h4 (fun q hq => .inr (by simp at hq; omega))⟩
              rw [HStep.out, h1]
              have h5 := HN2.out.2.1.len
              have h6 := HUl.out
              exact (HN2.out.2.1.keepL h4 hg5).ins (HN2.out.2.2.1.keepL h4 hg5) (by omega)
            cases z with
            | zero =>
              obtain rfl : zi = 0 := by simpa using hzi
              have HD := Lib.hid (HEnd.out 0 (insK_low (by simpa using hhi)) hz _ hown hki)
              have HOw := Lib.hid hown
              clear HEnd hown hki hhi hzi
              go_upto_region 27 with fail
              refine wp_region_tx (fun W' => True) [(0, true), (1, true), (2, true), (3, true), (4, true), (5, true), (6, true), (7, true), (8, true), (9, true), (10, true), (11, true), (12, true), (13, true), (14, true), (15, false)] (by kernel_rfl) (by kernel_rfl) (trivial) (fun hHeld => ?_)
              (repeat (first | (refine wpTx_take (v := ?_) rfl (by assumption) ?_ (by rfl) ?_; rotate_left; (focus (intro w' hSw; (try dsimp only at hSw); go_simp; (try with_reducible rfl); done)); simp only [Act.put, List.setIfInBounds_toArray, List.set_cons_zero, List.set_cons_succ]) | (refine wpTx_skip rfl (by assumption) (by rfl) ?_; simp only [Act.put, List.setIfInBounds_toArray, List.set_cons_zero, List.set_cons_succ])))
              refine wpTx_last rfl (fun K hK => ?_)
              go_simp
              refine hK.out _ _ (NoPanic.normal ?_); clear hK K; (try simp only [Act.put, List.setIfInBounds_toArray, List.set_cons_zero, List.set_cons_succ])
              go_wp2_with fail
              go_roundw
              case rel => exact ⟨j + 1, some ⟨g5, 0, none⟩, c', _, by omega, by go_num, rfl, own_keep0 HOw.out (Keeps.refl _ []).drew, HD.out.1.keep (Keeps.refl _ []).drew, HD.out.2.drew⟩
              case measure => simp [intOf]; omega
            | succ z =>
              obtain rfl : zi = (z : Int) + 1 := by omega
              obtain ⟨q, hq⟩ := at_of HUl.out (show z < j by omega)
              obtain ⟨qt, hqt⟩ := HN2.out.2.1.key hq
              have HQ := Lib.hid hq
              have HQt := Lib.hid hqt
              have hzl : z < us.length := by have := HUl.out; omega
              have hf0 := (Rd.of_own hown).field pvE_len (k := z) (x := q) (by rw [ins_ahead hzl]; exact hq) (by omega)
              have hf1 := (Rd.of_own hown).field pvE_len (k := z + 1) (x := (x, u)) (ins_here (by omega) _) (by omega)
              obtain ⟨g', off', e', hgl, hc0⟩ := hf0
              injection e' with e'
              injection e' with e1 e2
              subst e1 e2
              obtain ⟨g', off', e', _, hc1⟩ := hf1
              injection e' with e'
              injection e' with e1 e2
              subst e1 e2
              have q0 : wi.cell? ⟨g5, z * 5, none⟩ = some (.int .i64 q.1) := by have := hc0 0 _ rfl; simpa using this
              have q1 : wi.cell? ⟨g5, z * 5 + 1, none⟩ = some (.int .i64 q.2.k) := by have := hc0 1 _ rfl; simpa using this
              have q2 : wi.cell? ⟨g5, z * 5 + 2, none⟩ = some (.int .i64 q.2.n) := by have := hc0 2 _ rfl; simpa using this
              have q3 : wi.cell? ⟨g5, z * 5 + 3, none⟩ = some (.string q.2.s) := by have := hc0 3 _ rfl; simpa using this
              have q4 : wi.cell? ⟨g5, z * 5 + 4, none⟩ = some (.slice q.2.A q.2.len q.2.c) := by have := hc0 4 _ rfl; simpa using this
              have r0 : wi.cell? ⟨g5, (z + 1) * 5, none⟩ = some (.int .i64 x) := by have := hc1 0 _ rfl; simpa using this
              have r1 : wi.cell? ⟨g5, (z + 1) * 5 + 1, none⟩ = some (.int .i64 u.k) := by have := hc1 1 _ rfl; simpa using this
              have r2 : wi.cell? ⟨g5, (z + 1) * 5 + 2, none⟩ = some (.int .i64 u.n) := by have := hc1 2 _ rfl; simpa using this
              have r3 : wi.cell? ⟨g5, (z + 1) * 5 + 3, none⟩ = some (.string u.s) := by have := hc1 3 _ rfl; simpa using this
              have r4 : wi.cell? ⟨g5, (z + 1) * 5 + 4, none⟩ = some (.slice u.A u.len u.c) := by have := hc1 4 _ rfl; simpa using this
              have HOw := Lib.hid hown
              have HHi := Lib.hid hhi
              have HKi := Lib.hid hki
              have hfz : ∀ i, wi.frozen? ⟨g5, i, none⟩ = false := by obtain ⟨cur, hb, _⟩ := own_block hown; exact hb.frozen
              have b6 : wrap64 ((z : Int) + 1 - 1) = (z : Int) := by unfold wrap64; omega
              have bw : IntKind.i64.wrap (z : Int) = (z : Int) := wrapI z (by omega)
              have ba : (0 : Int) ≤ (z : Int) + 1 := by omega
              have b7 : (z : Int) < (j : Int) + 1 := by omega
              have b8 : (z : Int) + 1 < (j : Int) + 1 := by omega
              have b9 : (0 : Int) ≤ (z : Int) := Int.natCast_nonneg _
              clear hown hhi hki hc0 hc1 hzi hq hqt
              by_cases hgt : x < q.1
              · have d0 : decide (x < q.1) = true := by simpa using hgt
                go_upto_region 27 with fail
                refine wp_region_tx (fun W' => W'.cell? ⟨g5, z * 5, none⟩ = some (.int .i64 q.1) ∧ W'.cell? ⟨g5, z * 5 + 1, none⟩ = some (.int .i64 q.2.k) ∧ W'.cell? ⟨g5, z * 5 + 2, none⟩ = some (.int .i64 q.2.n) ∧ W'.cell? ⟨g5, z * 5 + 3, none⟩ = some (.string q.2.s) ∧ W'.cell? ⟨g5, z * 5 + 4, none⟩ = some (.slice q.2.A q.2.len q.2.c) ∧ W'.cell? ⟨g5, (z + 1) * 5, none⟩ = some (.int .i64 x) ∧ W'.cell? ⟨g5, (z + 1) * 5 + 1, none⟩ = some (.int .i64 u.k) ∧ W'.cell? ⟨g5, (z + 1) * 5 + 2, none⟩ = some (.int .i64 u.n) ∧ W'.cell? ⟨g5, (z + 1) * 5 + 3, none⟩ = some (.string u.s) ∧ W'.cell? ⟨g5, (z + 1) * 5 + 4, none⟩ = some (.slice u.A u.len u.c)) [(0, true), (1, true), (2, true), (3, true), (4, true), (5, true), (6, true), (7, true), (8, true), (9, true), (10, true), (11, true), (12, true), (13, true), (14, true), (15, false)] (by kernel_rfl) (by kernel_rfl) (⟨q0, q1, q2, q3, q4, r0, r1, r2, r3, r4⟩) (fun hHeld => ?_)
                (repeat (first | (refine wpTx_take (v := ?_) rfl (by assumption) ?_ (by rfl) ?_; rotate_left; (focus (intro w' hSw; (try dsimp only at hSw); go_simp; (try with_reducible rfl); done)); simp only [Act.put, List.setIfInBounds_toArray, List.set_cons_zero, List.set_cons_succ]) | (refine wpTx_skip rfl (by assumption) (by rfl) ?_; simp only [Act.put, List.setIfInBounds_toArray, List.set_cons_zero, List.set_cons_succ])))
                refine wpTx_last rfl (fun K hK => ?_)
                go_simp
                refine hK.out _ _ (NoPanic.normal ?_); clear hK K; (try simp only [Act.put, List.setIfInBounds_toArray, List.set_cons_zero, List.set_cons_succ])
                have HO2 : Hid ((set5 (set5 wi g5 (z * 5) (x, u)) g5 ((z + 1) * 5) q).ownsRow w1.heap.size 74 5 (.slice (some ⟨g5, 0, none⟩) (j + 1) c') (j + 1) ((ins us z (x, u)).flatMap pvE)) := by
                  have hl : z + 1 < (ins us (z + 1) (x, u)).length := by rw [ins_len]; omega
                  have h1 := own_set5 (own_set5 HOw.out (j := z) (by omega) (x, u)) (j := z + 1) (by rw [List.length_set]; omega) q
                  rw [ins_swap HQ.out] at h1
                  exact h1
                have HK2 : Hid (Keeps w2 (set5 (set5 wi g5 (z * 5) (x, u)) g5 ((z + 1) * 5) q) [g5]) := ((HKi.out).put5 (.inl (by simp)) _ _).put5 (.inl (by simp)) _ _
                have HH2 : Hid (∀ q' ∈ sb.drop z, x < q'.1) := fun q' hq' => by
                  obtain ⟨h1, h2⟩ := List.getElem?_eq_some_iff.1 HQt.out
                  rw [List.drop_eq_getElem_cons h1, h2] at hq'
                  rcases List.mem_cons.1 hq' with rfl | h3
                  · exact hgt
                  · exact HHi.out q' h3
                clear hgt HEnd
                go_upto_region 29 with fail
                refine wp_region_typ (fun W' => (W'.cell? ⟨g5, z * 5, none⟩ = some (.int .i64 q.1) ∧ W'.cell? ⟨g5, z * 5 + 1, none⟩ = some (.int .i64 q.2.k) ∧ W'.cell? ⟨g5, z * 5 + 2, none⟩ = some (.int .i64 q.2.n) ∧ W'.cell? ⟨g5, z * 5 + 3, none⟩ = some (.string q.2.s) ∧ W'.cell? ⟨g5, z * 5 + 4, none⟩ = some (.slice q.2.A q.2.len q.2.c) ∧ W'.cell? ⟨g5, (z + 1) * 5, none⟩ = some (.int .i64 x) ∧ W'.cell? ⟨g5, (z + 1) * 5 + 1, none⟩ = some (.int .i64 u.k) ∧ W'.cell? ⟨g5, (z + 1) * 5 + 2, none⟩ = some (.int .i64 u.n) ∧ W'.cell? ⟨g5, (z + 1) * 5 + 3, none⟩ = some (.string u.s) ∧ W'.cell? ⟨g5, (z + 1) * 5 + 4, none⟩ = some (.slice u.A u.len u.c)) ∧ ∀ i, W'.frozen? ⟨g5, i, none⟩ = false) 14 17 [3, 4] [(0, true), (1, true), (2, true), (5, true), (6, true), (7, true), (8, true), (9, true), (10, true), (11, true), (12, true), (13, true), (14, false), (15, false), (16, false), (17, false)] (by kernel_rfl) (by kernel_rfl) (⟨⟨q0, q1, q2, q3, q4, r0, r1, r2, r3, r4⟩, hfz⟩) (fun hHeld => ?_)
                (refine wpPre_take (v := ?_) rfl ?_ (by rfl) ?_; rotate_left; (focus (intro w'; go_simp; (try with_reducible rfl); done)); simp only [Act.put, List.setIfInBounds_toArray, List.set_cons_zero, List.set_cons_succ])
                (refine wpPre_take (v := ?_) rfl ?_ (by rfl) ?_; rotate_left; (focus (intro w'; go_simp; (try with_reducible rfl); done)); simp only [Act.put, List.setIfInBounds_toArray, List.set_cons_zero, List.set_cons_succ])
                change wpTy _ _ _ _ _ _ _ _
                (repeat (first | (refine wpTy_take (v := ?_) rfl (by assumption) ?_ (by rfl) ?_; rotate_left; (focus (intro w' hSw; (try dsimp only at hSw); go_simp; (try with_reducible rfl); done)); simp only [Act.put, List.setIfInBounds_toArray, List.set_cons_zero, List.set_cons_succ]) | (refine wpTy_skip rfl (by assumption) (by rfl) ?_; simp only [Act.put, List.setIfInBounds_toArray, List.set_cons_zero, List.set_cons_succ])))
                refine wpTy_tail rfl (by decide) (fun K hK => ?_)
                go_simp
                refine hK.out _ _ ?_; clear hK K; (try simp only [Act.put, List.setIfInBounds_toArray, List.set_cons_zero, List.set_cons_succ])
                refine wpTy_tail rfl (by decide) (fun K hK => ?_)
                go_simp
                refine hK.out _ _ ?_; clear hK K; (try simp only [Act.put, List.setIfInBounds_toArray, List.set_cons_zero, List.set_cons_succ])
                refine wpTy_tail rfl (by decide) (fun K hK => ?_)
                go_simp
                refine hK.out _ _ ?_; clear hK K; (try simp only [Act.put, List.setIfInBounds_toArray, List.set_cons_zero, List.set_cons_succ])
                refine wpTy_last rfl (by decide) (fun K hK => ?_)
                go_simp
                refine hK.out _ _ (NoPanic.normal ?_); clear hK K; (try simp only [Act.put, List.setIfInBounds_toArray, List.set_cons_zero, List.set_cons_succ])
                change Exit.inBlock _ _ _ _ (set5 (set5 wi g5 (z * 5) (x, u)) g5 ((z + 1) * 5) q).drew.drew
                generalize set5 (set5 wi g5 (z * 5) (x, u)) g5 ((z + 1) * 5) q = w6 at HO2 HK2 ⊢
                clear q0 q1 q2 q3 q4 r0 r1 r2 r3 r4 hfz d0
                go_wp2_with fail
                go_roundw
                case rel => exact ⟨z, _, by omega, rfl, rfl, own_keep0 HO2.out ((Keeps.refl _ []).drew.drew), HH2.out, HK2.out.drew.drew⟩
                case measure => simp [intOf]
              · have d0 : decide (x < q.1) = false := by simpa using hgt
                have HD := Lib.hid (HEnd.out (z + 1) (insK_stop HAsc.out (z := z) (fun q' hq' => by
                  have h1 := HQt.out
                  rw [hq'] at h1
                  injection h1 with h1
                  rw [h1]
                  show q.1 ≤ x
                  omega) HHi.out (by have := (List.getElem?_eq_some_iff.1 HQt.out).1; exact this)) hz _ HOw.out HKi.out)
                clear HEnd hgt
                go_upto_region 27 with fail
                refine wp_region_tx (fun W' => W'.cell? ⟨g5, z * 5, none⟩ = some (.int .i64 q.1) ∧ W'.cell? ⟨g5, z * 5 + 1, none⟩ = some (.int .i64 q.2.k) ∧ W'.cell? ⟨g5, z * 5 + 2, none⟩ = some (.int .i64 q.2.n) ∧ W'.cell? ⟨g5, z * 5 + 3, none⟩ = some (.string q.2.s) ∧ W'.cell? ⟨g5, z * 5 + 4, none⟩ = some (.slice q.2.A q.2.len q.2.c) ∧ W'.cell? ⟨g5, (z + 1) * 5, none⟩ = some (.int .i64 x) ∧ W'.cell? ⟨g5, (z + 1) * 5 + 1, none⟩ = some (.int .i64 u.k) ∧ W'.cell? ⟨g5, (z + 1) * 5 + 2, none⟩ = some (.int .i64 u.n) ∧ W'.cell? ⟨g5, (z + 1) * 5 + 3, none⟩ = some (.string u.s) ∧ W'.cell? ⟨g5, (z + 1) * 5 + 4, none⟩ = some (.slice u.A u.len u.c)) [(0, true), (1, true), (2, true), (3, true), (4, true), (5, true), (6, true), (7, true), (8, true), (9, true), (10, true), (11, true), (12, true), (13, true), (14, true), (15, false)] (by kernel_rfl) (by kernel_rfl) (⟨q0, q1, q2, q3, q4, r0, r1, r2, r3, r4⟩) (fun hHeld => ?_)
                (repeat (first | (refine wpTx_take (v := ?_) rfl (by assumption) ?_ (by rfl) ?_; rotate_left; (focus (intro w' hSw; (try dsimp only at hSw); go_simp; (try with_reducible rfl); done)); simp only [Act.put, List.setIfInBounds_toArray, List.set_cons_zero, List.set_cons_succ]) | (refine wpTx_skip rfl (by assumption) (by rfl) ?_; simp only [Act.put, List.setIfInBounds_toArray, List.set_cons_zero, List.set_cons_succ])))
                refine wpTx_last rfl (fun K hK => ?_)
                go_simp
                refine hK.out _ _ (NoPanic.normal ?_); clear hK K; (try simp only [Act.put, List.setIfInBounds_toArray, List.set_cons_zero, List.set_cons_succ])
                go_wp2_with fail
                go_roundw
                case rel => exact ⟨j + 1, some ⟨g5, 0, none⟩, c', _, by omega, by go_num, rfl, own_keep0 HOw.out (Keeps.refl _ []).drew, HD.out.1.keep (Keeps.refl _ []).drew, HD.out.2.drew⟩
                case measure => simp [intOf]; omega
        · obtain rfl : m = j := by omega
          have HD : Hid (Sub wo (fun _ => True) (solvedT s) OA) := by
            have hpl : (putS s).length = m := by unfold putS; rw [List.length_map]; exact HM.out
            have h1 := HP.out
            rw [List.take_of_length_le (by omega)] at h1
            exact ⟨⟨us, h1.mono fun _ _ => trivial, Rd.of_own HO.out⟩⟩
          have HKo := Lib.hid (HKr.out.trans HK.out)
          clear hlt hj hk
          go_wp2_with fail
          go_ret2
          exact ⟨HKo.out, by rw [HRes.out]; exact ⟨OA, oc, by rw [HM.out]; rfl, HD.out⟩⟩

    | cons p st =>
      obtain ⟨a, b⟩ := p
      obtain ⟨k, lb, off, u, v, ws, rfl, rfl, hlb, hlc, hta, htb, hcell, hus2⟩ := hus.pop
      have p0 : wr.cell? ⟨lb, off, none⟩ = some (.int .i64 u.k) := hcell 0 _ rfl
      have p1 : wr.cell? ⟨lb, off + 1, none⟩ = some (.int .i64 u.n) := hcell 1 _ rfl
      have p2 : wr.cell? ⟨lb, off + 2, none⟩ = some (.string u.s) := hcell 2 _ rfl
      have p3 : wr.cell? ⟨lb, off + 3, none⟩ = some (.slice u.A u.len u.c) := hcell 3 _ rfl
      have p4 : wr.cell? ⟨lb, off + 4, none⟩ = some (.int .i64 v.k) := hcell 4 _ rfl
      have p5 : wr.cell? ⟨lb, off + 5, none⟩ = some (.int .i64 v.n) := hcell 5 _ rfl
      have p6 : wr.cell? ⟨lb, off + 6, none⟩ = some (.string v.s) := hcell 6 _ rfl
      have p7 : wr.cell? ⟨lb, off + 7, none⟩ = some (.slice v.A v.len v.c) := hcell 7 _ rfl
      have hshort := (huw.short H6.out).1
      have hk9 : k ≤ 1000000 := by have := hus.sk; simp only [List.length_cons] at this hshort; omega
      have HTa := Lib.hid hta
      have HTb := Lib.hid htb
      have HUW := Lib.hid huw
      obtain ⟨LN, hLN⟩ : ∃ LN, cutA lb off lc = LN := ⟨_, rfl⟩
      have hsl : ∀ W : World, (Instr.slice 68 (.slice (some ⟨lb, off, none⟩) (k + 1) lc) (some (.int .i64 1)) none none).run Try.prog W = .ok (.slice LN k (lc - 1)) W := fun W => by
        rw [← hLN]
        exact cut_run lb off k lc hlc W
      rw [hLN] at hus2
      have HU1 := Lib.hid hus2
      have HRun := Lib.hid hrun
      have b1 : (0 : Int) < (k : Int) + 1 := by omega
      have HP : Hid (∀ W', Keeps wr W' [] → (Keeps wr W' [] ∧ W'.cell? ⟨lb, off, none⟩ = some (.int .i64 u.k) ∧ W'.cell? ⟨lb, off + 1, none⟩ = some (.int .i64 u.n) ∧ W'.cell? ⟨lb, off + 2, none⟩ = some (.string u.s) ∧ W'.cell? ⟨lb, off + 3, none⟩ = some (.slice u.A u.len u.c) ∧ W'.cell? ⟨lb, off + 4, none⟩ = some (.int .i64 v.k) ∧ W'.cell? ⟨lb, off + 5, none⟩ = some (.int .i64 v.n) ∧ W'.cell? ⟨lb, off + 6, none⟩ = some (.string v.s) ∧ W'.cell? ⟨lb, off + 7, none⟩ = some (.slice v.A v.len v.c))) := fun W' kk => ⟨kk, (kk.cell0 hlb).trans p0, (kk.cell0 hlb).trans p1, (kk.cell0 hlb).trans p2, (kk.cell0 hlb).trans p3, (kk.cell0 hlb).trans p4, (kk.cell0 hlb).trans p5, (kk.cell0 hlb).trans p6, (kk.cell0 hlb).trans p7⟩
      have HTop := Lib.hid (HUW.out.tops H6.out)
      have hsz := hus2.keep.size
      clear hus hta htb huw hus2 hrun hcell hshort p0 p1 p2 p3 p4 p5 p6 p7 hLN
      go_upto_region 4 with fail
      refine wp_region_tw (fun W' => Keeps wr W' [] ∧ W'.cell? ⟨lb, off, none⟩ = some (.int .i64 u.k) ∧ W'.cell? ⟨lb, off + 1, none⟩ = some (.int .i64 u.n) ∧ W'.cell? ⟨lb, off + 2, none⟩ = some (.string u.s) ∧ W'.cell? ⟨lb, off + 3, none⟩ = some (.slice u.A u.len u.c) ∧ W'.cell? ⟨lb, off + 4, none⟩ = some (.int .i64 v.k) ∧ W'.cell? ⟨lb, off + 5, none⟩ = some (.int .i64 v.n) ∧ W'.cell? ⟨lb, off + 6, none⟩ = some (.string v.s) ∧ W'.cell? ⟨lb, off + 7, none⟩ = some (.slice v.A v.len v.c)) 14 [.op ⟨12, 8, fun b => .pointer (some ⟨b, 0, none⟩), 24, #[.int .i64 0, .int .i64 0, .string ⟨#[]⟩, .slice none 0 0]⟩, .op ⟨13, 9, fun b => .pointer (some ⟨b, 0, none⟩), 24, #[.int .i64 0, .int .i64 0, .string ⟨#[]⟩, .slice none 0 0]⟩, .take 0, .take 1, .take 2, .take 3, .take 4, .take 6, .take 7, .take 8, .take 9, .take 10, .go 5, .go 11, .cl] [(14, false), (15, false)] (by kernel_rfl) (by kernel_rfl) (fun w1 w2 k h => HP.out _ (h.1.trans k)) (by exact HP.out _ (Keeps.refl _ []).drew) (fun _ => ?_)
      (refine wpTw_op rfl rfl (by intro w' hSw; (try dsimp only at hSw); go_simp; (try with_reducible rfl); done) (by rfl) ?_; simp only [List.nil_append])
      (refine wpTw_op rfl rfl (by intro w' hSw; (try dsimp only at hSw); go_simp; (try with_reducible rfl); done) (by rfl) ?_; simp only [List.nil_append, List.cons_append])
      (repeat (first | (refine wpTw_take (v := ?_) rfl ?_ (by rfl) ?_; rotate_left; (focus (intro w' hSw; (try dsimp only at hSw); go_simp; (try with_reducible rfl); done)); simp only [Act.put, List.setIfInBounds_toArray, List.set_cons_zero, List.set_cons_succ]) | (refine wpTw_skip rfl (by rfl) ?_; simp only [Act.put, List.setIfInBounds_toArray, List.set_cons_zero, List.set_cons_succ])))
      refine wpTw_go rfl (fun W1 hk1 hS1 K hK => ?_)
      have J1 := Lib.hid hS1.1
      have L1 := Lib.hid hk1
      clear hS1 hk1
      go_simp
      refine (refTop_any s A m c HU1.out.sm (by have := (HUW.out.short H6.out).2; have := HU1.out.sm; omega) a u _ (fun b => b < w.heap.size) (fun b hb => Nat.lt_of_lt_of_le hb (HU1.out.keep.trans J1.out).size) (HTa.out.keep J1.out) (HU1.out.keep0 J1.out).sub (HTop.out a (by simp)).2.2.2).mono ?_
      rintro e w1 ⟨x1, rfl, hx1, k1⟩
      have K1 := Lib.hid (J1.out.trans k1)
      have N1 := Lib.hid (L1.out.trans k1)
      have HX1 := Lib.hid hx1
      unfold tvV
      clear hx1
      refine hK.out _ _ k1 (HP.out _ K1.out) (fun _ => ?_)
      clear hK K
      (try simp only [Act.put, List.setIfInBounds_toArray, List.set_cons_zero, List.set_cons_succ])
      refine wpTw_go rfl (fun W2 hk2 hS2 K hK => ?_)
      have J2 := Lib.hid hS2.1
      have L2 := Lib.hid hk2
      clear hS2 hk2
      go_simp
      refine (refTop_any s A m c HU1.out.sm (by have := (HUW.out.short H6.out).2; have := HU1.out.sm; omega) b v _ (fun b => b < w.heap.size) (fun b hb => Nat.lt_of_lt_of_le hb (HU1.out.keep.trans J2.out).size) (HTb.out.keep J2.out) (HU1.out.keep0 J2.out).sub (HTop.out b (by simp)).2.2.2).mono ?_
      rintro e w2 ⟨y1, rfl, hy1, k2⟩
      have K2 := Lib.hid (J2.out.trans k2)
      have N2 := Lib.hid (L2.out.trans k2)
      have HY1 := Lib.hid hy1
      unfold tvV
      clear hy1
      refine hK.out _ _ k2 (HP.out _ K2.out) (fun _ => ?_)
      clear hK K
      (try simp only [Act.put, List.setIfInBounds_toArray, List.set_cons_zero, List.set_cons_succ])
      refine wpTw_cl (fun W3 hk3 hS3 => ?_)
      intro xb xb_b xb_u xb_x xb_B
      dsimp only at xb_B
      intro yb yb_b yb_u yb_x yb_B
      dsimp only at yb_B
      have J3 := Lib.hid hS3.1
      have L3 := Lib.hid hk3
      clear hS3 hk3
      have xb_H := Lib.hid xb_B
      clear xb_x xb_B
      have yb_H := Lib.hid yb_B
      clear yb_x yb_B
      clear xb_u
      simp only [List.mem_cons, List.not_mem_nil, or_false] at yb_u
      (try simp only [Act.put, List.setIfInBounds_toArray, List.set_cons_zero, List.set_cons_succ])
      have q := xb_H.out
      have p := yb_H.out
      have qc0 := q.cell 0
      have qf0 := q.frozen 0
      have qc1 := q.cell 1
      have qf1 := q.frozen 1
      have qc2 := q.cell 2
      have qf2 := q.frozen 2
      have qc3 := q.cell 3
      have qf3 := q.frozen 3
      have pc0 := p.cell 0
      have pf0 := p.frozen 0
      have pc1 := p.cell 1
      have pf1 := p.frozen 1
      have pc2 := p.cell 2
      have pf2 := p.frozen 2
      have pc3 := p.cell 3
      have pf3 := p.frozen 3
      change wpTy _ _ _ _ _ _ _ _
      refine wpTy_tail rfl (by decide) (fun K hK => ?_)
      go_simp
      refine hK.out _ _ ?_; clear hK K; (try simp only [Act.put, List.setIfInBounds_toArray, List.set_cons_zero, List.set_cons_succ])
      refine wpTy_last rfl (by decide) (fun K hK => ?_)
      go_simp
      refine hK.out _ _ (NoPanic.normal ?_)
      clear hK K
      (try simp only [Act.put, List.setIfInBounds_toArray, List.set_cons_zero, List.set_cons_succ])
      change Exit.then _ _ _ _ (set4 (set4 W3 xb (.int .i64 x1.k) (.int .i64 x1.n) (.string x1.s) (.slice x1.A x1.len x1.c)) yb (.int .i64 y1.k) (.int .i64 y1.n) (.string y1.s) (.slice y1.A y1.len y1.c))
      have HX := Lib.hid ((q.put4 (.int .i64 x1.k) (.int .i64 x1.n) (.string x1.s) (.slice x1.A x1.len x1.c)).far4 (g' := yb) (by omega) (.int .i64 y1.k) (.int .i64 y1.n) (.string y1.s) (.slice y1.A y1.len y1.c))
      have HY := Lib.hid ((p.far4 (g' := xb) (by omega) (.int .i64 x1.k) (.int .i64 x1.n) (.string x1.s) (.slice x1.A x1.len x1.c)).put4 (.int .i64 y1.k) (.int .i64 y1.n) (.string y1.s) (.slice y1.A y1.len y1.c))
      have HK7 := Lib.hid ((J3.out.put4 (g := xb) (.inr xb_b) (.int .i64 x1.k) (.int .i64 x1.n) (.string x1.s) (.slice x1.A x1.len x1.c)).put4 (g := yb) (.inr yb_b) (.int .i64 y1.k) (.int .i64 y1.n) (.string y1.s) (.slice y1.A y1.len y1.c))
      have HTx := Lib.hid (((HX1.out.keep (N2.out.trans L3.out)).far4 (g := xb) (by omega) (.int .i64 x1.k) (.int .i64 x1.n) (.string x1.s) (.slice x1.A x1.len x1.c)).far4 (g := yb) (by omega) (.int .i64 y1.k) (.int .i64 y1.n) (.string y1.s) (.slice y1.A y1.len y1.c))
      have HTy := Lib.hid (((HY1.out.keep L3.out).far4 (g := xb) (by omega) (.int .i64 x1.k) (.int .i64 x1.n) (.string x1.s) (.slice x1.A x1.len x1.c)).far4 (g := yb) (by omega) (.int .i64 y1.k) (.int .i64 y1.n) (.string y1.s) (.slice y1.A y1.len y1.c))
      generalize set4 (set4 W3 xb (.int .i64 x1.k) (.int .i64 x1.n) (.string x1.s) (.slice x1.A x1.len x1.c)) yb (.int .i64 y1.k) (.int .i64 y1.n) (.string y1.s) (.slice y1.A y1.len y1.c) = w7 at HX HY HK7 HTx HTy ⊢
      have HU7 := Lib.hid (HU1.out.keep0 HK7.out)
      have hxy : xb ≠ yb := by omega
      have HXw : Hid (wr.heap.size ≤ xb ∧ wr.heap.size ≤ yb ∧ w.heap.size ≤ xb ∧ w.heap.size ≤ yb) := ⟨xb_b, yb_b, by omega, by omega⟩
      clear HX1 HY1 HP J1 J2 J3 K1 K2 L1 L2 L3 N1 N2 q p k1 k2 xb_b yb_b yb_u xb_H yb_H HTa HTb hsz hlb
      clear qc0 qf0 qc1 qf1 qc2 qf2 qc3 qf3 pc0 pf0 pc1 pf1 pc2 pf2 pc3 pf3
      have hta := HTop.out a (.inl rfl)
      have htb := HTop.out b (.inr rfl)
      have hpush := HUW.out.push H6.out
      obtain ⟨x, hxe⟩ : ∃ x, topD s deepest a = x := ⟨_, rfl⟩
      obtain ⟨y, hye⟩ : ∃ y, topD s deepest b = y := ⟨_, rfl⟩
      obtain ⟨g, rfl⟩ : ∃ g, gk = g + 1 := by
        cases gk with
        | zero => have := HRun.out; simp [uRun] at this
        | succ g => exact ⟨g, rfl⟩
      have hstep := HRun.out
      rw [uRun, stp, hxe, hye] at hstep
      rw [hxe] at hta HTx hpush
      rw [hye] at htb HTy hpush
      have HUS := Lib.hid HUW.out.skip
      have HIn : Hid (∀ z, In Vs z → tRight (apD s deepest z) = true) := fun z hz => by
        obtain ⟨g, r, ls, hv⟩ := HUW.out
        rw [hv.ui.si.ap deepest z hz.rt fun v _ hb => hv.ui.deep H6.out v hb]
        exact (hv.ui.valT H9.out hz).rt
      have HmB : Hid (m ≤ 6) := by have := (HUW.out.short H6.out).2; have := HU7.out.sm; show m ≤ 6; omega
      have HBind : Hid (∀ n z, n ∈ Vs → sOf s n = none → In Vs z → tDep z ≤ d0 → stpV s n z = .bnd n z → UW Vs st (s ++ [(n, z)])) := fun n z h1 h2 h3 h4 h5 => HUW.out.bind H9.out H6.out h1 h2 h3 h4 h5
      have HFew : Hid (∀ z, In Vs z → (tVars [apD s deepest z]).length ≤ 1000000) := fun z hz => HUW.out.few H9.out H6.out hz
      have HAp : Hid (∀ (t : Tm) (v : TV) (W' : World), In Vs t → Keeps wr W' [] → Tr W' (fun b => b < w.heap.size) t v → Calls Try.prog 34 #[.slice A m c, .agg #[.int .i64 v.k, .int .i64 v.n, .string v.s, .slice v.A v.len v.c]] W' (ApDone (fun b => b < w.heap.size) W' (apD s deepest t))) := fun t v W' h1 k h2 => by
        obtain ⟨g, r, ls, hv⟩ := HUW.out
        have h3 := refApply_any hv.ui.si A m c HU1.out.sm (by have := HmB.out; omega) t h1.rt v W' (fun b => b < w.heap.size) (fun b hb => Nat.lt_of_lt_of_le hb (HU1.out.keep.trans k).size) h2 (HU1.out.sub.keep k)
        rw [← hv.ui.si.ap deepest t h1.rt fun v _ hb => hv.ui.deep H6.out v hb] at h3
        exact h3
      have HPush := Lib.hid hpush
      have HStep := Lib.hid hstep
      have HTa := Lib.hid hta.2
      have HTb := Lib.hid htb.2
      clear hta htb hstep hxe hye HTop HRun hpush HUW
      obtain ⟨e1, e2, e3, z1, z2⟩ := HTx.out.inv
      obtain ⟨e1', e2', e3', z1', z2'⟩ := HTy.out.inv
      clear z1 z2 z1' z2'
      obtain ⟨xk, xn, xs, xl⟩ := x
      obtain ⟨yk, yn, ys, yl⟩ := y
      obtain ⟨x1, x2, x3, xA, xm, xc⟩ := x1
      obtain ⟨y1, y2, y3, yA, ym, yc⟩ := y1
      replace e1 : xk = x1 := e1.symm
      replace e2 : xn = x2 := e2.symm
      replace e3 : xs = x3 := e3.symm
      replace e1' : yk = y1 := e1'.symm
      replace e2' : yn = y2 := e2'.symm
      replace e3' : ys = y3 := e3'.symm
      subst e1 e2 e3 e1' e2' e3'
      dsimp only at HX HY
      by_cases hx0 : xk = 0
      · subst hx0
        by_cases hyn : yk = 0 ∧ xn = yn
        · obtain ⟨hy0, hnn⟩ := hyn
          subst hy0 hnn
          have HRes : Hid (uRun g st s = some RES) := by
            have h1 := HStep.out
            rw [stpT, if_pos (show (Tm.mk 0 xn xs xl).k = 0 from rfl), if_pos (show (Tm.mk 0 xn ys yl).k = 0 ∧ (Tm.mk 0 xn xs xl).n = (Tm.mk 0 xn ys yl).n from ⟨rfl, rfl⟩)] at h1
            exact h1
          have qc0 := HX.out.cell 0
          have qf0 := HX.out.frozen 0
          have qc1 := HX.out.cell 1
          have qf1 := HX.out.frozen 1
          have qc2 := HX.out.cell 2
          have qf2 := HX.out.frozen 2
          have qc3 := HX.out.cell 3
          have qf3 := HX.out.frozen 3
          have pc0 := HY.out.cell 0
          have pf0 := HY.out.frozen 0
          have pc1 := HY.out.cell 1
          have pf1 := HY.out.frozen 1
          have pc2 := HY.out.cell 2
          have pf2 := HY.out.frozen 2
          have pc3 := HY.out.cell 3
          have pf3 := HY.out.frozen 3
          go_wp2_with fail
          go_roundg g
          case measure => omega
          case rel => exact ⟨s, st, A, m, c, LN, k, lc - 1, ws, rfl, rfl, HRes.out, HUS.out, HU7.out⟩
        · have HSt : Hid ((match (stpV s xn (.mk yk yn ys yl) : Stp) with | .skip => uRun g st s | .cyc => some .cyc | .bnd n y => uRun g st (s ++ [(n, y)]) | .clash => some .clash | .push l => uRun g (l ++ st) s) = some RES) := by
            have h1 := HStep.out
            rw [stpT, if_pos (show (Tm.mk 0 xn xs xl).k = 0 from rfl), if_neg (show ¬ ((Tm.mk yk yn ys yl).k = 0 ∧ (Tm.mk 0 xn xs xl).n = (Tm.mk yk yn ys yl).n) from hyn)] at h1
            exact h1
          have HZ : Hid (In Vs (.mk yk yn ys yl) ∧ tDep (.mk yk yn ys yl) ≤ d0 ∧ xn ∈ Vs ∧ sOf s xn = none) := ⟨HTb.out.1, HTb.out.2.1, (HTa.out.1.var rfl).2, HTa.out.2.2 rfl⟩
          have HBx := HX
          have HBy := HY
          have qc0 := HX.out.cell 0
          have qf0 := HX.out.frozen 0
          have qc1 := HX.out.cell 1
          have qf1 := HX.out.frozen 1
          have qc2 := HX.out.cell 2
          have qf2 := HX.out.frozen 2
          have qc3 := HX.out.cell 3
          have qf3 := HX.out.frozen 3
          have pc0 := HY.out.cell 0
          have pf0 := HY.out.frozen 0
          have pc1 := HY.out.cell 1
          have pf1 := HY.out.frozen 1
          have pc2 := HY.out.cell 2
          have pf2 := HY.out.frozen 2
          have pc3 := HY.out.cell 3
          have pf3 := HY.out.frozen 3
          by_cases hy0 : yk = 0
          · subst hy0
            have e5 : (xn == yn) = false := by simpa using (show ¬ xn = yn from fun h => hyn ⟨rfl, h⟩)
            clear hyn
            have HB0 : Hid (∀ W', Keeps w7 W' [] → (W'.cell? ⟨xb, 0, none⟩ = some (.int .i64 0) ∧ W'.cell? ⟨xb, 1, none⟩ = some (.int .i64 xn) ∧ W'.cell? ⟨xb, 2, none⟩ = some (.string xs) ∧ W'.cell? ⟨xb, 3, none⟩ = some (.slice xA xm xc) ∧ W'.cell? ⟨yb, 0, none⟩ = some (.int .i64 0) ∧ W'.cell? ⟨yb, 1, none⟩ = some (.int .i64 yn) ∧ W'.cell? ⟨yb, 2, none⟩ = some (.string ys) ∧ W'.cell? ⟨yb, 3, none⟩ = some (.slice yA ym yc))) := fun W' k => by
              have b0 := HBx.out.keep k (by simp)
              have b1 := HBy.out.keep k (by simp)
              exact ⟨b0.cell 0, b0.cell 1, b0.cell 2, b0.cell 3, b1.cell 0, b1.cell 1, b1.cell 2, b1.cell 3⟩
            go_upto_region 10 with fail
            refine wp_region_tx (fun W' => W'.cell? ⟨xb, 0, none⟩ = some (.int .i64 0) ∧ W'.cell? ⟨xb, 1, none⟩ = some (.int .i64 xn) ∧ W'.cell? ⟨xb, 2, none⟩ = some (.string xs) ∧ W'.cell? ⟨xb, 3, none⟩ = some (.slice xA xm xc) ∧ W'.cell? ⟨yb, 0, none⟩ = some (.int .i64 0) ∧ W'.cell? ⟨yb, 1, none⟩ = some (.int .i64 yn) ∧ W'.cell? ⟨yb, 2, none⟩ = some (.string ys) ∧ W'.cell? ⟨yb, 3, none⟩ = some (.slice yA ym yc)) [(0, true), (1, true), (5, true), (6, true), (2, false), (3, false), (4, false), (7, false)] (by kernel_rfl) (by kernel_rfl) (HB0.out _ (Keeps.refl _ []).drew) (fun hHeld => ?_)
            (repeat (first | (refine wpTx_take (v := ?_) rfl (by assumption) ?_ (by rfl) ?_; rotate_left; (focus (intro w' hSw; (try dsimp only at hSw); go_simp; (try with_reducible rfl); done)); simp only [Act.put, List.setIfInBounds_toArray, List.set_cons_zero, List.set_cons_succ]) | (refine wpTx_skip rfl (by assumption) (by rfl) ?_; simp only [Act.put, List.setIfInBounds_toArray, List.set_cons_zero, List.set_cons_succ])))
            refine wpTx_go rfl (fun K hK => ?_)
            go_simp
            refine (HAp.out (.mk 0 yn ys yl) ⟨0, yn, ys, yA, ym, yc⟩ _ HZ.out.1 (HK7.out.trans (Keeps.refl _ []).drew) (HTy.out.keep (Keeps.refl _ []).drew)).mono ?_
            rintro e w9 ⟨u9, rfl, hu9, k9⟩
            have HU9 := Lib.hid hu9
            unfold tvV
            clear hu9
            refine hK.out _ _ ?_ ?_
            · exact HB0.out _ ((Keeps.refl _ []).drew.trans k9)
            (clear hHeld; intro hHeld; clear hK K; (try simp only [Act.put, List.setIfInBounds_toArray, List.set_cons_zero, List.set_cons_succ]))
            refine wpTx_go rfl (fun K hK => ?_)
            go_simp
            refine hK.out _ _ ?_ ?_
            · exact HB0.out _ (((Keeps.refl _ []).drew.trans k9).alloc _)
            (clear hHeld; intro hHeld; clear hK K; (try simp only [Act.put, List.setIfInBounds_toArray, List.set_cons_zero, List.set_cons_succ]))
            refine wpTx_go rfl (fun K hK => ?_)
            go_simp
            refine (refVarsL_any [apD s deepest (.mk 0 yn ys yl)] [u9] (some ⟨w9.heap.size, 0, none⟩) 1 1 _ (Trs.nil.snoc ((HU9.out.keep ((Keeps.refl w9 []).alloc _)).mono fun _ _ => trivial)) (by have h1 := Rd.one w9 24 (tvE u9); simpa [tvE] using h1) rfl (by omega) (HFew.out _ HZ.out.1) (by intro a ha; simp at ha; subst ha; exact HIn.out _ HZ.out.1)).mono ?_
            rintro e w10 ⟨VA, vc, rfl, hv10, k10⟩
            have HV10 := Lib.hid hv10
            clear hv10
            refine hK.out _ _ ?_ ?_
            · exact HB0.out _ ((((Keeps.refl _ []).drew.trans k9).alloc _).trans k10)
            (clear hHeld; intro hHeld; clear hK K; (try simp only [Act.put, List.setIfInBounds_toArray, List.set_cons_zero, List.set_cons_succ]))
            refine wpTx_last rfl (fun K hK => ?_)
            go_simp
            refine (refHas_any xn VA _ vc (tVars [apD s deepest (.mk 0 yn ys yl)]) _ rfl (by have := HFew.out _ HZ.out.1; omega) HV10.out).mono ?_
            rintro e w11 ⟨rfl, rfl⟩
            refine hK.out _ _ (NoPanic.normal ?_); clear hK K; (try simp only [Act.put, List.setIfInBounds_toArray, List.set_cons_zero, List.set_cons_succ])
            have hk10 : Keeps w7 w10 [] := (((Keeps.refl _ []).drew.trans k9).alloc _).trans k10
            have HK10 := Lib.hid hk10
            clear qc0 qf0 qc1 qf1 qc2 qf2 qc3 qf3 pc0 pf0 pc1 pf1 pc2 pf2 pc3 pf3 HV10 HU9 hk10 k9 k10 HB0
            cases hany : (tVars [apD s deepest (.mk 0 yn ys yl)]).any (hasI xn) with
            | true =>
              have HRes : Hid (RES = .cyc) := by
                have h1 := HSt.out
                rw [stpV, if_pos hany] at h1
                exact (Option.some.inj h1).symm
              clear hany
              go_wp2_with fail
              go_ret2
              exact ⟨(HU7.out.keep.trans HK10.out), by rw [HRes.out]; rfl⟩
            | false =>
              have HRes : Hid (uRun g st (s ++ [(xn, (.mk 0 yn ys yl))]) = some RES) := by
                have h1 := HSt.out
                rw [stpV, if_neg (by rw [hany]; simp)] at h1
                exact h1
              have HW : Hid (UW Vs st (s ++ [(xn, (.mk 0 yn ys yl))])) := HBind.out _ _ HZ.out.2.2.1 HZ.out.2.2.2 HZ.out.1 HZ.out.2.1 (by rw [stpV, if_neg (by rw [hany]; simp)])
              have HBx2 := Lib.hid (HBx.out.keep HK10.out (by simp))
              have HBy2 := Lib.hid (HBy.out.keep HK10.out (by simp))
              have HU10 := Lib.hid (HU7.out.keep0 HK10.out)
              have HTz := Lib.hid (HTy.out.keep HK10.out)
              clear hany
              obtain ⟨ps, hps, hrd⟩ := HU10.out.sub.ex
              have HPs := Lib.hid hps
              have HRd := Lib.hid hrd
              clear hps hrd
              have hm6 := HmB.out
              have HB1 : Hid (∀ W', Keeps w10 W' [] → (Keeps w10 W' [] ∧ W'.cell? ⟨xb, 0, none⟩ = some (.int .i64 0) ∧ W'.cell? ⟨xb, 1, none⟩ = some (.int .i64 xn) ∧ W'.cell? ⟨xb, 2, none⟩ = some (.string xs) ∧ W'.cell? ⟨xb, 3, none⟩ = some (.slice xA xm xc) ∧ W'.cell? ⟨yb, 0, none⟩ = some (.int .i64 0) ∧ W'.cell? ⟨yb, 1, none⟩ = some (.int .i64 yn) ∧ W'.cell? ⟨yb, 2, none⟩ = some (.string ys) ∧ W'.cell? ⟨yb, 3, none⟩ = some (.slice yA ym yc))) := fun W' k => by
                have b0 := HBx2.out.keep k (by simp)
                have b1 := HBy2.out.keep k (by simp)
                exact ⟨k, b0.cell 0, b0.cell 1, b0.cell 2, b0.cell 3, b1.cell 0, b1.cell 1, b1.cell 2, b1.cell 3⟩
              go_upto_region 12 with fail
              refine wp_region_tw (fun W' => Keeps w10 W' [] ∧ W'.cell? ⟨xb, 0, none⟩ = some (.int .i64 0) ∧ W'.cell? ⟨xb, 1, none⟩ = some (.int .i64 xn) ∧ W'.cell? ⟨xb, 2, none⟩ = some (.string xs) ∧ W'.cell? ⟨xb, 3, none⟩ = some (.slice xA xm xc) ∧ W'.cell? ⟨yb, 0, none⟩ = some (.int .i64 0) ∧ W'.cell? ⟨yb, 1, none⟩ = some (.int .i64 yn) ∧ W'.cell? ⟨yb, 2, none⟩ = some (.string ys) ∧ W'.cell? ⟨yb, 3, none⟩ = some (.slice yA ym yc)) 8 [.take 1, .take 3, .take 4, .take 5, .take 6, .op ⟨7, 79, fun b => .slice (some ⟨b, 0, none⟩) 1 1, 74, #[.int .i64 xn, .int .i64 0, .int .i64 yn, .string ys, .slice yA ym yc]⟩, .go 0, .go 2, .cl] [(8, false), (9, false)] (by kernel_rfl) (by kernel_rfl) (fun w1 w2 k h => HB1.out _ (h.1.trans k)) (by exact HB1.out _ (Keeps.refl _ []).drew) (fun _ => ?_)
              (repeat (first | (refine wpTw_take (v := ?_) rfl ?_ (by rfl) ?_; rotate_left; (focus (intro w' hSw; (try dsimp only at hSw); go_simp; (try with_reducible rfl); done)); simp only [Act.put, List.setIfInBounds_toArray, List.set_cons_zero, List.set_cons_succ]) | (refine wpTw_skip rfl (by rfl) ?_; simp only [Act.put, List.setIfInBounds_toArray, List.set_cons_zero, List.set_cons_succ])))
              (refine wpTw_op rfl rfl (by intro w' hSw; (try dsimp only at hSw); go_simp; (try with_reducible rfl); done) (by rfl) ?_; simp only [List.nil_append])
              refine wpTw_go rfl (fun W1 hk1 hS1 K hK => ?_)
              have J1 := Lib.hid hS1.1
              clear hS1 hk1
              go_simp
              refine hK.out _ _ ((Keeps.refl W1 []).alloc _) (HB1.out _ (J1.out.trans ((Keeps.refl W1 []).alloc _))) (fun _ => ?_)
              clear hK K
              (try simp only [Act.put, List.setIfInBounds_toArray, List.set_cons_zero, List.set_cons_succ])
              refine wpTw_go rfl (fun W2 hk2 hS2 K hK => ?_)
              have J2 := Lib.hid hS2.1
              have hb2 := (Blk.new W1 74 #[]).keep hk2 (by simp)
              have hz2 := hk2.size
              have hz1 := J1.out.size
              have hz3 := J2.out.size
              have hz4 := HU10.out.sm
              clear hS2 hk2
              refine step_app0 _ el_rpair (by rfl) _ _ (by rfl) w10.heap.size W1.heap.size hz1 hb2 hz3 (by rfl) A m c (ps.flatMap pvE) (by rfl) (HRd.out.keep J2.out) (by rw [length_flat pvE_len, HPs.out.len, hz4]) HU10.out.ac (pvE_one ps) (by omega) ?_
              intro A2 c2 w2 hown2 k2
              have HO2 := Lib.hid hown2
              have K2 := Lib.hid (J2.out.trans k2)
              refine hK.out _ _ k2 (HB1.out _ K2.out) (fun _ => ?_)
              clear hK K hown2 k2 hb2 hz1 hz2 hz3 hz4
              (try simp only [Act.put, List.setIfInBounds_toArray, List.set_cons_zero, List.set_cons_succ])
              refine wpTw_cl (fun W3 hk3 hS3 => ?_)
              intro pb pb_b pb_u pb_x pb_B
              dsimp only at pb_B
              have J3 := Lib.hid hS3.1
              have L3 := Lib.hid hk3
              clear hS3 hk3
              have pb_H := Lib.hid pb_B
              clear pb_x pb_B
              clear pb_u
              (try simp only [Act.put, List.setIfInBounds_toArray, List.set_cons_zero, List.set_cons_succ])
              change wpTy _ _ _ _ _ _ _ _
              have hz3 := J3.out.size
              have hrp : Rd W3 (some ⟨pb, 0, none⟩) (pvE (xn, ⟨0, yn, ys, yA, ym, yc⟩)) := by have h1 := Rd.of_blk pb_H.out; simpa [pvE] using h1
              refine wpTy_tail rfl (by decide) (fun K hK => ?_)
              refine step_app _ el_rpair (by rfl) _ _ (by rfl) w10.heap.size A2 m c2 (ps.flatMap pvE) (by rfl) (own_keep0 HO2.out L3.out) (some ⟨pb, 0, none⟩) 1 1 (pvE (xn, ⟨0, yn, ys, yA, ym, yc⟩)) (by rfl) hrp rfl (by simp) (by simp [pvE, Value.oneCell']) (by omega) hz3 ?_
              intro A3 c3 w4 hown4 hg4 hat4
              have hk4 : Keeps w10 w4 [] := J3.out.app (own_keep0 HO2.out L3.out) (Nat.le_refl _) hg4
              have HN := Lib.hid (HU10.out.bound hk4 (n := xn) (HTz.out.keep hk4) (HPs.out.keep hk4) (by rw [List.flatMap_append]; have h1 := Rd.of_own hown4; simpa using h1) (fun e => by subst e; exact own_zeroN hown4))
              clear hown4 hg4 hat4 hk4 hrp hz3
              refine hK.out _ _ ?_; clear hK K; (try simp only [Act.put, List.setIfInBounds_toArray, List.set_cons_zero, List.set_cons_succ])
              refine wpTy_last rfl (by decide) (fun K hK => ?_)
              go_simp
              refine hK.out _ _ (NoPanic.normal ?_); clear hK K; (try simp only [Act.put, List.setIfInBounds_toArray, List.set_cons_zero, List.set_cons_succ])
              clear HBx2 HBy2 HU10 HTz HPs HRd HB1 J1 J2 J3 K2 L3 HO2 pb_H pb_b hm6
              go_wp2_with fail
              go_roundg g
              case measure => omega
              case rel => exact ⟨s ++ [(xn, (.mk 0 yn ys yl))], st, A3, m + 1, c3, LN, k, lc - 1, ws, rfl, rfl, HRes.out, HW.out, HN.out⟩

          · have e5 : (yk == 0) = false := by simpa using hy0
            clear hyn
            have HB0 : Hid (∀ W', Keeps w7 W' [] → (W'.cell? ⟨xb, 0, none⟩ = some (.int .i64 0) ∧ W'.cell? ⟨xb, 1, none⟩ = some (.int .i64 xn) ∧ W'.cell? ⟨xb, 2, none⟩ = some (.string xs) ∧ W'.cell? ⟨xb, 3, none⟩ = some (.slice xA xm xc) ∧ W'.cell? ⟨yb, 0, none⟩ = some (.int .i64 yk) ∧ W'.cell? ⟨yb, 1, none⟩ = some (.int .i64 yn) ∧ W'.cell? ⟨yb, 2, none⟩ = some (.string ys) ∧ W'.cell? ⟨yb, 3, none⟩ = some (.slice yA ym yc))) := fun W' k => by
              have b0 := HBx.out.keep k (by simp)
              have b1 := HBy.out.keep k (by simp)
              exact ⟨b0.cell 0, b0.cell 1, b0.cell 2, b0.cell 3, b1.cell 0, b1.cell 1, b1.cell 2, b1.cell 3⟩
            go_upto_region 10 with fail
            refine wp_region_tx (fun W' => W'.cell? ⟨xb, 0, none⟩ = some (.int .i64 0) ∧ W'.cell? ⟨xb, 1, none⟩ = some (.int .i64 xn) ∧ W'.cell? ⟨xb, 2, none⟩ = some (.string xs) ∧ W'.cell? ⟨xb, 3, none⟩ = some (.slice xA xm xc) ∧ W'.cell? ⟨yb, 0, none⟩ = some (.int .i64 yk) ∧ W'.cell? ⟨yb, 1, none⟩ = some (.int .i64 yn) ∧ W'.cell? ⟨yb, 2, none⟩ = some (.string ys) ∧ W'.cell? ⟨yb, 3, none⟩ = some (.slice yA ym yc)) [(0, true), (1, true), (5, true), (6, true), (2, false), (3, false), (4, false), (7, false)] (by kernel_rfl) (by kernel_rfl) (HB0.out _ (Keeps.refl _ []).drew) (fun hHeld => ?_)
            (repeat (first | (refine wpTx_take (v := ?_) rfl (by assumption) ?_ (by rfl) ?_; rotate_left; (focus (intro w' hSw; (try dsimp only at hSw); go_simp; (try with_reducible rfl); done)); simp only [Act.put, List.setIfInBounds_toArray, List.set_cons_zero, List.set_cons_succ]) | (refine wpTx_skip rfl (by assumption) (by rfl) ?_; simp only [Act.put, List.setIfInBounds_toArray, List.set_cons_zero, List.set_cons_succ])))
            refine wpTx_go rfl (fun K hK => ?_)
            go_simp
            refine (HAp.out (.mk yk yn ys yl) ⟨yk, yn, ys, yA, ym, yc⟩ _ HZ.out.1 (HK7.out.trans (Keeps.refl _ []).drew) (HTy.out.keep (Keeps.refl _ []).drew)).mono ?_
            rintro e w9 ⟨u9, rfl, hu9, k9⟩
            have HU9 := Lib.hid hu9
            unfold tvV
            clear hu9
            refine hK.out _ _ ?_ ?_
            · exact HB0.out _ ((Keeps.refl _ []).drew.trans k9)
            (clear hHeld; intro hHeld; clear hK K; (try simp only [Act.put, List.setIfInBounds_toArray, List.set_cons_zero, List.set_cons_succ]))
            refine wpTx_go rfl (fun K hK => ?_)
            go_simp
            refine hK.out _ _ ?_ ?_
            · exact HB0.out _ (((Keeps.refl _ []).drew.trans k9).alloc _)
            (clear hHeld; intro hHeld; clear hK K; (try simp only [Act.put, List.setIfInBounds_toArray, List.set_cons_zero, List.set_cons_succ]))
            refine wpTx_go rfl (fun K hK => ?_)
            go_simp
            refine (refVarsL_any [apD s deepest (.mk yk yn ys yl)] [u9] (some ⟨w9.heap.size, 0, none⟩) 1 1 _ (Trs.nil.snoc ((HU9.out.keep ((Keeps.refl w9 []).alloc _)).mono fun _ _ => trivial)) (by have h1 := Rd.one w9 24 (tvE u9); simpa [tvE] using h1) rfl (by omega) (HFew.out _ HZ.out.1) (by intro a ha; simp at ha; subst ha; exact HIn.out _ HZ.out.1)).mono ?_
            rintro e w10 ⟨VA, vc, rfl, hv10, k10⟩
            have HV10 := Lib.hid hv10
            clear hv10
            refine hK.out _ _ ?_ ?_
            · exact HB0.out _ ((((Keeps.refl _ []).drew.trans k9).alloc _).trans k10)
            (clear hHeld; intro hHeld; clear hK K; (try simp only [Act.put, List.setIfInBounds_toArray, List.set_cons_zero, List.set_cons_succ]))
            refine wpTx_last rfl (fun K hK => ?_)
            go_simp
            refine (refHas_any xn VA _ vc (tVars [apD s deepest (.mk yk yn ys yl)]) _ rfl (by have := HFew.out _ HZ.out.1; omega) HV10.out).mono ?_
            rintro e w11 ⟨rfl, rfl⟩
            refine hK.out _ _ (NoPanic.normal ?_); clear hK K; (try simp only [Act.put, List.setIfInBounds_toArray, List.set_cons_zero, List.set_cons_succ])
            have hk10 : Keeps w7 w10 [] := (((Keeps.refl _ []).drew.trans k9).alloc _).trans k10
            have HK10 := Lib.hid hk10
            clear qc0 qf0 qc1 qf1 qc2 qf2 qc3 qf3 pc0 pf0 pc1 pf1 pc2 pf2 pc3 pf3 HV10 HU9 hk10 k9 k10 HB0
            cases hany : (tVars [apD s deepest (.mk yk yn ys yl)]).any (hasI xn) with
            | true =>
              have HRes : Hid (RES = .cyc) := by
                have h1 := HSt.out
                rw [stpV, if_pos hany] at h1
                exact (Option.some.inj h1).symm
              clear hany
              go_wp2_with fail
              go_ret2
              exact ⟨(HU7.out.keep.trans HK10.out), by rw [HRes.out]; rfl⟩
            | false =>
              have HRes : Hid (uRun g st (s ++ [(xn, (.mk yk yn ys yl))]) = some RES) := by
                have h1 := HSt.out
                rw [stpV, if_neg (by rw [hany]; simp)] at h1
                exact h1
              have HW : Hid (UW Vs st (s ++ [(xn, (.mk yk yn ys yl))])) := HBind.out _ _ HZ.out.2.2.1 HZ.out.2.2.2 HZ.out.1 HZ.out.2.1 (by rw [stpV, if_neg (by rw [hany]; simp)])
              have HBx2 := Lib.hid (HBx.out.keep HK10.out (by simp))
              have HBy2 := Lib.hid (HBy.out.keep HK10.out (by simp))
              have HU10 := Lib.hid (HU7.out.keep0 HK10.out)
              have HTz := Lib.hid (HTy.out.keep HK10.out)
              clear hany
              obtain ⟨ps, hps, hrd⟩ := HU10.out.sub.ex
              have HPs := Lib.hid hps
              have HRd := Lib.hid hrd
              clear hps hrd
              have hm6 := HmB.out
              have HB1 : Hid (∀ W', Keeps w10 W' [] → (Keeps w10 W' [] ∧ W'.cell? ⟨xb, 0, none⟩ = some (.int .i64 0) ∧ W'.cell? ⟨xb, 1, none⟩ = some (.int .i64 xn) ∧ W'.cell? ⟨xb, 2, none⟩ = some (.string xs) ∧ W'.cell? ⟨xb, 3, none⟩ = some (.slice xA xm xc) ∧ W'.cell? ⟨yb, 0, none⟩ = some (.int .i64 yk) ∧ W'.cell? ⟨yb, 1, none⟩ = some (.int .i64 yn) ∧ W'.cell? ⟨yb, 2, none⟩ = some (.string ys) ∧ W'.cell? ⟨yb, 3, none⟩ = some (.slice yA ym yc))) := fun W' k => by
                have b0 := HBx2.out.keep k (by simp)
                have b1 := HBy2.out.keep k (by simp)
                exact ⟨k, b0.cell 0, b0.cell 1, b0.cell 2, b0.cell 3, b1.cell 0, b1.cell 1, b1.cell 2, b1.cell 3⟩
              go_upto_region 12 with fail
              refine wp_region_tw (fun W' => Keeps w10 W' [] ∧ W'.cell? ⟨xb, 0, none⟩ = some (.int .i64 0) ∧ W'.cell? ⟨xb, 1, none⟩ = some (.int .i64 xn) ∧ W'.cell? ⟨xb, 2, none⟩ = some (.string xs) ∧ W'.cell? ⟨xb, 3, none⟩ = some (.slice xA xm xc) ∧ W'.cell? ⟨yb, 0, none⟩ = some (.int .i64 yk) ∧ W'.cell? ⟨yb, 1, none⟩ = some (.int .i64 yn) ∧ W'.cell? ⟨yb, 2, none⟩ = some (.string ys) ∧ W'.cell? ⟨yb, 3, none⟩ = some (.slice yA ym yc)) 8 [.take 1, .take 3, .take 4, .take 5, .take 6, .op ⟨7, 79, fun b => .slice (some ⟨b, 0, none⟩) 1 1, 74, #[.int .i64 xn, .int .i64 yk, .int .i64 yn, .string ys, .slice yA ym yc]⟩, .go 0, .go 2, .cl] [(8, false), (9, false)] (by kernel_rfl) (by kernel_rfl) (fun w1 w2 k h => HB1.out _ (h.1.trans k)) (by exact HB1.out _ (Keeps.refl _ []).drew) (fun _ => ?_)
              (repeat (first | (refine wpTw_take (v := ?_) rfl ?_ (by rfl) ?_; rotate_left; (focus (intro w' hSw; (try dsimp only at hSw); go_simp; (try with_reducible rfl); done)); simp only [Act.put, List.setIfInBounds_toArray, List.set_cons_zero, List.set_cons_succ]) | (refine wpTw_skip rfl (by rfl) ?_; simp only [Act.put, List.setIfInBounds_toArray, List.set_cons_zero, List.set_cons_succ])))
              (refine wpTw_op rfl rfl (by intro w' hSw; (try dsimp only at hSw); go_simp; (try with_reducible rfl); done) (by rfl) ?_; simp only [List.nil_append])
              refine wpTw_go rfl (fun W1 hk1 hS1 K hK => ?_)
              have J1 := Lib.hid hS1.1
              clear hS1 hk1
              go_simp
              refine hK.out _ _ ((Keeps.refl W1 []).alloc _) (HB1.out _ (J1.out.trans ((Keeps.refl W1 []).alloc _))) (fun _ => ?_)
              clear hK K
              (try simp only [Act.put, List.setIfInBounds_toArray, List.set_cons_zero, List.set_cons_succ])
              refine wpTw_go rfl (fun W2 hk2 hS2 K hK => ?_)
              have J2 := Lib.hid hS2.1
              have hb2 := (Blk.new W1 74 #[]).keep hk2 (by simp)
              have hz2 := hk2.size
              have hz1 := J1.out.size
              have hz3 := J2.out.size
              have hz4 := HU10.out.sm
              clear hS2 hk2
              refine step_app0 _ el_rpair (by rfl) _ _ (by rfl) w10.heap.size W1.heap.size hz1 hb2 hz3 (by rfl) A m c (ps.flatMap pvE) (by rfl) (HRd.out.keep J2.out) (by rw [length_flat pvE_len, HPs.out.len, hz4]) HU10.out.ac (pvE_one ps) (by omega) ?_
              intro A2 c2 w2 hown2 k2
              have HO2 := Lib.hid hown2
              have K2 := Lib.hid (J2.out.trans k2)
              refine hK.out _ _ k2 (HB1.out _ K2.out) (fun _ => ?_)
              clear hK K hown2 k2 hb2 hz1 hz2 hz3 hz4
              (try simp only [Act.put, List.setIfInBounds_toArray, List.set_cons_zero, List.set_cons_succ])
              refine wpTw_cl (fun W3 hk3 hS3 => ?_)
              intro pb pb_b pb_u pb_x pb_B
              dsimp only at pb_B
              have J3 := Lib.hid hS3.1
              have L3 := Lib.hid hk3
              clear hS3 hk3
              have pb_H := Lib.hid pb_B
              clear pb_x pb_B
              clear pb_u
              (try simp only [Act.put, List.setIfInBounds_toArray, List.set_cons_zero, List.set_cons_succ])
              change wpTy _ _ _ _ _ _ _ _
              have hz3 := J3.out.size
              have hrp : Rd W3 (some ⟨pb, 0, none⟩) (pvE (xn, ⟨yk, yn, ys, yA, ym, yc⟩)) := by have h1 := Rd.of_blk pb_H.out; simpa [pvE] using h1
              refine wpTy_tail rfl (by decide) (fun K hK => ?_)
              refine step_app _ el_rpair (by rfl) _ _ (by rfl) w10.heap.size A2 m c2 (ps.flatMap pvE) (by rfl) (own_keep0 HO2.out L3.out) (some ⟨pb, 0, none⟩) 1 1 (pvE (xn, ⟨yk, yn, ys, yA, ym, yc⟩)) (by rfl) hrp rfl (by simp) (by simp [pvE, Value.oneCell']) (by omega) hz3 ?_
              intro A3 c3 w4 hown4 hg4 hat4
              have hk4 : Keeps w10 w4 [] := J3.out.app (own_keep0 HO2.out L3.out) (Nat.le_refl _) hg4
              have HN := Lib.hid (HU10.out.bound hk4 (n := xn) (HTz.out.keep hk4) (HPs.out.keep hk4) (by rw [List.flatMap_append]; have h1 := Rd.of_own hown4; simpa using h1) (fun e => by subst e; exact own_zeroN hown4))
              clear hown4 hg4 hat4 hk4 hrp hz3
              refine hK.out _ _ ?_; clear hK K; (try simp only [Act.put, List.setIfInBounds_toArray, List.set_cons_zero, List.set_cons_succ])
              refine wpTy_last rfl (by decide) (fun K hK => ?_)
              go_simp
              refine hK.out _ _ (NoPanic.normal ?_); clear hK K; (try simp only [Act.put, List.setIfInBounds_toArray, List.set_cons_zero, List.set_cons_succ])
              clear HBx2 HBy2 HU10 HTz HPs HRd HB1 J1 J2 J3 K2 L3 HO2 pb_H pb_b hm6
              go_wp2_with fail
              go_roundg g
              case measure => omega
              case rel => exact ⟨s ++ [(xn, (.mk yk yn ys yl))], st, A3, m + 1, c3, LN, k, lc - 1, ws, rfl, rfl, HRes.out, HW.out, HN.out⟩

      · have e4 : (xk == 0) = false := by simpa using hx0
        have e6 : (xk != 0) = true := by simpa using hx0
        by_cases hy0 : yk = 0
        · subst hy0
          have HSt : Hid ((match (stpV s yn (.mk xk xn xs xl) : Stp) with | .skip => uRun g st s | .cyc => some .cyc | .bnd n y => uRun g st (s ++ [(n, y)]) | .clash => some .clash | .push l => uRun g (l ++ st) s) = some RES) := by
            have h1 := HStep.out
            rw [stpT, if_neg (show ¬ (Tm.mk xk xn xs xl).k = 0 from hx0), if_pos (show (Tm.mk 0 yn ys yl).k = 0 from rfl)] at h1
            exact h1
          have HZ : Hid (In Vs (.mk xk xn xs xl) ∧ tDep (.mk xk xn xs xl) ≤ d0 ∧ yn ∈ Vs ∧ sOf s yn = none) := ⟨HTa.out.1, HTa.out.2.1, (HTb.out.1.var rfl).2, HTb.out.2.2 rfl⟩
          have qc0 := HX.out.cell 0
          have qf0 := HX.out.frozen 0
          have qc1 := HX.out.cell 1
          have qf1 := HX.out.frozen 1
          have qc2 := HX.out.cell 2
          have qf2 := HX.out.frozen 2
          have qc3 := HX.out.cell 3
          have qf3 := HX.out.frozen 3
          have pc0 := HY.out.cell 0
          have pf0 := HY.out.frozen 0
          have pc1 := HY.out.cell 1
          have pf1 := HY.out.frozen 1
          have pc2 := HY.out.cell 2
          have pf2 := HY.out.frozen 2
          have pc3 := HY.out.cell 3
          have pf3 := HY.out.frozen 3
          have hKs : Keeps wr (set4 (set4 w7 xb (.int .i64 0) (.int .i64 yn) (.string ys) (.slice yA ym yc)) yb (.int .i64 xk) (.int .i64 xn) (.string xs) (.slice xA xm xc)) [] := (HK7.out.put4 (g := xb) (.inr HXw.out.1) (.int .i64 0) (.int .i64 yn) (.string ys) (.slice yA ym yc)).put4 (g := yb) (.inr HXw.out.2.1) (.int .i64 xk) (.int .i64 xn) (.string xs) (.slice xA xm xc)
          have HK8 := Lib.hid hKs
          have HBx := Lib.hid ((HX.out.put4 (.int .i64 0) (.int .i64 yn) (.string ys) (.slice yA ym yc)).far4 hxy (.int .i64 xk) (.int .i64 xn) (.string xs) (.slice xA xm xc))
          have HBy := Lib.hid ((HY.out.far4 (Ne.symm hxy) (.int .i64 0) (.int .i64 yn) (.string ys) (.slice yA ym yc)).put4 (.int .i64 xk) (.int .i64 xn) (.string xs) (.slice xA xm xc))
          have HU8 := Lib.hid (HU1.out.keep0 hKs)
          have HT8 := Lib.hid ((HTx.out.far4 (g := xb) (by have := HXw.out.2.2.1; omega) (.int .i64 0) (.int .i64 yn) (.string ys) (.slice yA ym yc)).far4 (g := yb) (by have := HXw.out.2.2.2; omega) (.int .i64 xk) (.int .i64 xn) (.string xs) (.slice xA xm xc))
          clear hKs
          have hyx : ¬ yb = xb := Ne.symm hxy
          go_upto_region 9 with fail
          change Code.wp _ _ _ _ (set4 (set4 w7 xb (.int .i64 0) (.int .i64 yn) (.string ys) (.slice yA ym yc)) yb (.int .i64 xk) (.int .i64 xn) (.string xs) (.slice xA xm xc))
          generalize set4 (set4 w7 xb (.int .i64 0) (.int .i64 yn) (.string ys) (.slice yA ym yc)) yb (.int .i64 xk) (.int .i64 xn) (.string xs) (.slice xA xm xc) = w8 at HBx HBy HU8 HT8 HK8 ⊢
          clear qc0 qf0 qc1 qf1 qc2 qf2 qc3 qf3 pc0 pf0 pc1 pf1 pc2 pf2 pc3 pf3
          have qc0 := HBx.out.cell 0
          have qf0 := HBx.out.frozen 0
          have qc1 := HBx.out.cell 1
          have qf1 := HBx.out.frozen 1
          have qc2 := HBx.out.cell 2
          have qf2 := HBx.out.frozen 2
          have qc3 := HBx.out.cell 3
          have qf3 := HBx.out.frozen 3
          have pc0 := HBy.out.cell 0
          have pf0 := HBy.out.frozen 0
          have pc1 := HBy.out.cell 1
          have pf1 := HBy.out.frozen 1
          have pc2 := HBy.out.cell 2
          have pf2 := HBy.out.frozen 2
          have pc3 := HBy.out.cell 3
          have pf3 := HBy.out.frozen 3
          have HB0 : Hid (∀ W', Keeps w8 W' [] → (W'.cell? ⟨xb, 0, none⟩ = some (.int .i64 0) ∧ W'.cell? ⟨xb, 1, none⟩ = some (.int .i64 yn) ∧ W'.cell? ⟨xb, 2, none⟩ = some (.string ys) ∧ W'.cell? ⟨xb, 3, none⟩ = some (.slice yA ym yc) ∧ W'.cell? ⟨yb, 0, none⟩ = some (.int .i64 xk) ∧ W'.cell? ⟨yb, 1, none⟩ = some (.int .i64 xn) ∧ W'.cell? ⟨yb, 2, none⟩ = some (.string xs) ∧ W'.cell? ⟨yb, 3, none⟩ = some (.slice xA xm xc))) := fun W' k => by
            have b0 := HBx.out.keep k (by simp)
            have b1 := HBy.out.keep k (by simp)
            exact ⟨b0.cell 0, b0.cell 1, b0.cell 2, b0.cell 3, b1.cell 0, b1.cell 1, b1.cell 2, b1.cell 3⟩
          go_upto_region 10 with fail
          refine wp_region_tx (fun W' => W'.cell? ⟨xb, 0, none⟩ = some (.int .i64 0) ∧ W'.cell? ⟨xb, 1, none⟩ = some (.int .i64 yn) ∧ W'.cell? ⟨xb, 2, none⟩ = some (.string ys) ∧ W'.cell? ⟨xb, 3, none⟩ = some (.slice yA ym yc) ∧ W'.cell? ⟨yb, 0, none⟩ = some (.int .i64 xk) ∧ W'.cell? ⟨yb, 1, none⟩ = some (.int .i64 xn) ∧ W'.cell? ⟨yb, 2, none⟩ = some (.string xs) ∧ W'.cell? ⟨yb, 3, none⟩ = some (.slice xA xm xc)) [(0, true), (1, true), (5, true), (6, true), (2, false), (3, false), (4, false), (7, false)] (by kernel_rfl) (by kernel_rfl) (HB0.out _ (Keeps.refl _ []).drew) (fun hHeld => ?_)
          (repeat (first | (refine wpTx_take (v := ?_) rfl (by assumption) ?_ (by rfl) ?_; rotate_left; (focus (intro w' hSw; (try dsimp only at hSw); go_simp; (try with_reducible rfl); done)); simp only [Act.put, List.setIfInBounds_toArray, List.set_cons_zero, List.set_cons_succ]) | (refine wpTx_skip rfl (by assumption) (by rfl) ?_; simp only [Act.put, List.setIfInBounds_toArray, List.set_cons_zero, List.set_cons_succ])))
          refine wpTx_go rfl (fun K hK => ?_)
          go_simp
          refine (HAp.out (.mk xk xn xs xl) ⟨xk, xn, xs, xA, xm, xc⟩ _ HZ.out.1 (HK8.out.trans (Keeps.refl _ []).drew) (HT8.out.keep (Keeps.refl _ []).drew)).mono ?_
          rintro e w9 ⟨u9, rfl, hu9, k9⟩
          have HU9 := Lib.hid hu9
          unfold tvV
          clear hu9
          refine hK.out _ _ ?_ ?_
          · exact HB0.out _ ((Keeps.refl _ []).drew.trans k9)
          (clear hHeld; intro hHeld; clear hK K; (try simp only [Act.put, List.setIfInBounds_toArray, List.set_cons_zero, List.set_cons_succ]))
          refine wpTx_go rfl (fun K hK => ?_)
          go_simp
          refine hK.out _ _ ?_ ?_
          · exact HB0.out _ (((Keeps.refl _ []).drew.trans k9).alloc _)
          (clear hHeld; intro hHeld; clear hK K; (try simp only [Act.put, List.setIfInBounds_toArray, List.set_cons_zero, List.set_cons_succ]))
          refine wpTx_go rfl (fun K hK => ?_)
          go_simp
          refine (refVarsL_any [apD s deepest (.mk xk xn xs xl)] [u9] (some ⟨w9.heap.size, 0, none⟩) 1 1 _ (Trs.nil.snoc ((HU9.out.keep ((Keeps.refl w9 []).alloc _)).mono fun _ _ => trivial)) (by have h1 := Rd.one w9 24 (tvE u9); simpa [tvE] using h1) rfl (by omega) (HFew.out _ HZ.out.1) (by intro a ha; simp at ha; subst ha; exact HIn.out _ HZ.out.1)).mono ?_
          rintro e w10 ⟨VA, vc, rfl, hv10, k10⟩
          have HV10 := Lib.hid hv10
          clear hv10
          refine hK.out _ _ ?_ ?_
          · exact HB0.out _ ((((Keeps.refl _ []).drew.trans k9).alloc _).trans k10)
          (clear hHeld; intro hHeld; clear hK K; (try simp only [Act.put, List.setIfInBounds_toArray, List.set_cons_zero, List.set_cons_succ]))
          refine wpTx_last rfl (fun K hK => ?_)
          go_simp
          refine (refHas_any yn VA _ vc (tVars [apD s deepest (.mk xk xn xs xl)]) _ rfl (by have := HFew.out _ HZ.out.1; omega) HV10.out).mono ?_
          rintro e w11 ⟨rfl, rfl⟩
          refine hK.out _ _ (NoPanic.normal ?_); clear hK K; (try simp only [Act.put, List.setIfInBounds_toArray, List.set_cons_zero, List.set_cons_succ])
          have hk10 : Keeps w8 w10 [] := (((Keeps.refl _ []).drew.trans k9).alloc _).trans k10
          have HK10 := Lib.hid hk10
          clear qc0 qf0 qc1 qf1 qc2 qf2 qc3 qf3 pc0 pf0 pc1 pf1 pc2 pf2 pc3 pf3 HV10 HU9 hk10 k9 k10 HB0
          cases hany : (tVars [apD s deepest (.mk xk xn xs xl)]).any (hasI yn) with
          | true =>
            have HRes : Hid (RES = .cyc) := by
              have h1 := HSt.out
              rw [stpV, if_pos hany] at h1
              exact (Option.some.inj h1).symm
            clear hany
            go_wp2_with fail
            go_ret2
            exact ⟨(HU8.out.keep.trans HK10.out), by rw [HRes.out]; rfl⟩
          | false =>
            have HRes : Hid (uRun g st (s ++ [(yn, (.mk xk xn xs xl))]) = some RES) := by
              have h1 := HSt.out
              rw [stpV, if_neg (by rw [hany]; simp)] at h1
              exact h1
            have HW : Hid (UW Vs st (s ++ [(yn, (.mk xk xn xs xl))])) := HBind.out _ _ HZ.out.2.2.1 HZ.out.2.2.2 HZ.out.1 HZ.out.2.1 (by rw [stpV, if_neg (by rw [hany]; simp)])
            have HBx2 := Lib.hid (HBx.out.keep HK10.out (by simp))
            have HBy2 := Lib.hid (HBy.out.keep HK10.out (by simp))
            have HU10 := Lib.hid (HU8.out.keep0 HK10.out)
            have HTz := Lib.hid (HT8.out.keep HK10.out)
            clear hany
            obtain ⟨ps, hps, hrd⟩ := HU10.out.sub.ex
            have HPs := Lib.hid hps
            have HRd := Lib.hid hrd
            clear hps hrd
            have hm6 := HmB.out
            have HB1 : Hid (∀ W', Keeps w10 W' [] → (Keeps w10 W' [] ∧ W'.cell? ⟨xb, 0, none⟩ = some (.int .i64 0) ∧ W'.cell? ⟨xb, 1, none⟩ = some (.int .i64 yn) ∧ W'.cell? ⟨xb, 2, none⟩ = some (.string ys) ∧ W'.cell? ⟨xb, 3, none⟩ = some (.slice yA ym yc) ∧ W'.cell? ⟨yb, 0, none⟩ = some (.int .i64 xk) ∧ W'.cell? ⟨yb, 1, none⟩ = some (.int .i64 xn) ∧ W'.cell? ⟨yb, 2, none⟩ = some (.string xs) ∧ W'.cell? ⟨yb, 3, none⟩ = some (.slice xA xm xc))) := fun W' k => by
              have b0 := HBx2.out.keep k (by simp)
              have b1 := HBy2.out.keep k (by simp)
              exact ⟨k, b0.cell 0, b0.cell 1, b0.cell 2, b0.cell 3, b1.cell 0, b1.cell 1, b1.cell 2, b1.cell 3⟩
            go_upto_region 12 with fail
            refine wp_region_tw (fun W' => Keeps w10 W' [] ∧ W'.cell? ⟨xb, 0, none⟩ = some (.int .i64 0) ∧ W'.cell? ⟨xb, 1, none⟩ = some (.int .i64 yn) ∧ W'.cell? ⟨xb, 2, none⟩ = some (.string ys) ∧ W'.cell? ⟨xb, 3, none⟩ = some (.slice yA ym yc) ∧ W'.cell? ⟨yb, 0, none⟩ = some (.int .i64 xk) ∧ W'.cell? ⟨yb, 1, none⟩ = some (.int .i64 xn) ∧ W'.cell? ⟨yb, 2, none⟩ = some (.string xs) ∧ W'.cell? ⟨yb, 3, none⟩ = some (.slice xA xm xc)) 8 [.take 1, .take 3, .take 4, .take 5, .take 6, .op ⟨7, 79, fun b => .slice (some ⟨b, 0, none⟩) 1 1, 74, #[.int .i64 yn, .int .i64 xk, .int .i64 xn, .string xs, .slice xA xm xc]⟩, .go 0, .go 2, .cl] [(8, false), (9, false)] (by kernel_rfl) (by kernel_rfl) (fun w1 w2 k h => HB1.out _ (h.1.trans k)) (by exact HB1.out _ (Keeps.refl _ []).drew) (fun _ => ?_)
            (repeat (first | (refine wpTw_take (v := ?_) rfl ?_ (by rfl) ?_; rotate_left; (focus (intro w' hSw; (try dsimp only at hSw); go_simp; (try with_reducible rfl); done)); simp only [Act.put, List.setIfInBounds_toArray, List.set_cons_zero, List.set_cons_succ]) | (refine wpTw_skip rfl (by rfl) ?_; simp only [Act.put, List.setIfInBounds_toArray, List.set_cons_zero, List.set_cons_succ])))
            (refine wpTw_op rfl rfl (by intro w' hSw; (try dsimp only at hSw); go_simp; (try with_reducible rfl); done) (by rfl) ?_; simp only [List.nil_append])
            refine wpTw_go rfl (fun W1 hk1 hS1 K hK => ?_)
            have J1 := Lib.hid hS1.1
            clear hS1 hk1
            go_simp
            refine hK.out _ _ ((Keeps.refl W1 []).alloc _) (HB1.out _ (J1.out.trans ((Keeps.refl W1 []).alloc _))) (fun _ => ?_)
            clear hK K
            (try simp only [Act.put, List.setIfInBounds_toArray, List.set_cons_zero, List.set_cons_succ])
            refine wpTw_go rfl (fun W2 hk2 hS2 K hK => ?_)
            have J2 := Lib.hid hS2.1
            have hb2 := (Blk.new W1 74 #[]).keep hk2 (by simp)
            have hz2 := hk2.size
            have hz1 := J1.out.size
            have hz3 := J2.out.size
            have hz4 := HU10.out.sm
            clear hS2 hk2
            refine step_app0 _ el_rpair (by rfl) _ _ (by rfl) w10.heap.size W1.heap.size hz1 hb2 hz3 (by rfl) A m c (ps.flatMap pvE) (by rfl) (HRd.out.keep J2.out) (by rw [length_flat pvE_len, HPs.out.len, hz4]) HU10.out.ac (pvE_one ps) (by omega) ?_
            intro A2 c2 w2 hown2 k2
            have HO2 := Lib.hid hown2
            have K2 := Lib.hid (J2.out.trans k2)
            refine hK.out _ _ k2 (HB1.out _ K2.out) (fun _ => ?_)
            clear hK K hown2 k2 hb2 hz1 hz2 hz3 hz4
            (try simp only [Act.put, List.setIfInBounds_toArray, List.set_cons_zero, List.set_cons_succ])
            refine wpTw_cl (fun W3 hk3 hS3 => ?_)
            intro pb pb_b pb_u pb_x pb_B
            dsimp only at pb_B
            have J3 := Lib.hid hS3.1
            have L3 := Lib.hid hk3
            clear hS3 hk3
            have pb_H := Lib.hid pb_B
            clear pb_x pb_B
            clear pb_u
            (try simp only [Act.put, List.setIfInBounds_toArray, List.set_cons_zero, List.set_cons_succ])
            change wpTy _ _ _ _ _ _ _ _
            have hz3 := J3.out.size
            have hrp : Rd W3 (some ⟨pb, 0, none⟩) (pvE (yn, ⟨xk, xn, xs, xA, xm, xc⟩)) := by have h1 := Rd.of_blk pb_H.out; simpa [pvE] using h1
            refine wpTy_tail rfl (by decide) (fun K hK => ?_)
            refine step_app _ el_rpair (by rfl) _ _ (by rfl) w10.heap.size A2 m c2 (ps.flatMap pvE) (by rfl) (own_keep0 HO2.out L3.out) (some ⟨pb, 0, none⟩) 1 1 (pvE (yn, ⟨xk, xn, xs, xA, xm, xc⟩)) (by rfl) hrp rfl (by simp) (by simp [pvE, Value.oneCell']) (by omega) hz3 ?_
            intro A3 c3 w4 hown4 hg4 hat4
            have hk4 : Keeps w10 w4 [] := J3.out.app (own_keep0 HO2.out L3.out) (Nat.le_refl _) hg4
            have HN := Lib.hid (HU10.out.bound hk4 (n := yn) (HTz.out.keep hk4) (HPs.out.keep hk4) (by rw [List.flatMap_append]; have h1 := Rd.of_own hown4; simpa using h1) (fun e => by subst e; exact own_zeroN hown4))
            clear hown4 hg4 hat4 hk4 hrp hz3
            refine hK.out _ _ ?_; clear hK K; (try simp only [Act.put, List.setIfInBounds_toArray, List.set_cons_zero, List.set_cons_succ])
            refine wpTy_last rfl (by decide) (fun K hK => ?_)
            go_simp
            refine hK.out _ _ (NoPanic.normal ?_); clear hK K; (try simp only [Act.put, List.setIfInBounds_toArray, List.set_cons_zero, List.set_cons_succ])
            clear HBx2 HBy2 HU10 HTz HPs HRd HB1 J1 J2 J3 K2 L3 HO2 pb_H pb_b hm6
            go_wp2_with fail
            go_roundg g
            case measure => omega
            case rel => exact ⟨s ++ [(yn, (.mk xk xn xs xl))], st, A3, m + 1, c3, LN, k, lc - 1, ws, rfl, rfl, HRes.out, HW.out, HN.out⟩

        · have e5 : (yk == 0) = false := by simpa using hy0
          have HSt : Hid ((match (stpN (.mk xk xn xs xl) (.mk yk yn ys yl) : Stp) with | .skip => uRun g st s | .cyc => some .cyc | .bnd n y => uRun g st (s ++ [(n, y)]) | .clash => some .clash | .push l => uRun g (l ++ st) s) = some RES) := by
            have h1 := HStep.out
            rw [stpT, if_neg (show ¬ (Tm.mk xk xn xs xl).k = 0 from hx0), if_neg (show ¬ (Tm.mk yk yn ys yl).k = 0 from hy0)] at h1
            exact h1
          have HW : Hid (UW Vs (xl.zip yl ++ st) s) := HPush.out hx0 hy0
          obtain ⟨z1, z2, z3, ex, z4, vx, hvx, hRx, z5⟩ := HTx.out.inv
          obtain ⟨z1', z2', z3', ey, z4', vy, hvy, hRy, z5'⟩ := HTy.out.inv
          clear z1 z2 z3 z4 z1' z2' z3' z4'
          replace ex : xm = xl.length := ex
          replace ey : ym = yl.length := ey
          have HEx := Lib.hid ex
          have HEy := Lib.hid ey
          have h8x : xm ≤ 8 := by rw [ex]; exact right_len HTa.out.1.rt
          have h8y : ym ≤ 8 := by rw [ey]; exact right_len HTb.out.1.rt
          have HVx : Hid (Trs w7 (fun b => b < w.heap.size) xl vx) := hvx
          have HVy : Hid (Trs w7 (fun b => b < w.heap.size) yl vy) := hvy
          have HRx : Hid (Rd w7 xA (vx.flatMap tvE)) := hRx
          have HRy : Hid (Rd w7 yA (vy.flatMap tvE)) := hRy
          have Hz5 := Lib.hid z5
          have Hz5' := Lib.hid z5'
          clear ex ey hvx hvy hRx hRy z5 z5'
          have qc0 := HX.out.cell 0
          have qf0 := HX.out.frozen 0
          have qc1 := HX.out.cell 1
          have qf1 := HX.out.frozen 1
          have qc2 := HX.out.cell 2
          have qf2 := HX.out.frozen 2
          have qc3 := HX.out.cell 3
          have qf3 := HX.out.frozen 3
          have pc0 := HY.out.cell 0
          have pf0 := HY.out.frozen 0
          have pc1 := HY.out.cell 1
          have pf1 := HY.out.frozen 1
          have pc2 := HY.out.cell 2
          have pf2 := HY.out.frozen 2
          have pc3 := HY.out.cell 3
          have pf3 := HY.out.frozen 3
          have hAl : alikeT (.mk xk xn xs xl) (.mk yk yn ys yl) = (xk == yk && decide (xs = ys) && xl.length == yl.length) := rfl
          rw [← HEx.out, ← HEy.out] at hAl
          by_cases g1 : xk = yk
          case neg =>
            have e7 : (xk != yk) = true := by simpa using g1
            have hal : alikeT (.mk xk xn xs xl) (.mk yk yn ys yl) = false := by rw [hAl]; simp [g1]
            clear hAl
            have HRes : Hid (RES = .clash) := by
              have h1 := HSt.out
              rw [stpN, hal] at h1
              exact (Option.some.inj h1).symm
            clear hal
            go_wp2_with fail
            go_ret2
            exact ⟨HU7.out.keep, by rw [HRes.out]; rfl⟩
          subst g1
          by_cases g2 : xs = ys
          case neg =>
            have e7' : (xs.toList == ys.toList) = false := by rw [str_eq]; simpa using g2
            have e7 : ¬ xs.toList = ys.toList := by simpa using e7'
            have hal : alikeT (.mk xk xn xs xl) (.mk xk yn ys yl) = false := by rw [hAl]; simp [g2]
            clear hAl
            have HRes : Hid (RES = .clash) := by
              have h1 := HSt.out
              rw [stpN, hal] at h1
              exact (Option.some.inj h1).symm
            clear hal
            go_wp2_with fail
            go_ret2
            exact ⟨HU7.out.keep, by rw [HRes.out]; rfl⟩
          subst g2
          by_cases g3 : xm = ym
          case neg =>
            have e7 : ((xm : Int) != (ym : Int)) = true := by simpa using (show ¬ (xm : Int) = (ym : Int) by omega)
            have e8 : (xm == ym) = false := by simpa using g3
            have e9 : (xm != ym) = true := by simpa using g3
            have hal : alikeT (.mk xk xn xs xl) (.mk xk yn xs yl) = false := by rw [hAl]; simp [g3]
            clear hAl
            have HRes : Hid (RES = .clash) := by
              have h1 := HSt.out
              rw [stpN, hal] at h1
              exact (Option.some.inj h1).symm
            clear hal
            go_wp2_with fail
            go_ret2
            exact ⟨HU7.out.keep, by rw [HRes.out]; rfl⟩
          subst g3
          have HRes : Hid (uRun g (xl.zip yl ++ st) s = some RES) := by
            have h1 := HSt.out
            have hal : alikeT (.mk xk xn xs xl) (.mk xk yn xs yl) = true := by rw [hAl]; simp
            rw [stpN, hal] at h1
            exact h1
          clear hAl HSt
          have HNx : Hid (xl.length = xm) := HEx.out.symm
          have HNy : Hid (yl.length = xm) := HEy.out.symm
          have HBx := HX
          have HBy := HY
          clear HUS HIn HBind HFew HAp HPush HStep
          go_wp2_with fail
          clear qc0 qf0 qc1 qf1 qc2 qf2 pc0 pf0 pc1 pf1 pc2 pf2 qc3 qf3 pc3 pf3
          go_loopw [10, 11] (fun x10 x11 wi => ∃ (j : Nat) (MA : Option Addr) (mc : Nat) (mw : List (TV × TV)), j ≤ xm ∧ x11 = .int .i64 j ∧ x10 = .slice MA j mc ∧ wi.ownsRow w7.heap.size 67 8 (.slice MA j mc) j (mw.flatMap lvE) ∧ RL wi (fun b => b < w.heap.size) ((xl.zip yl).take j) mw ∧ Keeps w7 wi []) (fun _ x11 _ => xm - (intOf x11).toNat)
          case atStart => exact ⟨0, none, 0, [], Nat.zero_le _, rfl, rfl, World.ownsRow_nil _ _ _ _, RL.nil, Keeps.refl _ _⟩
          case round =>
            obtain ⟨wi, rfl⟩ : ∃ wi, wi = wr := ⟨wr, rfl⟩
            obtain ⟨j, MA, mc, mw, hj, rfl, rfl, hown, hmw, hki⟩ := hrel
            have HOwn := Lib.hid hown
            have HMw := Lib.hid hmw
            have HKi := Lib.hid hki
            have xc3 := (HBx.out.keep hki (by simp)).cell 3
            have yc3 := (HBy.out.keep hki (by simp)).cell 3
            clear hown hmw
            by_cases hjn : j < xm
            · obtain ⟨ca, hca⟩ := at_of HNx.out hjn
              obtain ⟨cb, hcb⟩ := at_of HNy.out hjn
              obtain ⟨u', bu, ou, _, htu, hxA, hbu, p0, p1, p2, p3⟩ := HVx.out.get HRx.out hca
              obtain ⟨v', bv, ov, _, htv, hyA, hbv, r0, r1, r2, r3⟩ := HVy.out.get HRy.out hcb
              subst hxA
              subst hyA
              have HW7 : Hid (∀ W', Keeps wi W' (ownL (.slice MA j mc)) → (W'.cell? ⟨xb, 3, none⟩ = some (.slice (some ⟨bu, ou, none⟩) xm xc) ∧ W'.cell? ⟨yb, 3, none⟩ = some (.slice (some ⟨bv, ov, none⟩) xm yc) ∧ W'.cell? ⟨bu, ou + j * 4, none⟩ = some (.int .i64 u'.k) ∧ W'.cell? ⟨bu, ou + j * 4 + 1, none⟩ = some (.int .i64 u'.n) ∧ W'.cell? ⟨bu, ou + j * 4 + 2, none⟩ = some (.string u'.s) ∧ W'.cell? ⟨bu, ou + j * 4 + 3, none⟩ = some (.slice u'.A u'.len u'.c) ∧ W'.cell? ⟨bv, ov + j * 4, none⟩ = some (.int .i64 v'.k) ∧ W'.cell? ⟨bv, ov + j * 4 + 1, none⟩ = some (.int .i64 v'.n) ∧ W'.cell? ⟨bv, ov + j * 4 + 2, none⟩ = some (.string v'.s) ∧ W'.cell? ⟨bv, ov + j * 4 + 3, none⟩ = some (.slice v'.A v'.len v'.c))) := fun W' kk =>
                have kc : ∀ b i x, b < w7.heap.size → w7.cell? ⟨b, i, none⟩ = some x → W'.cell? ⟨b, i, none⟩ = some x := fun b i x hb hx => ((kk.cell (p := ⟨b, i, none⟩) (Nat.lt_of_lt_of_le hb HKi.out.size) (own_out HOwn.out hb)).trans (HKi.out.cell0 hb)).trans hx
                ⟨kc _ _ _ HBx.out.lt (HBx.out.cell 3), kc _ _ _ HBy.out.lt (HBy.out.cell 3), kc _ _ _ hbu p0, kc _ _ _ hbu p1, kc _ _ _ hbu p2, kc _ _ _ hbu p3, kc _ _ _ hbv r0, kc _ _ _ hbv r1, kc _ _ _ hbv r2, kc _ _ _ hbv r3⟩
              have HTU := Lib.hid (htu.keep hki)
              have HTV := Lib.hid (htv.keep hki)
              have HCa := Lib.hid hca
              have HCb := Lib.hid hcb
              have b0 : (0 : Int) ≤ (j : Int) := Int.natCast_nonneg _
              have b2 : (j : Int) < (xm : Int) := by omega
              have hki2 := hki.size
              clear hj htu htv hca hcb p0 p1 p2 p3 r0 r1 r2 r3 hki
              go_upto_region 19 with fail
              refine wp_region_tx (fun W' => W'.cell? ⟨xb, 3, none⟩ = some (.slice (some ⟨bu, ou, none⟩) xm xc) ∧ W'.cell? ⟨yb, 3, none⟩ = some (.slice (some ⟨bv, ov, none⟩) xm yc) ∧ W'.cell? ⟨bu, ou + j * 4, none⟩ = some (.int .i64 u'.k) ∧ W'.cell? ⟨bu, ou + j * 4 + 1, none⟩ = some (.int .i64 u'.n) ∧ W'.cell? ⟨bu, ou + j * 4 + 2, none⟩ = some (.string u'.s) ∧ W'.cell? ⟨bu, ou + j * 4 + 3, none⟩ = some (.slice u'.A u'.len u'.c) ∧ W'.cell? ⟨bv, ov + j * 4, none⟩ = some (.int .i64 v'.k) ∧ W'.cell? ⟨bv, ov + j * 4 + 1, none⟩ = some (.int .i64 v'.n) ∧ W'.cell? ⟨bv, ov + j * 4 + 2, none⟩ = some (.string v'.s) ∧ W'.cell? ⟨bv, ov + j * 4 + 3, none⟩ = some (.slice v'.A v'.len v'.c)) [(0, true), (1, true), (2, true), (3, true), (4, true), (5, true), (6, true), (7, true), (8, true), (9, true), (10, true), (11, true), (12, false), (13, false), (14, false)] (by kernel_rfl) (by kernel_rfl) (HW7.out _ ((Keeps.refl _ _).drew)) (fun hHeld => ?_)
              (repeat (first | (refine wpTx_take (v := ?_) rfl (by assumption) ?_ (by rfl) ?_; rotate_left; (focus (intro w' hSw; (try dsimp only at hSw); go_simp; (try with_reducible rfl); done)); simp only [Act.put, List.setIfInBounds_toArray, List.set_cons_zero, List.set_cons_succ]) | (refine wpTx_skip rfl (by assumption) (by rfl) ?_; simp only [Act.put, List.setIfInBounds_toArray, List.set_cons_zero, List.set_cons_succ])))
              refine wpTx_go rfl (fun K hK => ?_)
              go_simp
              refine hK.out _ _ ?_ ?_
              · exact HW7.out _ (((Keeps.refl _ []).drew.alloc _).to_ _)
              (clear hHeld; intro hHeld; clear hK K; (try simp only [Act.put, List.setIfInBounds_toArray, List.set_cons_zero, List.set_cons_succ]))
              refine wpTx_go rfl (fun K hK => ?_)
              refine step_app _ el_rleft (by rfl) _ _ (by rfl) w7.heap.size MA j mc (mw.flatMap lvE) (by rfl) (own_keep0 HOwn.out ((Keeps.refl _ []).drew.alloc _)) (some ⟨wi.heap.size, 0, none⟩) 1 1 (lvE (u', v')) (by rfl) (Rd.one wi.drew _ (lvE (u', v'))) rfl (by simp) (by simp [lvE, Value.oneCell']) (by omega) (by simp; omega) ?_
              intro MA2 mc2 w2 hown hgrow hat
              have HN : Hid (w2.ownsRow w7.heap.size 67 8 (.slice MA2 (j + 1) mc2) (j + 1) ((mw ++ [(u', v')]).flatMap lvE) ∧ RL w2 (fun b => b < w.heap.size) ((xl.zip yl).take (j + 1)) (mw ++ [(u', v')]) ∧ Keeps w7 w2 []) := by
                have ka : Keeps wi (wi.drew.alloc (.cells #[.int .i64 u'.k, .int .i64 u'.n, .string u'.s, .slice u'.A u'.len u'.c, .int .i64 v'.k, .int .i64 v'.n, .string v'.s, .slice v'.A v'.len v'.c] 67)) [] := (Keeps.refl _ []).drew.alloc _
                have kg : Keeps (wi.drew.alloc (.cells #[.int .i64 u'.k, .int .i64 u'.n, .string u'.s, .slice u'.A u'.len u'.c, .int .i64 v'.k, .int .i64 v'.n, .string v'.s, .slice v'.A v'.len v'.c] 67)) w2 (ownL (.slice MA j mc)) := Keeps.ofGrown hgrow
                have hw := HU7.out.keep.size
                have hlow : ∀ b ∈ ownL (.slice MA j mc), ¬ b < w.heap.size := fun b hb hlt => by have := (own_lt HOwn.out hb).1; omega
                refine ⟨by rw [List.flatMap_append]; simpa using hown, ?_, (HKi.out.trans ka).app (own_keep0 HOwn.out ka) (Nat.le_refl _) hgrow⟩
                have hz : (xl.zip yl)[j]? = some (ca, cb) := by rw [List.getElem?_zip_eq_some]; exact ⟨HCa.out, HCb.out⟩
                rw [List.take_add_one, hz]
                exact ((HMw.out.keepL ka (by simp)).keepL kg hlow).app (RL.nil.cons ((HTU.out.keep ka).keepL kg hlow) ((HTV.out.keep ka).keepL kg hlow))
              refine hK.out _ _ ?_ ?_
              · exact HW7.out _ ((((Keeps.refl _ []).drew.alloc _)).rest (Keeps.ofGrown hgrow))
              (clear hHeld; intro hHeld; clear hK K; (try simp only [Act.put, List.setIfInBounds_toArray, List.set_cons_zero, List.set_cons_succ]))
              refine wpTx_last rfl (fun K hK => ?_)
              go_simp
              refine hK.out _ _ (NoPanic.normal ?_); clear hK K; (try simp only [Act.put, List.setIfInBounds_toArray, List.set_cons_zero, List.set_cons_succ])
              clear hown hgrow hat HTU HTV HW7 xc3 yc3
              go_wp2_with fail
              go_roundw
              case rel => exact ⟨j + 1, MA2, mc2, _, by omega, by go_num, rfl, HN.out.1, HN.out.2.1, HN.out.2.2⟩
              case measure => simp [intOf]; omega
            · obtain rfl : xm = j := by omega
              have HU9 := Lib.hid (HU7.out.keep0 hki)
              have hw9 := hki.size
              have hzl : (xl.zip yl).take xm = xl.zip yl := List.take_of_length_le (by rw [List.length_zip, HNx.out]; omega)
              rw [hzl] at HMw
              have hlz : (xl.zip yl).length = xm := by rw [List.length_zip, HNx.out, HNy.out]; omega
              have HLz := Lib.hid hlz
              clear hzl hlz hjn hj hki
              go_wp2_with (at_builtin; refine wpList_app _ el_rleft rfl (.tmp 123) (.tmp 124) rfl w7.heap.size MA xm mc (mw.flatMap lvE) rfl HOwn.out LN k (lc - 1) (ws.flatMap lvE) rfl HU9.out.rd (by rw [length_flat lvE_len, HU9.out.lst.len, HU9.out.sk]) HU9.out.lc0 (lvE_one ws) (by omega) hw9 ?_; intro LA2 lc2 w4 hown4 hg4 hat4; have HN := Lib.hid (HU7.out.pushed HKi.out HOwn.out HMw.out HLz.out hg4 hown4); clear hown4 hg4 hat4)
              go_roundg g
              case measure => omega
              case rel => exact ⟨s, xl.zip yl ++ st, A, m, c, LA2, xm + k, lc2, mw ++ ws, rfl, rfl, HRes.out, HW.out, HN.out⟩

end Go.Proofs.Ytjbomjnkjcafcaa

