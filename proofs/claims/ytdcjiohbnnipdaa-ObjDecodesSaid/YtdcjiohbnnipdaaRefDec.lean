/- The document's Decode, walked. Printed by gen_refdec.py. -/
import Derived.Test.YtdcjiohbnnipdaaRefDst
import Derived.Test.YtdcjiohbnnipdaaSame
namespace Go.Proofs.Ytdcjiohbnnipdaa
open Go.RowKit
attribute [local irreducible] takeR numR nameR insR kindsOf nameOf bigB checkE decB headR manyR

theorem own_off {w W : World} {base n c sz g : Nat} {e t : TypeId} {A : Option Addr} {xs : List Value} {cs : Array Value} (ho : w.ownsRow base e sz (.slice A n c) n xs) (hb : Blk w g t cs) (hne : t ≠ e) (k : Keeps w W [g]) : Rd W A xs :=
  (Rd.of_own ho).keepOff k (fun a ha => by
    have h1 := own_outT ho hb hne
    unfold ownL at h1
    subst ha
    simp [Value.ownBlock] at h1
    simp
    exact fun e => h1 e.symm)
set_option maxRecDepth 100000 in
set_option maxHeartbeats 12800000 in
theorem refDecode_any (A : Option Addr) (n c : Nat) (L : List Int) (w : World) (hl : L.length = n) (hn : n ≤ 65536) (hc : n ≤ c) (hA : Rd w A (u8s L)) (hB : IsByte L) (hlow : L ≠ [] → ∀ a, A = some a → a.block < w.heap.size) :
    Calls Try.prog 12 #[.slice A n c] w (DecDone w (decB L)) := by
  have HL := Lib.hid hl
  have HA := Lib.hid hA
  have HB := Lib.hid hB
  have HLow := Lib.hid hlow
  have HR0 : Hid (Blk (w.alloc (.cells #[.slice none 0 0, .slice none 0 0, .slice none 0 0, .slice none 0 0] 38)) w.heap.size 38 #[.slice none 0 0, .slice none 0 0, .slice none 0 0, .slice none 0 0]) := Blk.new w _ _
  have HK0 : Hid (Keeps w (w.alloc (.cells #[.slice none 0 0, .slice none 0 0, .slice none 0 0, .slice none 0 0] 38)) []) := (Keeps.refl w []).alloc _
  clear hl hA hB hlow
  go_enter Try.func12, Try.ntmps12
  go_upto_block 0 with fail
  go_cut [] (fun wx => Hid (L.take 5 = magicL) ∧ Blk wx w.heap.size 38 #[.slice none 0 0, .slice none 0 0, .slice none 0 0, .slice none 0 0] ∧ Keeps w wx [])
  case first =>
    go_wp2_with fail
    go_loopw [4] (fun i wr => ∃ j : Nat, i = .int .i64 j ∧ j ≤ 5 ∧ j ≤ n ∧ Hid (L.take j = magicL.take j) ∧ Blk wr w.heap.size 38 #[.slice none 0 0, .slice none 0 0, .slice none 0 0, .slice none 0 0] ∧ Keeps w wr []) (fun i _ => 5 - (intOf i).toNat)
    case atStart => exact ⟨0, rfl, by omega, by omega, rfl, HR0.out, HK0.out⟩
    case round =>
      clear HR0 HK0
      obtain ⟨j, rfl, hj5, hjn, HT, hr, kr⟩ := hrel
      have HR := Lib.hid hr
      have HK := Lib.hid kr
      clear kr
      by_cases h5 : j < 5
      · by_cases hend : n ≤ j
        · have d1 : decide ((n : Int) ≤ (j : Int)) = true := by simp only [decide_eq_true_eq]; omega
          have HQ := Lib.hid (dec_short h5 HT.out (by rw [HL.out]; omega))
          have x0 := hr.frozen 0
          have x1 := hr.frozen 1
          have x2 := hr.frozen 2
          have x3 := hr.frozen 3
          have v0 := hr.cell 0
          have v1 := hr.cell 1
          have v2 := hr.cell 2
          have v3 := hr.cell 3
          clear hr
          go_wp2_with fail
          clear x0 x1 x2 x3 v0 v1 v2 v3
          obtain ⟨hB, hk1⟩ := arr4_set (v0 := .slice none 0 0) (v1 := .slice none 0 0) (v2 := .slice none 0 0) (v3 := .slice none 0 0) HR.out
          generalize World.setCell _ ⟨w.heap.size, 3, none⟩ _ = W at *
          have y0 : World.cell? W ⟨w.heap.size, 0, none⟩ = _ := hB.cell 0
          have y1 : World.cell? W ⟨w.heap.size, 1, none⟩ = _ := hB.cell 1
          have y2 : World.cell? W ⟨w.heap.size, 2, none⟩ = _ := hB.cell 2
          have y3 : World.cell? W ⟨w.heap.size, 3, none⟩ = _ := hB.cell 3
          refine bodyPost_ret (v := .tuple #[.agg #[.slice none 0 0, .slice none 0 0, .slice none 0 0, .slice none 0 0], .int .i64 3]) (by simp [results, Try.results12, go_sem, y0, y1, y2, y3]) rfl ?_
          rw [HQ.out]
          exact ⟨none, none, none, none, 0, 0, 0, 0, rfl, noObj_is _, (HK.out.past hk1 (fun q hq => by simp at hq; simp; omega))⟩
        · have d1 : decide ((n : Int) ≤ (j : Int)) = false := by simp only [decide_eq_false_iff_not]; omega
          obtain ⟨x, hx⟩ := at_of HL.out (show j < n by omega)
          obtain ⟨m, hm, hm0, hm1⟩ := magic_at j h5
          obtain ⟨b, off, v, hA', hb7, hc7, hv7⟩ := HA.out j (by rw [u8s_len, HL.out]; omega)
          subst hA'
          rw [u8s, List.getElem?_map, hx] at hv7
          injection hv7 with hv7
          subst hv7
          have qx := (HK.out.cell0 hb7).trans hc7
          have hmag : World.cell? (wr.alloc (.cells #[.int .u8 82, .int .u8 83, .int .u8 76, .int .u8 86, .int .u8 1] 5)).drew ⟨wr.heap.size, j, none⟩ = some (.int .u8 m) := ((Blk.new wr 5 _).cell j).trans (magic_cell hm)
          have b0 : (0 : Int) ≤ (j : Int) := Int.natCast_nonneg _
          have b1 : (j : Int) < (n : Int) := by omega
          have b2 : (j : Int) < 5 := by omega
          have HX := Lib.hid hx
          have HM := Lib.hid hm
          clear hx hm hc7 hm0 hm1 hr
          by_cases hxm : x = m
          · have d2 : (x == m) = true := by simpa using hxm
            have HT2 : Hid (L.take (j + 1) = magicL.take (j + 1)) := eq_step HX.out HM.out hxm HT.out
            clear hxm
            go_wp2_with fail
            refine wp_region_tx (fun W' => W'.cell? ⟨b, off + j, none⟩ = some (.int .u8 x)) [(0, true), (1, true), (2, true), (3, true), (5, true), (4, false), (6, true), (7, false), (8, false)] (by kernel_rfl) (by kernel_rfl) (by exact qx) (fun hHeld => ?_)
            (repeat (first | (refine wpTx_take (v := ?_) rfl (by assumption) ?_ (by rfl) ?_; rotate_left; (focus (intro w' hSw; (try dsimp only at hSw); go_simp; (try with_reducible rfl); done)); simp only [Act.put, List.setIfInBounds_toArray, List.set_cons_zero, List.set_cons_succ]) | (refine wpTx_skip rfl (by assumption) (by rfl) ?_; simp only [Act.put, List.setIfInBounds_toArray, List.set_cons_zero, List.set_cons_succ])))
            refine wpTx_go rfl (fun K hK => ?_)
            go_simp
            refine hK.out _ _ ?_ ?_
            · have k5 := (Keeps.refl wr []).drew.alloc (.cells #[.int .u8 82, .int .u8 83, .int .u8 76, .int .u8 86, .int .u8 1] 5)
              exact (k5.cell0 (World.block_lt_of_cell? wr _ qx)).trans qx
            (clear hHeld; intro hHeld; clear hK K; (try simp only [Act.put, List.setIfInBounds_toArray, List.set_cons_zero, List.set_cons_succ]))
            (repeat (first | (refine wpTx_take (v := ?_) rfl (by assumption) ?_ (by rfl) ?_; rotate_left; (focus (intro w' hSw; (try dsimp only at hSw); go_simp; (try with_reducible rfl); done)); simp only [Act.put, List.setIfInBounds_toArray, List.set_cons_zero, List.set_cons_succ]) | (refine wpTx_skip rfl (by assumption) (by rfl) ?_; simp only [Act.put, List.setIfInBounds_toArray, List.set_cons_zero, List.set_cons_succ])))
            refine wpTx_go rfl (fun K hK => ?_)
            go_simp
            refine hK.out _ _ ?_ ?_
            · have k5 := (Keeps.refl wr []).alloc (.cells #[.int .u8 82, .int .u8 83, .int .u8 76, .int .u8 86, .int .u8 1] 5) |>.drew
              exact (k5.cell0 (World.block_lt_of_cell? wr _ qx)).trans qx
            (clear hHeld; intro hHeld; clear hK K; (try simp only [Act.put, List.setIfInBounds_toArray, List.set_cons_zero, List.set_cons_succ]))
            refine wpTx_last rfl (fun K hK => ?_)
            go_simp
            refine hK.out _ _ (NoPanic.normal ?_); clear hK K; (try simp only [Act.put, List.setIfInBounds_toArray, List.set_cons_zero, List.set_cons_succ])
            have k5 := (Keeps.refl wr []).alloc (.cells #[.int .u8 82, .int .u8 83, .int .u8 76, .int .u8 86, .int .u8 1] 5) |>.drew
            have HR5 := Lib.hid (HR.out.keep k5 (by simp))
            have HK5 := Lib.hid (HK.out.trans k5)
            clear k5 hmag qx hHeld
            go_wp2_with fail
            go_roundw
            case rel => exact ⟨j + 1, by go_num, by omega, by omega, HT2.out, HR5.out, HK5.out⟩
            case measure => simp [intOf]; omega
          · have d2 : (x == m) = false := by simpa using hxm
            have HQ := Lib.hid (dec_wrong HT.out HX.out HM.out hxm)
            clear hxm
            go_wp2_with fail
            refine wp_region_tx (fun W' => W'.cell? ⟨b, off + j, none⟩ = some (.int .u8 x)) [(0, true), (1, true), (2, true), (3, true), (5, true), (4, false), (6, true), (7, false), (8, false)] (by kernel_rfl) (by kernel_rfl) (by exact qx) (fun hHeld => ?_)
            (repeat (first | (refine wpTx_take (v := ?_) rfl (by assumption) ?_ (by rfl) ?_; rotate_left; (focus (intro w' hSw; (try dsimp only at hSw); go_simp; (try with_reducible rfl); done)); simp only [Act.put, List.setIfInBounds_toArray, List.set_cons_zero, List.set_cons_succ]) | (refine wpTx_skip rfl (by assumption) (by rfl) ?_; simp only [Act.put, List.setIfInBounds_toArray, List.set_cons_zero, List.set_cons_succ])))
            refine wpTx_go rfl (fun K hK => ?_)
            go_simp
            refine hK.out _ _ ?_ ?_
            · have k5 := (Keeps.refl wr []).drew.alloc (.cells #[.int .u8 82, .int .u8 83, .int .u8 76, .int .u8 86, .int .u8 1] 5)
              exact (k5.cell0 (World.block_lt_of_cell? wr _ qx)).trans qx
            (clear hHeld; intro hHeld; clear hK K; (try simp only [Act.put, List.setIfInBounds_toArray, List.set_cons_zero, List.set_cons_succ]))
            (repeat (first | (refine wpTx_take (v := ?_) rfl (by assumption) ?_ (by rfl) ?_; rotate_left; (focus (intro w' hSw; (try dsimp only at hSw); go_simp; (try with_reducible rfl); done)); simp only [Act.put, List.setIfInBounds_toArray, List.set_cons_zero, List.set_cons_succ]) | (refine wpTx_skip rfl (by assumption) (by rfl) ?_; simp only [Act.put, List.setIfInBounds_toArray, List.set_cons_zero, List.set_cons_succ])))
            refine wpTx_go rfl (fun K hK => ?_)
            go_simp
            refine hK.out _ _ ?_ ?_
            · have k5 := (Keeps.refl wr []).alloc (.cells #[.int .u8 82, .int .u8 83, .int .u8 76, .int .u8 86, .int .u8 1] 5) |>.drew
              exact (k5.cell0 (World.block_lt_of_cell? wr _ qx)).trans qx
            (clear hHeld; intro hHeld; clear hK K; (try simp only [Act.put, List.setIfInBounds_toArray, List.set_cons_zero, List.set_cons_succ]))
            refine wpTx_last rfl (fun K hK => ?_)
            go_simp
            refine hK.out _ _ (NoPanic.normal ?_); clear hK K; (try simp only [Act.put, List.setIfInBounds_toArray, List.set_cons_zero, List.set_cons_succ])
            have k5 := (Keeps.refl wr []).alloc (.cells #[.int .u8 82, .int .u8 83, .int .u8 76, .int .u8 86, .int .u8 1] 5)
            have hr5 := HR.out.keep k5 (by simp)
            have HR5 := Lib.hid hr5
            have HK5 := Lib.hid (HK.out.trans k5)
            have x0 := hr5.frozen 0
            have x1 := hr5.frozen 1
            have x2 := hr5.frozen 2
            have x3 := hr5.frozen 3
            have v0 := hr5.cell 0
            have v1 := hr5.cell 1
            have v2 := hr5.cell 2
            have v3 := hr5.cell 3
            clear k5 hmag qx hHeld hr5
            go_wp2_with fail
            clear x0 x1 x2 x3 v0 v1 v2 v3
            obtain ⟨hB, hk1⟩ := arr4_set (v0 := .slice none 0 0) (v1 := .slice none 0 0) (v2 := .slice none 0 0) (v3 := .slice none 0 0) HR5.out
            generalize World.setCell _ ⟨w.heap.size, 3, none⟩ _ = W at *
            have y0 : World.cell? W.drew ⟨w.heap.size, 0, none⟩ = _ := hB.cell 0
            have y1 : World.cell? W.drew ⟨w.heap.size, 1, none⟩ = _ := hB.cell 1
            have y2 : World.cell? W.drew ⟨w.heap.size, 2, none⟩ = _ := hB.cell 2
            have y3 : World.cell? W.drew ⟨w.heap.size, 3, none⟩ = _ := hB.cell 3
            refine bodyPost_ret (v := .tuple #[.agg #[.slice none 0 0, .slice none 0 0, .slice none 0 0, .slice none 0 0], .int .i64 5]) (by simp [results, Try.results12, go_sem, y0, y1, y2, y3]) rfl ?_
            rw [HQ.out]
            exact ⟨none, none, none, none, 0, 0, 0, 0, rfl, noObj_is _, (HK5.out.past hk1 (fun q hq => by simp at hq; simp; omega)).drew⟩
      · obtain rfl : j = 5 := by omega
        have d0 : decide (((5 : Nat) : Int) < 5) = false := by decide
        have HT2 : Hid (L.take 5 = magicL) := HT.out
        go_wp2_with fail
        go_meet
        exact ⟨HT2.out, HR.out, HK.out⟩
  case rest =>
  obtain ⟨HT, hr, kr⟩ := hcut
  have HMg := Lib.hid (magic_ok HT.out)
  have hn5 : 5 ≤ n := by
    have h1 := congrArg List.length HT.out
    rw [List.length_take, HL.out] at h1
    have h2 : magicL.length = 5 := rfl
    omega
  have hrd : RrAt (wc.alloc (.cells #[.slice A n c, .int .i64 5, .int .i64 0] 101)) wc.heap.size (wc.heap.size + 1) A n c L ⟨L.drop 5, 0⟩ :=
    ⟨⟨5, Blk.new wc _ _, fun _ => ⟨5, rfl, hn5, rfl⟩⟩, (HA.out.keep kr).alloc _, fun hne a ha => by have := HLow.out hne a ha; have := kr.size; omega, HL.out, hc, hn, HB.out, by omega, by simp⟩
  have hR1 := hr.alloc (.cells #[.slice A n c, .int .i64 5, .int .i64 0] 101)
  have hK1 := kr.alloc (.cells #[.slice A n c, .int .i64 5, .int .i64 0] 101)
  have hgl : w.heap.size < wc.heap.size := hr.lt
  have HRd := Lib.hid hrd
  have HR := Lib.hid hR1
  have HK := Lib.hid hK1
  have hHd : headR ⟨L, 0⟩ = ⟨(numR 2 ⟨L.drop 5, 0⟩).1, (numR 2 (numR 2 ⟨L.drop 5, 0⟩).2).1, (numR 2 (numR 2 (numR 2 ⟨L.drop 5, 0⟩).2).2).1, (numR 2 (numR 2 (numR 2 (numR 2 ⟨L.drop 5, 0⟩).2).2).2).1, fullR (numR 2 ⟨L.drop 5, 0⟩).1 (numR 2 (numR 2 ⟨L.drop 5, 0⟩).2).1 (numR 2 (numR 2 (numR 2 ⟨L.drop 5, 0⟩).2).2).1 (numR 2 (numR 2 (numR 2 (numR 2 ⟨L.drop 5, 0⟩).2).2).2).1 (numR 2 (numR 2 (numR 2 (numR 2 ⟨L.drop 5, 0⟩).2).2).2).2⟩ := by rw [headR, HMg.out]
  have hbd := headR_lt (s := ⟨L, 0⟩) HB.out
  rw [hHd] at hbd
  have HHd := Lib.hid hHd
  obtain ⟨⟨na, s1⟩, e1⟩ : ∃ r, numR 2 ⟨L.drop 5, 0⟩ = r := ⟨_, rfl⟩
  have hc1 := fun w h => refRnum_any 2 (by omega) w wc.heap.size (wc.heap.size + 1) A n c L ⟨L.drop 5, 0⟩ h
  rw [e1] at hbd HHd hc1
  simp only at hbd HHd hc1
  obtain ⟨⟨nf, s2⟩, e2⟩ : ∃ r, numR 2 s1 = r := ⟨_, rfl⟩
  have hc2 := fun w h => refRnum_any 2 (by omega) w wc.heap.size (wc.heap.size + 1) A n c L s1 h
  rw [e2] at hbd HHd hc2
  simp only at hbd HHd hc2
  obtain ⟨⟨np, s3⟩, e3⟩ : ∃ r, numR 2 s2 = r := ⟨_, rfl⟩
  have hc3 := fun w h => refRnum_any 2 (by omega) w wc.heap.size (wc.heap.size + 1) A n c L s2 h
  rw [e3] at hbd HHd hc3
  simp only at hbd HHd hc3
  obtain ⟨⟨nc, s4⟩, e4⟩ : ∃ r, numR 2 s3 = r := ⟨_, rfl⟩
  have hc4 := fun w h => refRnum_any 2 (by omega) w wc.heap.size (wc.heap.size + 1) A n c L s3 h
  rw [e4] at hbd HHd hc4
  simp only at hbd HHd hc4
  have HC1 := Lib.hid hc1
  have HC2 := Lib.hid hc2
  have HC3 := Lib.hid hc3
  have HC4 := Lib.hid hc4
  obtain ⟨hna, hnf, hnp, hnc⟩ := hbd
  clear hr kr hrd hR1 hK1 hHd e1 e2 e3 e4 hc1 hc2 hc3 hc4 HR0 HK0
  go_wp2_with fail
  generalize wc.alloc (.cells #[.slice A n c, .int .i64 5, .int .i64 0] 101) = wd at *
  generalize wc.heap.size = g at *
  refine (HC1.out _ HRd.out).mono ?_
  rintro e w1 ⟨rfl, h1, k1⟩
  go_wp2_with fail
  refine (HC2.out _ h1).mono ?_
  rintro e w2 ⟨rfl, h2, k2⟩
  go_wp2_with fail
  refine (HC3.out _ h2).mono ?_
  rintro e w3 ⟨rfl, h3, k3⟩
  go_wp2_with fail
  refine (HC4.out _ h3).mono ?_
  rintro e w4 ⟨rfl, h4, k4⟩
  have kk := ((k1.trans k2).trans k3).trans k4
  have HR4 := Lib.hid (HR.out.keep kk (by simp; omega))
  have HK4 := Lib.hid (HK.out.past kk (fun q hq => by simp at hq; exact .inr (by omega)))
  have HRd4 := Lib.hid h4
  have ze : World.cell? w4 ⟨g, 2, none⟩ = some (.int .i64 s4.err) := by
    obtain ⟨p, hb, _⟩ := h4.ex
    exact hb.cell 2
  clear h1 h2 h3 h4 k1 k2 k3 k4 kk HC1 HC2 HC3 HC4 HR HK HRd
  by_cases he : s4.err = 0
  case neg =>
    have d0 : (s4.err != 0) = true := by simpa using he
    have hh : (headR ⟨L, 0⟩).s = s4 := by rw [HHd.out]; show fullR _ _ _ _ _ = _; rw [fullR, if_neg (fun h => he h.1)]
    have HQ : Hid (decB L = (noObj, s4.err)) := by
      have h2 := dec_head (L := L) (by rw [hh]; exact he)
      rw [hh] at h2
      exact h2
    have x0 := HR4.out.frozen 0
    have x1 := HR4.out.frozen 1
    have x2 := HR4.out.frozen 2
    have x3 := HR4.out.frozen 3
    have v0 := HR4.out.cell 0
    have v1 := HR4.out.cell 1
    have v2 := HR4.out.cell 2
    have v3 := HR4.out.cell 3
    clear he hh
    go_upto_region 14 with fail
    go_region
    go_wp2_with fail
    clear x0 x1 x2 x3 v0 v1 v2 v3
    obtain ⟨hB, hk1⟩ := arr4_set (v0 := .slice none 0 0) (v1 := .slice none 0 0) (v2 := .slice none 0 0) (v3 := .slice none 0 0) HR4.out
    generalize World.setCell _ ⟨w.heap.size, 3, none⟩ _ = W at *
    have y0 : World.cell? W.drew ⟨w.heap.size, 0, none⟩ = _ := hB.cell 0
    have y1 : World.cell? W.drew ⟨w.heap.size, 1, none⟩ = _ := hB.cell 1
    have y2 : World.cell? W.drew ⟨w.heap.size, 2, none⟩ = _ := hB.cell 2
    have y3 : World.cell? W.drew ⟨w.heap.size, 3, none⟩ = _ := hB.cell 3
    refine bodyPost_ret (v := .tuple #[.agg #[.slice none 0 0, .slice none 0 0, .slice none 0 0, .slice none 0 0], .int .i64 s4.err]) (by simp [results, Try.results12, go_sem, y0, y1, y2, y3]) rfl ?_
    rw [HQ.out]
    exact ⟨none, none, none, none, 0, 0, 0, 0, rfl, noObj_is _, (HK4.out.past hk1 (fun q hq => by simp at hq; simp; omega)).drew⟩
  have d0 : (s4.err != 0) = false := by simpa using he
  cases hbig : bigB na nf np nc
  case true =>
    have hh : (headR ⟨L, 0⟩).s = ⟨s4.rest, 2⟩ := by rw [HHd.out]; show fullR _ _ _ _ _ = _; rw [fullR, if_pos ⟨he, hbig⟩]
    have HQ : Hid (decB L = (noObj, 2)) := by
      have h2 := dec_head (L := L) (by rw [hh]; show (2 : Int) ≠ 0; decide)
      rw [hh] at h2
      exact h2
    have x0 := HR4.out.frozen 0
    have x1 := HR4.out.frozen 1
    have x2 := HR4.out.frozen 2
    have x3 := HR4.out.frozen 3
    have v0 := HR4.out.cell 0
    have v1 := HR4.out.cell 1
    have v2 := HR4.out.cell 2
    have v3 := HR4.out.cell 3
    clear he hh
    go_wp2_with (go_at_call 48; refine (refBig_any na nf np nc _).mono ?_; rw [hbig]; rintro e w5 ⟨rfl, rfl⟩)
    clear x0 x1 x2 x3 v0 v1 v2 v3
    obtain ⟨hB, hk1⟩ := arr4_set (v0 := .slice none 0 0) (v1 := .slice none 0 0) (v2 := .slice none 0 0) (v3 := .slice none 0 0) HR4.out
    generalize World.setCell _ ⟨w.heap.size, 3, none⟩ _ = W at *
    have y0 : World.cell? W ⟨w.heap.size, 0, none⟩ = _ := hB.cell 0
    have y1 : World.cell? W ⟨w.heap.size, 1, none⟩ = _ := hB.cell 1
    have y2 : World.cell? W ⟨w.heap.size, 2, none⟩ = _ := hB.cell 2
    have y3 : World.cell? W ⟨w.heap.size, 3, none⟩ = _ := hB.cell 3
    refine bodyPost_ret (v := .tuple #[.agg #[.slice none 0 0, .slice none 0 0, .slice none 0 0, .slice none 0 0], .int .i64 2]) (by simp [results, Try.results12, go_sem, y0, y1, y2, y3]) rfl ?_
    rw [HQ.out]
    exact ⟨none, none, none, none, 0, 0, 0, 0, rfl, noObj_is _, (HK4.out.past hk1 (fun q hq => by simp at hq; simp; omega))⟩
  have HHead : Hid (headR ⟨L, 0⟩ = ⟨na, nf, np, nc, s4⟩) := by
    show _ = _
    rw [HHd.out]
    have hfu : fullR na nf np nc s4 = s4 := by rw [fullR, if_neg (fun h => by rw [hbig] at h; cases h.2)]
    rw [hfu]
  clear HHd
  go_upto_block 2 with (go_at_call 48; refine (refBig_any na nf np nc _).mono ?_; rw [hbig]; rintro e w5 ⟨rfl, rfl⟩)

  have hob : g < w4.heap.size := by have := HRd4.out.le; omega
  have hst : DdSt w (w4.alloc (.cells #[.slice none 0 0, .slice none 0 0, .slice none 0 0, .slice none 0 0] 38)) g w4.heap.size A n c L s4 none none none none 0 0 0 0 0 0 0 0 [] [] [] [] :=
    ⟨HRd4.out.keep0 ((Keeps.refl w4 []).alloc _), hgl, hob, HR4.out.alloc _, Blk.new w4 _ _, World.ownsRow_nil _ _ _ _, World.ownsRow_nil _ _ _ _, World.ownsRow_nil _ _ _ _, World.ownsRow_nil _ _ _ _, HK4.out.alloc _⟩
  have HST := Lib.hid hst
  clear hst HR4 HK4 HRd4 ze he d0 hbig
  generalize w4.alloc (.cells #[.slice none 0 0, .slice none 0 0, .slice none 0 0, .slice none 0 0] 38) = w5 at *
  generalize w4.heap.size = ob at *
  go_cut [] (fun wx => ∃ A1 c1 l1 t1, l1.length = na ∧ ((manyR nameR na s4).2 = t1 ∧ (t1.err = 0 → (manyR nameR na s4).1 = l1)) ∧ DdSt w wx g ob A n c L t1 A1 none none none na 0 0 0 c1 0 0 0 l1 [] [] [])
  case first =>
    go_wp2_with fail
    go_loopw [11] (fun i wr => ∃ k : Nat, i = .int .i64 k ∧ ∃ A9 c9 l9 s9, ManyEx nameR na s4 k l9 s9 ∧ DdSt w wr g ob A n c L s9 A9 none none none k 0 0 0 c9 0 0 0 l9 [] [] []) (fun i _ => na - (intOf i).toNat)
    case atStart => exact ⟨0, rfl, none, 0, [], s4, ManyEx.start _ _ _, HST.out⟩
    case round =>
      clear HST
      obtain ⟨k, rfl, A9, c9, l9, s9, hm, hst⟩ := hrel
      have HM := Lib.hid hm
      have HS := Lib.hid hst
      have hk := hm.le
      clear hm hst
      by_cases hkn : k < na
      · have d1 : decide ((k : Int) < (na : Int)) = true := by simp only [decide_eq_true_eq]; omega
        have HStep := Lib.hid (HM.out.step (fun s h => nameR_keep h) hkn)
        go_upto_region 21 with fail
        have HD := Lib.hid (HS.out.go ((Keeps.refl wr []).drew))
        obtain ⟨f0, f1⟩ := HS.out.see1 (Keeps.refl wr _)
        refine wp_region_tx (fun W' => W'.frozen? ⟨ob, 0, none⟩ = false ∧ W'.cell? ⟨ob, 0, none⟩ = some (.slice A9 k c9)) [(0, true), (1, true), (2, true), (3, false), (4, false), (5, false), (6, true), (7, false)] (by kernel_rfl) (by kernel_rfl) (by exact ⟨f0, f1⟩) (fun hHeld => ?_)
        (repeat (first | (refine wpTx_take (v := ?_) rfl (by assumption) ?_ (by rfl) ?_; rotate_left; (focus (intro w' hSw; (try dsimp only at hSw); go_simp; (try with_reducible rfl); done)); simp only [Act.put, List.setIfInBounds_toArray, List.set_cons_zero, List.set_cons_succ]) | (refine wpTx_skip rfl (by assumption) (by rfl) ?_; simp only [Act.put, List.setIfInBounds_toArray, List.set_cons_zero, List.set_cons_succ])))
        refine wpTx_go rfl (fun K hK => ?_)
        go_simp
        refine (refRname_any _ g (g + 1) A n c L s9 HD.out.rdr).mono ?_
        rintro e w8 ⟨rfl, h8, k8⟩
        have HF := Lib.hid (HD.out.read h8 k8)
        clear h8 k8
        refine hK.out _ _ ?_ ?_
        · exact HF.out.see1 (Keeps.refl _ _)
        (clear hHeld; intro hHeld; clear hK K)
        (repeat (first | (refine wpTx_take (v := ?_) rfl (by assumption) ?_ (by rfl) ?_; rotate_left; (focus (intro w' hSw; (try dsimp only at hSw); go_simp; (try with_reducible rfl); done)); simp only [Act.put, List.setIfInBounds_toArray, List.set_cons_zero, List.set_cons_succ]) | (refine wpTx_skip rfl (by assumption) (by rfl) ?_; simp only [Act.put, List.setIfInBounds_toArray, List.set_cons_zero, List.set_cons_succ])))
        refine wpTx_go rfl (fun K hK => ?_)
        go_simp
        refine hK.out _ _ ?_ ?_
        · exact HF.out.see1 (((Keeps.refl w8 []).alloc _).to_ _)
        (clear hHeld; intro hHeld; clear hK K; (try simp only [Act.put, List.setIfInBounds_toArray, List.set_cons_zero, List.set_cons_succ]))
        refine wpTx_go rfl (fun K hK => ?_)
        refine step_app _ el_string (by rfl) _ _ (by rfl) ob A9 k c9 (l9.flatMap strE) (by rfl) (own_keep0 HF.out.r1 ((Keeps.refl w8 []).alloc _)) (some ⟨w8.heap.size, 0, none⟩) 1 1 (strE (nameR s9).1) (by rfl) (Rd.one w8 _ (strE (nameR s9).1)) rfl (by simp) (by simp [strE, Value.oneCell']) (by omega) (by simp; have := HF.out.out.lt; omega) ?_
        intro A' c' w9 hown hgrow hat
        refine hK.out _ _ ?_ ?_
        · exact HF.out.see1 (((Keeps.refl w8 []).alloc _).rest (Keeps.ofGrown hgrow))
        (clear hHeld; intro hHeld; clear hK K; (try simp only [Act.put, List.setIfInBounds_toArray, List.set_cons_zero, List.set_cons_succ]))
        (repeat (first | (refine wpTx_take (v := ?_) rfl (by assumption) ?_ (by rfl) ?_; rotate_left; (focus (intro w' hSw; (try dsimp only at hSw); go_simp; (try with_reducible rfl); done)); simp only [Act.put, List.setIfInBounds_toArray, List.set_cons_zero, List.set_cons_succ]) | (refine wpTx_skip rfl (by assumption) (by rfl) ?_; simp only [Act.put, List.setIfInBounds_toArray, List.set_cons_zero, List.set_cons_succ])))
        refine wpTx_last rfl (fun K hK => ?_)
        go_simp
        refine hK.out _ _ (NoPanic.normal ?_); clear hK K; (try simp only [Act.put, List.setIfInBounds_toArray, List.set_cons_zero, List.set_cons_succ])
        go_wp2_with fail
        go_roundw
        case rel => exact ⟨k + 1, by go_num, A', c', _, _, HStep.out, HF.out.step1 ((Keeps.refl w8 []).alloc _) (x := (nameR s9).1) hown hgrow⟩
        case measure => simp [intOf]; omega
      · obtain rfl : k = na := by omega
        have d1 : decide ((k : Int) < (k : Int)) = false := by simp
        have HP := Lib.hid HM.out.stop
        go_wp2_with fail
        go_meet
        exact ⟨A9, c9, l9, s9, HM.out.len, HP.out, HS.out⟩
  case rest =>
  obtain ⟨A1, c1, l1, t1, hl1, hp1, hst⟩ := hcut
  have HL1 := Lib.hid hl1
  have HP1 := Lib.hid hp1
  clear HST
  have HST := Lib.hid hst
  clear hl1 hp1 hst
  go_upto_block 4 with fail
  go_cut [] (fun wx => ∃ A2 c2 l2 t2, l2.length = nf ∧ ((manyR funR nf t1).2 = t2 ∧ (t2.err = 0 → (manyR funR nf t1).1 = l2)) ∧ DdSt w wx g ob A n c L t2 A1 A2 none none na nf 0 0 c1 c2 0 0 l1 l2 [] [])
  case first =>
    go_wp2_with fail
    go_loopw [12] (fun i wr => ∃ k : Nat, i = .int .i64 k ∧ ∃ A9 c9 l9 s9, ManyEx funR nf t1 k l9 s9 ∧ DdSt w wr g ob A n c L s9 A1 A9 none none na k 0 0 c1 c9 0 0 l1 l9 [] []) (fun i _ => nf - (intOf i).toNat)
    case atStart => exact ⟨0, rfl, none, 0, [], t1, ManyEx.start _ _ _, HST.out⟩
    case round =>
      clear HST
      obtain ⟨k, rfl, A9, c9, l9, s9, hm, hst⟩ := hrel
      have HM := Lib.hid hm
      have HS := Lib.hid hst
      have hk := hm.le
      clear hm hst
      by_cases hkn : k < nf
      · have d1 : decide ((k : Int) < (nf : Int)) = true := by simp only [decide_eq_true_eq]; omega
        have HStep := Lib.hid (HM.out.step (fun s h => funR_keep h) hkn)
        go_wp2_with fail
        refine (refRname_any _ g (g + 1) A n c L s9 HS.out.rdr).mono ?_
        rintro e w6 ⟨rfl, h6, k6⟩
        have HS1 := Lib.hid (HS.out.read h6 k6)
        clear h6 k6
        go_upto_region 26 with fail
        have HD := Lib.hid (HS1.out.go ((Keeps.refl w6 []).drew))
        obtain ⟨f0, f1⟩ := HS1.out.see2 (Keeps.refl w6 _)
        refine wp_region_tx (fun W' => W'.frozen? ⟨ob, 1, none⟩ = false ∧ W'.cell? ⟨ob, 1, none⟩ = some (.slice A9 k c9)) [(0, true), (1, true), (2, true), (3, true), (4, false), (5, true), (6, false), (7, false), (8, true), (9, false)] (by kernel_rfl) (by kernel_rfl) (by exact ⟨f0, f1⟩) (fun hHeld => ?_)
        (repeat (first | (refine wpTx_take (v := ?_) rfl (by assumption) ?_ (by rfl) ?_; rotate_left; (focus (intro w' hSw; (try dsimp only at hSw); go_simp; (try with_reducible rfl); done)); simp only [Act.put, List.setIfInBounds_toArray, List.set_cons_zero, List.set_cons_succ]) | (refine wpTx_skip rfl (by assumption) (by rfl) ?_; simp only [Act.put, List.setIfInBounds_toArray, List.set_cons_zero, List.set_cons_succ])))
        refine wpTx_go rfl (fun K hK => ?_)
        go_simp
        refine (refRnum_any 1 (by omega) _ g (g + 1) A n c L _ HD.out.rdr).mono ?_
        rintro e w8 ⟨rfl, h8, k8⟩
        have HF := Lib.hid (HD.out.read h8 k8)
        clear h8 k8
        refine hK.out _ _ ?_ ?_
        · exact HF.out.see2 (Keeps.refl _ _)
        (clear hHeld; intro hHeld; clear hK K; (try simp only [Act.put, List.setIfInBounds_toArray, List.set_cons_zero, List.set_cons_succ]))
        (repeat (first | (refine wpTx_take (v := ?_) rfl (by assumption) ?_ (by rfl) ?_; rotate_left; (focus (intro w' hSw; (try dsimp only at hSw); go_simp; (try with_reducible rfl); done)); simp only [Act.put, List.setIfInBounds_toArray, List.set_cons_zero, List.set_cons_succ]) | (refine wpTx_skip rfl (by assumption) (by rfl) ?_; simp only [Act.put, List.setIfInBounds_toArray, List.set_cons_zero, List.set_cons_succ])))
        refine wpTx_go rfl (fun K hK => ?_)
        go_simp
        refine hK.out _ _ ?_ ?_
        · exact HF.out.see2 (((Keeps.refl w8 []).alloc _).to_ _)
        (clear hHeld; intro hHeld; clear hK K; (try simp only [Act.put, List.setIfInBounds_toArray, List.set_cons_zero, List.set_cons_succ]))
        refine wpTx_go rfl (fun K hK => ?_)
        refine step_app _ el_rfun (by rfl) _ _ (by rfl) ob A9 k c9 (l9.flatMap funE) (by rfl) (own_keep0 HF.out.r2 ((Keeps.refl w8 []).alloc _)) (some ⟨w8.heap.size, 0, none⟩) 1 1 (funE (funR s9).1) (by rfl) (Rd.one w8 _ (funE (funR s9).1)) rfl (by simp) (by simp [funE, Value.oneCell']) (by omega) (by simp; have := HF.out.out.lt; omega) ?_
        intro A' c' w9 hown hgrow hat
        refine hK.out _ _ ?_ ?_
        · exact HF.out.see2 (((Keeps.refl w8 []).alloc _).rest (Keeps.ofGrown hgrow))
        (clear hHeld; intro hHeld; clear hK K; (try simp only [Act.put, List.setIfInBounds_toArray, List.set_cons_zero, List.set_cons_succ]))
        (repeat (first | (refine wpTx_take (v := ?_) rfl (by assumption) ?_ (by rfl) ?_; rotate_left; (focus (intro w' hSw; (try dsimp only at hSw); go_simp; (try with_reducible rfl); done)); simp only [Act.put, List.setIfInBounds_toArray, List.set_cons_zero, List.set_cons_succ]) | (refine wpTx_skip rfl (by assumption) (by rfl) ?_; simp only [Act.put, List.setIfInBounds_toArray, List.set_cons_zero, List.set_cons_succ])))
        refine wpTx_last rfl (fun K hK => ?_)
        go_simp
        refine hK.out _ _ (NoPanic.normal ?_); clear hK K; (try simp only [Act.put, List.setIfInBounds_toArray, List.set_cons_zero, List.set_cons_succ])
        go_wp2_with fail
        go_roundw
        case rel => exact ⟨k + 1, by go_num, A', c', _, _, HStep.out, HF.out.step2 ((Keeps.refl w8 []).alloc _) (x := (funR s9).1) hown hgrow⟩
        case measure => simp [intOf]; omega
      · obtain rfl : k = nf := by omega
        have d1 : decide ((k : Int) < (k : Int)) = false := by simp
        have HP := Lib.hid HM.out.stop
        go_wp2_with fail
        go_meet
        exact ⟨A9, c9, l9, s9, HM.out.len, HP.out, HS.out⟩
  case rest =>
  obtain ⟨A2, c2, l2, t2, hl2, hp2, hst⟩ := hcut
  have HL2 := Lib.hid hl2
  have HP2 := Lib.hid hp2
  clear HST
  have HST := Lib.hid hst
  clear hl2 hp2 hst
  go_upto_block 6 with fail
  go_cut [] (fun wx => ∃ A3 c3 l3 t3, l3.length = np ∧ ((manyR predR np t2).2 = t3 ∧ (t3.err = 0 → (manyR predR np t2).1 = l3)) ∧ DdSt w wx g ob A n c L t3 A1 A2 A3 none na nf np 0 c1 c2 c3 0 l1 l2 l3 [])
  case first =>
    go_wp2_with fail
    go_loopw [14] (fun i wr => ∃ k : Nat, i = .int .i64 k ∧ ∃ A9 c9 l9 s9, ManyEx predR np t2 k l9 s9 ∧ DdSt w wr g ob A n c L s9 A1 A2 A9 none na nf k 0 c1 c2 c9 0 l1 l2 l9 []) (fun i _ => np - (intOf i).toNat)
    case atStart => exact ⟨0, rfl, none, 0, [], t2, ManyEx.start _ _ _, HST.out⟩
    case round =>
      clear HST
      obtain ⟨k, rfl, A9, c9, l9, s9, hm, hst⟩ := hrel
      have HM := Lib.hid hm
      have HS := Lib.hid hst
      have hk := hm.le
      clear hm hst
      by_cases hkn : k < np
      · have d1 : decide ((k : Int) < (np : Int)) = true := by simp only [decide_eq_true_eq]; omega
        have HStep := Lib.hid (HM.out.step (fun s h => predR_keep h) hkn)
        go_wp2_with fail
        refine (refRname_any _ g (g + 1) A n c L s9 HS.out.rdr).mono ?_
        rintro e w6 ⟨rfl, h6, k6⟩
        have HS0 := Lib.hid (HS.out.read h6 k6)
        clear h6 k6
        go_wp2_with fail
        refine (refRnum_any 1 (by omega) _ g (g + 1) A n c L _ HS0.out.rdr).mono ?_
        rintro e w7 ⟨rfl, h6, k6⟩
        have HS1 := Lib.hid (HS0.out.read h6 k6)
        clear h6 k6
        go_upto_region 32 with fail
        have HD := Lib.hid (HS1.out.go ((Keeps.refl w7 []).drew))
        obtain ⟨f0, f1⟩ := HS1.out.see3 (Keeps.refl w7 _)
        refine wp_region_tx (fun W' => W'.frozen? ⟨ob, 2, none⟩ = false ∧ W'.cell? ⟨ob, 2, none⟩ = some (.slice A9 k c9)) [(0, true), (1, true), (2, true), (3, true), (4, true), (5, false), (6, true), (7, false), (8, false), (9, true), (10, false)] (by kernel_rfl) (by kernel_rfl) (by exact ⟨f0, f1⟩) (fun hHeld => ?_)
        (repeat (first | (refine wpTx_take (v := ?_) rfl (by assumption) ?_ (by rfl) ?_; rotate_left; (focus (intro w' hSw; (try dsimp only at hSw); go_simp; (try with_reducible rfl); done)); simp only [Act.put, List.setIfInBounds_toArray, List.set_cons_zero, List.set_cons_succ]) | (refine wpTx_skip rfl (by assumption) (by rfl) ?_; simp only [Act.put, List.setIfInBounds_toArray, List.set_cons_zero, List.set_cons_succ])))
        refine wpTx_go rfl (fun K hK => ?_)
        go_simp
        refine (refRnum_any 2 (by omega) _ g (g + 1) A n c L _ HD.out.rdr).mono ?_
        rintro e w8 ⟨rfl, h8, k8⟩
        have HF := Lib.hid (HD.out.read h8 k8)
        clear h8 k8
        refine hK.out _ _ ?_ ?_
        · exact HF.out.see3 (Keeps.refl _ _)
        (clear hHeld; intro hHeld; clear hK K; (try simp only [Act.put, List.setIfInBounds_toArray, List.set_cons_zero, List.set_cons_succ]))
        (repeat (first | (refine wpTx_take (v := ?_) rfl (by assumption) ?_ (by rfl) ?_; rotate_left; (focus (intro w' hSw; (try dsimp only at hSw); go_simp; (try with_reducible rfl); done)); simp only [Act.put, List.setIfInBounds_toArray, List.set_cons_zero, List.set_cons_succ]) | (refine wpTx_skip rfl (by assumption) (by rfl) ?_; simp only [Act.put, List.setIfInBounds_toArray, List.set_cons_zero, List.set_cons_succ])))
        refine wpTx_go rfl (fun K hK => ?_)
        go_simp
        refine hK.out _ _ ?_ ?_
        · exact HF.out.see3 (((Keeps.refl w8 []).alloc _).to_ _)
        (clear hHeld; intro hHeld; clear hK K; (try simp only [Act.put, List.setIfInBounds_toArray, List.set_cons_zero, List.set_cons_succ]))
        refine wpTx_go rfl (fun K hK => ?_)
        refine step_app _ el_rpred (by rfl) _ _ (by rfl) ob A9 k c9 (l9.flatMap predE) (by rfl) (own_keep0 HF.out.r3 ((Keeps.refl w8 []).alloc _)) (some ⟨w8.heap.size, 0, none⟩) 1 1 (predE (predR s9).1) (by rfl) (Rd.one w8 _ (predE (predR s9).1)) rfl (by simp) (by simp [predE, Value.oneCell']) (by omega) (by simp; have := HF.out.out.lt; omega) ?_
        intro A' c' w9 hown hgrow hat
        refine hK.out _ _ ?_ ?_
        · exact HF.out.see3 (((Keeps.refl w8 []).alloc _).rest (Keeps.ofGrown hgrow))
        (clear hHeld; intro hHeld; clear hK K; (try simp only [Act.put, List.setIfInBounds_toArray, List.set_cons_zero, List.set_cons_succ]))
        (repeat (first | (refine wpTx_take (v := ?_) rfl (by assumption) ?_ (by rfl) ?_; rotate_left; (focus (intro w' hSw; (try dsimp only at hSw); go_simp; (try with_reducible rfl); done)); simp only [Act.put, List.setIfInBounds_toArray, List.set_cons_zero, List.set_cons_succ]) | (refine wpTx_skip rfl (by assumption) (by rfl) ?_; simp only [Act.put, List.setIfInBounds_toArray, List.set_cons_zero, List.set_cons_succ])))
        refine wpTx_last rfl (fun K hK => ?_)
        go_simp
        refine hK.out _ _ (NoPanic.normal ?_); clear hK K; (try simp only [Act.put, List.setIfInBounds_toArray, List.set_cons_zero, List.set_cons_succ])
        go_wp2_with fail
        go_roundw
        case rel => exact ⟨k + 1, by go_num, A', c', _, _, HStep.out, HF.out.step3 ((Keeps.refl w8 []).alloc _) (x := (predR s9).1) hown hgrow⟩
        case measure => simp [intOf]; omega
      · obtain rfl : k = np := by omega
        have d1 : decide ((k : Int) < (k : Int)) = false := by simp
        have HP := Lib.hid HM.out.stop
        go_wp2_with fail
        go_meet
        exact ⟨A9, c9, l9, s9, HM.out.len, HP.out, HS.out⟩
  case rest =>
  obtain ⟨A3, c3, l3, t3, hl3, hp3, hst⟩ := hcut
  have HL3 := Lib.hid hl3
  have HP3 := Lib.hid hp3
  clear HST
  have HST := Lib.hid hst
  clear hl3 hp3 hst
  go_upto_block 8 with fail
  go_cut [] (fun wx => ∃ A4 c4 l4 t4 m4, m4 ≤ nc ∧ l4.length = m4 ∧ manyR insR nc t3 = (l4, t4) ∧ DdSt w wx g ob A n c L t4 A1 A2 A3 A4 na nf np m4 c1 c2 c3 c4 l1 l2 l3 l4)
  case first =>
    go_wp2_with fail
    go_loopw [17] (fun i wr => ∃ k : Nat, i = .int .i64 k ∧ ∃ A9 c9 l9 s9, ManyAt insR nc t3 k l9 s9 ∧ DdSt w wr g ob A n c L s9 A1 A2 A3 A9 na nf np k c1 c2 c3 c9 l1 l2 l3 l9) (fun i _ => nc - (intOf i).toNat)
    case atStart => exact ⟨0, rfl, none, 0, [], t3, ManyAt.start _ _ _, HST.out⟩
    case round =>
      clear HST
      obtain ⟨k, rfl, A9, c9, l9, s9, hm, hst⟩ := hrel
      have HM := Lib.hid hm
      have HS := Lib.hid hst
      have hk := hm.le
      have ze : World.cell? wr ⟨g, 2, none⟩ = some (.int .i64 s9.err) := by
        obtain ⟨p, hb, _⟩ := hst.rdr.ex
        exact hb.cell 2
      clear hm hst
      by_cases hkn : k < nc
      · have d1 : decide ((k : Int) < (nc : Int)) = true := by simp only [decide_eq_true_eq]; omega
        by_cases he : s9.err = 0
        · have HStep := Lib.hid (HM.out.step hkn he)
          have hop := numR_lt (k := 1) (rest_byte HS.out.rdr he)
          rw [he] at ze
          have HN := Lib.hid (refRnum_any 1 (by omega) wr g (g + 1) A n c L s9 HS.out.rdr)
          have HIn : Hid ((insR s9).1 = insOf (numR 1 s9).1 (argsR (kindsOf (numR 1 s9).1) (opR (numR 1 s9).1 (numR 1 s9).2)).1 ∧ (insR s9).2 = (argsR (kindsOf (numR 1 s9).1) (opR (numR 1 s9).1 (numR 1 s9).2)).2) := by show _ ∧ _; rw [insR.eq_1 s9]; exact ⟨rfl, rfl⟩
          clear he
          generalize numR 1 s9 = r1 at *
          obtain ⟨op, s10⟩ := r1
          simp only at HN HIn hop
          obtain ⟨s11, hs11⟩ : ∃ s, opR op s10 = s := ⟨_, rfl⟩
          rw [hs11] at HIn
          go_wp2_with fail
          refine HN.out.mono ?_
          rintro e w6 ⟨rfl, h6, k6⟩
          have HS6 := Lib.hid ((HS.out.read h6 k6).go ((Keeps.refl w6 []).alloc (.cells #[.int .i64 op, .int .i64 0, .int .i64 0, .int .i64 0, .int .i64 0] 110)))
          have HX6 : Hid (Blk (w6.alloc (.cells #[.int .i64 op, .int .i64 0, .int .i64 0, .int .i64 0, .int .i64 0] 110)) w6.heap.size 110 (insC op [])) := Blk.new w6 _ _
          have hob6 : ob < w6.heap.size := (HS.out.read h6 k6).out.lt
          have offx : ∀ {e : TypeId} {sz n c : Nat} {A : Option Addr} {xs : List Value}, w6.ownsRow ob e sz (.slice A n c) n xs → w6.heap.size ∉ ownL (.slice A n c) := fun ho hm => by
            unfold ownL at hm
            simp at hm
            have := (ho.lt _ hm).2
            omega
          have ox1 := offx (HS.out.read h6 k6).r1
          have ox2 := offx (HS.out.read h6 k6).r2
          have ox3 := offx (HS.out.read h6 k6).r3
          have ox4 := offx (HS.out.read h6 k6).r4
          clear h6 k6 ze offx HN HS
          go_upto_region 37 with fail
          generalize w6.alloc (.cells #[.int .i64 op, .int .i64 0, .int .i64 0, .int .i64 0, .int .i64 0] 110) = w7 at *
          generalize w6.heap.size = xb at *
          have zx : World.cell? w7 ⟨xb, 0, none⟩ = some (.int .i64 op) := HX6.out.cell 0
          obtain ⟨p, hbr, hpr⟩ := HS6.out.rdr.ex
          have ze := hbr.cell 2
          have zf := hbr.frozen 2
          by_cases he : s10.err = 0
          · have d2 : (s10.err == 0) = true := by simpa using he
            by_cases ho : op ≤ 26
            · have d3 : decide (26 < (op : Int)) = false := by simp only [decide_eq_false_iff_not]; omega
              have h12 : s11 = s10 := by rw [← hs11, opR, if_neg (by omega)]
              subst h12
              clear he ho hs11 hbr hpr
              go_wp2_with fail
              clear ze zf zx
              have HS7 := HS6
              have HX7 := HX6
              refine (refKindsF_any op _).mono ?_
              rintro e w8 ⟨A5, c5, rfl, hN, k8, hfr⟩
              have hxl := HX7.out.lt
              have HFR := Lib.hid hfr
              have HN8 := Lib.hid hN
              have HS8 := Lib.hid (HS7.out.go k8)
              have HX8 := Lib.hid (HX7.out.keep k8 (by simp))
              have hfew := kinds_few op
              obtain ⟨m, hm⟩ : ∃ m, (kindsOf op).length = m := ⟨_, rfl⟩
              rw [hm] at hfew ⊢
              have HMm := Lib.hid hm
              clear k8 hN hfr hm HS7 HX7
              go_wp2_with fail
              go_loopw [20] (fun i wr => ∃ j : Nat, j ≤ m ∧ i = .int .i64 j ∧ DdSt w wr g ob A n c L (argsR ((kindsOf op).take j) s11).2 A1 A2 A3 A9 na nf np k c1 c2 c3 c9 l1 l2 l3 l9 ∧ Blk wr xb 110 (insC op (argsR ((kindsOf op).take j) s11).1) ∧ Keeps w8 wr [g, xb]) (fun i _ => m - (intOf i).toNat)
              case atStart => exact ⟨0, Nat.zero_le _, rfl, HS8.out, HX8.out, Keeps.refl _ _⟩
              case round =>
                clear HS8 HX8
                obtain ⟨j, hj, rfl, hst, hx, kr⟩ := hrel
                have HSr := Lib.hid hst
                have HXr := Lib.hid hx
                have HKr := Lib.hid kr
                clear hst hx kr
                by_cases hlj : j < m
                · obtain ⟨b7, off7, y, hA7, hb7, hc7, hy⟩ := HN8.out j (by rw [HMm.out]; exact hlj)
                  subst hA7
                  have hfr7 := HFR.out b7 off7 rfl
                  have hx1 := kinds_mem op y (List.mem_of_getElem? hy)
                  obtain ⟨q, rfl⟩ := Int.eq_ofNat_of_zero_le (show 0 ≤ y by omega)
                  have hgl8 := HSr.out.ol
                  have q1 := (HKr.out.cell (p := ⟨b7, off7 + j, none⟩) hb7 (by simp; omega)).trans hc7
                  have HKs := Lib.hid (kinds_step hy s11)
                  have hlen := argsR_len ((kindsOf op).take j) s11
                  rw [List.length_take, HMm.out, Nat.min_eq_left hj] at hlen
                  have HLen := Lib.hid hlen
                  have b1 : (j : Int) < (m : Int) := by omega
                  have b0 : (0 : Int) ≤ (j : Int) := Int.natCast_nonneg _
                  have b4 : (j : Int) < 4 := by omega
                  have hnum := fun w h => refRnum_any (szOf q) (by have := szOf_le q; omega) w g (g + 1) A n c L (argsR ((kindsOf op).take j) s11).2 h
                  generalize argsR ((kindsOf op).take j) s11 = rj at *
                  clear hy hc7 hlen
                  by_cases h8 : q = 8
                  · have t8 : ((q : Int) == 8) = true := by simp; omega
                    have hsz : szOf q = 2 := by unfold szOf; rw [if_pos (by omega)]
                    rw [hsz] at hnum HKs
                    have HNum := Lib.hid hnum
                    clear hnum hsz
                    go_wp2_with fail
                    refine (HNum.out _ HSr.out.rdr).mono ?_
                    rintro e w9 ⟨rfl, h9, k9⟩
                    have hx9 := HXr.out.keep k9 (by simp; omega)
                    have xf := hx9.frozen (1 + j)
                    have xc : World.cell? w9 ⟨xb, 1 + j, none⟩ = (insC op rj.1)[1 + j]? := hx9.cell (1 + j)
                    obtain ⟨u5, hu5⟩ := insC_at op rj.1 j (by omega)
                    rw [hu5] at xc
                    have kk := (Keeps.refl w9 [xb]).setCell (p := ⟨xb, 1 + j, none⟩) (.inl (by simp)) (.int .i64 (numR 2 rj.2).1)
                    have HS9 := Lib.hid ((HSr.out.read h9 k9).past kk hob6 ox1 ox2 ox3 ox4)
                    have HX9 := Lib.hid (hx9.set_ (1 + j) (.int .i64 (numR 2 rj.2).1))
                    have HK9 := Lib.hid ((HKr.out.trans (k9.more (T := [g, xb]) (by simp; omega))).trans (kk.more (T := [g, xb]) (by simp; omega)))
                    clear h9 k9 hx9 hu5 kk
                    go_wp2_with fail
                    go_roundw
                    case rel =>
                      refine ⟨j + 1, by omega, by go_num, ?_, ?_, HK9.out⟩
                      · rw [HKs.out]; exact HS9.out
                      · rw [HKs.out]
                        have := HX9.out
                        rw [insC_set op _ rj.1 j HLen.out (by omega)] at this
                        exact this
                    case measure => simp [intOf]; omega
                  · have t8 : ((q : Int) == 8) = false := by simp; omega
                    have hsz : szOf q = 1 := by unfold szOf; rw [if_neg (by omega)]
                    rw [hsz] at hnum HKs
                    have HNum := Lib.hid hnum
                    clear hnum hsz
                    go_wp2_with fail
                    refine (HNum.out _ HSr.out.rdr).mono ?_
                    rintro e w9 ⟨rfl, h9, k9⟩
                    have hx9 := HXr.out.keep k9 (by simp; omega)
                    have xf := hx9.frozen (1 + j)
                    have xc : World.cell? w9 ⟨xb, 1 + j, none⟩ = (insC op rj.1)[1 + j]? := hx9.cell (1 + j)
                    obtain ⟨u5, hu5⟩ := insC_at op rj.1 j (by omega)
                    rw [hu5] at xc
                    have kk := (Keeps.refl w9 [xb]).setCell (p := ⟨xb, 1 + j, none⟩) (.inl (by simp)) (.int .i64 (numR 1 rj.2).1)
                    have HS9 := Lib.hid ((HSr.out.read h9 k9).past kk hob6 ox1 ox2 ox3 ox4)
                    have HX9 := Lib.hid (hx9.set_ (1 + j) (.int .i64 (numR 1 rj.2).1))
                    have HK9 := Lib.hid ((HKr.out.trans (k9.more (T := [g, xb]) (by simp; omega))).trans (kk.more (T := [g, xb]) (by simp; omega)))
                    clear h9 k9 hx9 hu5 kk
                    go_wp2_with fail
                    go_roundw
                    case rel =>
                      refine ⟨j + 1, by omega, by go_num, ?_, ?_, HK9.out⟩
                      · rw [HKs.out]; exact HS9.out
                      · rw [HKs.out]
                        have := HX9.out
                        rw [insC_set op _ rj.1 j HLen.out (by omega)] at this
                        exact this
                    case measure => simp [intOf]; omega
                · obtain rfl : m = j := by omega
                  have hall : (kindsOf op).take m = kindsOf op := List.take_of_length_le (by have := HMm.out; omega)
                  rw [hall] at HSr HXr
                  have HW : Hid ((insR s9).1 = insOf op (argsR (kindsOf op) s11).1 ∧ (insR s9).2 = (argsR (kindsOf op) s11).2) := HIn.out
                  have hStep := HStep.out
                  rw [HW.out.1, HW.out.2] at hStep
                  generalize argsR (kindsOf op) s11 = rj at *
                  have HStep2 := Lib.hid hStep
                  have z0 : World.cell? wr ⟨xb, 0, none⟩ = some (.int .i64 op) := HXr.out.cell 0
                  have z1 : World.cell? wr ⟨xb, 1, none⟩ = some (.int .i64 (rj.1.getD 0 0)) := HXr.out.cell 1
                  have z2 : World.cell? wr ⟨xb, 2, none⟩ = some (.int .i64 (rj.1.getD 1 0)) := HXr.out.cell 2
                  have z3 : World.cell? wr ⟨xb, 3, none⟩ = some (.int .i64 (rj.1.getD 2 0)) := HXr.out.cell 3
                  have z4 : World.cell? wr ⟨xb, 4, none⟩ = some (.int .i64 (rj.1.getD 3 0)) := HXr.out.cell 4
                  obtain ⟨f0, f1⟩ := HSr.out.see4 (Keeps.refl wr _)
                  clear hall hStep
                  go_wp2_with (at_builtin; refine wpList_app _ el_rins rfl (.tmp 167) (.tmp 169) rfl ob A9 k c9 (l9.flatMap insE) rfl (own_keep0 HSr.out.r4 ((Keeps.refl wr []).alloc _)) (some ⟨wr.heap.size, 0, none⟩) 1 1 (insE (insOf op rj.1)) rfl (Rd.one wr _ (insE (insOf op rj.1))) rfl (by simp) (by simp [insE, insOf, Value.oneCell']) (by omega) (by simp; have := HSr.out.out.lt; omega) ?_; intro A' c' w9 hown hgrow hat; have fs := HSr.out.see4 (((Keeps.refl wr []).alloc (.cells (insE (insOf op rj.1)).toArray 110)).rest (Keeps.ofGrown hgrow)); have g0 := fs.1; have g1 := fs.2; clear fs f0 f1 z0 z1 z2 z3 z4)
                  go_roundw
                  case rel => exact ⟨k + 1, by go_num, A', c', _, _, HStep2.out, HSr.out.step4 ((Keeps.refl wr []).alloc (.cells (insE (insOf op rj.1)).toArray 110)) (x := insOf op rj.1) hown hgrow⟩
                  case measure => simp [intOf]; omega
            · have d3 : decide (26 < (op : Int)) = true := by simp only [decide_eq_true_eq]; omega
              have h12 : s11 = ⟨s10.rest, 8⟩ := by rw [← hs11, opR, if_pos ⟨he, by omega⟩]
              have kk := (Keeps.refl w7 [g]).setCell (p := ⟨g, 2, none⟩) (.inl (by simp)) (.int .i64 8)
              have hr8 : RrAt (w7.setCell ⟨g, 2, none⟩ (.int .i64 8)) g (g + 1) A n c L s11 := by
                rw [h12]
                exact HS6.out.rdr.lay (p := p) kk (hbr.set_ 2 (.int .i64 8)) (fun h => by cases h)
              have HS6' := Lib.hid (HS6.out.read hr8 kk)
              have hgx : g ≠ xb := by have := HS6.out.ol; omega
              have HX6' := Lib.hid (HX6.out.keep kk (by simp; omega))
              have zx' : World.cell? (w7.setCell ⟨g, 2, none⟩ (.int .i64 8)) ⟨xb, 0, none⟩ = some (.int .i64 op) := HX6'.out.cell 0
              clear he ho hs11 hbr hpr h12 hr8 kk
              go_wp2_with fail
              clear ze zf zx zx'
              have HS7 := HS6'
              have HX7 := HX6'
              refine (refKindsF_any op _).mono ?_
              rintro e w8 ⟨A5, c5, rfl, hN, k8, hfr⟩
              have hxl := HX7.out.lt
              have HFR := Lib.hid hfr
              have HN8 := Lib.hid hN
              have HS8 := Lib.hid (HS7.out.go k8)
              have HX8 := Lib.hid (HX7.out.keep k8 (by simp))
              have hfew := kinds_few op
              obtain ⟨m, hm⟩ : ∃ m, (kindsOf op).length = m := ⟨_, rfl⟩
              rw [hm] at hfew ⊢
              have HMm := Lib.hid hm
              clear k8 hN hfr hm HS7 HX7
              go_wp2_with fail
              go_loopw [20] (fun i wr => ∃ j : Nat, j ≤ m ∧ i = .int .i64 j ∧ DdSt w wr g ob A n c L (argsR ((kindsOf op).take j) s11).2 A1 A2 A3 A9 na nf np k c1 c2 c3 c9 l1 l2 l3 l9 ∧ Blk wr xb 110 (insC op (argsR ((kindsOf op).take j) s11).1) ∧ Keeps w8 wr [g, xb]) (fun i _ => m - (intOf i).toNat)
              case atStart => exact ⟨0, Nat.zero_le _, rfl, HS8.out, HX8.out, Keeps.refl _ _⟩
              case round =>
                clear HS8 HX8
                obtain ⟨j, hj, rfl, hst, hx, kr⟩ := hrel
                have HSr := Lib.hid hst
                have HXr := Lib.hid hx
                have HKr := Lib.hid kr
                clear hst hx kr
                by_cases hlj : j < m
                · obtain ⟨b7, off7, y, hA7, hb7, hc7, hy⟩ := HN8.out j (by rw [HMm.out]; exact hlj)
                  subst hA7
                  have hfr7 := HFR.out b7 off7 rfl
                  have hx1 := kinds_mem op y (List.mem_of_getElem? hy)
                  obtain ⟨q, rfl⟩ := Int.eq_ofNat_of_zero_le (show 0 ≤ y by omega)
                  have hgl8 := HSr.out.ol
                  have q1 := (HKr.out.cell (p := ⟨b7, off7 + j, none⟩) hb7 (by simp; omega)).trans hc7
                  have HKs := Lib.hid (kinds_step hy s11)
                  have hlen := argsR_len ((kindsOf op).take j) s11
                  rw [List.length_take, HMm.out, Nat.min_eq_left hj] at hlen
                  have HLen := Lib.hid hlen
                  have b1 : (j : Int) < (m : Int) := by omega
                  have b0 : (0 : Int) ≤ (j : Int) := Int.natCast_nonneg _
                  have b4 : (j : Int) < 4 := by omega
                  have hnum := fun w h => refRnum_any (szOf q) (by have := szOf_le q; omega) w g (g + 1) A n c L (argsR ((kindsOf op).take j) s11).2 h
                  generalize argsR ((kindsOf op).take j) s11 = rj at *
                  clear hy hc7 hlen
                  by_cases h8 : q = 8
                  · have t8 : ((q : Int) == 8) = true := by simp; omega
                    have hsz : szOf q = 2 := by unfold szOf; rw [if_pos (by omega)]
                    rw [hsz] at hnum HKs
                    have HNum := Lib.hid hnum
                    clear hnum hsz
                    go_wp2_with fail
                    refine (HNum.out _ HSr.out.rdr).mono ?_
                    rintro e w9 ⟨rfl, h9, k9⟩
                    have hx9 := HXr.out.keep k9 (by simp; omega)
                    have xf := hx9.frozen (1 + j)
                    have xc : World.cell? w9 ⟨xb, 1 + j, none⟩ = (insC op rj.1)[1 + j]? := hx9.cell (1 + j)
                    obtain ⟨u5, hu5⟩ := insC_at op rj.1 j (by omega)
                    rw [hu5] at xc
                    have kk := (Keeps.refl w9 [xb]).setCell (p := ⟨xb, 1 + j, none⟩) (.inl (by simp)) (.int .i64 (numR 2 rj.2).1)
                    have HS9 := Lib.hid ((HSr.out.read h9 k9).past kk hob6 ox1 ox2 ox3 ox4)
                    have HX9 := Lib.hid (hx9.set_ (1 + j) (.int .i64 (numR 2 rj.2).1))
                    have HK9 := Lib.hid ((HKr.out.trans (k9.more (T := [g, xb]) (by simp; omega))).trans (kk.more (T := [g, xb]) (by simp; omega)))
                    clear h9 k9 hx9 hu5 kk
                    go_wp2_with fail
                    go_roundw
                    case rel =>
                      refine ⟨j + 1, by omega, by go_num, ?_, ?_, HK9.out⟩
                      · rw [HKs.out]; exact HS9.out
                      · rw [HKs.out]
                        have := HX9.out
                        rw [insC_set op _ rj.1 j HLen.out (by omega)] at this
                        exact this
                    case measure => simp [intOf]; omega
                  · have t8 : ((q : Int) == 8) = false := by simp; omega
                    have hsz : szOf q = 1 := by unfold szOf; rw [if_neg (by omega)]
                    rw [hsz] at hnum HKs
                    have HNum := Lib.hid hnum
                    clear hnum hsz
                    go_wp2_with fail
                    refine (HNum.out _ HSr.out.rdr).mono ?_
                    rintro e w9 ⟨rfl, h9, k9⟩
                    have hx9 := HXr.out.keep k9 (by simp; omega)
                    have xf := hx9.frozen (1 + j)
                    have xc : World.cell? w9 ⟨xb, 1 + j, none⟩ = (insC op rj.1)[1 + j]? := hx9.cell (1 + j)
                    obtain ⟨u5, hu5⟩ := insC_at op rj.1 j (by omega)
                    rw [hu5] at xc
                    have kk := (Keeps.refl w9 [xb]).setCell (p := ⟨xb, 1 + j, none⟩) (.inl (by simp)) (.int .i64 (numR 1 rj.2).1)
                    have HS9 := Lib.hid ((HSr.out.read h9 k9).past kk hob6 ox1 ox2 ox3 ox4)
                    have HX9 := Lib.hid (hx9.set_ (1 + j) (.int .i64 (numR 1 rj.2).1))
                    have HK9 := Lib.hid ((HKr.out.trans (k9.more (T := [g, xb]) (by simp; omega))).trans (kk.more (T := [g, xb]) (by simp; omega)))
                    clear h9 k9 hx9 hu5 kk
                    go_wp2_with fail
                    go_roundw
                    case rel =>
                      refine ⟨j + 1, by omega, by go_num, ?_, ?_, HK9.out⟩
                      · rw [HKs.out]; exact HS9.out
                      · rw [HKs.out]
                        have := HX9.out
                        rw [insC_set op _ rj.1 j HLen.out (by omega)] at this
                        exact this
                    case measure => simp [intOf]; omega
                · obtain rfl : m = j := by omega
                  have hall : (kindsOf op).take m = kindsOf op := List.take_of_length_le (by have := HMm.out; omega)
                  rw [hall] at HSr HXr
                  have HW : Hid ((insR s9).1 = insOf op (argsR (kindsOf op) s11).1 ∧ (insR s9).2 = (argsR (kindsOf op) s11).2) := HIn.out
                  have hStep := HStep.out
                  rw [HW.out.1, HW.out.2] at hStep
                  generalize argsR (kindsOf op) s11 = rj at *
                  have HStep2 := Lib.hid hStep
                  have z0 : World.cell? wr ⟨xb, 0, none⟩ = some (.int .i64 op) := HXr.out.cell 0
                  have z1 : World.cell? wr ⟨xb, 1, none⟩ = some (.int .i64 (rj.1.getD 0 0)) := HXr.out.cell 1
                  have z2 : World.cell? wr ⟨xb, 2, none⟩ = some (.int .i64 (rj.1.getD 1 0)) := HXr.out.cell 2
                  have z3 : World.cell? wr ⟨xb, 3, none⟩ = some (.int .i64 (rj.1.getD 2 0)) := HXr.out.cell 3
                  have z4 : World.cell? wr ⟨xb, 4, none⟩ = some (.int .i64 (rj.1.getD 3 0)) := HXr.out.cell 4
                  obtain ⟨f0, f1⟩ := HSr.out.see4 (Keeps.refl wr _)
                  clear hall hStep
                  go_wp2_with (at_builtin; refine wpList_app _ el_rins rfl (.tmp 167) (.tmp 169) rfl ob A9 k c9 (l9.flatMap insE) rfl (own_keep0 HSr.out.r4 ((Keeps.refl wr []).alloc _)) (some ⟨wr.heap.size, 0, none⟩) 1 1 (insE (insOf op rj.1)) rfl (Rd.one wr _ (insE (insOf op rj.1))) rfl (by simp) (by simp [insE, insOf, Value.oneCell']) (by omega) (by simp; have := HSr.out.out.lt; omega) ?_; intro A' c' w9 hown hgrow hat; have fs := HSr.out.see4 (((Keeps.refl wr []).alloc (.cells (insE (insOf op rj.1)).toArray 110)).rest (Keeps.ofGrown hgrow)); have g0 := fs.1; have g1 := fs.2; clear fs f0 f1 z0 z1 z2 z3 z4)
                  go_roundw
                  case rel => exact ⟨k + 1, by go_num, A', c', _, _, HStep2.out, HSr.out.step4 ((Keeps.refl wr []).alloc (.cells (insE (insOf op rj.1)).toArray 110)) (x := insOf op rj.1) hown hgrow⟩
                  case measure => simp [intOf]; omega
          · have d2 : (s10.err == 0) = false := by simpa using he
            have h12 : s11 = s10 := by rw [← hs11, opR, if_neg (fun h => he h.1)]
            subst h12
            clear he hs11 hbr hpr
            go_wp2_with fail
            clear ze zf zx
            have HS7 := HS6
            have HX7 := HX6
            refine (refKindsF_any op _).mono ?_
            rintro e w8 ⟨A5, c5, rfl, hN, k8, hfr⟩
            have hxl := HX7.out.lt
            have HFR := Lib.hid hfr
            have HN8 := Lib.hid hN
            have HS8 := Lib.hid (HS7.out.go k8)
            have HX8 := Lib.hid (HX7.out.keep k8 (by simp))
            have hfew := kinds_few op
            obtain ⟨m, hm⟩ : ∃ m, (kindsOf op).length = m := ⟨_, rfl⟩
            rw [hm] at hfew ⊢
            have HMm := Lib.hid hm
            clear k8 hN hfr hm HS7 HX7
            go_wp2_with fail
            go_loopw [20] (fun i wr => ∃ j : Nat, j ≤ m ∧ i = .int .i64 j ∧ DdSt w wr g ob A n c L (argsR ((kindsOf op).take j) s11).2 A1 A2 A3 A9 na nf np k c1 c2 c3 c9 l1 l2 l3 l9 ∧ Blk wr xb 110 (insC op (argsR ((kindsOf op).take j) s11).1) ∧ Keeps w8 wr [g, xb]) (fun i _ => m - (intOf i).toNat)
            case atStart => exact ⟨0, Nat.zero_le _, rfl, HS8.out, HX8.out, Keeps.refl _ _⟩
            case round =>
              clear HS8 HX8
              obtain ⟨j, hj, rfl, hst, hx, kr⟩ := hrel
              have HSr := Lib.hid hst
              have HXr := Lib.hid hx
              have HKr := Lib.hid kr
              clear hst hx kr
              by_cases hlj : j < m
              · obtain ⟨b7, off7, y, hA7, hb7, hc7, hy⟩ := HN8.out j (by rw [HMm.out]; exact hlj)
                subst hA7
                have hfr7 := HFR.out b7 off7 rfl
                have hx1 := kinds_mem op y (List.mem_of_getElem? hy)
                obtain ⟨q, rfl⟩ := Int.eq_ofNat_of_zero_le (show 0 ≤ y by omega)
                have hgl8 := HSr.out.ol
                have q1 := (HKr.out.cell (p := ⟨b7, off7 + j, none⟩) hb7 (by simp; omega)).trans hc7
                have HKs := Lib.hid (kinds_step hy s11)
                have hlen := argsR_len ((kindsOf op).take j) s11
                rw [List.length_take, HMm.out, Nat.min_eq_left hj] at hlen
                have HLen := Lib.hid hlen
                have b1 : (j : Int) < (m : Int) := by omega
                have b0 : (0 : Int) ≤ (j : Int) := Int.natCast_nonneg _
                have b4 : (j : Int) < 4 := by omega
                have hnum := fun w h => refRnum_any (szOf q) (by have := szOf_le q; omega) w g (g + 1) A n c L (argsR ((kindsOf op).take j) s11).2 h
                generalize argsR ((kindsOf op).take j) s11 = rj at *
                clear hy hc7 hlen
                by_cases h8 : q = 8
                · have t8 : ((q : Int) == 8) = true := by simp; omega
                  have hsz : szOf q = 2 := by unfold szOf; rw [if_pos (by omega)]
                  rw [hsz] at hnum HKs
                  have HNum := Lib.hid hnum
                  clear hnum hsz
                  go_wp2_with fail
                  refine (HNum.out _ HSr.out.rdr).mono ?_
                  rintro e w9 ⟨rfl, h9, k9⟩
                  have hx9 := HXr.out.keep k9 (by simp; omega)
                  have xf := hx9.frozen (1 + j)
                  have xc : World.cell? w9 ⟨xb, 1 + j, none⟩ = (insC op rj.1)[1 + j]? := hx9.cell (1 + j)
                  obtain ⟨u5, hu5⟩ := insC_at op rj.1 j (by omega)
                  rw [hu5] at xc
                  have kk := (Keeps.refl w9 [xb]).setCell (p := ⟨xb, 1 + j, none⟩) (.inl (by simp)) (.int .i64 (numR 2 rj.2).1)
                  have HS9 := Lib.hid ((HSr.out.read h9 k9).past kk hob6 ox1 ox2 ox3 ox4)
                  have HX9 := Lib.hid (hx9.set_ (1 + j) (.int .i64 (numR 2 rj.2).1))
                  have HK9 := Lib.hid ((HKr.out.trans (k9.more (T := [g, xb]) (by simp; omega))).trans (kk.more (T := [g, xb]) (by simp; omega)))
                  clear h9 k9 hx9 hu5 kk
                  go_wp2_with fail
                  go_roundw
                  case rel =>
                    refine ⟨j + 1, by omega, by go_num, ?_, ?_, HK9.out⟩
                    · rw [HKs.out]; exact HS9.out
                    · rw [HKs.out]
                      have := HX9.out
                      rw [insC_set op _ rj.1 j HLen.out (by omega)] at this
                      exact this
                  case measure => simp [intOf]; omega
                · have t8 : ((q : Int) == 8) = false := by simp; omega
                  have hsz : szOf q = 1 := by unfold szOf; rw [if_neg (by omega)]
                  rw [hsz] at hnum HKs
                  have HNum := Lib.hid hnum
                  clear hnum hsz
                  go_wp2_with fail
                  refine (HNum.out _ HSr.out.rdr).mono ?_
                  rintro e w9 ⟨rfl, h9, k9⟩
                  have hx9 := HXr.out.keep k9 (by simp; omega)
                  have xf := hx9.frozen (1 + j)
                  have xc : World.cell? w9 ⟨xb, 1 + j, none⟩ = (insC op rj.1)[1 + j]? := hx9.cell (1 + j)
                  obtain ⟨u5, hu5⟩ := insC_at op rj.1 j (by omega)
                  rw [hu5] at xc
                  have kk := (Keeps.refl w9 [xb]).setCell (p := ⟨xb, 1 + j, none⟩) (.inl (by simp)) (.int .i64 (numR 1 rj.2).1)
                  have HS9 := Lib.hid ((HSr.out.read h9 k9).past kk hob6 ox1 ox2 ox3 ox4)
                  have HX9 := Lib.hid (hx9.set_ (1 + j) (.int .i64 (numR 1 rj.2).1))
                  have HK9 := Lib.hid ((HKr.out.trans (k9.more (T := [g, xb]) (by simp; omega))).trans (kk.more (T := [g, xb]) (by simp; omega)))
                  clear h9 k9 hx9 hu5 kk
                  go_wp2_with fail
                  go_roundw
                  case rel =>
                    refine ⟨j + 1, by omega, by go_num, ?_, ?_, HK9.out⟩
                    · rw [HKs.out]; exact HS9.out
                    · rw [HKs.out]
                      have := HX9.out
                      rw [insC_set op _ rj.1 j HLen.out (by omega)] at this
                      exact this
                  case measure => simp [intOf]; omega
              · obtain rfl : m = j := by omega
                have hall : (kindsOf op).take m = kindsOf op := List.take_of_length_le (by have := HMm.out; omega)
                rw [hall] at HSr HXr
                have HW : Hid ((insR s9).1 = insOf op (argsR (kindsOf op) s11).1 ∧ (insR s9).2 = (argsR (kindsOf op) s11).2) := HIn.out
                have hStep := HStep.out
                rw [HW.out.1, HW.out.2] at hStep
                generalize argsR (kindsOf op) s11 = rj at *
                have HStep2 := Lib.hid hStep
                have z0 : World.cell? wr ⟨xb, 0, none⟩ = some (.int .i64 op) := HXr.out.cell 0
                have z1 : World.cell? wr ⟨xb, 1, none⟩ = some (.int .i64 (rj.1.getD 0 0)) := HXr.out.cell 1
                have z2 : World.cell? wr ⟨xb, 2, none⟩ = some (.int .i64 (rj.1.getD 1 0)) := HXr.out.cell 2
                have z3 : World.cell? wr ⟨xb, 3, none⟩ = some (.int .i64 (rj.1.getD 2 0)) := HXr.out.cell 3
                have z4 : World.cell? wr ⟨xb, 4, none⟩ = some (.int .i64 (rj.1.getD 3 0)) := HXr.out.cell 4
                obtain ⟨f0, f1⟩ := HSr.out.see4 (Keeps.refl wr _)
                clear hall hStep
                go_wp2_with (at_builtin; refine wpList_app _ el_rins rfl (.tmp 167) (.tmp 169) rfl ob A9 k c9 (l9.flatMap insE) rfl (own_keep0 HSr.out.r4 ((Keeps.refl wr []).alloc _)) (some ⟨wr.heap.size, 0, none⟩) 1 1 (insE (insOf op rj.1)) rfl (Rd.one wr _ (insE (insOf op rj.1))) rfl (by simp) (by simp [insE, insOf, Value.oneCell']) (by omega) (by simp; have := HSr.out.out.lt; omega) ?_; intro A' c' w9 hown hgrow hat; have fs := HSr.out.see4 (((Keeps.refl wr []).alloc (.cells (insE (insOf op rj.1)).toArray 110)).rest (Keeps.ofGrown hgrow)); have g0 := fs.1; have g1 := fs.2; clear fs f0 f1 z0 z1 z2 z3 z4)
                go_roundw
                case rel => exact ⟨k + 1, by go_num, A', c', _, _, HStep2.out, HSr.out.step4 ((Keeps.refl wr []).alloc (.cells (insE (insOf op rj.1)).toArray 110)) (x := insOf op rj.1) hown hgrow⟩
                case measure => simp [intOf]; omega

        · have d2 : (s9.err == 0) = false := by simpa using he
          have HP := Lib.hid (HM.out.stop (.inr he))
          clear he
          go_wp2_with fail
          go_meet
          exact ⟨A9, c9, l9, s9, k, hk, HM.out.len, HP.out, HS.out⟩
      · have d1 : decide ((k : Int) < (nc : Int)) = false := by simp only [decide_eq_false_iff_not]; omega
        have HP := Lib.hid (HM.out.stop (.inl (by omega)))
        go_wp2_with fail
        go_meet
        exact ⟨A9, c9, l9, s9, k, hk, HM.out.len, HP.out, HS.out⟩
  case rest =>
  obtain ⟨A4, c4, l4, t4, m4, hm4, hl4, hp4, hst⟩ := hcut
  have HL4 := Lib.hid hl4
  clear HST
  have HST := Lib.hid hst
  obtain ⟨o, hpo, hoe⟩ := parts_is HP1.out HP2.out HP3.out hp4
  rw [← HHead.out] at hpo
  have HDec := Lib.hid (dec_parts hpo)
  clear hl4 hp4 hst hpo
  have ze : World.cell? wc ⟨g, 2, none⟩ = some (.int .i64 t4.err) := by
    obtain ⟨p, hb, _⟩ := HST.out.rdr.ex
    exact hb.cell 2
  by_cases he : t4.err = 0
  case neg =>
    have d0 : (t4.err != 0) = true := by simpa using he
    have HQ : Hid (decB L = (noObj, t4.err)) := HDec.out.trans (if_pos he)
    have x0 := HST.out.res.frozen 0
    have x1 := HST.out.res.frozen 1
    have x2 := HST.out.res.frozen 2
    have x3 := HST.out.res.frozen 3
    have v0 := HST.out.res.cell 0
    have v1 := HST.out.res.cell 1
    have v2 := HST.out.res.cell 2
    have v3 := HST.out.res.cell 3
    clear he HDec
    go_upto_region 49 with fail
    go_region
    go_wp2_with fail
    clear x0 x1 x2 x3 v0 v1 v2 v3
    obtain ⟨hB, hk1⟩ := arr4_set (v0 := .slice none 0 0) (v1 := .slice none 0 0) (v2 := .slice none 0 0) (v3 := .slice none 0 0) HST.out.res
    generalize World.setCell _ ⟨w.heap.size, 3, none⟩ _ = W at *
    have y0 : World.cell? W.drew ⟨w.heap.size, 0, none⟩ = _ := hB.cell 0
    have y1 : World.cell? W.drew ⟨w.heap.size, 1, none⟩ = _ := hB.cell 1
    have y2 : World.cell? W.drew ⟨w.heap.size, 2, none⟩ = _ := hB.cell 2
    have y3 : World.cell? W.drew ⟨w.heap.size, 3, none⟩ = _ := hB.cell 3
    refine bodyPost_ret (v := .tuple #[.agg #[.slice none 0 0, .slice none 0 0, .slice none 0 0, .slice none 0 0], .int .i64 t4.err]) (by simp [results, Try.results12, go_sem, y0, y1, y2, y3]) rfl ?_
    rw [HQ.out]
    exact ⟨none, none, none, none, 0, 0, 0, 0, rfl, noObj_is _, (HST.out.keep.past hk1 (fun q hq => by simp at hq; simp; omega)).drew⟩
  have d0 : (t4.err != 0) = false := by simpa using he
  obtain rfl := hoe he
  have HFit : Fits ⟨l1, l2, l3, l4⟩ := ⟨by show l1.length ≤ _; have := HL1.out; omega, by show l2.length ≤ _; have := HL2.out; omega, by show l3.length ≤ _; have := HL3.out; omega, by show l4.length ≤ _; have := HL4.out; omega⟩
  have hch := refCheck_any ⟨l1, l2, l3, l4⟩ A1 A2 A3 A4 na nf np m4 c1 c2 c3 c4 _ ⟨Rd.of_own HST.out.r1, Rd.of_own HST.out.r2, Rd.of_own HST.out.r3, Rd.of_own HST.out.r4, own_none0 HST.out.r1, own_none0 HST.out.r2, own_none0 HST.out.r3, own_none0 HST.out.r4⟩ HFit HL1.out HL2.out HL3.out HL4.out
  have HD1 := Lib.hid (HDec.out.trans (if_neg (fun h => h he)))
  obtain ⟨z, hz⟩ : ∃ z, checkE ⟨l1, l2, l3, l4⟩ = z := ⟨_, rfl⟩
  rw [hz] at hch HD1
  have HC := Lib.hid hch
  have u0 := HST.out.out.cell 0
  have u1 := HST.out.out.cell 1
  have u2 := HST.out.out.cell 2
  have u3 := HST.out.out.cell 3
  clear hch hz hoe HDec HHead HFit
  by_cases hz0 : z = 0
  case neg =>
    have d2 : (z != 0) = true := by simpa using hz0
    have HQ : Hid (decB L = (noObj, z)) := HD1.out.trans (if_pos hz0)
    clear hz0 HD1 he
    go_wp2_with (go_at_call 22; refine HC.out.mono ?_; rintro e w6 ⟨rfl, k6⟩; have HS6 := Lib.hid (HST.out.go k6); clear u0 u1 u2 u3 ze; have x0 := HS6.out.res.frozen 0; have x1 := HS6.out.res.frozen 1; have x2 := HS6.out.res.frozen 2; have x3 := HS6.out.res.frozen 3; have v0 := HS6.out.res.cell 0; have v1 := HS6.out.res.cell 1; have v2 := HS6.out.res.cell 2; have v3 := HS6.out.res.cell 3)
    clear x0 x1 x2 x3 v0 v1 v2 v3
    obtain ⟨hB, hk1⟩ := arr4_set (v0 := .slice none 0 0) (v1 := .slice none 0 0) (v2 := .slice none 0 0) (v3 := .slice none 0 0) HS6.out.res
    generalize World.setCell _ ⟨w.heap.size, 3, none⟩ _ = W at *
    have y0 : World.cell? W ⟨w.heap.size, 0, none⟩ = _ := hB.cell 0
    have y1 : World.cell? W ⟨w.heap.size, 1, none⟩ = _ := hB.cell 1
    have y2 : World.cell? W ⟨w.heap.size, 2, none⟩ = _ := hB.cell 2
    have y3 : World.cell? W ⟨w.heap.size, 3, none⟩ = _ := hB.cell 3
    refine bodyPost_ret (v := .tuple #[.agg #[.slice none 0 0, .slice none 0 0, .slice none 0 0, .slice none 0 0], .int .i64 z]) (by simp [results, Try.results12, go_sem, y0, y1, y2, y3]) rfl ?_
    rw [HQ.out]
    exact ⟨none, none, none, none, 0, 0, 0, 0, rfl, noObj_is _, (HS6.out.keep.past hk1 (fun q hq => by simp at hq; simp; omega))⟩
  subst hz0
  have d2 : ((0 : Int) != 0) = false := by decide
  have HD2 := Lib.hid (HD1.out.trans (if_neg (fun h => h rfl)))
  have hv := numR_lt (k := 4) (rest_byte HST.out.rdr he)
  have hrl := he
  clear HD1
  go_wp2_with (go_at_call 22; refine HC.out.mono ?_; rintro e w6 ⟨rfl, k6⟩; have HS6 := Lib.hid (HST.out.go k6); obtain ⟨p, hbr, hpr⟩ := HS6.out.rdr.ex; obtain ⟨k0, hpk, hk0, hrest⟩ := hpr he; subst hpk; have zp := hbr.cell 1; have HRest := Lib.hid hrest; clear u0 u1 u2 u3 ze hbr hpr k6 hrest)
  have hlen : L.length - t4.rest.length = k0 := by rw [HRest.out, List.length_drop, HL.out]; omega
  obtain ⟨⟨v, s5⟩, hvs⟩ : ∃ r, numR 4 t4 = r := ⟨_, rfl⟩
  have hnum := refRnum_any 4 (by omega) w6 g (g + 1) A n c L t4 HS6.out.rdr
  rw [hvs] at hnum hv
  have HD3 := HD2.out
  rw [hvs, hlen] at HD3
  simp only at hnum hv HD3
  have HD := Lib.hid HD3
  clear HD2 HD3 hlen hvs
  refine hnum.mono ?_
  rintro e w7 ⟨rfl, h7, k7⟩
  have HS7 := Lib.hid (HS6.out.read h7 k7)
  clear h7 k7 hnum zp HC HS6 HST
  obtain ⟨p, hbr, hpr⟩ := HS7.out.rdr.ex
  have ze5 := hbr.cell 2
  have zp5 := hbr.cell 1
  clear hbr
  have x0 := HS7.out.res.frozen 0
  have x1 := HS7.out.res.frozen 1
  have x2 := HS7.out.res.frozen 2
  have x3 := HS7.out.res.frozen 3
  have v0 := HS7.out.res.cell 0
  have v1 := HS7.out.res.cell 1
  have v2 := HS7.out.res.cell 2
  have v3 := HS7.out.res.cell 3
  have hwv : IntKind.u32.wrap (v : Int) = v := by rw [IntKind.wrap_u32]; omega
  by_cases he5 : s5.err = 0
  case neg =>
    have d3 : (s5.err != 0) = true := by simpa using he5
    have HQ : Hid (decB L = (noObj, s5.err)) := HD.out.trans (if_pos he5)
    clear he5 HD hpr
    go_upto_region 56 with fail
    go_region
    go_wp2_with fail
    clear x0 x1 x2 x3 v0 v1 v2 v3
    obtain ⟨hB, hk1⟩ := arr4_set (v0 := .slice none 0 0) (v1 := .slice none 0 0) (v2 := .slice none 0 0) (v3 := .slice none 0 0) HS7.out.res
    generalize World.setCell _ ⟨w.heap.size, 3, none⟩ _ = W at *
    have y0 : World.cell? W.drew ⟨w.heap.size, 0, none⟩ = _ := hB.cell 0
    have y1 : World.cell? W.drew ⟨w.heap.size, 1, none⟩ = _ := hB.cell 1
    have y2 : World.cell? W.drew ⟨w.heap.size, 2, none⟩ = _ := hB.cell 2
    have y3 : World.cell? W.drew ⟨w.heap.size, 3, none⟩ = _ := hB.cell 3
    refine bodyPost_ret (v := .tuple #[.agg #[.slice none 0 0, .slice none 0 0, .slice none 0 0, .slice none 0 0], .int .i64 s5.err]) (by simp [results, Try.results12, go_sem, y0, y1, y2, y3]) rfl ?_
    rw [HQ.out]
    exact ⟨none, none, none, none, 0, 0, 0, 0, rfl, noObj_is _, (HS7.out.keep.past hk1 (fun q hq => by simp at hq; simp; omega)).drew⟩
  have d3 : (s5.err != 0) = false := by simpa using he5
  obtain ⟨k5, hpk, hk5, hrest5⟩ := hpr he5
  subst hpk
  have HDb := Lib.hid (HD.out.trans (if_neg (fun h => h he5)))
  clear hpr HD
  by_cases hr5 : s5.rest = []
  case neg =>
    have d4 : decide ((k5 : Int) < (n : Int)) = true := by
      simp only [decide_eq_true_eq]
      have h2 : s5.rest.length ≠ 0 := fun h => hr5 (List.eq_nil_of_length_eq_zero h)
      rw [hrest5, List.length_drop, HL.out] at h2
      omega
    have d4n : k5 < n := by simpa using d4
    have HQ : Hid (decB L = (noObj, 4)) := HDb.out.trans (if_pos hr5)
    clear hr5 HDb hrest5
    go_wp2_with fail
    clear x0 x1 x2 x3 v0 v1 v2 v3
    obtain ⟨hB, hk1⟩ := arr4_set (v0 := .slice none 0 0) (v1 := .slice none 0 0) (v2 := .slice none 0 0) (v3 := .slice none 0 0) HS7.out.res
    generalize World.setCell _ ⟨w.heap.size, 3, none⟩ _ = W at *
    have y0 : World.cell? W ⟨w.heap.size, 0, none⟩ = _ := hB.cell 0
    have y1 : World.cell? W ⟨w.heap.size, 1, none⟩ = _ := hB.cell 1
    have y2 : World.cell? W ⟨w.heap.size, 2, none⟩ = _ := hB.cell 2
    have y3 : World.cell? W ⟨w.heap.size, 3, none⟩ = _ := hB.cell 3
    refine bodyPost_ret (v := .tuple #[.agg #[.slice none 0 0, .slice none 0 0, .slice none 0 0, .slice none 0 0], .int .i64 4]) (by simp [results, Try.results12, go_sem, y0, y1, y2, y3]) rfl ?_
    rw [HQ.out]
    exact ⟨none, none, none, none, 0, 0, 0, 0, rfl, noObj_is _, (HS7.out.keep.past hk1 (fun q hq => by simp at hq; simp; omega))⟩
  have d4 : decide ((k5 : Int) < (n : Int)) = false := by
    simp only [decide_eq_false_iff_not]
    have h2 := congrArg List.length hrest5
    rw [hr5, List.length_drop, HL.out] at h2
    simp at h2
    omega
  have d4n : ¬ k5 < n := by simpa using d4
  have HDc := Lib.hid (HDb.out.trans (if_neg (fun h => h hr5)))
  have hrA : Nums .u8 w7 w7.heap.size A (L.take k0) := by
    have h2 := (HA.out.take k0).keep HS7.out.keep
    have h3 : Rd w7 A (u8s (L.take k0)) := by simpa [u8s, List.map_take] using h2
    exact Row.toNums (K := .u8) h3
  have hsum := refSum_any A k0 c (L.take k0) w7.heap.size w7 (by rw [List.length_take, HL.out]; omega) (by omega) hrA (isByte_take HB.out _)
  generalize hsm : Crc.int (Crc.go 0#32 (L.take k0)) = sum at *
  have HSm := Lib.hid hsum
  have b0 : (0 : Int) ≤ (k0 : Int) := by omega
  have b1 : (k0 : Int) ≤ (c : Int) := by omega
  clear hrA hsm hsum HDb hr5 hrest5
  have o0 := HS7.out.out.cell 0
  have o1 := HS7.out.out.cell 1
  have o2 := HS7.out.out.cell 2
  have o3 := HS7.out.out.cell 3
  by_cases hv2 : (v : Int) = sum
  · have HQ : Hid (decB L = (⟨l1, l2, l3, l4⟩, 0)) := HDc.out.trans (if_neg (fun h => h hv2))
    have d5 : ((v : Int) == sum) = true := by simpa using hv2
    have d6 : ((v : Int) != sum) = false := by simpa using hv2
    clear hv2 HDc
    go_wp2_with (go_at_call 51; refine HSm.out.mono ?_; rintro e w8 ⟨rfl, rfl⟩)
    clear x0 x1 x2 x3 v0 v1 v2 v3 o0 o1 o2 o3
    obtain ⟨hBk, hk1⟩ := arr4_set (v0 := .slice A1 na c1) (v1 := .slice A2 nf c2) (v2 := .slice A3 np c3) (v3 := .slice A4 m4 c4) HS7.out.res
    have hK := HS7.out.keep.past hk1 (fun q hq => by simp at hq; simp; omega)
    have hobs : ObIs _ ⟨l1, l2, l3, l4⟩ A1 A2 A3 A4 c1 c2 c3 c4 :=
      ⟨own_off HS7.out.r1 HS7.out.res (by decide) hk1, own_off HS7.out.r2 HS7.out.res (by decide) hk1, own_off HS7.out.r3 HS7.out.res (by decide) hk1, own_off HS7.out.r4 HS7.out.res (by decide) hk1, own_none0 HS7.out.r1, own_none0 HS7.out.r2, own_none0 HS7.out.r3, own_none0 HS7.out.r4⟩
    generalize World.setCell _ ⟨w.heap.size, 3, none⟩ _ = W at *
    have y0 : World.cell? W ⟨w.heap.size, 0, none⟩ = _ := hBk.cell 0
    have y1 : World.cell? W ⟨w.heap.size, 1, none⟩ = _ := hBk.cell 1
    have y2 : World.cell? W ⟨w.heap.size, 2, none⟩ = _ := hBk.cell 2
    have y3 : World.cell? W ⟨w.heap.size, 3, none⟩ = _ := hBk.cell 3
    refine bodyPost_ret (v := .tuple #[.agg #[.slice A1 na c1, .slice A2 nf c2, .slice A3 np c3, .slice A4 m4 c4], .int .i64 0]) (by simp [results, Try.results12, go_sem, y0, y1, y2, y3]) rfl ?_
    rw [HQ.out]
    exact ⟨A1, A2, A3, A4, c1, c2, c3, c4, by rw [HL1.out, HL2.out, HL3.out, HL4.out], hobs, hK⟩
  · have HQ : Hid (decB L = (noObj, 6)) := HDc.out.trans (if_pos hv2)
    have d5 : ((v : Int) == sum) = false := by simpa using hv2
    have d6 : ((v : Int) != sum) = true := by simpa using hv2
    clear hv2 HDc
    go_wp2_with (go_at_call 51; refine HSm.out.mono ?_; rintro e w8 ⟨rfl, rfl⟩)
    clear o0 o1 o2 o3
    clear x0 x1 x2 x3 v0 v1 v2 v3
    obtain ⟨hB, hk1⟩ := arr4_set (v0 := .slice none 0 0) (v1 := .slice none 0 0) (v2 := .slice none 0 0) (v3 := .slice none 0 0) HS7.out.res
    generalize World.setCell _ ⟨w.heap.size, 3, none⟩ _ = W at *
    have y0 : World.cell? W ⟨w.heap.size, 0, none⟩ = _ := hB.cell 0
    have y1 : World.cell? W ⟨w.heap.size, 1, none⟩ = _ := hB.cell 1
    have y2 : World.cell? W ⟨w.heap.size, 2, none⟩ = _ := hB.cell 2
    have y3 : World.cell? W ⟨w.heap.size, 3, none⟩ = _ := hB.cell 3
    refine bodyPost_ret (v := .tuple #[.agg #[.slice none 0 0, .slice none 0 0, .slice none 0 0, .slice none 0 0], .int .i64 6]) (by simp [results, Try.results12, go_sem, y0, y1, y2, y3]) rfl ?_
    rw [HQ.out]
    exact ⟨none, none, none, none, 0, 0, 0, 0, rfl, noObj_is _, (HS7.out.keep.past hk1 (fun q hq => by simp at hq; simp; omega))⟩

end Go.Proofs.Ytdcjiohbnnipdaa
