/- A line that is an instruction, as it comes to it (the third way): the document's. Printed by gen_rsinstr.py. -/
import Derived.Test.YtpcihhdalofdiaaGreatDoorJQ08
import Derived.Test.YtpcihhdalofdiaaGreatDoorJQ02
namespace Go.Proofs.YtpcihhdalofdiaaGreatDoor
open Go.RowKit Go.Maps
attribute [local irreducible] rsCells numT kindsOf nameOf checkE fitsP operandP plainP labelP slashP namedT slR

set_option maxRecDepth 100000 in
set_option maxHeartbeats 40000000 in
theorem lineR_instr2 {w0 w : World} {ab : Nat} {L : List Nat} {S : AS} (hA : Rs w0 w ab L (fun _ => 0) S) (hfew : Few S) (s : ByteArray) (hl : s.size ≤ 4294967000) (line : Nat) (hb : lead2 s (splitT s.data.toList).length (stB ((splitT s.data.toList).headD []))) :
    Calls Tryz.prog 21 #[.pointer (some ⟨ab, 0, none⟩), .string s, .int .i64 line] w (LnR w0 w ab L (instrP S (splitT s.data.toList) line)) := by
  have HAs := Lib.hid hA
  have HFew := Lib.hid hfew
  have HW := Lib.hid (refWords_any s (by omega) w)
  obtain ⟨ws, hws⟩ : ∃ ws, splitT s.data.toList = ws := ⟨_, rfl⟩
  have HSz : Hid (∀ x ∈ ws, (stB x).size ≤ 4294967000) := Lib.hid (fun x hx => by
    have := split_len s.data.toList x (by rw [hws]; exact hx)
    have e2 : s.data.toList.length = s.size := rfl
    rw [stB_size]
    omega)
  have hne := splitT_ne s.data.toList
  rw [hws] at HW hb hne ⊢
  obtain ⟨n, hn⟩ : ∃ n, ws.length = n := ⟨_, rfl⟩
  have hn0 : 0 < n := by rw [← hn]; exact List.length_pos_iff.2 hne
  unfold WordsMade at HW
  rw [hn] at HW hb
  have HLn := Lib.hid hn
  obtain ⟨x0, hx0⟩ : ∃ x0, ws[0]? = some x0 := ⟨ws[0]'(by omega), List.getElem?_eq_getElem _⟩
  have h0 : ws.headD [] = x0 := by
    cases ws with
    | nil => simp at hx0
    | cons y r => simp at hx0; subst hx0; rfl
  rw [h0] at hb
  have hlead := hb
  unfold lead2 at hlead
  obtain ⟨op, hop⟩ : ∃ op, namedT x0 = op := ⟨_, rfl⟩
  have HBad := Lib.hid (@instr_bad S _ _ op line h0 hop)
  have HOk := Lib.hid (@instr_ok S _ _ op line h0 hop)
  have hNm := refNamed_any (stB x0)
  rw [stB_list, hop] at hNm
  have HNm := Lib.hid hNm
  have HX0 := Lib.hid hx0
  have b00 : (0 : Int) < (n : Int) := by omega
  clear hop h0 hx0 hA hfew hws hne hn hb hNm
  obtain ⟨xs, hxs⟩ : ∃ xs, stB x0 = xs := ⟨_, rfl⟩
  rw [hxs] at HNm
  obtain ⟨d2, d1, dz⟩ := hlead
  go_enter Tryz.func21, Tryz.ntmps21
  go_wp2_with fail
  refine HW.out.mono ?_
  rintro e w1 ⟨A, c, rfl, ho, k1⟩
  obtain ⟨g, cur, hw⟩ := words_row ho hn0
  have HWr := Lib.hid hw
  have HK1 := Lib.hid k1
  obtain rfl := hw.at_
  have q0 := hw.cell hw.blk HX0.out
  rw [hxs] at q0
  clear k1 ho hw
  go_wp2_with fail
  refine (HNm.out w1).mono ?_
  rintro e w2 ⟨rfl, k2⟩
  have HK2 := Lib.hid (HK1.out.trans k2)
  have hwb2 := HWr.out.blk.keep k2 (by simp)
  have k3 : Keeps w2 (w2.alloc (.cells #[.int .i64 op, .int .i64 0, .int .i64 0, .int .i64 0, .int .i64 0] 72)) [] := (Keeps.refl w2 []).alloc _
  have HIb3 : Hid (Blk (w2.alloc (.cells #[.int .i64 op, .int .i64 0, .int .i64 0, .int .i64 0, .int .i64 0] 72)) w2.heap.size 72 (insC6 op [])) := Blk.new _ _ _
  have HIg : Hid (w.heap.size ≤ w2.heap.size ∧ w1.heap.size ≤ w2.heap.size) := ⟨HK2.out.size, k2.size⟩
  have HWb3 := Lib.hid (hwb2.keep k3 (by simp))
  have HK3 := Lib.hid (HK2.out.trans k3)
  clear k2 hwb2 k3 q0 HNm d1 d2 dz
  go_wp2_with fail
  have HI3s : Hid (w2.heap.size < (w2.alloc (.cells #[.int .i64 op, .int .i64 0, .int .i64 0, .int .i64 0, .int .i64 0] 72)).heap.size) := Lib.hid (by rw [World.size_alloc]; omega)
  generalize w2.alloc (.cells #[.int .i64 op, .int .i64 0, .int .i64 0, .int .i64 0, .int .i64 0] 72) = w3 at *
  generalize w2.heap.size = ib at *
  refine (refKindsF_any op w3).mono ?_
  rintro e w4 ⟨A4, ck, rfl, hN, k4, hfr⟩
  have HK4 := Lib.hid (HK3.out.trans k4)
  have HN := Lib.hid hN
  have HFR := Lib.hid hfr
  have HIb4 := Lib.hid (HIb3.out.keep k4 (by simp))
  have HWb4 := Lib.hid (HWb3.out.keep k4 (by simp))
  have HI4s := Lib.hid (Nat.lt_of_lt_of_le HI3s.out k4.size)
  have HK34 := Lib.hid k4
  obtain ⟨m, hm⟩ : ∃ m, (kindsOf op).length = m := ⟨_, rfl⟩
  have hm4 := kinds_few op
  rw [hm] at hm4 ⊢
  have HM := Lib.hid hm
  have c0 : w4.cell? ⟨ib, 0, none⟩ = some (.int .i64 op) := HIb4.out.cell 0
  clear hN k4 hfr hm HIb3 HWb3
  by_cases hop : op < 0
  · have HV := Lib.hid (HBad.out (.inl hop))
    go_wp2_with fail
    go_ret
    exact ⟨by rw [HV.out]; rfl, L, S, HAs.out.keep0 HK4.out, ASt.of_keeps HK4.out L, fun h0 => by rw [HV.out] at h0; cases h0⟩
  have d0 : ¬ op < 0 := hop
  by_cases hnm : n = m + 1
  case neg =>
    have HV := Lib.hid (HBad.out (.inr (.inl (by rw [HLn.out, HM.out]; exact hnm))))
    have d1 : ((n : Int) == (m : Int) + 1) = false := by rw [beq_eq_false_iff_ne]; omega
    have d2 : ((n : Int) != (m : Int) + 1) = true := by rw [bne_iff_ne]; omega
    clear hnm
    go_wp2_with fail
    go_ret
    exact ⟨by rw [HV.out]; rfl, L, S, HAs.out.keep0 HK4.out, ASt.of_keeps HK4.out L, fun h0 => by rw [HV.out] at h0; cases h0⟩
  have d1 : ((n : Int) == (m : Int) + 1) = true := by rw [beq_iff_eq]; omega
  have d2 : ((n : Int) != (m : Int) + 1) = false := by rw [bne_eq_false_iff_eq]; omega
  have HNm := Lib.hid hnm
  clear hnm
  obtain ⟨AA, FA, PA, CA, UA, BA, ca, cf, cp, cc, cu, cb, hmm, hok, hL, hlt⟩ := HAs.out.keep0 HK4.out
  have HMa := Lib.hid hmm
  have HL := Lib.hid hL
  have HLt := Lib.hid hlt
  obtain ⟨na, hna⟩ : ∃ k, S.o.atoms.length = k := ⟨_, rfl⟩
  obtain ⟨nf, hnf⟩ : ∃ k, S.o.funs.length = k := ⟨_, rfl⟩
  obtain ⟨np, hnp⟩ : ∃ k, S.o.preds.length = k := ⟨_, rfl⟩
  obtain ⟨nc, hnc⟩ : ∃ k, S.o.code.length = k := ⟨_, rfl⟩
  have HNa := Lib.hid hna
  have HNf := Lib.hid hnf
  have HNp := Lib.hid hnp
  have HNc := Lib.hid hnc
  have HF0 : Hid (∀ W, Keeps w4 W [] → W.cell? ⟨ab, 0, none⟩ = some (.slice AA na ca) ∧ W.cell? ⟨ab, 1, none⟩ = some (.slice FA nf cf) ∧ W.cell? ⟨ab, 2, none⟩ = some (.slice PA np cp)) := fun W kk => by
    have a0 := (HMa.out.keep0 kk).c0
    have a1 := (HMa.out.keep0 kk).c1
    have a2 := (HMa.out.keep0 kk).c2
    rw [HNa.out] at a0
    rw [HNf.out] at a1
    rw [HNp.out] at a2
    exact ⟨a0, a1, a2⟩
  clear hmm hok hL hlt hna hnf hnp hnc
  go_upto_region 27 with fail
  clear c0
  refine wp_region_tx (fun W' => W'.cell? ⟨ab, 0, none⟩ = some (.slice AA na ca) ∧ W'.cell? ⟨ab, 1, none⟩ = some (.slice FA nf cf) ∧ W'.cell? ⟨ab, 2, none⟩ = some (.slice PA np cp)) [(0, true), (1, true), (2, true), (3, true), (4, true), (5, true), (6, true), (7, true), (8, true), (9, true), (10, true), (11, true), (12, true), (13, true), (14, true), (15, true), (16, true), (17, false), (18, false)] (by kernel_rfl) (by kernel_rfl) (HF0.out _ (Keeps.refl _ _).drew) (fun hHeld => ?_)
  (repeat (first | (refine wpTx_take (v := ?_) rfl (by assumption) ?_ (by rfl) ?_; rotate_left; (focus (intro w' hSw; (try dsimp only at hSw); go_simp; (try with_reducible rfl); done)); simp only [Act.put, List.setIfInBounds_toArray, List.set_cons_zero, List.set_cons_succ]) | (refine wpTx_skip rfl (by assumption) (by rfl) ?_; simp only [Act.put, List.setIfInBounds_toArray, List.set_cons_zero, List.set_cons_succ])))
  refine wpTx_go rfl (fun K hK => ?_)
  go_simp
  have k5 : Keeps w4 (w4.alloc (.cells ((((Tryz.zeroCells67.setIfInBounds 0 (.slice AA na ca)).setIfInBounds 1 (.slice FA nf cf)).setIfInBounds 2 (.slice PA np cp)).setIfInBounds 3 (.slice none 0 0)) 67)).drew [] := ((Keeps.refl w4 []).alloc _).drew
  have HB5 : Hid (Blk (w4.alloc (.cells ((((Tryz.zeroCells67.setIfInBounds 0 (.slice AA na ca)).setIfInBounds 1 (.slice FA nf cf)).setIfInBounds 2 (.slice PA np cp)).setIfInBounds 3 (.slice none 0 0)) 67)).drew w4.heap.size 67 (rsCells (.slice AA na ca) (.slice FA nf cf) (.slice PA np cp) (.slice none 0 0) (fun _ => none) (.slice none 0 0) (.slice none 0 0))) := by
    have h1 : Blk (w4.alloc (.cells ((((Tryz.zeroCells67.setIfInBounds 0 (.slice AA na ca)).setIfInBounds 1 (.slice FA nf cf)).setIfInBounds 2 (.slice PA np cp)).setIfInBounds 3 (.slice none 0 0)) 67)) w4.heap.size 67 _ := Blk.new _ _ _
    exact (h1.eqR (by rw [zero_rs, rsCells_set0, rsCells_set1, rsCells_set2, rsCells_set3])).keep ((Keeps.refl (w4.alloc (.cells ((((Tryz.zeroCells67.setIfInBounds 0 (.slice AA na ca)).setIfInBounds 1 (.slice FA nf cf)).setIfInBounds 2 (.slice PA np cp)).setIfInBounds 3 (.slice none 0 0)) 67)) []).drew) (by simp)
  have HK45 := Lib.hid k5
  clear k5
  refine hK.out _ _ ?_ ?_
  · exact HF0.out _ HK45.out
  (clear hHeld; intro hHeld; clear hK K; (try simp only [Act.put, List.setIfInBounds_toArray, List.set_cons_zero, List.set_cons_succ]))
  refine wpTx_last rfl (fun K hK => ?_)
  go_simp
  refine hK.out _ _ (NoPanic.normal ?_); clear hK K; (try simp only [Act.put, List.setIfInBounds_toArray, List.set_cons_zero, List.set_cons_succ])
  clear hHeld
  generalize (w4.alloc (.cells ((((Tryz.zeroCells67.setIfInBounds 0 (.slice AA na ca)).setIfInBounds 1 (.slice FA nf cf)).setIfInBounds 2 (.slice PA np cp)).setIfInBounds 3 (.slice none 0 0)) 67)).drew = w5 at *
  have HTry0 : Hid (Rs w0 w5 w4.heap.size (tryL w4.heap.size AA FA PA) (protP AA FA PA na nf np) ⟨{ S.o with code := [] }, fun _ => none, [], []⟩) := Lib.hid (by
    have h1 := HNa.out
    have h2 := HNf.out
    have h3 := HNp.out
    subst h1 h2 h3
    exact HMa.out.try_ HK45.out HB5.out)
  have HTry : Hid (∀ wr, Keeps w5 wr (tryL w4.heap.size AA FA PA) → Prot w5 wr (protP AA FA PA na nf np) → Rs w0 wr ab L (fun _ => 0) S ∧ Keeps w4 wr L) := Lib.hid (by
    intro wr k2 kp
    have h1 := HNa.out
    have h2 := HNf.out
    have h3 := HNp.out
    subst h1 h2 h3
    exact HMa.out.tried HL.out HLt.out HK45.out k2 kp)
  have HNT : Hid (∀ b, w.heap.size ≤ b → b < w4.heap.size → b ∉ tryL w4.heap.size AA FA PA) := Lib.hid (by
    intro b h1 h2 hb
    have hLw := HAs.out.lt
    unfold tryL at hb
    simp only [List.mem_append, List.mem_cons] at hb
    rcases hb with h3 | h3 | h3 | h3
    · omega
    · have := (hLw b (HL.out b (by unfold rsL; simp only [List.mem_append]; simp [h3]))).2
      omega
    · have := (hLw b (HL.out b (by unfold rsL; simp only [List.mem_append]; simp [h3]))).2
      omega
    · have := (hLw b (HL.out b (by unfold rsL; simp only [List.mem_append]; simp [h3]))).2
      omega)
  have H0 : Hid (TRun w0 w5 w4.heap.size (tryL w4.heap.size AA FA PA) (protP AA FA PA na nf np) S 0 w5) := Lib.hid ⟨⟨_, _, HTry0.out, ASt.refl _ _, ⟨Nat.le_refl _, Nat.le_refl _, Nat.le_refl _, rfl⟩⟩, Prot.refl _ _⟩
  have HGt : Hid (g < w4.heap.size) := Lib.hid HWb4.out.lt
  have HSz4 : Hid (w3.heap.size ≤ w4.heap.size ∧ w.heap.size ≤ w3.heap.size ∧ w.heap.size ≤ w4.heap.size) := Lib.hid ⟨HK34.out.size, HK3.out.size, HK4.out.size⟩
  have HIb5 := Lib.hid (HIb4.out.keep HK45.out (by simp))
  have HWb5 := Lib.hid (HWb4.out.keep HK45.out (by simp))
  have HZl := Lib.hid (zipT_len HM.out (HLn.out.trans HNm.out))
  clear HB5 HTry0 HMa HL HF0 HIb4 HWb4
  generalize htl : tryL w4.heap.size AA FA PA = T at *
  generalize hpp : protP AA FA PA na nf np = P at *
  clear htl hpp
  go_wp2_with fail
  go_loopw [16] (fun i wr => ∃ j : Nat, j ≤ m ∧ i = .int .i64 j ∧ Hid (((zipW op ws).take j).all (fun x => fitsP op x.1 x.2) = true) ∧ TRun w0 w5 w4.heap.size T P S j wr) (fun i _ => m - (intOf i).toNat)
  case atStart => exact ⟨0, Nat.zero_le _, rfl, rfl, H0.out⟩
  case round =>
    clear H0
    obtain ⟨j, hj, rfl, HAll, hrun⟩ := hrel
    have HR := Lib.hid hrun
    obtain ⟨⟨Lr, S1, hAr, hst, hgr⟩, hpr⟩ := hrun
    have HPr := Lib.hid hpr
    have HSt := Lib.hid hst
    have HGr := Lib.hid hgr
    clear hpr hst hgr
    by_cases hlj : j < m
    · obtain ⟨b7, off7, y, hA7, hb7, hc7, hy⟩ := HN.out j (by rw [HM.out]; exact hlj)
      subst hA7
      have hx1 := kinds_mem op y (List.mem_of_getElem? hy)
      obtain ⟨q, rfl⟩ := Int.eq_ofNat_of_zero_le (show 0 ≤ y by omega)
      obtain ⟨x, hx⟩ : ∃ x, ws[j + 1]? = some x := ⟨ws[j + 1]'(by have := HLn.out; have := HNm.out; omega), List.getElem?_eq_getElem _⟩
      have HZ := Lib.hid (zipT_at hy hx)
      have hf7 := HFR.out b7 off7 rfl
      have HHeld2 : Hid (∀ W, Keeps w5 W T → W.cell? ⟨ib, 0, none⟩ = some (.int .i64 op) ∧ W.cell? ⟨b7, off7 + j, none⟩ = some (.int .i64 q) ∧ W.cell? ⟨g, j + 1, none⟩ = some (.string (stB x))) := fun W kk2 => by
        refine ⟨(HIb5.out.keep kk2 (HNT.out ib HIg.out.1 HI4s.out)).cell 0, ?_, HWr.out.cell (HWb5.out.keep kk2 (HNT.out g HWr.out.new HGt.out)) hx⟩
        exact (kk2.cell (p := ⟨b7, off7 + j, none⟩) (Nat.lt_of_lt_of_le hb7 HK45.out.size) (HNT.out b7 (by have := HSz4.out; omega) (hb7))).trans ((HK45.out.cell (p := ⟨b7, off7 + j, none⟩) hb7 (by simp)).trans hc7)
      have HHeld : Hid (∀ W, Keeps wr W [] → W.cell? ⟨ib, 0, none⟩ = some (.int .i64 op) ∧ W.cell? ⟨b7, off7 + j, none⟩ = some (.int .i64 q) ∧ W.cell? ⟨g, j + 1, none⟩ = some (.string (stB x))) := fun W kk => HHeld2.out W (HSt.out.keep.trans (kk.to_ T))
      have HHold : Hid (∀ w7 {S9 : AS}, RsDone w0 wr.drew w4.heap.size Lr P S9 w7 → w7.cell? ⟨ib, 0, none⟩ = some (.int .i64 op) ∧ w7.cell? ⟨b7, off7 + j, none⟩ = some (.int .i64 q) ∧ w7.cell? ⟨g, j + 1, none⟩ = some (.string (stB x))) := fun w7 S9 hd => by
        have hb := (TRun.bad HSt.out HPr.out (RsDone.trans (Keeps.refl _ _).drew hd)).1
        exact HHeld2.out w7 hb
      have b1 : (j : Int) < (m : Int) := by omega
      have b0 : (0 : Int) ≤ (j : Int) := Int.natCast_nonneg _
      have b5 : (j : Int) + 1 < (n : Int) := by have := HNm.out; omega
      have b6 : (0 : Int) ≤ (j : Int) + 1 := by omega
      have HF1 : Hid (Fits S1.o ∧ S1.o.atoms.length ≤ 65000 ∧ S1.o.funs.length ≤ 65000 ∧ S1.o.preds.length ≤ 65000) := Lib.hid (by
        have hgr := HGr.out
        have hga := hgr.atoms
        have hgf := hgr.funs
        have hgp := hgr.preds
        simp only at hga hgf hgp
        have hfe := HFew.out
        have hfa := hfe.atoms
        have hff := hfe.funs
        have hfp := hfe.preds
        exact ⟨⟨by omega, by omega, by omega, by rw [hgr.code]; exact Nat.zero_le _⟩, by omega, by omega, by omega⟩)
      have hOp := operandR_any (hAr.keep0 (Keeps.refl wr []).drew) op q (by omega) (by omega) (stB x) (HSz.out x (List.mem_of_getElem? hx)) HF1.out.1 HF1.out.2
      rw [stB_list] at hOp
      unfold OpR at hOp
      have hj8 : j ≤ 1000000 := by omega
      cases hfit : fitsP op q x with
      | false =>
        rw [hfit] at hOp
        have HOp := Lib.hid hOp
        have HV := Lib.hid (HBad.out (.inr (.inr (all_noA HZ.out hfit))))
        clear hfit hOp hy hx hc7 hf7 HF1
        go_upto_region 31 with fail
        refine wp_region_tx (fun W' => W'.cell? ⟨ib, 0, none⟩ = some (.int .i64 op) ∧ W'.cell? ⟨b7, off7 + j, none⟩ = some (.int .i64 q) ∧ W'.cell? ⟨g, j + 1, none⟩ = some (.string (stB x))) [(0, true), (1, true), (2, true), (3, true), (4, true), (5, true), (6, true), (7, true), (8, true), (9, true), (10, true), (11, true), (12, false), (13, true), (14, true), (15, true), (16, false), (17, false)] (by kernel_rfl) (by kernel_rfl) (HHeld.out _ (Keeps.refl _ _).drew) (fun hHeld => ?_)
        have dw := wrapK j hj8
        (repeat (first | (refine wpTx_take (v := ?_) rfl (by assumption) ?_ (by rfl) ?_; rotate_left; (focus (intro w' hSw; (try dsimp only at hSw); go_simp; (try with_reducible rfl); done)); simp only [Act.put, List.setIfInBounds_toArray, List.set_cons_zero, List.set_cons_succ]) | (refine wpTx_skip rfl (by assumption) (by rfl) ?_; simp only [Act.put, List.setIfInBounds_toArray, List.set_cons_zero, List.set_cons_succ])))
        refine wpTx_go rfl (fun K hK => ?_)
        go_simp
        refine HOp.out.mono ?_
        rintro e w7 ⟨v, rfl, _, hno⟩
        have HB := Lib.hid (TRun.bad HSt.out HPr.out (RsDone.trans (Keeps.refl _ _).drew (hno (by first | rfl | trivial))))
        have HD7 := Lib.hid (hno (by first | rfl | trivial))
        clear hno
        refine hK.out _ _ ?_ ?_
        · exact HHold.out w7 HD7.out
        (clear hHeld; intro hHeld; clear hK K; (try simp only [Act.put, List.setIfInBounds_toArray, List.set_cons_zero, List.set_cons_succ]))
        (repeat (first | (refine wpTx_take (v := ?_) rfl (by assumption) ?_ (by rfl) ?_; rotate_left; (focus (intro w' hSw; (try dsimp only at hSw); go_simp; (try with_reducible rfl); done)); simp only [Act.put, List.setIfInBounds_toArray, List.set_cons_zero, List.set_cons_succ]) | (refine wpTx_skip rfl (by assumption) (by rfl) ?_; simp only [Act.put, List.setIfInBounds_toArray, List.set_cons_zero, List.set_cons_succ])))
        refine wpTx_go rfl (fun K hK => ?_)
        go_simp
        refine hK.out _ _ ?_ ?_
        · exact HHold.out w7 HD7.out
        (clear hHeld; intro hHeld; clear hK K; (try simp only [Act.put, List.setIfInBounds_toArray, List.set_cons_zero, List.set_cons_succ]))
        refine wpTx_last rfl (fun K hK => ?_)
        go_simp
        refine hK.out _ _ (NoPanic.normal ?_); clear hK K; (try simp only [Act.put, List.setIfInBounds_toArray, List.set_cons_zero, List.set_cons_succ])
        clear hHeld dw
        go_wp2_with fail
        go_ret
        have h7 := HTry.out w7 HB.out.1 HB.out.2
        exact ⟨by rw [HV.out]; rfl, L, S, h7.1, ⟨(HK4.out.to_ L).trans h7.2, fun _ hb => .inl hb⟩, fun h0 => by rw [HV.out] at h0; cases h0⟩
      | true =>
        rw [hfit] at hOp
        have HOp := Lib.hid hOp
        have HAll2 : Hid (((zipW op ws).take (j + 1)).all (fun x => fitsP op x.1 x.2) = true) := all_take HZ.out HAll.out hfit
        clear hfit hOp hy hx hc7 hf7 HF1
        go_upto_region 31 with fail
        refine wp_region_tx (fun W' => W'.cell? ⟨ib, 0, none⟩ = some (.int .i64 op) ∧ W'.cell? ⟨b7, off7 + j, none⟩ = some (.int .i64 q) ∧ W'.cell? ⟨g, j + 1, none⟩ = some (.string (stB x))) [(0, true), (1, true), (2, true), (3, true), (4, true), (5, true), (6, true), (7, true), (8, true), (9, true), (10, true), (11, true), (12, false), (13, true), (14, true), (15, true), (16, false), (17, false)] (by kernel_rfl) (by kernel_rfl) (HHeld.out _ (Keeps.refl _ _).drew) (fun hHeld => ?_)
        have dw := wrapK j hj8
        (repeat (first | (refine wpTx_take (v := ?_) rfl (by assumption) ?_ (by rfl) ?_; rotate_left; (focus (intro w' hSw; (try dsimp only at hSw); go_simp; (try with_reducible rfl); done)); simp only [Act.put, List.setIfInBounds_toArray, List.set_cons_zero, List.set_cons_succ]) | (refine wpTx_skip rfl (by assumption) (by rfl) ?_; simp only [Act.put, List.setIfInBounds_toArray, List.set_cons_zero, List.set_cons_succ])))
        refine wpTx_go rfl (fun K hK => ?_)
        go_simp
        refine HOp.out.mono ?_
        rintro e w7 ⟨v, rfl, hyes, _⟩
        have HD7 := Lib.hid (hyes (by first | rfl | trivial)).2
        have HR7 := Lib.hid (TRun.step HSt.out HGr.out HPr.out (RsDone.trans (Keeps.refl _ _).drew (hyes (by first | rfl | trivial)).2))
        clear hyes
        refine hK.out _ _ ?_ ?_
        · exact HHold.out w7 HD7.out
        (clear hHeld; intro hHeld; clear hK K; (try simp only [Act.put, List.setIfInBounds_toArray, List.set_cons_zero, List.set_cons_succ]))
        (repeat (first | (refine wpTx_take (v := ?_) rfl (by assumption) ?_ (by rfl) ?_; rotate_left; (focus (intro w' hSw; (try dsimp only at hSw); go_simp; (try with_reducible rfl); done)); simp only [Act.put, List.setIfInBounds_toArray, List.set_cons_zero, List.set_cons_succ]) | (refine wpTx_skip rfl (by assumption) (by rfl) ?_; simp only [Act.put, List.setIfInBounds_toArray, List.set_cons_zero, List.set_cons_succ])))
        refine wpTx_go rfl (fun K hK => ?_)
        go_simp
        refine hK.out _ _ ?_ ?_
        · exact HHold.out w7 HD7.out
        (clear hHeld; intro hHeld; clear hK K; (try simp only [Act.put, List.setIfInBounds_toArray, List.set_cons_zero, List.set_cons_succ]))
        refine wpTx_last rfl (fun K hK => ?_)
        go_simp
        refine hK.out _ _ (NoPanic.normal ?_); clear hK K; (try simp only [Act.put, List.setIfInBounds_toArray, List.set_cons_zero, List.set_cons_succ])
        clear hHeld dw
        go_wp2_with fail
        go_roundw
        case rel => exact ⟨j + 1, by omega, by go_num, HAll2, HR7.out⟩
        case measure => simp [intOf]; omega
    · obtain rfl : m = j := by omega
      obtain ⟨w6, hw6⟩ : ∃ w6, w6 = wr := ⟨wr, rfl⟩
      subst hw6
      have hall : ((zipW op ws).all fun x => fitsP op x.1 x.2) = true := by
        have := HAll.out
        rwa [List.take_of_length_le (by rw [HZl.out]; omega)] at this
      have HAT := Lib.hid hall
      have HV := Lib.hid (HOk.out (fun h => by
        rcases h with h | h | h
        · omega
        · rw [HLn.out, HM.out, HNm.out] at h; exact h rfl
        · rw [hall] at h; cases h))
      have hk6 := HTry.out w6 HSt.out.keep HPr.out
      have HRs6 := Lib.hid hk6.1
      have HK46 := Lib.hid hk6.2
      have HIb6 := Lib.hid (HIb5.out.keep HSt.out.keep (HNT.out ib HIg.out.1 HI4s.out))
      have HWb6 := Lib.hid (HWb5.out.keep HSt.out.keep (HNT.out g HWr.out.new HGt.out))
      have HN6 : Hid (∀ j, j < m → ∃ b7 off7 y, A4 = some ⟨b7, off7, none⟩ ∧ w.heap.size ≤ b7 ∧ b7 < w6.heap.size ∧ w6.cell? ⟨b7, off7 + j, none⟩ = some (.int .i64 y) ∧ (kindsOf op)[j]? = some y) := Lib.hid (fun j hj => by
        obtain ⟨b7, off7, y, hA7, hb7, hc7, hy⟩ := HN.out j (by rw [HM.out]; exact hj)
        have hf7 := HFR.out b7 off7 hA7
        have hs := HSz4.out
        have hb8 : w.heap.size ≤ b7 := by omega
        exact ⟨b7, off7, y, hA7, hb8, Nat.lt_of_lt_of_le hb7 HK46.out.size, (HK46.out.cell (p := ⟨b7, off7 + j, none⟩) hb7 (fun hm => by have := (HAs.out.lt _ hm).2; simp only at this; omega)).trans hc7, hy⟩)
      have HIb6s : Hid (ib < w6.heap.size ∧ g < w6.heap.size) := ⟨HIb6.out.lt, HWb6.out.lt⟩
      have HNe : Hid ((∀ b7 off7, A4 = some ⟨b7, off7, none⟩ → b7 ≠ ib) ∧ g ≠ ib) := Lib.hid ⟨fun b7 off7 h e => by
        have h1 := HFR.out b7 off7 h
        have h2 := HI3s.out
        omega, by
        have h1 := HWr.out.blk.lt
        have h2 := HIg.out.2
        omega⟩
      have HK6 := Lib.hid ((HK4.out.to_ L).trans HK46.out)
      clear hall hk6 HAll hlj hj HBad HOk HTry HNT HSt HPr HGr HR hAr HIb5 HWb5 HK45 HK46 HN HFR HSz4 HK34 HK3 HK2 HK1 HLt
      obtain ⟨Q, hQ⟩ : ∃ Q : Nat → LObj × List Int × List (Nat × Nat × Nat), ∀ j, Q j = operandsP nc line S.o 0 ((zipW op ws).take j) := ⟨fun j => _, fun j => rfl⟩
      have HQ := Lib.hid hQ
      rw [HNc.out] at HV
      have HQm : Hid (operandsP nc line S.o 0 (zipW op ws) = Q m) := Lib.hid (by rw [hQ, List.take_of_length_le (by rw [HZl.out]; omega)])
      rw [HQm.out] at HV
      have HGr : Hid (∀ j, j ≤ m → Grows S.o (Q j).1 4 ∧ (Q j).2.1.length = j ∧ (Q j).2.2.length ≤ j) := fun j hj => by
        rw [HQ.out]
        have hl : ((zipW op ws).take j).length = j := by rw [List.length_take, HZl.out]; omega
        have h1 := operandsP_grows nc line ((zipW op ws).take j) S.o 0
        rw [hl] at h1
        have h2 := operandsP_len nc line ((zipW op ws).take j) S.o 0
        have h3 := operandsP_uses nc line ((zipW op ws).take j) S.o 0
        have a1 := h1.atoms
        have a2 := h1.funs
        have a3 := h1.preds
        exact ⟨⟨by omega, by omega, by omega, h1.code⟩, by rw [h2, hl], by rw [hl] at h3; exact h3⟩
      have H0 : Hid (IRunR w0 w6 ab L S w6 ib op (Q 0)) := by
        have e0 : Q 0 = (S.o, [], []) := by rw [HQ.out, List.take_zero]; rfl
        rw [e0]
        refine ⟨⟨L, ?_, fun b hb => .inl hb⟩, HIb6.out, Keeps.refl _ _⟩
        have := HRs6.out
        rw [List.append_nil]
        exact this
      clear hQ HIb6 HRs6
      go_wp2_with fail
      go_loopw [19] (fun i wr => ∃ j : Nat, j ≤ m ∧ i = .int .i64 j ∧ IRunR w0 w6 ab L S wr ib op (Q j)) (fun i _ => m - (intOf i).toNat)
      case atStart => exact ⟨0, Nat.zero_le _, rfl, H0.out⟩
      case round =>
        clear H0
        obtain ⟨j, hj, rfl, hrun⟩ := hrel
        have HR := Lib.hid hrun
        obtain ⟨Lr, hAr, hown⟩ := hrun.ex
        have HOwn := Lib.hid hown
        have HNL : Hid (∀ b, w.heap.size ≤ b → b < w6.heap.size → b ∉ Lr) := Lib.hid (fun b h1 h2 hm => by
          rcases hown b hm with h3 | h3
          · have := (HAs.out.lt _ h3).2
            omega
          · omega)
        have HBase : Hid (w0.heap.size ≤ ib) := Lib.hid (by
          have h1 := HAs.out.bel.size
          have h2 := HIg.out.1
          omega)
        have HAr := Lib.hid hAr
        clear hown hrun hAr
        by_cases hlj : j < m
        · obtain ⟨b7, off7, y, hA7, hb7, hb8, hc7, hy⟩ := HN6.out j hlj
          subst hA7
          have hx1 := kinds_mem op y (List.mem_of_getElem? hy)
          obtain ⟨q, rfl⟩ := Int.eq_ofNat_of_zero_le (show 0 ≤ y by omega)
          obtain ⟨x, hx⟩ : ∃ x, ws[j + 1]? = some x := ⟨ws[j + 1]'(by have := HLn.out; have := HNm.out; omega), List.getElem?_eq_getElem _⟩
          have hz := zipT_at hy hx
          have hfit : fitsP op q x = true := by
            have := List.all_eq_true.1 HAT.out _ (List.mem_of_getElem? hz)
            exact this
          have HSn : Hid (Q (j + 1) = ((operandP (Q j).1 q x).1, (Q j).2.1 ++ [(operandP (Q j).1 q x).2], (Q j).2.2 ++ (if q = 8 ∧ (operandP (Q j).1 q x).2 ≠ 65535 then [(nc, j, line)] else []))) := Lib.hid (by
            rw [HQ.out, take_snocA hz, operandsP_snoc, ← HQ.out, List.length_take, HZl.out, Nat.zero_add, Nat.min_eq_left hj])
          have HLe := Lib.hid (HGr.out j hj).2.1
          obtain ⟨u6, hu6⟩ := insC6_at op (Q j).2.1 j (by omega)
          have HU6 := Lib.hid hu6
          have HKw : Hid (∀ W, Keeps w6 W (ib :: L) → W.cell? ⟨b7, off7 + j, none⟩ = some (.int .i64 q) ∧ W.cell? ⟨g, j + 1, none⟩ = some (.string (stB x))) := fun W kk => by
            have hnL : ∀ b, w.heap.size ≤ b → b ∉ L := fun b h1 h2 => by have := (HAs.out.lt _ h2).2; omega
            refine ⟨(kk.cell (p := ⟨b7, off7 + j, none⟩) hb8 (fun hm => ?_)).trans hc7, HWr.out.cell (HWb6.out.keep kk (fun hm => ?_)) hx⟩
            · rcases List.mem_cons.1 hm with h1 | h1
              · exact HNe.out.1 b7 off7 rfl h1
              · exact hnL _ hb7 h1
            · rcases List.mem_cons.1 hm with h1 | h1
              · exact HNe.out.2 h1
              · exact hnL _ HWr.out.new h1
          have HOp : Hid (Calls Tryz.prog 57 #[.pointer (some ⟨ab, 0, none⟩), .int .i64 op, .int .i64 q, .string (stB x)] wr.drew (OpR w0 wr.drew ab Lr (fun _ => 0) { S with o := (Q j).1, uses := S.uses ++ (Q j).2.2 } op q x)) := Lib.hid (by
            have hgr := (HGr.out j hj).1
            have hga := hgr.atoms
            have hgf := hgr.funs
            have hgp := hgr.preds
            have hfe := HFew.out
            have hfa := hfe.atoms
            have hff := hfe.funs
            have hfp := hfe.preds
            have hfc := hfe.code
            have h1 := operandR_any (HAr.out.keep0 (Keeps.refl wr []).drew) op q (by omega) (by omega) (stB x) (HSz.out x (List.mem_of_getElem? hx)) ⟨by simp only; omega, by simp only; omega, by simp only; omega, by simp only; rw [hgr.code]; omega⟩ ⟨by simp only; omega, by simp only; omega, by simp only; omega⟩
            rwa [stB_list] at h1)
          unfold OpR at HOp
          rw [hfit] at HOp
          dsimp only at HOp
          have HCode : Hid ((operandP (Q j).1 q x).1.code.length = nc) := Lib.hid (by rw [operandP_code, (HGr.out j hj).1.code, HNc.out])
          have HUl : Hid ((Q j).2.2.length ≤ 4) := Lib.hid (by have := (HGr.out j hj).2.2; omega)
          have b1 : (j : Int) < (m : Int) := by omega
          have b0 : (0 : Int) ≤ (j : Int) := Int.natCast_nonneg _
          have b4 : (j : Int) < 4 := by omega
          have b5 : (j : Int) + 1 < (n : Int) := by have := HNm.out; omega
          have b6 : (0 : Int) ≤ (j : Int) + 1 := by omega
          have hj8 : j ≤ 1000000 := by omega
          have HHw : Hid (∀ W, Keeps wr W Lr → (W.cell? ⟨ib, 0, none⟩ = some (.int .i64 op) ∧ W.cell? ⟨b7, off7 + j, none⟩ = some (.int .i64 q) ∧ W.cell? ⟨g, j + 1, none⟩ = some (.string (stB x)) ∧ W.cell? ⟨ib, 1 + j, none⟩ = some (.int .i64 u6)) ∧ W.frozen? ⟨ib, 1 + j, none⟩ = false) := fun W kk => by
            have hib := HR.out.ins.keep kk (HNL.out ib HIg.out.1 HIb6s.out.1)
            have c6 := hib.cell (1 + j)
            rw [HU6.out] at c6
            have kk2 : Keeps w6 W (ib :: L) := ⟨kk.os.trans HR.out.keep.os, kk.tape.trans HR.out.keep.tape, kk.output.trans HR.out.keep.output, Nat.le_trans HR.out.keep.size kk.size, fun b hb hn' => (kk.block b (Nat.lt_of_lt_of_le hb HR.out.keep.size) (fun hm => by
              rcases HOwn.out b hm with h3 | h3
              · exact hn' (by simp [h3])
              · omega)).trans (HR.out.keep.block b hb hn')⟩
            have h2 := HKw.out W kk2
            exact ⟨⟨hib.cell 0, h2.1, h2.2, c6⟩, hib.frozen (1 + j)⟩
          clear hy hx hz hfit hc7 hb7 hb8 hu6
          generalize operandP (Q j).1 q x = r at *
          obtain ⟨r1, v⟩ := r
          dsimp only at HOp HSn HCode
          go_upto_region 37 with fail
          refine wp_region_th (fun W' => (W'.cell? ⟨ib, 0, none⟩ = some (.int .i64 op) ∧ W'.cell? ⟨b7, off7 + j, none⟩ = some (.int .i64 q) ∧ W'.cell? ⟨g, j + 1, none⟩ = some (.string (stB x)) ∧ W'.cell? ⟨ib, 1 + j, none⟩ = some (.int .i64 u6)) ∧ W'.frozen? ⟨ib, 1 + j, none⟩ = false) 19 [16] [(0, true), (1, true), (2, true), (3, true), (4, true), (5, true), (6, true), (7, true), (8, true), (9, true), (10, true), (11, true), (12, true), (17, true), (13, false), (14, true), (15, true), (16, true), (18, true), (19, false)] (by kernel_rfl) (by kernel_rfl) (HHw.out _ ((Keeps.refl wr []).drew.to_ Lr)) (fun hHeld => ?_)
          have dw := wrapK j hj8
          (repeat (first | (refine wpTh_take (v := ?_) rfl (by rfl) (by assumption) ?_ (by rfl) ?_; rotate_left; (focus (intro w' hSw; (try dsimp only at hSw); go_simp; (try with_reducible rfl); done)); simp only [Act.put, List.setIfInBounds_toArray, List.set_cons_zero, List.set_cons_succ]) | (refine wpTh_pure (v := ?_) rfl (by rfl) (by assumption) ?_ (by rfl) ?_; rotate_left; (focus (intro w'; go_simp; (try with_reducible rfl); done)); simp only [Act.put, List.setIfInBounds_toArray, List.set_cons_zero, List.set_cons_succ])))
          refine wpTh_go rfl (fun K hK => ?_)
          go_simp
          refine HOp.out.mono ?_
          rintro e w7 ⟨v', rfl, hyes, _⟩
          obtain ⟨rfl, L6, hA6, hs6, _⟩ := hyes (by first | rfl | trivial)
          have HA6 := Lib.hid hA6
          have HS6 := Lib.hid ((ASt.of_keeps (Keeps.refl wr []).drew Lr).trans hs6)
          clear hyes hA6 hs6
          refine hK.out _ _ ?_ ?_
          · exact HHw.out w7 HS6.out.keep
          (clear hHeld; intro hHeld; clear hK K; (try simp only [Act.put, List.setIfInBounds_toArray, List.set_cons_zero, List.set_cons_succ]))
          (repeat (first | (refine wpTh_take (v := ?_) rfl (by rfl) (by assumption) ?_ (by rfl) ?_; rotate_left; (focus (intro w' hSw; (try dsimp only at hSw); go_simp; (try with_reducible rfl); done)); simp only [Act.put, List.setIfInBounds_toArray, List.set_cons_zero, List.set_cons_succ]) | (refine wpTh_pure (v := ?_) rfl (by rfl) (by assumption) ?_ (by rfl) ?_; rotate_left; (focus (intro w'; go_simp; (try with_reducible rfl); done)); simp only [Act.put, List.setIfInBounds_toArray, List.set_cons_zero, List.set_cons_succ])))
          refine wpTh_last rfl (by decide) (fun K hK => ?_)
          go_simp
          refine hK.out _ _ (NoPanic.normal ?_); clear hK K; (try simp only [Act.put, List.setIfInBounds_toArray, List.set_cons_zero, List.set_cons_succ])
          clear hHeld dw
          have hib6 : ib ∉ L6 := fun hm => by
            rcases HS6.out.own ib hm with h1 | h1
            · exact HNL.out ib HIg.out.1 HIb6s.out.1 h1
            · have := HR.out.ins.lt
              omega
          have hi7 := (HR.out.ins.keep HS6.out.keep (HNL.out ib HIg.out.1 HIb6s.out.1)).set_ (1 + j) (.int .i64 v')
          rw [insC6_set op v' (Q j).2.1 j HLe.out (by omega)] at hi7
          have k67 : Keeps w7 (w7.setCell ⟨ib, 1 + j, none⟩ (.int .i64 v')) [ib] := (Keeps.refl w7 [ib]).setCell (.inl (by simp)) _
          have HA7 := Lib.hid (HA6.out.keep k67 (by simp only [List.mem_cons, List.not_mem_nil, or_false]; rintro _ rfl; exact ⟨hib6, HBase.out⟩))
          have HI7 := Lib.hid hi7
          have HIb7 := Lib.hid hib6
          have HK7 : Hid (Keeps w6 (w7.setCell ⟨ib, 1 + j, none⟩ (.int .i64 v')) (ib :: L)) := by
            have h2 : Keeps w6 w7 (ib :: L) := ⟨HS6.out.keep.os.trans HR.out.keep.os, HS6.out.keep.tape.trans HR.out.keep.tape, HS6.out.keep.output.trans HR.out.keep.output, Nat.le_trans HR.out.keep.size HS6.out.keep.size, fun b hb hn' => (HS6.out.keep.block b (Nat.lt_of_lt_of_le hb HR.out.keep.size) (fun hm => by
              rcases HOwn.out b hm with h3 | h3
              · exact hn' (by simp [h3])
              · omega)).trans (HR.out.keep.block b hb hn')⟩
            exact h2.setCell (.inl (by simp)) _
          have HO7 : Hid (∀ b ∈ L6, b ∈ L ∨ w6.heap.size ≤ b) := fun b hb => by
            rcases HS6.out.own b hb with h1 | h1
            · exact HOwn.out b h1
            · exact .inr (Nat.le_trans HR.out.keep.size h1)
          have y6 : World.cell? (w7.setCell ⟨ib, 1 + j, none⟩ (.int .i64 v')) ⟨ib, 1 + j, none⟩ = some (.int .i64 v') := by
            have h1 := hi7.cell (1 + j)
            rw [show (insC6 op ((Q j).2.1 ++ [v']))[1 + j]? = some (.int .i64 v') from insC6_last op v' _ j HLe.out (by omega)] at h1
            exact h1
          have y7 := (HKw.out _ HK7.out).1
          clear hib6 hi7 k67 HA6 HS6 HOp HR HNL HHw HAr HKw
          generalize w7.setCell ⟨ib, 1 + j, none⟩ (.int .i64 v') = w8 at *
          by_cases hq : q = 8
          case neg =>
            have d8 : ((q : Int) == 8) = false := by rw [beq_eq_false_iff_ne]; omega
            have HS2 : Hid (Q (j + 1) = (r1, (Q j).2.1 ++ [v'], (Q j).2.2)) := Lib.hid (by rw [HSn.out, if_neg (by rintro ⟨h1, h2⟩; exact hq h1), List.append_nil])
            clear HSn
            go_wp2_with fail
            go_roundw
            case rel =>
              refine ⟨j + 1, by omega, by go_num, ?_⟩
              rw [HS2.out]
              exact ⟨⟨L6, HA7.out, HO7.out⟩, HI7.out, HK7.out⟩
            case measure => simp [intOf]; omega
          have d8 : ((q : Int) == 8) = true := by rw [beq_iff_eq]; omega
          by_cases hv : v' = 65535
          · have d9 : (v' == 65535) = true := by simpa using hv
            have d10 : (v' != 65535) = false := by simpa using hv
            have HS2 : Hid (Q (j + 1) = (r1, (Q j).2.1 ++ [v'], (Q j).2.2)) := Lib.hid (by rw [HSn.out, if_neg (by rintro ⟨h1, h2⟩; exact h2 hv), List.append_nil])
            clear HSn hv
            go_wp2_with fail
            go_roundw
            case rel =>
              refine ⟨j + 1, by omega, by go_num, ?_⟩
              rw [HS2.out]
              exact ⟨⟨L6, HA7.out, HO7.out⟩, HI7.out, HK7.out⟩
            case measure => simp [intOf]; omega
          · have d9 : (v' == 65535) = false := by simpa using hv
            have d10 : (v' != 65535) = true := by simpa using hv
            have HS2 : Hid (Q (j + 1) = (r1, (Q j).2.1 ++ [v'], (Q j).2.2 ++ [(nc, j, line)])) := Lib.hid (by rw [HSn.out, if_pos ⟨hq, hv⟩])
            clear HSn hv hq
            go_upto_region 39 with fail
            clear y6 y7 d8 d9 d10
            obtain ⟨AA, FA, PA, CA, UA, BA, ca, cf, cp, cc, cu, cb, hm7, hok7, hL7, hlt7⟩ := HA7.out
            have HM7 := Lib.hid hm7
            have HOk7 := Lib.hid hok7
            have HL7 := Lib.hid hL7
            have HLt7 := Lib.hid hlt7
            clear hm7 hok7 hL7 hlt7
            obtain ⟨nu, hnu⟩ : ∃ nu, (S.uses ++ (Q j).2.2).length = nu := ⟨_, rfl⟩
            have HNu := Lib.hid hnu
            have HNu2 : Hid (nu ≤ 1000004) := Lib.hid (by rw [← hnu, List.length_append]; have := HFew.out.uses; have := HUl.out; omega)
            clear hnu
            have HO5 : Hid (w8.ownsRow w0.heap.size 69 3 (.slice UA nu cu) nu ((S.uses ++ (Q j).2.2).flatMap useE)) := Lib.hid (by have := HM7.out.uses; simp only at this; rw [HNu.out] at this; exact this)
            have HF8 : Hid (∀ W, Keeps w8 W [] → (W.cell? ⟨ab, 1028, none⟩ = some (.slice UA nu cu) ∧ W.cell? ⟨ab, 3, none⟩ = some (.slice CA nc cc)) ∧ W.frozen? ⟨ab, 1028, none⟩ = false) := fun W kk => by
              have b := HM7.out.keep0 kk
              have q5 := b.cellU
              have q3 := b.c3
              simp only [HNu.out, HCode.out] at q5 q3
              exact ⟨⟨q5, q3⟩, b.blk.frozen 1028⟩
            refine wp_region_tx (fun W' => (W'.cell? ⟨ab, 1028, none⟩ = some (.slice UA nu cu) ∧ W'.cell? ⟨ab, 3, none⟩ = some (.slice CA nc cc)) ∧ W'.frozen? ⟨ab, 1028, none⟩ = false) [(0, true), (1, true), (2, true), (3, true), (4, true), (5, true), (6, true), (7, true), (8, true), (9, true), (10, true), (11, true), (12, true), (13, true), (14, false), (15, false), (16, true), (17, true), (18, false)] (by kernel_rfl) (by kernel_rfl) (HF8.out _ (Keeps.refl _ _).drew) (fun hHeld => ?_)
            (repeat (first | (refine wpTx_take (v := ?_) rfl (by assumption) ?_ (by rfl) ?_; rotate_left; (focus (intro w' hSw; (try dsimp only at hSw); go_simp; (try with_reducible rfl); done)); simp only [Act.put, List.setIfInBounds_toArray, List.set_cons_zero, List.set_cons_succ]) | (refine wpTx_skip rfl (by assumption) (by rfl) ?_; simp only [Act.put, List.setIfInBounds_toArray, List.set_cons_zero, List.set_cons_succ])))
            refine wpTx_go rfl (fun K hK => ?_)
            go_simp
            refine hK.out _ _ ?_ ?_
            · exact HF8.out _ ((Keeps.refl _ _).drew.alloc _)
            (clear hHeld; intro hHeld; clear hK K; (try simp only [Act.put, List.setIfInBounds_toArray, List.set_cons_zero, List.set_cons_succ]))
            refine wpTx_go rfl (fun K hK => ?_)
            have K5 : Keeps w8 (w8.drew.alloc (.cells #[.int .i64 nc, .int .i64 j, .int .i64 line] 69)) [] := (Keeps.refl w8 []).drew.alloc _
            refine step_app _ el_useR (by rfl) _ _ (by rfl) w0.heap.size UA nu cu ((S.uses ++ (Q j).2.2).flatMap useE) (by rfl) (own_keep0 HO5.out K5) (some ⟨w8.heap.size, 0, none⟩) 1 1 (useE (nc, j, line)) (by rfl) (Rd.one w8.drew _ (useE (nc, j, line))) rfl (by simp) (by simp [useE, Value.oneCell']) (by have := HNu2.out; omega) (Nat.le_trans HM7.out.bel.size K5.size) ?_
            intro A' c' w9 hown hgrow hat
            have HAp := Lib.hid (app_factsA K5 hown hgrow hat)
            have hB8 := HM7.out.blk.grownA K5 hgrow (own_outA HM7.out.uses HM7.out.blk (by decide))
            have q5 : w9.cell? ⟨ab, 1028, none⟩ = some (.slice UA nu cu) := (hB8.cell 1028).trans ((rsCells_1028 _ _ _ _ _ _ _).trans (by simp only [HNu.out]))
            have q3 : w9.cell? ⟨ab, 3, none⟩ = some (.slice CA nc cc) := (hB8.cell 3).trans ((rsCells_3 _ _ _ _ _ _ _).trans (by simp only [HCode.out]))
            have HB8 := Lib.hid (And.intro (And.intro q5 q3) (hB8.frozen 1028))
            clear hown hgrow hat K5 hB8 q5 q3
            refine hK.out _ _ ?_ ?_
            · exact HB8.out
            (clear hHeld; intro hHeld; clear hK K; (try simp only [Act.put, List.setIfInBounds_toArray, List.set_cons_zero, List.set_cons_succ]))
            (repeat (first | (refine wpTx_take (v := ?_) rfl (by assumption) ?_ (by rfl) ?_; rotate_left; (focus (intro w' hSw; (try dsimp only at hSw); go_simp; (try with_reducible rfl); done)); simp only [Act.put, List.setIfInBounds_toArray, List.set_cons_zero, List.set_cons_succ]) | (refine wpTx_skip rfl (by assumption) (by rfl) ?_; simp only [Act.put, List.setIfInBounds_toArray, List.set_cons_zero, List.set_cons_succ])))
            refine wpTx_last rfl (fun K hK => ?_)
            go_simp
            refine hK.out _ _ (NoPanic.normal ?_); clear hK K; (try simp only [Act.put, List.setIfInBounds_toArray, List.set_cons_zero, List.set_cons_succ])
            clear hHeld
            obtain ⟨a1, a2, a3⟩ := HAp.out
            have hlen : ((S.uses ++ (Q j).2.2) ++ [(nc, j, line)]).length = nu + 1 := by rw [List.length_append, HNu.out]; rfl
            obtain ⟨L', g1, g2⟩ := HM7.out.uses_pack HOk7.out HL7.out HLt7.out a2 (A' := A') (c' := c') (l' := (S.uses ++ (Q j).2.2) ++ [(nc, j, line)]) (by simp) (by rw [hlen, List.flatMap_append]; simpa using a1) a3
            rw [hlen] at g1 g2
            rw [List.append_assoc] at g1
            have HG1 := Lib.hid g1
            have HI8 := Lib.hid (g2.blk HI7.out HIb7.out).1
            have HO8 : Hid (∀ b ∈ L', b ∈ L ∨ w6.heap.size ≤ b) := fun b hb => by
              rcases g2.own b hb with h1 | h1
              · exact HO7.out b h1
              · exact .inr (Nat.le_trans HK7.out.size h1)
            have HK8 : Hid (Keeps w6 (w9.setCell ⟨ab, 1028, none⟩ (.slice A' (nu + 1) c')) (ib :: L)) := ⟨g2.keep.os.trans HK7.out.os, g2.keep.tape.trans HK7.out.tape, g2.keep.output.trans HK7.out.output, Nat.le_trans HK7.out.size g2.keep.size, fun b hb hn' => (g2.keep.block b (Nat.lt_of_lt_of_le hb HK7.out.size) (fun hm => by
              rcases HO7.out b hm with h3 | h3
              · exact hn' (by simp [h3])
              · omega)).trans (HK7.out.block b hb hn')⟩
            clear a1 a2 a3 hlen g1 g2
            generalize w9.setCell ⟨ab, 1028, none⟩ (.slice A' (nu + 1) c') = w10 at *
            go_wp2_with fail
            go_roundw
            case rel =>
              refine ⟨j + 1, by omega, by go_num, ?_⟩
              rw [HS2.out]
              exact ⟨⟨L', HG1.out, HO8.out⟩, HI8.out, HK8.out⟩
            case measure => simp [intOf]; omega
        · obtain rfl : m = j := by omega
          obtain ⟨w7, hw7⟩ : ∃ w7, w7 = wr := ⟨wr, rfl⟩
          subst hw7
          have HIbn : Hid (ib ∉ Lr) := Lib.hid (HNL.out ib HIg.out.1 HIb6s.out.1)
          obtain ⟨AA, FA, PA, CA, UA, BA, ca, cf, cp, cc, cu, cb, hm7, hok7, hL7, hlt7⟩ := HAr.out
          have HM7 := Lib.hid hm7
          have HOk7 := Lib.hid hok7
          have HL7 := Lib.hid hL7
          have HLt7 := Lib.hid hlt7
          clear hm7 hok7 hL7 hlt7
          have hcode : (Q m).1.code.length = nc := by rw [(HGr.out m (Nat.le_refl _)).1.code, HNc.out]
          have HCd := Lib.hid hcode
          have HNc2 : Hid (nc ≤ 60000) := Lib.hid (by rw [← HNc.out]; exact HFew.out.code)
          obtain ⟨a0, a1, a2, a3, hC⟩ : ∃ a0 a1 a2 a3 : Int, insW op (Q m).2.1 = ⟨op, a0, a1, a2, a3⟩ := ⟨_, _, _, _, rfl⟩
          have hC2 : insC6 op (Q m).2.1 = #[.int .i64 op, .int .i64 a0, .int .i64 a1, .int .i64 a2, .int .i64 a3] := by
            have h1 : insC6 op (Q m).2.1 = #[.int .i64 (insW op (Q m).2.1).op, .int .i64 (insW op (Q m).2.1).a0, .int .i64 (insW op (Q m).2.1).a1, .int .i64 (insW op (Q m).2.1).a2, .int .i64 (insW op (Q m).2.1).a3] := rfl
            rw [h1, hC]
          have hI := HR.out.ins
          rw [hC2] at hI
          have HI := Lib.hid hI
          have HKf := Lib.hid HR.out.keep
          have HC := Lib.hid hC
          have HO5 : Hid (w7.ownsRow w0.heap.size 72 5 (.slice CA nc cc) nc ((Q m).1.code.flatMap insE)) := Lib.hid (by have := HM7.out.code; simp only at this; rw [hcode] at this; exact this)
          have HF8 : Hid (∀ W, Keeps w7 W [] → (W.cell? ⟨ab, 3, none⟩ = some (.slice CA nc cc) ∧ W.cell? ⟨ib, 0, none⟩ = some (.int .i64 op) ∧ W.cell? ⟨ib, 1, none⟩ = some (.int .i64 a0) ∧ W.cell? ⟨ib, 2, none⟩ = some (.int .i64 a1) ∧ W.cell? ⟨ib, 3, none⟩ = some (.int .i64 a2) ∧ W.cell? ⟨ib, 4, none⟩ = some (.int .i64 a3)) ∧ W.frozen? ⟨ab, 3, none⟩ = false) := fun W kk => by
            have b := HM7.out.keep0 kk
            have q3 := b.c3
            simp only [HCd.out] at q3
            have bi := HI.out.keep kk (by simp)
            exact ⟨⟨q3, bi.cell 0, bi.cell 1, bi.cell 2, bi.cell 3, bi.cell 4⟩, b.blk.frozen 3⟩
          clear hC hC2 hI HR hcode hj hlj HAr
          go_upto_region 40 with fail
          refine wp_region_tx (fun W' => (W'.cell? ⟨ab, 3, none⟩ = some (.slice CA nc cc) ∧ W'.cell? ⟨ib, 0, none⟩ = some (.int .i64 op) ∧ W'.cell? ⟨ib, 1, none⟩ = some (.int .i64 a0) ∧ W'.cell? ⟨ib, 2, none⟩ = some (.int .i64 a1) ∧ W'.cell? ⟨ib, 3, none⟩ = some (.int .i64 a2) ∧ W'.cell? ⟨ib, 4, none⟩ = some (.int .i64 a3)) ∧ W'.frozen? ⟨ab, 3, none⟩ = false) [(0, true), (1, true), (2, true), (3, true), (4, true), (5, true), (6, true), (7, false), (8, false), (9, true), (10, true), (11, true), (12, false)] (by kernel_rfl) (by kernel_rfl) (HF8.out _ (Keeps.refl _ _).drew) (fun hHeld => ?_)
          (repeat (first | (refine wpTx_take (v := ?_) rfl (by assumption) ?_ (by rfl) ?_; rotate_left; (focus (intro w' hSw; (try dsimp only at hSw); go_simp; (try with_reducible rfl); done)); simp only [Act.put, List.setIfInBounds_toArray, List.set_cons_zero, List.set_cons_succ]) | (refine wpTx_skip rfl (by assumption) (by rfl) ?_; simp only [Act.put, List.setIfInBounds_toArray, List.set_cons_zero, List.set_cons_succ])))
          refine wpTx_go rfl (fun K hK => ?_)
          go_simp
          refine hK.out _ _ ?_ ?_
          · exact HF8.out _ ((Keeps.refl _ _).drew.alloc _)
          (clear hHeld; intro hHeld; clear hK K; (try simp only [Act.put, List.setIfInBounds_toArray, List.set_cons_zero, List.set_cons_succ]))
          refine wpTx_go rfl (fun K hK => ?_)
          have K5 : Keeps w7 (w7.drew.alloc (.cells #[.int .i64 op, .int .i64 a0, .int .i64 a1, .int .i64 a2, .int .i64 a3] 72)) [] := (Keeps.refl w7 []).drew.alloc _
          refine step_app _ el_insR (by rfl) _ _ (by rfl) w0.heap.size CA nc cc ((Q m).1.code.flatMap insE) (by rfl) (own_keep0 HO5.out K5) (some ⟨w7.heap.size, 0, none⟩) 1 1 (insE ⟨op, a0, a1, a2, a3⟩) (by rfl) (Rd.one w7.drew _ (insE ⟨op, a0, a1, a2, a3⟩)) rfl (by simp) (by simp [insE, Value.oneCell']) (by have := HNc2.out; omega) (Nat.le_trans HM7.out.bel.size K5.size) ?_
          intro A' c' w8 hown hgrow hat
          have HAp := Lib.hid (app_factsA K5 hown hgrow hat)
          have hB8 := HM7.out.blk.grownA K5 hgrow (own_outA HM7.out.code HM7.out.blk (by decide))
          have hi8 := HI.out.grownA K5 hgrow (fun hm => HIbn.out (HL7.out _ (by unfold rsL; simp [hm])))
          have q3 : w8.cell? ⟨ab, 3, none⟩ = some (.slice CA nc cc) := (hB8.cell 3).trans ((rsCells_3 _ _ _ _ _ _ _).trans (by simp only [HCd.out]))
          have HB8 : Hid ((w8.cell? ⟨ab, 3, none⟩ = some (.slice CA nc cc) ∧ w8.cell? ⟨ib, 0, none⟩ = some (.int .i64 op) ∧ w8.cell? ⟨ib, 1, none⟩ = some (.int .i64 a0) ∧ w8.cell? ⟨ib, 2, none⟩ = some (.int .i64 a1) ∧ w8.cell? ⟨ib, 3, none⟩ = some (.int .i64 a2) ∧ w8.cell? ⟨ib, 4, none⟩ = some (.int .i64 a3)) ∧ w8.frozen? ⟨ab, 3, none⟩ = false) := ⟨⟨q3, hi8.cell 0, hi8.cell 1, hi8.cell 2, hi8.cell 3, hi8.cell 4⟩, hB8.frozen 3⟩
          clear hown hgrow hat K5 hB8 q3 hi8
          refine hK.out _ _ ?_ ?_
          · exact HB8.out
          (clear hHeld; intro hHeld; clear hK K; (try simp only [Act.put, List.setIfInBounds_toArray, List.set_cons_zero, List.set_cons_succ]))
          (repeat (first | (refine wpTx_take (v := ?_) rfl (by assumption) ?_ (by rfl) ?_; rotate_left; (focus (intro w' hSw; (try dsimp only at hSw); go_simp; (try with_reducible rfl); done)); simp only [Act.put, List.setIfInBounds_toArray, List.set_cons_zero, List.set_cons_succ]) | (refine wpTx_skip rfl (by assumption) (by rfl) ?_; simp only [Act.put, List.setIfInBounds_toArray, List.set_cons_zero, List.set_cons_succ])))
          refine wpTx_last rfl (fun K hK => ?_)
          go_simp
          refine hK.out _ _ (NoPanic.normal ?_); clear hK K; (try simp only [Act.put, List.setIfInBounds_toArray, List.set_cons_zero, List.set_cons_succ])
          clear hHeld
          go_wp2_with fail
          go_ret
          obtain ⟨e1, e2, e3⟩ := HAp.out
          have hlen : ((Q m).1.code ++ [(⟨op, a0, a1, a2, a3⟩ : LIns)]).length = nc + 1 := by rw [List.length_append, HCd.out]; rfl
          obtain ⟨L', g1, g2⟩ := HM7.out.code_pack HOk7.out HL7.out HLt7.out e2 (A' := A') (c' := c') (l' := (Q m).1.code ++ [⟨op, a0, a1, a2, a3⟩]) (by simp) (by rw [hlen, List.flatMap_append]; simpa using e1) e3
          rw [hlen] at g1 g2
          refine ⟨by rw [HV.out]; rfl, L', _, g1, ?_, fun _ => by rw [HV.out, HC.out]⟩
          have kA := keeps_dropL HK6.out HKf.out HIg.out.1
          refine ASt.trans (M := Lr) ⟨kA, fun b hb => ?_⟩ g2
          rcases HOwn.out b hb with h1 | h1
          · exact .inl h1
          · exact .inr (Nat.le_trans HK6.out.size h1)
end Go.Proofs.YtpcihhdalofdiaaGreatDoor
