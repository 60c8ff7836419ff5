/- The walk of obj.reader's object. Printed by gen_readobw.py. -/
import Derived.Test.YtdcjiohbnnipdaaReadO
namespace Go.Proofs.Ytdcjiohbnnipdaa
open Go.RowKit
attribute [local irreducible] takeR numR nameR insR kindsOf nameOf bigB checkE headR

theorem markR_byte {c : Int} {s : RdS} (h : IsByte s.rest) : IsByte (markR c s).rest := by
  unfold markR
  split
  · exact (takeR_byte h).2
  · exact (takeR_byte h).2
theorem magicR_byte {s : RdS} (h : IsByte s.rest) : IsByte (magicR s).rest := by
  unfold magicR magicL
  exact markR_byte (markR_byte (markR_byte (markR_byte (markR_byte h))))
theorem numR_byte {k : Nat} {s : RdS} (h : IsByte s.rest) : IsByte (numR k s).2.rest := by
  unfold numR
  exact (takeR_byte h).2
theorem headR_lt {s : RdS} (h : IsByte s.rest) : (headR s).na < 65536 ∧ (headR s).nf < 65536 ∧ (headR s).np < 65536 ∧ (headR s).nc < 65536 := by
  have h0 := magicR_byte h
  have h1 := numR_byte (k := 2) h0
  have h2 := numR_byte (k := 2) h1
  have h3 := numR_byte (k := 2) h2
  unfold headR
  exact ⟨numR_lt (k := 2) h0, numR_lt (k := 2) h1, numR_lt (k := 2) h2, numR_lt (k := 2) h3⟩
/-- What object does. -/
def ReadObj (w : World) (g B : Nat) (r : LObj × RdS) (e : Ending) (w' : World) : Prop :=
  ∃ Aa Af Ap Ac ca cf cp cc, e = .returned (.agg #[.slice Aa r.1.atoms.length ca, .slice Af r.1.funs.length cf, .slice Ap r.1.preds.length cp, .slice Ac r.1.code.length cc]) ∧ ObIs w' r.1 Aa Af Ap Ac ca cf cp cc ∧ (∀ a, Aa = some a ∨ Af = some a ∨ Ap = some a ∨ Ac = some a → w.heap.size ≤ a.block) ∧ RdrAt w' g B r.2 ∧ Keeps w w' [g]
theorem own_low {w : World} {base n c size : Nat} {e : TypeId} {a : Addr} {xs : List Value} (h : w.ownsRow base e size (.slice (some a) n c) n xs) : base ≤ a.block := (h.lt a.block rfl).1
theorem readObj_mk {w wr : World} {g B hb na nf np nc : Nat} {s : RdS} {A1 A2 A3 A4 : Option Addr} {n1 n2 n3 n4 c1 c2 c3 c4 : Nat} {l1 : List ByteArray} {l2 : List LFun} {l3 : List LPred} {l4 : List LIns} (h : RoSt w wr g B hb na nf np nc s A1 A2 A3 A4 n1 n2 n3 n4 c1 c2 c3 c4 l1 l2 l3 l4)
    (e1 : l1.length = n1) (e2 : l2.length = n2) (e3 : l3.length = n3) (e4 : l4.length = n4) {W : World} (k : Keeps wr W [w.heap.size]) :
    ReadObj w g B (⟨l1, l2, l3, l4⟩, s) (.returned (.agg #[.slice A1 n1 c1, .slice A2 n2 c2, .slice A3 n3 c3, .slice A4 n4 c4])) W := by
  subst e1 e2 e3 e4
  have hl := h.low
  have off : ∀ {e : TypeId} {sz n c : Nat} {A : Option Addr} {xs : List Value}, wr.ownsRow w.heap.size e sz (.slice A n c) n xs → e ≠ 30 → Rd W A xs := fun ho hne => (Rd.of_own ho).keepOff k (fun a ha => by
    have h1 := own_outT ho h.res (Ne.symm hne)
    unfold ownL at h1
    subst ha
    simp [Value.ownBlock] at h1
    simp
    exact fun e => h1 e.symm)
  have hlow : ∀ a, A1 = some a ∨ A2 = some a ∨ A3 = some a ∨ A4 = some a → w.heap.size ≤ a.block := by
    intro a ha
    rcases ha with rfl | rfl | rfl | rfl
    · exact own_low h.r1
    · exact own_low h.r2
    · exact own_low h.r3
    · exact own_low h.r4
  exact ⟨A1, A2, A3, A4, c1, c2, c3, c4, rfl, ⟨off h.r1 (by decide), off h.r2 (by decide), off h.r3 (by decide), off h.r4 (by decide), own_none0 h.r1, own_none0 h.r2, own_none0 h.r3, own_none0 h.r4⟩, hlow, h.rdr.keep k (fun q hq => by simp at hq; omega), h.keep.past k (fun q hq => by simp at hq; simp; omega)⟩

set_option maxRecDepth 100000 in
set_option maxHeartbeats 12800000 in
theorem robj_any (w : World) (g B : Nat) (s : RdS) (h : RdrAt w g B s) : Calls Try.prog 44 #[.pointer (some ⟨g, 0, none⟩)] w (ReadObj w g B (objR s)) := by
  have hlt := h.lt
  have hle := h.le
  have hbd := headR_lt h.byte
  obtain ⟨W1, hW1⟩ : ∃ W1, (w.alloc (.cells #[.slice none 0 0, .slice none 0 0, .slice none 0 0, .slice none 0 0] 30)).alloc (.cells #[.slice none 0 0, .slice none 0 0, .slice none 0 0, .slice none 0 0] 30) = W1 := ⟨_, rfl⟩
  have k1 : Keeps w W1 [] := by rw [← hW1]; exact ((Keeps.refl w []).alloc _).alloc _
  have HB1 : Hid (Blk W1 w.heap.size 30 #[.slice none 0 0, .slice none 0 0, .slice none 0 0, .slice none 0 0]) := by show Blk _ _ _ _; rw [← hW1]; exact (Blk.new w _ _).alloc _
  have HB2 : Hid (Blk W1 (w.heap.size + 1) 30 #[.slice none 0 0, .slice none 0 0, .slice none 0 0, .slice none 0 0]) := by show Blk _ _ _ _; rw [← hW1]; exact Blk.newAt _ _ (by simp)
  have HH := Lib.hid (rhead_any W1 g B s (h.keep0 k1))
  have HK1 := Lib.hid k1
  have hsz1 := k1.size
  have HO : Hid (objR s = ((partsR (headR s)).1, checkR (partsR (headR s)).1 (partsR (headR s)).2)) := rfl
  clear h k1
  generalize headR s = hd at *
  obtain ⟨na, nf, np, nc, s0⟩ := hd
  obtain ⟨hna, hnf, hnp, hnc⟩ := hbd
  simp only at hna hnf hnp hnc HH
  go_enter Try.func44, Try.ntmps44
  go_wp2_with fail
  refine HH.out.mono ?_
  rintro e w2 ⟨rfl, h2, k2⟩
  have hs2 := k2.size
  have hst : RoSt w (w2.alloc (.cells #[.int .i64 na, .int .i64 nf, .int .i64 np, .int .i64 nc] 108)) g B w2.heap.size na nf np nc s0 none none none none 0 0 0 0 0 0 0 0 [] [] [] [] :=
    ⟨h2.keep0 ((Keeps.refl w2 []).alloc _), by omega, (HB1.out.keep k2 (by simp; omega)).alloc _, (HB2.out.keep k2 (by simp; omega)).alloc _, Blk.new w2 _ _, World.ownsRow_nil _ _ _ _, World.ownsRow_nil _ _ _ _, World.ownsRow_nil _ _ _ _, World.ownsRow_nil _ _ _ _, ((HK1.out.to_ [g]).trans k2).alloc _, by omega⟩
  have HST := Lib.hid hst
  clear h2 hst
  go_upto_block 0 with fail
  generalize w2.heap.size = hb at *
  go_cut [] (fun wx => ∃ m1 A1 c1 l1 s1, m1 ≤ na ∧ l1.length = m1 ∧ manyR nameR na s0 = (l1, s1) ∧ RoSt w wx g B hb na nf np nc s1 A1 none none none m1 0 0 0 c1 0 0 0 l1 [] [] [])
  case first =>
    go_wp2_with fail
    go_loopw [5] (fun i wr => ∃ k : Nat, i = .int .i64 k ∧ ∃ A c l s, ManyAt nameR na s0 k l s ∧ RoSt w wr g B hb na nf np nc s A none none none k 0 0 0 c 0 0 0 l [] [] []) (fun i _ => na - (intOf i).toNat)
    case atStart => exact ⟨0, rfl, none, 0, [], s0, ManyAt.start _ _ _, HST.out⟩
    case round =>
      clear HST
      obtain ⟨k, rfl, A1, c1, l1, s1, hm, hst⟩ := hrel
      have HM := Lib.hid hm
      have HS := Lib.hid hst
      have hk := hm.le
      have z := hst.hd.cell 0
      have ze := hst.rdr.err
      clear hm hst
      by_cases hkn : k < na
      · have d0 : decide ((k : Int) < (na : Int)) = true := by simp only [decide_eq_true_eq]; omega
        by_cases he : s1.err = 0
        · have HStep := Lib.hid (HM.out.step hkn he)
          rw [he] at ze
          clear he
          have HD := Lib.hid (HS.out.go ((Keeps.refl wr []).drew))
          obtain ⟨f0, f1⟩ := HS.out.see1 (Keeps.refl wr _)
          go_wp2_with fail
          refine wp_region_tx (fun W' => W'.frozen? ⟨w.heap.size + 1, 0, none⟩ = false ∧ W'.cell? ⟨w.heap.size + 1, 0, none⟩ = some (.slice A1 k c1)) [(0, true), (1, true), (2, true), (3, true), (4, false), (5, false), (6, false), (7, true), (8, true), (9, false)] (by kernel_rfl) (by kernel_rfl) (by exact ⟨f0, f1⟩) (fun hHeld => ?_)
          (repeat (first | (refine wpTx_take (v := ?_) rfl (by assumption) ?_ (by rfl) ?_; rotate_left; (focus (intro w' hSw; (try dsimp only at hSw); go_simp; (try with_reducible rfl); done)); simp only [Act.put, List.setIfInBounds_toArray, List.set_cons_zero, List.set_cons_succ]) | (refine wpTx_skip rfl (by assumption) (by rfl) ?_; simp only [Act.put, List.setIfInBounds_toArray, List.set_cons_zero, List.set_cons_succ])))
          refine wpTx_go rfl (fun K hK => ?_)
          go_simp
          refine (rname_any _ g B s1 HD.out.rdr).mono ?_
          rintro e w3 ⟨rfl, h3, k3⟩
          have HF := Lib.hid (HD.out.read h3 k3)
          clear h3 k3
          refine hK.out _ _ ?_ ?_
          · exact HF.out.see1 (Keeps.refl _ _)
          (clear hHeld; intro hHeld; clear hK K; (try simp only [Act.put, List.setIfInBounds_toArray, List.set_cons_zero, List.set_cons_succ]))
          refine wpTx_go rfl (fun K hK => ?_)
          go_simp
          refine hK.out _ _ ?_ ?_
          · exact HF.out.see1 (((Keeps.refl w3 []).alloc _).to_ _)
          (clear hHeld; intro hHeld; clear hK K; (try simp only [Act.put, List.setIfInBounds_toArray, List.set_cons_zero, List.set_cons_succ]))
          refine wpTx_go rfl (fun K hK => ?_)
          refine step_app _ el_string (by rfl) _ _ (by rfl) w.heap.size A1 k c1 (l1.flatMap strE) (by rfl) (own_keep0 HF.out.r1 ((Keeps.refl w3 []).alloc _)) (some ⟨w3.heap.size, 0, none⟩) 1 1 (strE (nameR s1).1) (by rfl) (Rd.one w3 _ (strE (nameR s1).1)) rfl (by simp) (by simp [strE, Value.oneCell']) (by omega) (by simp; have := HF.out.keep.size; omega) ?_
          intro A' c' w9 hown hgrow hat
          refine hK.out _ _ ?_ ?_
          · exact HF.out.see1 (((Keeps.refl w3 []).alloc _).rest (Keeps.ofGrown hgrow))
          (clear hHeld; intro hHeld; clear hK K; (try simp only [Act.put, List.setIfInBounds_toArray, List.set_cons_zero, List.set_cons_succ]))
          (repeat (first | (refine wpTx_take (v := ?_) rfl (by assumption) ?_ (by rfl) ?_; rotate_left; (focus (intro w' hSw; (try dsimp only at hSw); go_simp; (try with_reducible rfl); done)); simp only [Act.put, List.setIfInBounds_toArray, List.set_cons_zero, List.set_cons_succ]) | (refine wpTx_skip rfl (by assumption) (by rfl) ?_; simp only [Act.put, List.setIfInBounds_toArray, List.set_cons_zero, List.set_cons_succ])))
          refine wpTx_last rfl (fun K hK => ?_)
          go_simp
          refine hK.out _ _ (NoPanic.normal ?_); clear hK K; (try simp only [Act.put, List.setIfInBounds_toArray, List.set_cons_zero, List.set_cons_succ])
          go_wp2_with fail
          go_roundw
          case rel => exact ⟨k + 1, by go_num, A', c', _, _, HStep.out, HF.out.step1 ((Keeps.refl w3 []).alloc _) (x := (nameR s1).1) hown hgrow⟩
          case measure => simp [intOf]; omega
        · have d1 : (s1.err == 0) = false := by simpa using he
          have HP := Lib.hid (HM.out.stop (.inr he))
          clear he
          go_wp2_with fail
          go_meet
          exact ⟨k, A1, c1, l1, s1, hk, HM.out.len, HP.out, HS.out⟩
      · have d0 : decide ((k : Int) < (na : Int)) = false := by simp only [decide_eq_false_iff_not]; omega
        have HP := Lib.hid (HM.out.stop (.inl (by omega)))
        go_wp2_with fail
        go_meet
        exact ⟨k, A1, c1, l1, s1, hk, HM.out.len, HP.out, HS.out⟩
  case rest =>
  obtain ⟨m1, A1, c1, l1, s1, hm1, hl1, hp1, hst⟩ := hcut
  have HL1 := Lib.hid hl1
  have HP1 := Lib.hid hp1
  clear HST
  have HST := Lib.hid hst
  clear hl1 hp1 hst
  go_upto_block 2 with fail
  go_cut [] (fun wx => ∃ m2 A2 c2 l2 s2, m2 ≤ nf ∧ l2.length = m2 ∧ manyR funR nf s1 = (l2, s2) ∧ RoSt w wx g B hb na nf np nc s2 A1 A2 none none m1 m2 0 0 c1 c2 0 0 l1 l2 [] [])
  case first =>
    go_wp2_with fail
    go_loopw [6] (fun i wr => ∃ k : Nat, i = .int .i64 k ∧ ∃ A c l s, ManyAt funR nf s1 k l s ∧ RoSt w wr g B hb na nf np nc s A1 A none none m1 k 0 0 c1 c 0 0 l1 l [] []) (fun i _ => nf - (intOf i).toNat)
    case atStart => exact ⟨0, rfl, none, 0, [], s1, ManyAt.start _ _ _, HST.out⟩
    case round =>
      clear HST
      obtain ⟨k, rfl, A2, c2, l2, s2, hm, hst⟩ := hrel
      have HM := Lib.hid hm
      have HS := Lib.hid hst
      have hk := hm.le
      have z := hst.hd.cell 1
      have ze := hst.rdr.err
      clear hm hst
      by_cases hkn : k < nf
      · have d0 : decide ((k : Int) < (nf : Int)) = true := by simp only [decide_eq_true_eq]; omega
        by_cases he : s2.err = 0
        · have HStep := Lib.hid (HM.out.step hkn he)
          rw [he] at ze
          clear he
          have HD := Lib.hid (HS.out.go ((Keeps.refl wr []).drew))
          obtain ⟨f0, f1⟩ := HS.out.see2 (Keeps.refl wr _)
          go_wp2_with fail
          refine wp_region_tx (fun W' => W'.frozen? ⟨w.heap.size + 1, 1, none⟩ = false ∧ W'.cell? ⟨w.heap.size + 1, 1, none⟩ = some (.slice A2 k c2)) [(0, true), (1, true), (2, true), (3, true), (5, true), (4, false), (6, false), (7, true), (8, false), (9, false), (10, true), (11, true), (12, false)] (by kernel_rfl) (by kernel_rfl) (by exact ⟨f0, f1⟩) (fun hHeld => ?_)
          (repeat (first | (refine wpTx_take (v := ?_) rfl (by assumption) ?_ (by rfl) ?_; rotate_left; (focus (intro w' hSw; (try dsimp only at hSw); go_simp; (try with_reducible rfl); done)); simp only [Act.put, List.setIfInBounds_toArray, List.set_cons_zero, List.set_cons_succ]) | (refine wpTx_skip rfl (by assumption) (by rfl) ?_; simp only [Act.put, List.setIfInBounds_toArray, List.set_cons_zero, List.set_cons_succ])))
          refine wpTx_go rfl (fun K hK => ?_)
          go_simp
          refine (rname_any _ g B s2 HD.out.rdr).mono ?_
          rintro e w3 ⟨rfl, h3, k3⟩
          have HE1 := Lib.hid (HD.out.read h3 k3)
          clear h3 k3
          refine hK.out _ _ ?_ ?_
          · exact HE1.out.see2 (Keeps.refl _ _)
          (clear hHeld; intro hHeld; clear hK K; (try simp only [Act.put, List.setIfInBounds_toArray, List.set_cons_zero, List.set_cons_succ]))
          refine wpTx_go rfl (fun K hK => ?_)
          go_simp
          refine (rnum_any 1 (by omega) _ g B _ HE1.out.rdr).mono ?_
          rintro e w4 ⟨rfl, h3, k3⟩
          have HF := Lib.hid (HE1.out.read h3 k3)
          clear h3 k3
          refine hK.out _ _ ?_ ?_
          · exact HF.out.see2 (Keeps.refl _ _)
          (clear hHeld; intro hHeld; clear hK K; (try simp only [Act.put, List.setIfInBounds_toArray, List.set_cons_zero, List.set_cons_succ]))
          (repeat (first | (refine wpTx_take (v := ?_) rfl (by assumption) ?_ (by rfl) ?_; rotate_left; (focus (intro w' hSw; (try dsimp only at hSw); go_simp; (try with_reducible rfl); done)); simp only [Act.put, List.setIfInBounds_toArray, List.set_cons_zero, List.set_cons_succ]) | (refine wpTx_skip rfl (by assumption) (by rfl) ?_; simp only [Act.put, List.setIfInBounds_toArray, List.set_cons_zero, List.set_cons_succ])))
          refine wpTx_go rfl (fun K hK => ?_)
          go_simp
          refine hK.out _ _ ?_ ?_
          · exact HF.out.see2 (((Keeps.refl w4 []).alloc _).to_ _)
          (clear hHeld; intro hHeld; clear hK K; (try simp only [Act.put, List.setIfInBounds_toArray, List.set_cons_zero, List.set_cons_succ]))
          refine wpTx_go rfl (fun K hK => ?_)
          refine step_app _ el_pfun (by rfl) _ _ (by rfl) w.heap.size A2 k c2 (l2.flatMap funE) (by rfl) (own_keep0 HF.out.r2 ((Keeps.refl w4 []).alloc _)) (some ⟨w4.heap.size, 0, none⟩) 1 1 (funE (funR s2).1) (by rfl) (Rd.one w4 _ (funE (funR s2).1)) rfl (by simp) (by simp [funE, Value.oneCell']) (by omega) (by simp; have := HF.out.keep.size; omega) ?_
          intro A' c' w9 hown hgrow hat
          refine hK.out _ _ ?_ ?_
          · exact HF.out.see2 (((Keeps.refl w4 []).alloc _).rest (Keeps.ofGrown hgrow))
          (clear hHeld; intro hHeld; clear hK K; (try simp only [Act.put, List.setIfInBounds_toArray, List.set_cons_zero, List.set_cons_succ]))
          (repeat (first | (refine wpTx_take (v := ?_) rfl (by assumption) ?_ (by rfl) ?_; rotate_left; (focus (intro w' hSw; (try dsimp only at hSw); go_simp; (try with_reducible rfl); done)); simp only [Act.put, List.setIfInBounds_toArray, List.set_cons_zero, List.set_cons_succ]) | (refine wpTx_skip rfl (by assumption) (by rfl) ?_; simp only [Act.put, List.setIfInBounds_toArray, List.set_cons_zero, List.set_cons_succ])))
          refine wpTx_last rfl (fun K hK => ?_)
          go_simp
          refine hK.out _ _ (NoPanic.normal ?_); clear hK K; (try simp only [Act.put, List.setIfInBounds_toArray, List.set_cons_zero, List.set_cons_succ])
          go_wp2_with fail
          go_roundw
          case rel => exact ⟨k + 1, by go_num, A', c', _, _, HStep.out, HF.out.step2 ((Keeps.refl w4 []).alloc _) (x := (funR s2).1) hown hgrow⟩
          case measure => simp [intOf]; omega
        · have d1 : (s2.err == 0) = false := by simpa using he
          have HP := Lib.hid (HM.out.stop (.inr he))
          clear he
          go_wp2_with fail
          go_meet
          exact ⟨k, A2, c2, l2, s2, hk, HM.out.len, HP.out, HS.out⟩
      · have d0 : decide ((k : Int) < (nf : Int)) = false := by simp only [decide_eq_false_iff_not]; omega
        have HP := Lib.hid (HM.out.stop (.inl (by omega)))
        go_wp2_with fail
        go_meet
        exact ⟨k, A2, c2, l2, s2, hk, HM.out.len, HP.out, HS.out⟩
  case rest =>
  obtain ⟨m2, A2, c2, l2, s2, hm2, hl2, hp2, hst⟩ := hcut
  have HL2 := Lib.hid hl2
  have HP2 := Lib.hid hp2
  clear HST
  have HST := Lib.hid hst
  clear hl2 hp2 hst
  go_upto_block 4 with fail
  go_cut [] (fun wx => ∃ m3 A3 c3 l3 s3, m3 ≤ np ∧ l3.length = m3 ∧ manyR predR np s2 = (l3, s3) ∧ RoSt w wx g B hb na nf np nc s3 A1 A2 A3 none m1 m2 m3 0 c1 c2 c3 0 l1 l2 l3 [])
  case first =>
    go_wp2_with fail
    go_loopw [7] (fun i wr => ∃ k : Nat, i = .int .i64 k ∧ ∃ A c l s, ManyAt predR np s2 k l s ∧ RoSt w wr g B hb na nf np nc s A1 A2 A none m1 m2 k 0 c1 c2 c 0 l1 l2 l []) (fun i _ => np - (intOf i).toNat)
    case atStart => exact ⟨0, rfl, none, 0, [], s2, ManyAt.start _ _ _, HST.out⟩
    case round =>
      clear HST
      obtain ⟨k, rfl, A3, c3, l3, s3, hm, hst⟩ := hrel
      have HM := Lib.hid hm
      have HS := Lib.hid hst
      have hk := hm.le
      have z := hst.hd.cell 2
      have ze := hst.rdr.err
      clear hm hst
      by_cases hkn : k < np
      · have d0 : decide ((k : Int) < (np : Int)) = true := by simp only [decide_eq_true_eq]; omega
        by_cases he : s3.err = 0
        · have HStep := Lib.hid (HM.out.step hkn he)
          rw [he] at ze
          clear he
          have HD := Lib.hid (HS.out.go ((Keeps.refl wr []).drew))
          obtain ⟨f0, f1⟩ := HS.out.see3 (Keeps.refl wr _)
          go_wp2_with fail
          refine wp_region_tx (fun W' => W'.frozen? ⟨w.heap.size + 1, 2, none⟩ = false ∧ W'.cell? ⟨w.heap.size + 1, 2, none⟩ = some (.slice A3 k c3)) [(0, true), (1, true), (2, true), (4, true), (6, true), (3, false), (5, false), (7, false), (8, true), (9, false), (10, false), (11, true), (12, false)] (by kernel_rfl) (by kernel_rfl) (by exact ⟨f0, f1⟩) (fun hHeld => ?_)
          (repeat (first | (refine wpTx_take (v := ?_) rfl (by assumption) ?_ (by rfl) ?_; rotate_left; (focus (intro w' hSw; (try dsimp only at hSw); go_simp; (try with_reducible rfl); done)); simp only [Act.put, List.setIfInBounds_toArray, List.set_cons_zero, List.set_cons_succ]) | (refine wpTx_skip rfl (by assumption) (by rfl) ?_; simp only [Act.put, List.setIfInBounds_toArray, List.set_cons_zero, List.set_cons_succ])))
          refine wpTx_go rfl (fun K hK => ?_)
          go_simp
          refine (rname_any _ g B s3 HD.out.rdr).mono ?_
          rintro e w3 ⟨rfl, h3, k3⟩
          have HE1 := Lib.hid (HD.out.read h3 k3)
          clear h3 k3
          refine hK.out _ _ ?_ ?_
          · exact HE1.out.see3 (Keeps.refl _ _)
          (clear hHeld; intro hHeld; clear hK K; (try simp only [Act.put, List.setIfInBounds_toArray, List.set_cons_zero, List.set_cons_succ]))
          refine wpTx_go rfl (fun K hK => ?_)
          go_simp
          refine (rnum_any 1 (by omega) _ g B _ HE1.out.rdr).mono ?_
          rintro e w4 ⟨rfl, h3, k3⟩
          have HE2 := Lib.hid (HE1.out.read h3 k3)
          clear h3 k3
          refine hK.out _ _ ?_ ?_
          · exact HE2.out.see3 (Keeps.refl _ _)
          (clear hHeld; intro hHeld; clear hK K; (try simp only [Act.put, List.setIfInBounds_toArray, List.set_cons_zero, List.set_cons_succ]))
          refine wpTx_go rfl (fun K hK => ?_)
          go_simp
          refine (rnum_any 2 (by omega) _ g B _ HE2.out.rdr).mono ?_
          rintro e w5 ⟨rfl, h3, k3⟩
          have HF := Lib.hid (HE2.out.read h3 k3)
          clear h3 k3
          refine hK.out _ _ ?_ ?_
          · exact HF.out.see3 (Keeps.refl _ _)
          (clear hHeld; intro hHeld; clear hK K; (try simp only [Act.put, List.setIfInBounds_toArray, List.set_cons_zero, List.set_cons_succ]))
          (repeat (first | (refine wpTx_take (v := ?_) rfl (by assumption) ?_ (by rfl) ?_; rotate_left; (focus (intro w' hSw; (try dsimp only at hSw); go_simp; (try with_reducible rfl); done)); simp only [Act.put, List.setIfInBounds_toArray, List.set_cons_zero, List.set_cons_succ]) | (refine wpTx_skip rfl (by assumption) (by rfl) ?_; simp only [Act.put, List.setIfInBounds_toArray, List.set_cons_zero, List.set_cons_succ])))
          refine wpTx_go rfl (fun K hK => ?_)
          go_simp
          refine hK.out _ _ ?_ ?_
          · exact HF.out.see3 (((Keeps.refl w5 []).alloc _).to_ _)
          (clear hHeld; intro hHeld; clear hK K; (try simp only [Act.put, List.setIfInBounds_toArray, List.set_cons_zero, List.set_cons_succ]))
          refine wpTx_go rfl (fun K hK => ?_)
          refine step_app _ el_ppred (by rfl) _ _ (by rfl) w.heap.size A3 k c3 (l3.flatMap predE) (by rfl) (own_keep0 HF.out.r3 ((Keeps.refl w5 []).alloc _)) (some ⟨w5.heap.size, 0, none⟩) 1 1 (predE (predR s3).1) (by rfl) (Rd.one w5 _ (predE (predR s3).1)) rfl (by simp) (by simp [predE, Value.oneCell']) (by omega) (by simp; have := HF.out.keep.size; omega) ?_
          intro A' c' w9 hown hgrow hat
          refine hK.out _ _ ?_ ?_
          · exact HF.out.see3 (((Keeps.refl w5 []).alloc _).rest (Keeps.ofGrown hgrow))
          (clear hHeld; intro hHeld; clear hK K; (try simp only [Act.put, List.setIfInBounds_toArray, List.set_cons_zero, List.set_cons_succ]))
          (repeat (first | (refine wpTx_take (v := ?_) rfl (by assumption) ?_ (by rfl) ?_; rotate_left; (focus (intro w' hSw; (try dsimp only at hSw); go_simp; (try with_reducible rfl); done)); simp only [Act.put, List.setIfInBounds_toArray, List.set_cons_zero, List.set_cons_succ]) | (refine wpTx_skip rfl (by assumption) (by rfl) ?_; simp only [Act.put, List.setIfInBounds_toArray, List.set_cons_zero, List.set_cons_succ])))
          refine wpTx_last rfl (fun K hK => ?_)
          go_simp
          refine hK.out _ _ (NoPanic.normal ?_); clear hK K; (try simp only [Act.put, List.setIfInBounds_toArray, List.set_cons_zero, List.set_cons_succ])
          go_wp2_with fail
          go_roundw
          case rel => exact ⟨k + 1, by go_num, A', c', _, _, HStep.out, HF.out.step3 ((Keeps.refl w5 []).alloc _) (x := (predR s3).1) hown hgrow⟩
          case measure => simp [intOf]; omega
        · have d1 : (s3.err == 0) = false := by simpa using he
          have HP := Lib.hid (HM.out.stop (.inr he))
          clear he
          go_wp2_with fail
          go_meet
          exact ⟨k, A3, c3, l3, s3, hk, HM.out.len, HP.out, HS.out⟩
      · have d0 : decide ((k : Int) < (np : Int)) = false := by simp only [decide_eq_false_iff_not]; omega
        have HP := Lib.hid (HM.out.stop (.inl (by omega)))
        go_wp2_with fail
        go_meet
        exact ⟨k, A3, c3, l3, s3, hk, HM.out.len, HP.out, HS.out⟩
  case rest =>
  obtain ⟨m3, A3, c3, l3, s3, hm3, hl3, hp3, hst⟩ := hcut
  have HL3 := Lib.hid hl3
  have HP3 := Lib.hid hp3
  clear HST
  have HST := Lib.hid hst
  clear hl3 hp3 hst
  go_upto_block 6 with fail
  go_cut [] (fun wx => ∃ m4 A4 c4 l4 s4, m4 ≤ nc ∧ l4.length = m4 ∧ manyR insR nc s3 = (l4, s4) ∧ RoSt w wx g B hb na nf np nc s4 A1 A2 A3 A4 m1 m2 m3 m4 c1 c2 c3 c4 l1 l2 l3 l4)
  case first =>
    go_wp2_with fail
    go_loopw [8] (fun i wr => ∃ k : Nat, i = .int .i64 k ∧ ∃ A c l s, ManyAt insR nc s3 k l s ∧ RoSt w wr g B hb na nf np nc s A1 A2 A3 A m1 m2 m3 k c1 c2 c3 c l1 l2 l3 l) (fun i _ => nc - (intOf i).toNat)
    case atStart => exact ⟨0, rfl, none, 0, [], s3, ManyAt.start _ _ _, HST.out⟩
    case round =>
      clear HST
      obtain ⟨k, rfl, A4, c4, l4, s4, hm, hst⟩ := hrel
      have HM := Lib.hid hm
      have HS := Lib.hid hst
      have hk := hm.le
      have z := hst.hd.cell 3
      have ze := hst.rdr.err
      clear hm hst
      by_cases hkn : k < nc
      · have d0 : decide ((k : Int) < (nc : Int)) = true := by simp only [decide_eq_true_eq]; omega
        by_cases he : s4.err = 0
        · have HStep := Lib.hid (HM.out.step hkn he)
          rw [he] at ze
          clear he
          have HD := Lib.hid (HS.out.go ((Keeps.refl wr []).drew))
          obtain ⟨f0, f1⟩ := HS.out.see4 (Keeps.refl wr _)
          go_wp2_with fail
          refine wp_region_tx (fun W' => W'.frozen? ⟨w.heap.size + 1, 3, none⟩ = false ∧ W'.cell? ⟨w.heap.size + 1, 3, none⟩ = some (.slice A4 k c4)) [(0, true), (1, true), (2, true), (3, false), (4, false), (5, false), (6, true), (7, false)] (by kernel_rfl) (by kernel_rfl) (by exact ⟨f0, f1⟩) (fun hHeld => ?_)
          (repeat (first | (refine wpTx_take (v := ?_) rfl (by assumption) ?_ (by rfl) ?_; rotate_left; (focus (intro w' hSw; (try dsimp only at hSw); go_simp; (try with_reducible rfl); done)); simp only [Act.put, List.setIfInBounds_toArray, List.set_cons_zero, List.set_cons_succ]) | (refine wpTx_skip rfl (by assumption) (by rfl) ?_; simp only [Act.put, List.setIfInBounds_toArray, List.set_cons_zero, List.set_cons_succ])))
          refine wpTx_go rfl (fun K hK => ?_)
          go_simp
          refine (rins_any _ g B s4 HD.out.rdr).mono ?_
          rintro e w3 ⟨rfl, h3, k3⟩
          have HF := Lib.hid (HD.out.read h3 k3)
          clear h3 k3
          refine hK.out _ _ ?_ ?_
          · exact HF.out.see4 (Keeps.refl _ _)
          (clear hHeld; intro hHeld; clear hK K; (try simp only [Act.put, List.setIfInBounds_toArray, List.set_cons_zero, List.set_cons_succ]))
          refine wpTx_go rfl (fun K hK => ?_)
          go_simp
          refine hK.out _ _ ?_ ?_
          · exact HF.out.see4 (((Keeps.refl w3 []).alloc _).to_ _)
          (clear hHeld; intro hHeld; clear hK K; (try simp only [Act.put, List.setIfInBounds_toArray, List.set_cons_zero, List.set_cons_succ]))
          refine wpTx_go rfl (fun K hK => ?_)
          refine step_app _ el_pins (by rfl) _ _ (by rfl) w.heap.size A4 k c4 (l4.flatMap insE) (by rfl) (own_keep0 HF.out.r4 ((Keeps.refl w3 []).alloc _)) (some ⟨w3.heap.size, 0, none⟩) 1 1 (insE (insR s4).1) (by rfl) (Rd.one w3 _ (insE (insR s4).1)) rfl (by simp) (by simp [insE, Value.oneCell']) (by omega) (by simp; have := HF.out.keep.size; omega) ?_
          intro A' c' w9 hown hgrow hat
          refine hK.out _ _ ?_ ?_
          · exact HF.out.see4 (((Keeps.refl w3 []).alloc _).rest (Keeps.ofGrown hgrow))
          (clear hHeld; intro hHeld; clear hK K; (try simp only [Act.put, List.setIfInBounds_toArray, List.set_cons_zero, List.set_cons_succ]))
          (repeat (first | (refine wpTx_take (v := ?_) rfl (by assumption) ?_ (by rfl) ?_; rotate_left; (focus (intro w' hSw; (try dsimp only at hSw); go_simp; (try with_reducible rfl); done)); simp only [Act.put, List.setIfInBounds_toArray, List.set_cons_zero, List.set_cons_succ]) | (refine wpTx_skip rfl (by assumption) (by rfl) ?_; simp only [Act.put, List.setIfInBounds_toArray, List.set_cons_zero, List.set_cons_succ])))
          refine wpTx_last rfl (fun K hK => ?_)
          go_simp
          refine hK.out _ _ (NoPanic.normal ?_); clear hK K; (try simp only [Act.put, List.setIfInBounds_toArray, List.set_cons_zero, List.set_cons_succ])
          go_wp2_with fail
          go_roundw
          case rel => exact ⟨k + 1, by go_num, A', c', _, _, HStep.out, HF.out.step4 ((Keeps.refl w3 []).alloc _) (x := (insR s4).1) hown hgrow⟩
          case measure => simp [intOf]; omega
        · have d1 : (s4.err == 0) = false := by simpa using he
          have HP := Lib.hid (HM.out.stop (.inr he))
          clear he
          go_wp2_with fail
          go_meet
          exact ⟨k, A4, c4, l4, s4, hk, HM.out.len, HP.out, HS.out⟩
      · have d0 : decide ((k : Int) < (nc : Int)) = false := by simp only [decide_eq_false_iff_not]; omega
        have HP := Lib.hid (HM.out.stop (.inl (by omega)))
        go_wp2_with fail
        go_meet
        exact ⟨k, A4, c4, l4, s4, hk, HM.out.len, HP.out, HS.out⟩
  case rest =>
  obtain ⟨m4, A4, c4, l4, s4, hm4, hl4, hp4, hst⟩ := hcut
  have HL4 := Lib.hid hl4
  have HP4 := Lib.hid hp4
  clear HST
  have HST := Lib.hid hst
  clear hl4 hp4 hst
  have HPt : Hid (partsR ⟨na, nf, np, nc, s0⟩ = (⟨l1, l2, l3, l4⟩, s4)) := by
    show _ = _
    simp only [partsR]
    rw [HP1.out]
    simp only
    rw [HP2.out]
    simp only
    rw [HP3.out]
    simp only
    rw [HP4.out]
  have HO2 := HO.out
  rw [HPt.out] at HO2
  have HO3 := Lib.hid HO2
  clear HO2 HO HPt HP1 HP2 HP3 HP4
  have ze := HST.out.rdr.err
  by_cases he : s4.err = 0
  · have d0 : (s4.err == 0) = true := by simpa using he
    have HQ0 : Hid (objR s = (⟨l1, l2, l3, l4⟩, ⟨s4.rest, checkE ⟨l1, l2, l3, l4⟩⟩)) := by show _ = _; rw [HO3.out]; simp only [checkR]; rw [if_pos he]
    have HFit : Fits ⟨l1, l2, l3, l4⟩ := ⟨by show l1.length ≤ _; have := HL1.out; omega, by show l2.length ≤ _; have := HL2.out; omega, by show l3.length ≤ _; have := HL3.out; omega, by show l4.length ≤ _; have := HL4.out; omega⟩
    have hch := check_any ⟨l1, l2, l3, l4⟩ A1 A2 A3 A4 m1 m2 m3 m4 c1 c2 c3 c4 _ ⟨Rd.of_own HST.out.r1, Rd.of_own HST.out.r2, Rd.of_own HST.out.r3, Rd.of_own HST.out.r4, own_none0 HST.out.r1, own_none0 HST.out.r2, own_none0 HST.out.r3, own_none0 HST.out.r4⟩ HFit HL1.out HL2.out HL3.out HL4.out
    obtain ⟨z, hz⟩ : ∃ z, checkE ⟨l1, l2, l3, l4⟩ = z := ⟨_, rfl⟩
    rw [hz] at hch HQ0
    have HC := Lib.hid hch
    have HQ := HQ0
    have u0 := HST.out.out.cell 0
    have u1' := HST.out.out.cell 1
    have u2' := HST.out.out.cell 2
    have u3' := HST.out.out.cell 3
    clear he hch hz HO3 HQ0 HFit
    go_wp2_with (go_at_call 21; refine HC.out.mono ?_; rintro e w5 ⟨rfl, k5⟩; have HS5 := Lib.hid (HST.out.go k5); have q5 := HS5.out.rdr.err; have f5 := HS5.out.rdr.frz; have HF := Lib.hid (HS5.out.set z); clear k5 u0 u1' u2' u3' ze; have y0 := HF.out.out.cell 0; have y1 := HF.out.out.cell 1; have y2 := HF.out.out.cell 2; have y3 := HF.out.out.cell 3; have x0 := HF.out.res.frozen 0; have x1 := HF.out.res.frozen 1; have x2 := HF.out.res.frozen 2; have x3 := HF.out.res.frozen 3; have v0 := HF.out.res.cell 0; have v1 := HF.out.res.cell 1; have v2 := HF.out.res.cell 2; have v3 := HF.out.res.cell 3)
    clear y0 y1 y2 y3 x0 x1 x2 x3 v0 v1 v2 v3
    obtain ⟨hB, hk1⟩ := arr4_set (v0 := .slice A1 m1 c1) (v1 := .slice A2 m2 c2) (v2 := .slice A3 m3 c3) (v3 := .slice A4 m4 c4) HF.out.res
    generalize World.setCell _ ⟨w.heap.size, 3, none⟩ _ = W at *
    have y0 := hB.cell 0
    have y1 := hB.cell 1
    have y2 := hB.cell 2
    have y3 := hB.cell 3
    refine bodyPost_ret (v := .agg #[.slice A1 m1 c1, .slice A2 m2 c2, .slice A3 m3 c3, .slice A4 m4 c4]) (by simp [results, Try.results44, go_sem, y0, y1, y2, y3]) rfl ?_
    rw [HQ.out]
    exact readObj_mk HF.out HL1.out HL2.out HL3.out HL4.out hk1
  · have d0 : (s4.err == 0) = false := by simpa using he
    have HQ : Hid (objR s = (⟨l1, l2, l3, l4⟩, s4)) := by show _ = _; rw [HO3.out]; simp only [checkR]; rw [if_neg he]
    have HF := HST
    clear he HO3 HST
    have y0 := HF.out.out.cell 0
    have y1 := HF.out.out.cell 1
    have y2 := HF.out.out.cell 2
    have y3 := HF.out.out.cell 3
    have x0 := HF.out.res.frozen 0
    have x1 := HF.out.res.frozen 1
    have x2 := HF.out.res.frozen 2
    have x3 := HF.out.res.frozen 3
    have v0 := HF.out.res.cell 0
    have v1 := HF.out.res.cell 1
    have v2 := HF.out.res.cell 2
    have v3 := HF.out.res.cell 3
    go_wp2_with fail
    clear y0 y1 y2 y3 x0 x1 x2 x3 v0 v1 v2 v3
    obtain ⟨hB, hk1⟩ := arr4_set (v0 := .slice A1 m1 c1) (v1 := .slice A2 m2 c2) (v2 := .slice A3 m3 c3) (v3 := .slice A4 m4 c4) HF.out.res
    generalize World.setCell _ ⟨w.heap.size, 3, none⟩ _ = W at *
    have y0 := hB.cell 0
    have y1 := hB.cell 1
    have y2 := hB.cell 2
    have y3 := hB.cell 3
    refine bodyPost_ret (v := .agg #[.slice A1 m1 c1, .slice A2 m2 c2, .slice A3 m3 c3, .slice A4 m4 c4]) (by simp [results, Try.results44, go_sem, y0, y1, y2, y3]) rfl ?_
    rw [HQ.out]
    exact readObj_mk HF.out HL1.out HL2.out HL3.out HL4.out hk1
end Go.Proofs.Ytdcjiohbnnipdaa
