import Derived.Test.YtjbomjnkjcafcaaMgRTop
import Derived.Test.YtjbomjnkjcafcaaMgBind
import Derived.Test.YtjbomjnkjcafcaaMgTwo
import Derived.Test.YtjbomjnkjcafcaaTmTo
import Derived.Test.YtjbomjnkjcafcaaText2
import Derived.Test.YtjbomjnkjcafcaaTmSame
import Derived.Test.YtjbomjnkjcafcaaText4
import Derived.Test.YtjbomjnkjcafcaaMgSolved
/- What is put in: the document's Apply, at a term that is no variable. Printed by gen_mgrapply.py. -/
namespace Go.Proofs.Ytjbomjnkjcafcaa
open Go.RowKit

set_option maxRecDepth 100000 in
set_option maxHeartbeats 3200000 in
theorem refApplyN_any (gm : Int → Tm) (SA : Option Addr) (sm sc : Nat) (k n : Int) (s : ByteArray) (l : List Tm) (h0 : k ≠ 0) (v : TV) (w : World) (S : Nat → Prop) (hSl : ∀ b, S b → b < w.heap.size) (ht : Tr w S (.mk k n s l) v) (hw : tWid (.mk k n s l))
    (hC : ∀ a ∈ l, ∀ (v' : TV) w', Keeps w w' [] → Tr w' S a v' → Calls Try.prog 34 #[.slice SA sm sc, .agg #[.int .i64 v'.k, .int .i64 v'.n, .string v'.s, .slice v'.A v'.len v'.c]] w' (ApDone S w' (tS gm a))) : Calls Try.prog 34 #[.slice SA sm sc, tvV v] w (ApDone S w (tS gm (.mk k n s l))) := by
  cases ht with
  | mk _ _ _ _ A c vs hl hR hS hc hz hk =>
    rw [tWid] at hw
    rw [tS_node gm (t := .mk k n s l) h0]
    show Calls _ _ _ _ (ApDone S w (.mk k n s (l.map (tS gm))))
    have HT : Hid (Trs w S l vs) := ⟨hl, hk⟩
    have HR := Lib.hid hR
    have HCall := Lib.hid hC
    have HZ := Lib.hid hz.1
    have HSl := Lib.hid hSl
    obtain ⟨m, hm⟩ : ∃ m, l.length = m := ⟨_, rfl⟩
    have HM := Lib.hid hm
    have hmb : m ≤ 1000000 := by rw [← hm]; exact hw.1
    have e0 : (k == 0) = false := by simpa using h0
    clear hl hR hS hc hz hk hC hw hSl
    unfold tvV
    simp only [hm]
    clear hm
    have hbx : Blk (w.alloc (.cells #[.int .i64 k, .int .i64 n, .string s, .slice A m c] 24)) w.heap.size 24 #[.int .i64 k, .int .i64 n, .string s, .slice A m c] := Blk.new _ _ _
    have hrb : Blk ((w.alloc (.cells #[.int .i64 k, .int .i64 n, .string s, .slice A m c] 24)).alloc (.cells #[.int .i64 0, .int .i64 0, .string ⟨#[]⟩, .slice none 0 0] 24)) (w.heap.size + 1) 24 #[.int .i64 0, .int .i64 0, .string ⟨#[]⟩, .slice none 0 0] := Blk.newAt _ _ (by simp)
    have hK : Keeps w (((w.alloc (.cells #[.int .i64 k, .int .i64 n, .string s, .slice A m c] 24)).alloc (.cells #[.int .i64 0, .int .i64 0, .string ⟨#[]⟩, .slice none 0 0] 24)).alloc (.cells #[.int .i64 k, .int .i64 n, .string s, .slice none 0 0] 24)) [] := (((Keeps.refl w []).alloc _).alloc _).alloc _
    obtain ⟨g, hg⟩ : ∃ g, w.heap.size + 1 + 1 = g := ⟨_, rfl⟩
    have hst : TSt 24 (fun b => S b ∨ w.heap.size ≤ b) w (((w.alloc (.cells #[.int .i64 k, .int .i64 n, .string s, .slice A m c] 24)).alloc (.cells #[.int .i64 0, .int .i64 0, .string ⟨#[]⟩, .slice none 0 0] 24)).alloc (.cells #[.int .i64 k, .int .i64 n, .string s, .slice none 0 0] 24)) [] [(w.heap.size, 24, #[.int .i64 k, .int .i64 n, .string s, .slice A m c]), (w.heap.size + 1, 24, #[.int .i64 0, .int .i64 0, .string ⟨#[]⟩, .slice none 0 0])] g k n s [] [] none 0 0 :=
      TSt.start (by
        intro x hx
        simp only [List.mem_cons, List.not_mem_nil, or_false] at hx
        rcases hx with rfl | rfl
        · exact ⟨(hbx.alloc _).alloc _, by simp; omega⟩
        · exact ⟨hrb.alloc _, by simp; omega⟩) (Blk.newAt _ _ (by simp; omega)) hK (by omega) (fun b h => .inr h) HZ.out
    have HST := Lib.hid hst
    clear hbx hrb hK hst
    go_enter Try.func34, Try.ntmps34
    go_wp2_with fail
    go_loopw [8] (fun i wr => ∃ j : Nat, j ≤ m ∧ i = .int .i64 j ∧ ∃ A2 c2 us, TSt 24 (fun b => S b ∨ w.heap.size ≤ b) w wr [] [(w.heap.size, 24, #[.int .i64 k, .int .i64 n, .string s, .slice A m c]), (w.heap.size + 1, 24, #[.int .i64 0, .int .i64 0, .string ⟨#[]⟩, .slice none 0 0])] g k n s ((l.take j).map (tS gm)) us A2 j c2) (fun i _ => m - (intOf i).toNat)
    case atStart => exact ⟨0, Nat.zero_le _, rfl, none, 0, [], HST.out⟩
    case round =>
      obtain ⟨j, hj, rfl, A2, c2, us, st⟩ := hrel
      have HS := Lib.hid st
      have e1 := (st.fix _ (List.mem_cons_self ..)).1.cell 3
      clear st HST
      by_cases hlt : j < m
      · obtain ⟨a, hx⟩ := at_of HM.out hlt
        have HX := Lib.hid hx
        have ha := List.mem_of_getElem? hx
        obtain ⟨v', b, off, _, htr, rfl, hb, p0, p1, p2, p3⟩ := HT.out.get HR.out hx
        have HC : Hid (∀ w', Keeps w w' [] → Calls Try.prog 34 #[.slice SA sm sc, .agg #[.int .i64 v'.k, .int .i64 v'.n, .string v'.s, .slice v'.A v'.len v'.c]] w' (ApDone S w' (tS gm a))) := fun w' kk => HCall.out a ha v' w' kk (htr.keep kk)
        clear htr hx ha
        have HW : Hid (∀ W', Keeps wr W' (ownL (.slice A2 j c2)) → W'.frozen? ⟨g, 3, none⟩ = false ∧ W'.cell? ⟨g, 3, none⟩ = some (.slice A2 j c2) ∧ W'.cell? ⟨w.heap.size, 3, none⟩ = some (.slice (some ⟨b, off, none⟩) m c) ∧ W'.cell? ⟨b, off + j * 4, none⟩ = some (.int .i64 v'.k) ∧ W'.cell? ⟨b, off + j * 4 + 1, none⟩ = some (.int .i64 v'.n) ∧ W'.cell? ⟨b, off + j * 4 + 2, none⟩ = some (.string v'.s) ∧ W'.cell? ⟨b, off + j * 4 + 3, none⟩ = some (.slice v'.A v'.len v'.c)) := fun W' kk =>
          have kc : ∀ i x, w.cell? ⟨b, i, none⟩ = some x → W'.cell? ⟨b, i, none⟩ = some x := fun i x hx => ((kk.cell (p := ⟨b, i, none⟩) (Nat.lt_of_lt_of_le hb HS.out.keep.size) (own_out HS.out.row hb)).trans (HS.out.keep.cell0 hb)).trans hx
          ⟨(HS.out.out.keep kk HS.out.low.2.1).frozen 3, (HS.out.out.keep kk HS.out.low.2.1).cell 3, ((HS.out.fix _ (List.mem_cons_self ..)).1.keep kk (HS.out.fix _ (List.mem_cons_self ..)).2.1).cell 3, kc _ _ p0, kc _ _ p1, kc _ _ p2, kc _ _ p3⟩
        obtain ⟨q0, q1, q2, q3, q4, q5, q6⟩ := HW.out wr (Keeps.refl _ _)
        clear e1 p0 p1 p2 p3
        have b0 : (0 : Int) ≤ (j : Int) := Int.natCast_nonneg _
        have b1 : (j : Int) < (m : Int) := by omega
        go_wp2_with fail
        have HS1 := HS
        refine wp_region_tx (fun W' => W'.frozen? ⟨g, 3, none⟩ = false ∧ W'.cell? ⟨g, 3, none⟩ = some (.slice A2 j c2) ∧ W'.cell? ⟨w.heap.size, 3, none⟩ = some (.slice (some ⟨b, off, none⟩) m c) ∧ W'.cell? ⟨b, off + j * 4, none⟩ = some (.int .i64 v'.k) ∧ W'.cell? ⟨b, off + j * 4 + 1, none⟩ = some (.int .i64 v'.n) ∧ W'.cell? ⟨b, off + j * 4 + 2, none⟩ = some (.string v'.s) ∧ W'.cell? ⟨b, off + j * 4 + 3, none⟩ = some (.slice v'.A v'.len v'.c)) [(0, true), (1, true), (2, true), (3, true), (4, true), (5, true), (6, true), (7, true), (8, false), (9, false), (10, false), (11, true), (12, false)] (by kernel_rfl) (by kernel_rfl) (HW.out _ ((Keeps.refl _ _).drew)) (fun hHeld => ?_)
        (repeat (first | (refine wpTx_take (v := ?_) rfl (by assumption) ?_ (by rfl) ?_; rotate_left; (focus (intro w' hSw; (try dsimp only at hSw); go_simp; (try with_reducible rfl); done)); simp only [Act.put, List.setIfInBounds_toArray, List.set_cons_zero, List.set_cons_succ]) | (refine wpTx_skip rfl (by assumption) (by rfl) ?_; simp only [Act.put, List.setIfInBounds_toArray, List.set_cons_zero, List.set_cons_succ])))
        refine wpTx_go rfl (fun K hK => ?_)
        go_simp
        refine (HC.out _ (HS1.out.keep.drew)).mono ?_
        rintro e w3 ⟨u, rfl, hu, k3⟩
        have HU : Hid (Tr w3 (fun b => S b ∨ wr.heap.size ≤ b) ((tS gm) a) u) := hu
        unfold tvV
        clear hu
        refine hK.out _ _ ?_ ?_
        · exact HW.out _ (((Keeps.refl _ []).drew.trans k3).to_ _)
        (clear hHeld; intro hHeld; clear hK K; (try simp only [Act.put, List.setIfInBounds_toArray, List.set_cons_zero, List.set_cons_succ]))
        refine wpTx_go rfl (fun K hK => ?_)
        go_simp
        refine hK.out _ _ ?_ ?_
        · exact HW.out _ ((((Keeps.refl _ []).drew.trans k3).alloc _).to_ _)
        (clear hHeld; intro hHeld; clear hK K; (try simp only [Act.put, List.setIfInBounds_toArray, List.set_cons_zero, List.set_cons_succ]))
        refine wpTx_go rfl (fun K hK => ?_)
        refine step_app _ el_rterm (by rfl) _ _ (by rfl) w.heap.size A2 j c2 (us.flatMap tvE) (by rfl) (own_keep0 HS1.out.row (((Keeps.refl _ []).drew.trans k3).alloc _)) (some ⟨w3.heap.size, 0, none⟩) 1 1 (tvE u) (by rfl) (Rd.one w3 _ (tvE u)) rfl (by simp) (by simp [tvE, Value.oneCell']) (by omega) (by simp; have := HS1.out.keep.size; have := k3.size; simp at this; omega) ?_
        intro A' c' w2 hown hgrow hat
        refine hK.out _ _ ?_ ?_
        · exact HW.out _ (((Keeps.refl _ []).drew.trans k3).alloc _ |>.rest (Keeps.ofGrown hgrow))
        (clear hHeld; intro hHeld; clear hK K; (try simp only [Act.put, List.setIfInBounds_toArray, List.set_cons_zero, List.set_cons_succ]))
        (repeat (first | (refine wpTx_take (v := ?_) rfl (by assumption) ?_ (by rfl) ?_; rotate_left; (focus (intro w' hSw; (try dsimp only at hSw); go_simp; (try with_reducible rfl); done)); simp only [Act.put, List.setIfInBounds_toArray, List.set_cons_zero, List.set_cons_succ]) | (refine wpTx_skip rfl (by assumption) (by rfl) ?_; simp only [Act.put, List.setIfInBounds_toArray, List.set_cons_zero, List.set_cons_succ])))
        refine wpTx_last rfl (fun K hK => ?_)
        go_simp
        refine hK.out _ _ (NoPanic.normal ?_); clear hK K; (try simp only [Act.put, List.setIfInBounds_toArray, List.set_cons_zero, List.set_cons_succ])
        go_wp2_with fail
        go_roundw
        case rel =>
          have hs := HS1.out.step (((Keeps.refl _ []).drew.trans k3).alloc _) (HS1.out.part HSl.out (by simp) ((HU.out).keep ((Keeps.refl _ []).alloc _))) hown hgrow hat
          rw [show (l.take j).map (tS gm) ++ [(tS gm) a] = (l.take (j + 1)).map (tS gm) by rw [List.take_add_one, HX.out, List.map_append]; rfl] at hs
          exact ⟨j + 1, by omega, by go_num, A', c', _, hs⟩
        case measure => simp [intOf]; omega
      · obtain rfl : m = j := by omega
        have hd := HS.out.done (by omega)
        rw [show (l.take m).map (tS gm) = l.map (tS gm) by rw [← HM.out, List.take_length]] at hd
        have hr := (HS.out.fix (w.heap.size + 1, 24, #[.int .i64 0, .int .i64 0, .string ⟨#[]⟩, .slice none 0 0]) (by simp)).1
        have d0 := HS.out.out.cell 0
        have d1 := HS.out.out.cell 1
        have d2 := HS.out.out.cell 2
        have d3 := HS.out.out.cell 3
        have r0 := hr.cell 0
        have r1 := hr.cell 1
        have r2 := hr.cell 2
        have r3 := hr.cell 3
        have f0 := hr.frozen 0
        have f1 := hr.frozen 1
        have f2 := hr.frozen 2
        have f3 := hr.frozen 3
        have HD := Lib.hid ((hd.mono (S' := fun b => (S b ∨ w.heap.size ≤ b) ∧ b ≠ w.heap.size + 1) fun b hb => ⟨hb.1, hb.2.2 (w.heap.size + 1, 24, #[.int .i64 0, .int .i64 0, .string ⟨#[]⟩, .slice none 0 0]) (by simp)⟩).end4 (.int .i64 k) (.int .i64 n) (.string s) (.slice A2 m c2) HS.out.keep (by omega))
        clear hd hr hlt hj
        go_wp2_with fail
        exact bodyPost_ret (v := .agg #[.int .i64 k, .int .i64 n, .string s, .slice A2 m c2]) (by simp [results, Try.results34, go_sem, *]) rfl HD.out

set_option maxRecDepth 100000 in
set_option maxHeartbeats 3200000 in
theorem refApplyV_any {sb : Sbt} {gm : Int → Tm} {rk : Int → Nat} (hsi : SI sb gm rk) (SA : Option Addr) (sm sc : Nat) (hsm : sb.length = sm) (hsb : sm ≤ 9223372036854775807) (n : Int) (s : ByteArray) (l : List Tm) (hrt : tRight (.mk 0 n s l) = true) (v : TV) (w : World) (S : Nat → Prop) (hSl : ∀ b, S b → b < w.heap.size) (ht : Tr w S (.mk 0 n s l) v) (hSub : Sub w S sb SA)
    (hC : ∀ x, sOf sb n = some x → ∀ (v' : TV) w', Keeps w w' [] → Tr w' S x v' → Calls Try.prog 34 #[.slice SA sm sc, .agg #[.int .i64 v'.k, .int .i64 v'.n, .string v'.s, .slice v'.A v'.len v'.c]] w' (ApDone S w' (tS gm x))) : Calls Try.prog 34 #[.slice SA sm sc, tvV v] w (ApDone S w (tS gm (.mk 0 n s l))) := by
  have HRt := Lib.hid hrt
  have HSI : Hid (sOf sb n = none → tS gm (.mk 0 n s l) = .mk 0 n s l) := fun h => by
    rw [(right_var hrt).1, vr, tS, if_pos rfl]
    exact hsi.unb n h
  have HSJ : Hid (∀ x, sOf sb n = some x → tS gm (.mk 0 n s l) = tS gm x) := fun x h => by
    rw [tS, if_pos rfl]
    exact hsi.bnd n x h
  obtain ⟨hk, hn, hs, hlen, hc0, _⟩ := ht.inv
  obtain ⟨vk, vn, vs, A, m, c⟩ := v
  have hk' : 0 = vk := hk.symm
  have hn' : n = vn := hn.symm
  have hs' : s = vs := hs.symm
  subst hk' hn' hs'
  clear hk hn hs
  have HT := Lib.hid ht
  have HSl := Lib.hid hSl
  have HCall := Lib.hid hC
  have HSub := Lib.hid hSub
  have HM := Lib.hid hsm
  clear hlen hc0 ht hSl hC hSub hsm hrt hsi
  unfold tvV
  have hB : Blk ((w.alloc (.cells #[.int .i64 0, .int .i64 n, .string s, .slice A m c] 24)).alloc (.cells #[.int .i64 0, .int .i64 0, .string ⟨#[]⟩, .slice none 0 0] 24)) w.heap.size 24 #[.int .i64 0, .int .i64 n, .string s, .slice A m c] := (Blk.new _ _ _).alloc _
  have hR : Blk ((w.alloc (.cells #[.int .i64 0, .int .i64 n, .string s, .slice A m c] 24)).alloc (.cells #[.int .i64 0, .int .i64 0, .string ⟨#[]⟩, .slice none 0 0] 24)) (w.heap.size + 1) 24 #[.int .i64 0, .int .i64 0, .string ⟨#[]⟩, .slice none 0 0] := Blk.newAt _ _ (by simp)
  have hK : Keeps w ((w.alloc (.cells #[.int .i64 0, .int .i64 n, .string s, .slice A m c] 24)).alloc (.cells #[.int .i64 0, .int .i64 0, .string ⟨#[]⟩, .slice none 0 0] 24)) [] := ((Keeps.refl w []).alloc _).alloc _
  go_enter Try.func34, Try.ntmps34
  go_upto_region 2 with fail
  generalize ((w.alloc (.cells #[.int .i64 0, .int .i64 n, .string s, .slice A m c] 24)).alloc (.cells #[.int .i64 0, .int .i64 0, .string ⟨#[]⟩, .slice none 0 0] 24)) = w0 at hB hR hK ⊢
  have p1 := hB.cell 1
  have HB := Lib.hid hB
  have HR := Lib.hid hR
  have HK := Lib.hid hK
  have HO := Lib.hid (refOf_any n sb SA sm sc w0 S (HSub.out.keep hK) HM.out hsb)
  clear hB hR hK
  go_wp2_with fail
  refine HO.out.mono ?_
  rintro e w1 ⟨k1, (⟨rfl, h0⟩ | ⟨x, v', rfl, hx, htx⟩)⟩
  · have K2 : Keeps w0 (w1.alloc (.cells #[.int .i64 0, .int .i64 0, .string ⟨#[]⟩, .slice none 0 0] 24)) [] := k1.alloc _
    have hr := HR.out.keep K2 (by simp)
    have hq := HB.out.keep K2 (by simp)
    have HK2 := Lib.hid (HK.out.trans K2)
    have HE := Lib.hid (HSI.out h0)
    have hlt := HR.out.lt
    have hw1 := k1.size
    go_upto_region 3 with fail
    generalize w1.alloc (.cells #[.int .i64 0, .int .i64 0, .string ⟨#[]⟩, .slice none 0 0] 24) = w2 at K2 hr hq HK2 ⊢
    have HD := Lib.hid (ApDone.end4 (rb := w.heap.size + 1) HSl.out ((HT.out.keep HK2.out).mono fun b h => .inl h) HK2.out (by omega))
    have q0 := hq.cell 0
    have q1 := hq.cell 1
    have q2 := hq.cell 2
    have q3 := hq.cell 3
    have r0 := hr.cell 0
    have f0 := hr.frozen 0
    have r1 := hr.cell 1
    have f1 := hr.frozen 1
    have r2 := hr.cell 2
    have f2 := hr.frozen 2
    have r3 := hr.cell 3
    have f3 := hr.frozen 3
    clear hr hq K2 k1 h0 HO hlt hw1
    go_wp2_with fail
    exact bodyPost_ret (v := .agg #[.int .i64 0, .int .i64 n, .string s, .slice A m c]) (by simp [results, Try.results34, go_sem, *]) rfl (by rw [HE.out]; exact HD.out)
  · have K2 : Keeps w0 (w1.alloc (.cells #[.int .i64 v'.k, .int .i64 v'.n, .string v'.s, .slice v'.A v'.len v'.c] 24)) [] := k1.alloc _
    have hr := HR.out.keep K2 (by simp)
    have hx2 : Blk (w1.alloc (.cells #[.int .i64 v'.k, .int .i64 v'.n, .string v'.s, .slice v'.A v'.len v'.c] 24)) w1.heap.size 24 #[.int .i64 v'.k, .int .i64 v'.n, .string v'.s, .slice v'.A v'.len v'.c] := Blk.new _ _ _
    have HK2 := Lib.hid (HK.out.trans K2)
    have HE := Lib.hid (HSJ.out x hx)
    have HTX := Lib.hid (htx.keep ((Keeps.refl w1 []).alloc (.cells #[.int .i64 v'.k, .int .i64 v'.n, .string v'.s, .slice v'.A v'.len v'.c] 24)))
    go_upto_region 3 with fail
    generalize w1.alloc (.cells #[.int .i64 v'.k, .int .i64 v'.n, .string v'.s, .slice v'.A v'.len v'.c] 24) = w2 at K2 hr hx2 HK2 HTX ⊢
    have y0 := hx2.cell 0
    have y1 := hx2.cell 1
    have y2 := hx2.cell 2
    have y3 := hx2.cell 3
    have HC := Lib.hid (HCall.out x hx v' w2 HK2.out HTX.out)
    have HR2 := Lib.hid hr
    have hw2 := hr.lt
    clear hr K2 k1 hx htx HO hx2
    go_wp2_with fail
    refine HC.out.mono ?_
    rintro e w3 ⟨u, rfl, hu, k3⟩
    have hr := HR2.out.keep k3 (by simp)
    have HD := Lib.hid (ApDone.end4 (w := w) (rb := w.heap.size + 1) HSl.out (hu.mono (S' := fun b => S b ∨ w.heap.size + 1 < b) fun b h => h.imp id fun h => by omega) (HK2.out.trans k3) (by omega))
    have r0 := hr.cell 0
    have f0 := hr.frozen 0
    have r1 := hr.cell 1
    have f1 := hr.frozen 1
    have r2 := hr.cell 2
    have f2 := hr.frozen 2
    have r3 := hr.cell 3
    have f3 := hr.frozen 3
    unfold tvV at HD ⊢
    clear hu k3 hr HC HR2
    go_wp2_with fail
    exact bodyPost_ret (v := .agg #[.int .i64 u.k, .int .i64 u.n, .string u.s, .slice u.A u.len u.c]) (by simp [results, Try.results34, go_sem, *]) rfl (by rw [HE.out]; exact HD.out)

/-- Apply, of all right trees, where what is bound has an end. -/
theorem refApply_any {sb : Sbt} {gm : Int → Tm} {rk : Int → Nat} (hsi : SI sb gm rk) (SA : Option Addr) (sm sc : Nat) (hsm : sb.length = sm) (hsb : sm ≤ 9223372036854775807) (t : Tm) (ht : tRight t = true) (v : TV) (w : World) (S : Nat → Prop) (hSl : ∀ b, S b → b < w.heap.size) (htr : Tr w S t v) (hS : Sub w S sb SA) :
    Calls Try.prog 34 #[.slice SA sm sc, tvV v] w (ApDone S w (tS gm t)) := by
  have key : ∀ t : Tm, (∀ n ∈ tV t, ∀ (v : TV) (w : World) (S : Nat → Prop), (∀ b, S b → b < w.heap.size) → ∀ s l, tRight (.mk 0 n s l) = true → Tr w S (.mk 0 n s l) v → Sub w S sb SA → Calls Try.prog 34 #[.slice SA sm sc, tvV v] w (ApDone S w (tS gm (.mk 0 n s l)))) → tRight t = true →
      ∀ (v : TV) (w : World) (S : Nat → Prop), (∀ b, S b → b < w.heap.size) → Tr w S t v → Sub w S sb SA → Calls Try.prog 34 #[.slice SA sm sc, tvV v] w (ApDone S w (tS gm t)) := by
    intro t
    induction t using Tm.ind_ with
    | h k n s l ih =>
      intro hV hr v w S hSl ht hS
      by_cases h0 : k = 0
      · subst h0
        exact hV n (by rw [tV, if_pos rfl]; simp) v w S hSl s l hr ht hS
      · refine refApplyN_any gm SA sm sc k n s l h0 v w S hSl ht (tWid_of_right hr) fun a ha v' w' k' ht' => ?_
        refine ih a ha (fun m hm => hV m ?_) (right_parts hr a ha) v' w' S (fun b hb => Nat.lt_of_lt_of_le (hSl b hb) k'.size) ht' (hS.keep k')
        rw [tV, if_neg h0]
        exact mem_tVL.2 ⟨a, ha, hm⟩
  refine key t (fun n _ => ?_) ht v w S hSl htr hS
  refine hsi.ind (P := fun n => ∀ (v : TV) (w : World) (S : Nat → Prop), (∀ b, S b → b < w.heap.size) → ∀ s l, tRight (.mk 0 n s l) = true → Tr w S (.mk 0 n s l) v → Sub w S sb SA → Calls Try.prog 34 #[.slice SA sm sc, tvV v] w (ApDone S w (tS gm (.mk 0 n s l)))) (fun m hm v w S hSl s l hr ht hS => ?_) (fun m x hx ih v w S hSl s l hr ht hS => ?_) n
  · exact refApplyV_any hsi SA sm sc hsm hsb m s l hr v w S hSl ht hS fun x hx => by rw [hm] at hx; cases hx
  · refine refApplyV_any hsi SA sm sc hsm hsb m s l hr v w S hSl ht hS fun x' hx' v' w' k' ht' => ?_
    rw [hx] at hx'
    injection hx' with hx'
    subst hx'
    exact key x (fun n hn => ih n hn) (hsi.rt _ (sOf_mem hx)) v' w' S (fun b hb => Nat.lt_of_lt_of_le (hSl b hb) k'.size) ht' (hS.keep k')
end Go.Proofs.Ytjbomjnkjcafcaa

/- The law's From: a row of pairs, as the document has it. -/
namespace Go.Proofs.Ytjbomjnkjcafcaa
open Go.RowKit

theorem el_rpair : ElemT Try.prog 40 74 5 := elemT_of (b := 64) (z := .agg #[.int .i64 0, .int .i64 0, .int .i64 0, .string ⟨#[]⟩, .slice none 0 0]) Try.underlying40 (by kernel_rfl) (by omega) rfl (by omega)
set_option maxRecDepth 100000 in
set_option maxHeartbeats 3200000 in
theorem from4_any (s : Sbt) (A : Option Addr) (m c : Nat) (w : World) (hA : Sub w (fun _ => True) s A) (hm : s.length = m) (hb : m ≤ 1000000) (hw : ∀ p ∈ s, tWid p.2) :
    Calls Try.prog 15 #[.slice A m c] w fun e w' => ∃ A' c', e = .returned (.slice A' m c') ∧ Sub w' (fun _ => True) s A' ∧ Keeps w w' [] := by
  have HA := Lib.hid hA
  have HM := Lib.hid hm
  have HFr : Hid (∀ (t : Tm) (v : TV) (w : World), tWid t → Tr w (fun _ => True) t v → Calls Try.prog 17 #[.agg #[.int .i64 v.k, .int .i64 v.n, .string v.s, .slice v.A v.len v.c]] w (TDone [] (fun b => w.heap.size ≤ b) w t)) := fun t v w h1 h2 => tmFromW_any t v w h2 h1
  have HWd := Lib.hid hw
  clear hA hm hw
  go_enter Try.func15, Try.ntmps15
  go_wp2_with fail
  go_loopw [3, 4] (fun x3 i wr => ∃ (j c2 : Nat) (A2 : Option Addr) (pa : List (Int × TV)), j ≤ m ∧ i = .int .i64 j ∧ x3 = .slice A2 j c2 ∧ Two 74 w.heap.size w wr (s.take j) [] A2 j c2 none 0 0 pa []) (fun _ i _ => m - (intOf i).toNat)
  case atStart => exact ⟨0, 0, none, [], Nat.zero_le _, rfl, rfl, Two.start (Keeps.refl w []) (Nat.le_refl _)⟩
  case round =>
    obtain ⟨j, c2, A2, pa, hj, rfl, rfl, htw⟩ := hrel
    have HT := Lib.hid htw
    have b0 : (0 : Int) ≤ (j : Int) := Int.natCast_nonneg _
    clear htw
    by_cases hlt : j < m
    · obtain ⟨⟨x, t⟩, hx⟩ := at_of HM.out hlt
      obtain ⟨v, b, off, htv, rfl, hb1, p0, p1, p2, p3, p4⟩ := HA.out.get hx
      have HX := Lib.hid hx
      have HV := Lib.hid htv
      have HWt : Hid (tWid t) := HWd.out (x, t) (List.mem_of_getElem? hx)
      have b1 : (j : Int) < (m : Int) := by omega
      have HW : Hid (∀ W', Keeps wr W' (ownL (.slice A2 j c2)) → W'.cell? ⟨b, off + j * 5, none⟩ = some (.int .i64 x) ∧ W'.cell? ⟨b, off + j * 5 + 1, none⟩ = some (.int .i64 v.k) ∧ W'.cell? ⟨b, off + j * 5 + 2, none⟩ = some (.int .i64 v.n) ∧ W'.cell? ⟨b, off + j * 5 + 3, none⟩ = some (.string v.s) ∧ W'.cell? ⟨b, off + j * 5 + 4, none⟩ = some (.slice v.A v.len v.c)) := fun W' kk =>
        have kc : ∀ i x, w.cell? ⟨b, i, none⟩ = some x → W'.cell? ⟨b, i, none⟩ = some x := fun i x hx => ((kk.cell (p := ⟨b, i, none⟩) (Nat.lt_of_lt_of_le hb1 HT.out.keep.size) (own_out HT.out.oa hb1)).trans (HT.out.keep.cell0 hb1)).trans hx
        ⟨kc _ _ p0, kc _ _ p1, kc _ _ p2, kc _ _ p3, kc _ _ p4⟩
      clear hx htv p0 p1 p2 p3 p4 hb1
      go_upto_region 5 with fail
      refine wp_region_tx (fun W' => W'.cell? ⟨b, off + j * 5, none⟩ = some (.int .i64 x) ∧ W'.cell? ⟨b, off + j * 5 + 1, none⟩ = some (.int .i64 v.k) ∧ W'.cell? ⟨b, off + j * 5 + 2, none⟩ = some (.int .i64 v.n) ∧ W'.cell? ⟨b, off + j * 5 + 3, none⟩ = some (.string v.s) ∧ W'.cell? ⟨b, off + j * 5 + 4, none⟩ = some (.slice v.A v.len v.c)) [(0, true), (1, true), (2, true), (3, true), (4, true), (5, true), (6, true), (7, true), (8, true), (9, true), (10, true), (11, false), (12, true), (13, false), (14, false), (15, false)] (by kernel_rfl) (by kernel_rfl) (HW.out _ ((Keeps.refl _ _).drew)) (fun hHeld => ?_)
      (repeat (first | (refine wpTx_take (v := ?_) rfl (by assumption) ?_ (by rfl) ?_; rotate_left; (focus (intro w' hSw; (try dsimp only at hSw); go_simp; (try with_reducible rfl); done)); simp only [Act.put, List.setIfInBounds_toArray, List.set_cons_zero, List.set_cons_succ]) | (refine wpTx_skip rfl (by assumption) (by rfl) ?_; simp only [Act.put, List.setIfInBounds_toArray, List.set_cons_zero, List.set_cons_succ])))
      refine wpTx_go rfl (fun K hK => ?_)
      go_simp
      refine (HFr.out t v _ HWt.out (HV.out.keep (HT.out.keep.trans (Keeps.refl _ []).drew))).mono ?_
      rintro e w3 ⟨u, rfl, hu, k3⟩
      have HU := Lib.hid hu
      unfold tvV
      clear hu
      refine hK.out _ _ ?_ ?_
      · exact HW.out _ (((Keeps.refl _ []).drew.trans k3).to_ _)
      (clear hHeld; intro hHeld; clear hK K; (try simp only [Act.put, List.setIfInBounds_toArray, List.set_cons_zero, List.set_cons_succ]))
      (repeat (first | (refine wpTx_take (v := ?_) rfl (by assumption) ?_ (by rfl) ?_; rotate_left; (focus (intro w' hSw; (try dsimp only at hSw); go_simp; (try with_reducible rfl); done)); simp only [Act.put, List.setIfInBounds_toArray, List.set_cons_zero, List.set_cons_succ]) | (refine wpTx_skip rfl (by assumption) (by rfl) ?_; simp only [Act.put, List.setIfInBounds_toArray, List.set_cons_zero, List.set_cons_succ])))
      refine wpTx_go rfl (fun K hK => ?_)
      go_simp
      refine hK.out _ _ ?_ ?_
      · exact HW.out _ ((((Keeps.refl _ []).drew.trans k3).alloc _).to_ _)
      (clear hHeld; intro hHeld; clear hK K; (try simp only [Act.put, List.setIfInBounds_toArray, List.set_cons_zero, List.set_cons_succ]))
      refine wpTx_go rfl (fun K hK => ?_)
      have hsz := HT.out.keep.size
      have hk4 : Keeps wr (w3.alloc (.cells #[.int .i64 x, .int .i64 u.k, .int .i64 u.n, .string u.s, .slice u.A u.len u.c] 74)) [] := ((Keeps.refl _ []).drew.trans k3).alloc _
      have hs3 : wr.heap.size ≤ w3.heap.size := ((Keeps.refl _ []).drew.trans k3).size
      refine step_app _ el_rpair (by rfl) _ _ (by rfl) w.heap.size A2 j c2 (pa.flatMap pvE) (by rfl) (own_keep0 HT.out.oa hk4) (some ⟨w3.heap.size, 0, none⟩) 1 1 (pvE (x, u)) (by rfl) (Rd.one w3 _ (pvE (x, u))) rfl (by simp) (by simp [pvE, Value.oneCell']) (by omega) (by simp; omega) ?_
      intro A' c' w2 hown hgrow hat
      have HT5 := Lib.hid (HT.out.push (x := x) hk4 ((HU.out.mono (S' := fun b => wr.heap.size ≤ b) fun b hb => hb).keep ((Keeps.refl _ []).alloc _)) hown hgrow hat)
      refine hK.out _ _ ?_ ?_
      · exact HW.out _ (hk4.rest (Keeps.ofGrown hgrow))
      (clear hHeld; intro hHeld; clear hK K; (try simp only [Act.put, List.setIfInBounds_toArray, List.set_cons_zero, List.set_cons_succ]))
      refine wpTx_last rfl (fun K hK => ?_)
      go_simp
      refine hK.out _ _ (NoPanic.normal ?_); clear hK K; (try simp only [Act.put, List.setIfInBounds_toArray, List.set_cons_zero, List.set_cons_succ])
      clear hown hgrow hat
      go_wp2_with fail
      go_roundw
      case rel =>
        refine ⟨j + 1, c', A', pa ++ [(x, u)], by omega, by go_num, rfl, ?_⟩
        have h5 := HT5.out
        rw [show s.take j ++ [(x, t)] = s.take (j + 1) by rw [List.take_add_one, HX.out]; rfl] at h5
        exact h5
      case measure => simp [intOf]; omega
    · obtain rfl : m = j := by omega
      have b1 : ¬ (m : Int) < (m : Int) := by omega
      have hs : s.take m = s := List.take_of_length_le (by have := HM.out; omega)
      have HS := Lib.hid (hs ▸ HT.out.sub)
      have HK := Lib.hid HT.out.keep
      clear hs
      go_wp2_with fail
      go_ret
      exact ⟨A2, ⟨c2, rfl⟩, HS.out, HK.out⟩
end Go.Proofs.Ytjbomjnkjcafcaa

/- A region that draws its order and ends in operations that write one behind the other, where some operations that any world answers alike are not awaited by the first of these: they are taken ahead of all. Over any program. -/
namespace Go.Proofs.Ytjbomjnkjcafcaa
open Go

section
variable {P : Program} {ops : Array Oper} {Q : Exit → Act → World → Prop} {md : Region.Mode} {S : World → Prop}
def sinkP (md : Region.Mode) (ops : Array Oper) (n : Nat) (pre : List Nat) : Bool :=
  (List.range n).all fun i => pre.contains i || (List.range (n + 1)).any fun j => decide (i < j) && Region.waitsFor md ops j i
def PreL (pre : List Nat) (listed : Array Bool) : Prop := ∀ i ∈ pre, listed.getD i true = true
theorem PreL.set {pre : List Nat} {listed : Array Bool} (h : PreL pre listed) (j : Nat) : PreL pre (listed.setIfInBounds j true) := fun i hi => by
  by_cases hij : j = i
  · subst hij
    rcases Nat.lt_or_ge j listed.size with hs | hs
    · simp [hs]
    · simp [Array.getD]
  · rw [getD_set_ne true hij]; exact h i hi
theorem tail_waitsP {n : Nat} {pre : List Nat} {listed : Array Bool} (hs : sinkP md ops n pre = true) (hp : PreL pre listed) (hc : Region.chainB md ops n = true) (hn : n < ops.size) (inv : HeadInv md ops n listed) :
    ∀ (d i : Nat), n - i = d → i < n → listed.getD i true = false → ∀ t, n ≤ t → t ∉ Region.ready md ops listed := by
  intro d
  induction d using Nat.strongRecOn with
  | _ d ih =>
    intro i hd hi hun t ht hr
    obtain ⟨_, ot, hot, hall⟩ := mem_ready.1 hr
    have htlt : t < ops.size := (Array.getElem?_eq_some_iff.1 hot).1
    by_cases htn : t = n
    · subst htn
      have h1 := List.all_eq_true.1 hs i (List.mem_range.2 hi)
      rw [Bool.or_eq_true] at h1
      rcases h1 with h1 | h1
      · have := hp i (by simpa using h1)
        rw [hun] at this
        cases this
      obtain ⟨j, hj, hj2⟩ := List.any_eq_true.1 h1
      simp only [Bool.and_eq_true, decide_eq_true_eq] at hj2
      obtain ⟨oj, hoj, e, he, hb, hon⟩ := Region.waitsFor_spec hj2.2
      have hjle : j ≤ t := by have := List.mem_range.1 hj; omega
      by_cases hjt : j = t
      · subst hjt
        have : oj = ot := Option.some.inj (hoj.symm.trans hot)
        subst this
        have h2 := hall e he hb
        rw [hon, getD_both hun] at h2
        cases h2
      · cases hl : listed.getD j false with
        | true =>
          have h2 := inv.closed j oj hoj hl e he hb
          rw [hon, getD_both hun] at h2
          cases h2
        | false =>
          have hjs : j < listed.size := by rw [inv.size]; omega
          exact ih (t - j) (by omega) j rfl (by omega) (getD_in hjs hl) t (Nat.le_refl _) hr
    · have h1 := List.all_eq_true.1 hc t (List.mem_range.2 htlt)
      simp only [Bool.or_eq_true, decide_eq_true_eq] at h1
      rcases h1 with h1 | h1
      · omega
      · obtain ⟨o', ho', e, he, hb, hon⟩ := Region.waitsFor_spec h1
        have : o' = ot := Option.some.inj (ho'.symm.trans hot)
        subst this
        have h2 := hall e he hb
        rw [hon, getD_both (inv.tail (t - 1) (by omega) (by omega))] at h2
        cases h2

theorem wpAnyF_firstP {n i : Nat} {pre : List Nat} {oi : Oper} {v : Value} (hi : ops[i]? = some oi) (hsel : ∀ (j : Nat) (o : Oper) cs b, ops[j]? = some o → o.op ≠ .select cs b)
    (hQ : ∀ c a w, Q (.panic c) (a.put oi.dst v) w → Q (.panic c) a w) (hs : sinkP md ops n pre = true) (hc : Region.chainB md ops n = true) (hn : n < ops.size) (hin : i < n) :
    ∀ (fuel : Nat) (listed : Array Bool) (a : Act) (w : World), HeadInv md ops n listed → PreL pre listed →
      (∀ j oj, ops[j]? = some oj → j ≠ i → listed.getD j true = false → (∀ e ∈ oj.after, Region.binds md e = true → e.on ≠ i) → oi.apart ops oj = true) →
      i ∈ Region.ready md ops listed → YieldsIf P ops S oi v a → S w →
      wpAnyF P md ops Q S n fuel (listed.setIfInBounds i true) (a.put oi.dst v) w → wpAnyF P md ops Q S n (fuel + 1) listed a w := by
  intro fuel
  induction fuel with
  | zero =>
    intro listed a w _ _ _ hr hy hS H
    refine ⟨fun h => (by rw [h] at hr; cases hr), fun j hj => ?_⟩
    by_cases hji : j = i
    · subst hji; exact hy.wpOp hi hS ⟨fun _ => hS, H⟩
    · have := ready_mono hj hji
      rw [H.1] at this
      cases this
  | succ fuel ih =>
    intro listed a w inv hpre hfree hr hy hS H
    have hun := (mem_ready.1 hr).1
    refine ⟨fun h => (by rw [h] at hr; cases hr), fun j hj => ?_⟩
    by_cases hji : j = i
    · subst hji; exact hy.wpOp hi hS ⟨fun _ => hS, H⟩
    · have hjn : j < n := by
        rcases Nat.lt_or_ge j n with h | h
        · exact h
        · exact absurd hj (tail_waitsP hs hpre hc hn inv _ i rfl hin hun j h)
      have h1 := H.2 j (ready_mono hj hji)
      obtain ⟨hjun, oj, hoj, hall⟩ := mem_ready.1 hj
      have hnot : ∀ e ∈ oj.after, Region.binds md e = true → e.on ≠ i := fun e he hb heq => by
        have h1 := hall e he hb
        rw [heq, getD_both hun] at h1
        cases h1
      have h2 := wpOp_putIf hoj (hfree j oj hoj hji hjun hnot) (fun cs b => hsel i oi cs b hi) (fun cs b => hsel j oj cs b hoj) hQ hy h1
      have hfree' : ∀ k ok, ops[k]? = some ok → k ≠ i → (listed.setIfInBounds j true).getD k true = false →
          (∀ e ∈ ok.after, Region.binds md e = true → e.on ≠ i) → oi.apart ops ok = true := fun k ok hk hki hun hno => by
        refine hfree k ok hk hki ?_ hno
        by_cases hjk : j = k
        · subst hjk; exact hjun
        · rw [getD_set_ne true hjk] at hun; exact hun
      refine wpOp_mono (fun a' w' h3 => ⟨h3.2.1, ih (listed.setIfInBounds j true) a' w' (inv.set hj hjn) (hpre.set j) hfree' (ready_mono hr (Ne.symm hji)) h3.1 (h3.2.1 hjn) ?_⟩) h2
      rw [Array.setIfInBounds_comm _ _ hji]
      exact h3.2.2

theorem wpAnyF_of_typ {l : List Oper} {n : Nat} {pre : List Nat} (hsel : Region.noSelect l.toArray = true) (hQ : ∀ c a d v w, Q (.panic c) (Act.put a d v) w → Q (.panic c) a w) (hs : sinkP md l.toArray n pre = true) (hc : Region.chainB md l.toArray n = true) (hn : n < l.toArray.size) :
    ∀ (r : List (Nat × Bool)) (listed : Array Bool) (a : Act) (w : World), PreL pre listed → HeadInv md l.toArray n listed ∨ (r.all fun x => !x.2 && decide (n ≤ x.1)) = true → tyB md l.toArray n r listed = true → wpTy P l Q S n r a w → wpAnyF P md l.toArray Q S n r.length listed a w
  | [], listed, a, w, _, _, hB, h => ⟨by simpa [tyB] using hB, h⟩
  | (k, true) :: r, listed, a, w, hpre, hinv, hB, h => by
    have inv : HeadInv md l.toArray n listed := by
      rcases hinv with h | h
      · exact h
      · simp at h
    simp only [tyB, Bool.and_eq_true, decide_eq_true_eq] at hB
    obtain ⟨⟨⟨hk, hr⟩, hf⟩, hB'⟩ := hB
    obtain ⟨o, v, ho, hy, hS, h'⟩ := h
    have h0 : l.toArray[k]? = some o := (nthO_eq l k).trans ho
    have hr' : k ∈ Region.ready md l.toArray listed := by simpa using hr
    exact wpAnyF_firstP h0 (Region.noSelect_spec hsel) (fun c a w => hQ c a _ _ w) hs hc hn hk r.length listed a w inv hpre (Region.free_spec h0 hf) hr' hy hS
      (wpAnyF_of_typ hsel hQ hs hc hn r _ _ _ (hpre.set k) (.inl (inv.set hr' hk)) hB' h')
  | (k, false) :: r, listed, a, w, hpre, hinv, hB, h => by
    simp only [tyB, Bool.and_eq_true, decide_eq_true_eq] at hB
    obtain ⟨⟨hr, hlast⟩, hB'⟩ := hB
    refine ⟨fun h1 => (by rw [hr] at h1; cases h1), fun i hi => ?_⟩
    have hik : i = k := by rw [hr] at hi; simpa using hi
    subst hik
    have h2 : HeadInv md l.toArray n (listed.setIfInBounds i true) ∨ (r.all fun x => !x.2 && decide (n ≤ x.1)) = true := by
      by_cases hkn : i < n
      · rcases hinv with h | h
        · exact .inl (h.set hi hkn)
        · simp at h
          omega
      · simp only [Bool.or_eq_true, decide_eq_true_eq] at hlast
        rcases hlast with h | h
        · exact absurd h hkn
        · exact .inr h
    exact wpOp_mono (fun a' w' h' => ⟨h'.1, wpAnyF_of_typ hsel hQ hs hc hn r _ a' w' (hpre.set i) h2 hB' h'.2⟩) h

theorem wpAnyE_true {n : Nat} : ∀ (fuel : Nat) (listed : Array Bool) (a : Act) (w : World), wpAny P md ops Q fuel listed a w → wpAnyE P md ops Q (fun _ => True) n fuel listed a w
  | 0, _, _, _, h => h
  | fuel + 1, _, _, _, h => ⟨h.1, fun i hi => wpOp_mono (fun a' w' h' => ⟨fun _ => trivial, wpAnyE_true fuel _ a' w' h'⟩) (h.2 i hi)⟩
/-- What is taken ahead of all. -/
def wpPre (P : Program) (l : List Oper) (K : Act → Prop) : List Nat → Act → Prop
  | [], a => K a
  | k :: r, a => ∃ o v, nthO l k = some o ∧ YieldsIf P l.toArray (fun _ => True) o v a ∧ wpPre P l K r (a.put o.dst v)
theorem wpPre_take {l : List Oper} {k : Nat} {r : List Nat} {o : Oper} {v : Value} {a : Act} {K : Act → Prop} (ho : nthO l k = some o)
    (hy : ∀ w, (execOp a.eval o).run P w = .ok (.value v) w) (hw : Region.wanted o (yielded l.toArray a.tmps) = true) (h : wpPre P l K r (a.put o.dst v)) : wpPre P l K (k :: r) a :=
  ⟨o, v, ho, .inl ⟨hw, fun w _ => hy w⟩, h⟩
def preB (md : Region.Mode) (ops : Array Oper) (n : Nat) : List Nat → Array Bool → Bool
  | [], _ => true
  | k :: r, listed => decide (k < n) && (Region.ready md ops listed).contains k && Region.free md ops listed k && preB md ops n r (listed.setIfInBounds k true)
def setP : List Nat → Array Bool → Array Bool
  | [], s => s
  | k :: r, s => setP r (s.setIfInBounds k true)
theorem wpAny_of_pre {l : List Oper} {n : Nat} (hsel : Region.noSelect l.toArray = true) (hQ : ∀ c a d v w, Q (.panic c) (Act.put a d v) w → Q (.panic c) a w) (hs : Region.sinkB md l.toArray n = true) (hc : Region.chainB md l.toArray n = true) (hn : n < l.toArray.size) (g : Nat) (w : World) :
    ∀ (r : List Nat) (listed : Array Bool) (a : Act), HeadInv md l.toArray n listed → preB md l.toArray n r listed = true → wpPre P l (fun a => wpAny P md l.toArray Q g (setP r listed) a w) r a → wpAny P md l.toArray Q (r.length + g) listed a w
  | [], listed, a, _, _, h => by
    simp only [List.length_nil, Nat.zero_add]
    exact h
  | k :: r, listed, a, inv, hB, h => by
    simp only [preB, Bool.and_eq_true, decide_eq_true_eq] at hB
    obtain ⟨⟨⟨hk, hr⟩, hf⟩, hB'⟩ := hB
    obtain ⟨o, v, ho, hy, h'⟩ := h
    have h0 : l.toArray[k]? = some o := (nthO_eq l k).trans ho
    have hr' : k ∈ Region.ready md l.toArray listed := by simpa using hr
    have h1 := wpAny_of_pre hsel hQ hs hc hn g w r (listed.setIfInBounds k true) _ (inv.set hr' hk) hB' h'
    have h2 := wpAnyE_first (S := fun _ => True) h0 (Region.noSelect_spec hsel) (fun c a w => hQ c a _ _ w) hs hc hn hk (r.length + g) listed a w inv (Region.free_spec h0 hf) hr' hy trivial (wpAnyE_true _ _ _ _ h1)
    rw [List.length_cons, show r.length + 1 + g = r.length + g + 1 by omega]
    exact wpAny_of_E _ _ _ _ h2
def rgHeadB (md : Region.Mode) (ops : Array Oper) (n : Nat) (listed : Array Bool) : Bool :=
  decide (listed.size = ops.size) && ((List.range ops.size).all fun j => match ops[j]? with
    | some oj => !listed.getD j false || oj.after.all fun e => !Region.binds md e || listed.getD e.on false
    | none => true) && (List.range ops.size).all fun t => decide (t < n) || !listed.getD t true
theorem rgHeadB_spec {n : Nat} {listed : Array Bool} (h : rgHeadB md ops n listed = true) : HeadInv md ops n listed := by
  simp only [rgHeadB, Bool.and_eq_true, decide_eq_true_eq] at h
  obtain ⟨⟨h1, h2⟩, h3⟩ := h
  refine ⟨h1, fun j oj hj hl e he hb => ?_, fun t ht hts => ?_⟩
  · have h4 := List.all_eq_true.1 h2 j (List.mem_range.2 (Array.getElem?_eq_some_iff.1 hj).1)
    rw [hj] at h4
    simp only [hl, Bool.not_true, Bool.false_or] at h4
    have h5 := (Array.all_eq_true'.1 h4) e he
    simpa [hb] using h5
  · have h4 := List.all_eq_true.1 h3 t (List.mem_range.2 hts)
    simp only [Bool.or_eq_true, decide_eq_true_eq] at h4
    rcases h4 with h4 | h4
    · omega
    · simpa using h4
def typAllB (md : Region.Mode) (l : List Oper) (n n2 : Nat) (pre : List Nat) (sched : List (Nat × Bool)) : Bool :=
  Region.noSelect l.toArray && decide (n < l.length) && decide (n2 < l.length) && Region.sinkB md l.toArray n2 && Region.chainB md l.toArray n2 && preB md l.toArray n2 pre (Array.replicate l.length false) &&
  sinkP md l.toArray n pre && Region.chainB md l.toArray n && decide (pre.length + sched.length = l.length) && rgHeadB md l.toArray n (setP pre (Array.replicate l.length false)) && (pre.all fun i => (setP pre (Array.replicate l.length false)).getD i true) && tyB md l.toArray n sched (setP pre (Array.replicate l.length false))
theorem wp_region_typ {id : Nat} {l : List Oper} {a : Act} {w : World} (S : World → Prop) (n n2 : Nat) (pre : List Nat) (sched : List (Nat × Bool)) (hm : P.follows .mixedOrders = true) (hB : typAllB .any l n n2 pre sched = true)
    (hS : S w.drew) (h : S w.drew → wpPre P l (fun a => wpTy P l (NoPanic Q) S n sched a w.drew) pre a) : (Code.region id l.toArray true).wp P Q a w := by
  refine wp_region_noPanic ?_
  have hQ : ∀ c a d v w, NoPanic Q (.panic c) (Act.put a d v) w → NoPanic Q (.panic c) a w := fun _ _ _ _ _ h => h
  simp only [typAllB, Bool.and_eq_true, decide_eq_true_eq] at hB
  obtain ⟨⟨⟨⟨⟨⟨⟨⟨⟨⟨⟨hsel, hl⟩, hl2⟩, hs2⟩, hc2⟩, hp⟩, hs⟩, hc⟩, hlen⟩, hin⟩, hpl⟩, hB⟩ := hB
  have hn : n < l.toArray.size := by simpa using hl
  have hn2 : n2 < l.toArray.size := by simpa using hl2
  have inv0 : HeadInv .any l.toArray n2 (Array.replicate l.length false) :=
    ⟨by simp, fun j oj _ hl => (by rw [getD_replicate_false] at hl; cases hl), fun t _ ht => getD_in (by simpa using ht) (getD_replicate_false _ _)⟩
  have hpre : PreL pre (setP pre (Array.replicate l.length false)) := fun i hi => by simpa using List.all_eq_true.1 hpl i hi
  have mono : ∀ (K K' : Act → Prop), (∀ a, K a → K' a) → ∀ (r : List Nat) (a : Act), wpPre P l K r a → wpPre P l K' r a := by
    intro K K' hk r
    induction r with
    | nil => exact fun a h => hk a h
    | cons k r ih => exact fun a ⟨o, v, h1, h2, h3⟩ => ⟨o, v, h1, h2, ih _ h3⟩
  have H := wpAny_of_pre hsel hQ hs2 hc2 hn2 sched.length w.drew pre _ a inv0 hp (mono _ _ (fun a h => wpAny_of_F (S := S) (n := n) _ _ _ _ (wpAnyF_of_typ hsel hQ hs hc hn sched _ a w.drew hpre (.inl (rgHeadB_spec hin)) hB h)) pre a (h hS))
  rw [hlen] at H
  refine wp_region_any hm ?_
  rw [show l.toArray.size = l.length by simp]
  exact H
end
end Go.Proofs.Ytjbomjnkjcafcaa

/- The document's Same of two rows of pairs that hold the same. -/
namespace Go.Proofs.Ytjbomjnkjcafcaa
open Go.RowKit

set_option maxRecDepth 100000 in
set_option maxHeartbeats 3200000 in
theorem refSameP_any (s : Sbt) (A B : Option Addr) (m c d : Nat) (w : World) (hA : Sub w (fun _ => True) s A) (hB : Sub w (fun _ => True) s B) (hm : s.length = m) (hb : m ≤ 9223372036854775807) :
    Calls Try.prog 14 #[.slice A m c, .slice B m d] w fun e w' => e = .returned (.bool true) ∧ Keeps w w' [] := by
  have HA := Lib.hid hA
  have HB := Lib.hid hB
  have HM := Lib.hid hm
  have HSm : Hid (∀ (t : Tm) (u v : TV) (w : World), Tr w (fun _ => True) t u → Tr w (fun _ => True) t v → Calls Try.prog 16 #[.agg #[.int .i64 u.k, .int .i64 u.n, .string u.s, .slice u.A u.len u.c], .agg #[.int .i64 v.k, .int .i64 v.n, .string v.s, .slice v.A v.len v.c]] w fun e w' => e = .returned (.bool true) ∧ Keeps w w' []) := fun t u v w h1 h2 => by
    have h4 := refSame_any t t u v w h1 h2
    rw [(tSame_iff t t).2 rfl] at h4
    exact h4
  have e0 : ((m : Int) != (m : Int)) = false := by simp
  clear hA hB hm
  go_enter Try.func14, Try.ntmps14
  go_wp2_with fail
  go_loopw [5] (fun i wr => ∃ j : Nat, j ≤ m ∧ i = .int .i64 j ∧ Keeps w wr []) (fun i _ => m - (intOf i).toNat)
  case atStart => exact ⟨0, Nat.zero_le _, rfl, Keeps.refl _ _⟩
  case round =>
    obtain ⟨j, hj, rfl, hkeep⟩ := hrel
    have HK := Lib.hid hkeep
    clear hkeep
    by_cases hlt : j < m
    · obtain ⟨⟨x, t⟩, hx⟩ := at_of HM.out hlt
      obtain ⟨u, b, off, htu, rfl, hb1, p0, p1, p2, p3, p4⟩ := (HA.out.keep HK.out).get hx
      obtain ⟨v, b', off', htv, rfl, hb2, q0, q1, q2, q3, q4⟩ := (HB.out.keep HK.out).get hx
      have HU := Lib.hid htu
      have HV := Lib.hid htv
      have b0 : (0 : Int) ≤ (j : Int) := Int.natCast_nonneg _
      have b1 : (j : Int) < (m : Int) := by omega
      have e1 : (x != x) = false := by simp
      have HP : Hid (∀ W', Keeps wr W' [] → (Keeps wr W' [] ∧ W'.cell? ⟨b, off + j * 5, none⟩ = some (.int .i64 x) ∧ W'.cell? ⟨b, off + j * 5 + 1, none⟩ = some (.int .i64 u.k) ∧ W'.cell? ⟨b, off + j * 5 + 2, none⟩ = some (.int .i64 u.n) ∧ W'.cell? ⟨b, off + j * 5 + 3, none⟩ = some (.string u.s) ∧ W'.cell? ⟨b, off + j * 5 + 4, none⟩ = some (.slice u.A u.len u.c) ∧ W'.cell? ⟨b', off' + j * 5, none⟩ = some (.int .i64 x) ∧ W'.cell? ⟨b', off' + j * 5 + 1, none⟩ = some (.int .i64 v.k) ∧ W'.cell? ⟨b', off' + j * 5 + 2, none⟩ = some (.int .i64 v.n) ∧ W'.cell? ⟨b', off' + j * 5 + 3, none⟩ = some (.string v.s) ∧ W'.cell? ⟨b', off' + j * 5 + 4, none⟩ = some (.slice v.A v.len v.c))) := fun W' k => ⟨k, (k.cell0 hb1).trans p0, (k.cell0 hb1).trans p1, (k.cell0 hb1).trans p2, (k.cell0 hb1).trans p3, (k.cell0 hb1).trans p4, (k.cell0 hb2).trans q0, (k.cell0 hb2).trans q1, (k.cell0 hb2).trans q2, (k.cell0 hb2).trans q3, (k.cell0 hb2).trans q4⟩
      clear hx htu htv hb1 hb2 p0 p1 p2 p3 p4 q0 q1 q2 q3 q4
      go_upto_region 6 with fail
      refine wp_region_tw (fun W' => Keeps wr W' [] ∧ W'.cell? ⟨b, off + j * 5, none⟩ = some (.int .i64 x) ∧ W'.cell? ⟨b, off + j * 5 + 1, none⟩ = some (.int .i64 u.k) ∧ W'.cell? ⟨b, off + j * 5 + 2, none⟩ = some (.int .i64 u.n) ∧ W'.cell? ⟨b, off + j * 5 + 3, none⟩ = some (.string u.s) ∧ W'.cell? ⟨b, off + j * 5 + 4, none⟩ = some (.slice u.A u.len u.c) ∧ W'.cell? ⟨b', off' + j * 5, none⟩ = some (.int .i64 x) ∧ W'.cell? ⟨b', off' + j * 5 + 1, none⟩ = some (.int .i64 v.k) ∧ W'.cell? ⟨b', off' + j * 5 + 2, none⟩ = some (.int .i64 v.n) ∧ W'.cell? ⟨b', off' + j * 5 + 3, none⟩ = some (.string v.s) ∧ W'.cell? ⟨b', off' + j * 5 + 4, none⟩ = some (.slice v.A v.len v.c)) 24 [.take 0, .take 1, .take 2, .take 3, .take 4, .take 5, .take 6, .take 7, .take 8, .take 9, .take 10, .take 11, .take 12, .take 13, .take 14, .take 15, .take 16, .take 17, .take 18, .take 19, .take 20, .take 21, .go 22, .take 23] [(24, false)] (by kernel_rfl) (by kernel_rfl) (fun w1 w2 k h => HP.out _ (h.1.trans k)) (by exact HP.out _ (Keeps.refl _ []).drew) (fun _ => ?_)
      (repeat (first | (refine wpTw_take (v := ?_) rfl ?_ (by rfl) ?_; rotate_left; (focus (intro w' hSw; (try dsimp only at hSw); go_simp; (try with_reducible rfl); done)); simp only [Act.put, List.setIfInBounds_toArray, List.set_cons_zero, List.set_cons_succ]) | (refine wpTw_skip rfl (by rfl) ?_; simp only [Act.put, List.setIfInBounds_toArray, List.set_cons_zero, List.set_cons_succ])))
      refine wpTw_go rfl (fun W1 hk1 hS1 K hK => ?_)
      have J1 := Lib.hid hS1.1
      have L1 := Lib.hid hk1
      clear hS1 hk1
      go_simp
      refine (HSm.out t u v _ (HU.out.keep J1.out) (HV.out.keep J1.out)).mono ?_
      rintro e w1 ⟨rfl, k1⟩
      have K1 := Lib.hid (J1.out.trans k1)
      have N1 := Lib.hid (L1.out.trans k1)
      refine hK.out _ _ k1 (HP.out _ K1.out) (fun _ => ?_)
      clear hK K
      (try simp only [Act.put, List.setIfInBounds_toArray, List.set_cons_zero, List.set_cons_succ])
      (repeat (first | (refine wpTw_take (v := ?_) rfl ?_ (by rfl) ?_; rotate_left; (focus (intro w' hSw; (try dsimp only at hSw); go_simp; (try with_reducible rfl); done)); simp only [Act.put, List.setIfInBounds_toArray, List.set_cons_zero, List.set_cons_succ]) | (refine wpTw_skip rfl (by rfl) ?_; simp only [Act.put, List.setIfInBounds_toArray, List.set_cons_zero, List.set_cons_succ])))
      change wpTy _ _ _ _ _ _ _ _
      refine wpTy_last rfl (by decide) (fun K hK => ?_)
      go_simp
      refine hK.out _ _ (NoPanic.normal ?_)
      clear hK K
      (try simp only [Act.put, List.setIfInBounds_toArray, List.set_cons_zero, List.set_cons_succ])
      go_wp2_with fail
      go_roundw
      case rel => exact ⟨j + 1, by omega, by go_num, HK.out.trans K1.out⟩
      case measure => simp [intOf]; omega
    · have b1 : ¬ (j : Int) < (m : Int) := by omega
      go_wp2_with fail
      go_ret
      exact ⟨rfl, HK.out⟩
end Go.Proofs.Ytjbomjnkjcafcaa

/- The state of the document's Unify in memory; what its end sorts. No function in sight. -/
namespace Go.Proofs.Ytjbomjnkjcafcaa
open Go.RowKit

/-- The pairs that are left, the first of each pair first. -/
structure RL (w : World) (S : Nat → Prop) (st : List (Tm × Tm)) (ws : List (TV × TV)) : Prop where
  len : ws.length = st.length
  at_ : ∀ (j : Nat) p v, st[j]? = some p → ws[j]? = some v → Tr w S p.1 v.1 ∧ Tr w S p.2 v.2
theorem RL.keepL {w w' : World} {S : Nat → Prop} {L : List Nat} (k : Keeps w w' L) (hL : ∀ b ∈ L, ¬ S b) {st : List (Tm × Tm)} {ws : List (TV × TV)} (h : RL w S st ws) : RL w' S st ws :=
  ⟨h.len, fun j p v a b => ⟨(h.at_ j p v a b).1.keepL k hL, (h.at_ j p v a b).2.keepL k hL⟩⟩
theorem RL.nil {w : World} {S : Nat → Prop} : RL w S [] [] := ⟨rfl, fun j p v h => by simp at h⟩
theorem RL.cons {w : World} {S : Nat → Prop} {st : List (Tm × Tm)} {ws : List (TV × TV)} (h : RL w S st ws) {a b : Tm} {u v : TV} (ha : Tr w S a u) (hb : Tr w S b v) : RL w S ((a, b) :: st) ((u, v) :: ws) := by
  refine ⟨by simp [h.len], fun j p x h1 h2 => ?_⟩
  cases j with
  | zero => simp at h1 h2; subst h1 h2; exact ⟨ha, hb⟩
  | succ j => exact h.at_ j p x (by simpa using h1) (by simpa using h2)
theorem RL.tail {w : World} {S : Nat → Prop} {st : List (Tm × Tm)} {ws : List (TV × TV)} {a b : Tm} {u v : TV} (h : RL w S ((a, b) :: st) ((u, v) :: ws)) : RL w S st ws ∧ Tr w S a u ∧ Tr w S b v :=
  ⟨⟨by have := h.len; simpa using this, fun j p x h1 h2 => h.at_ (j + 1) p x (by simpa using h1) (by simpa using h2)⟩, h.at_ 0 _ _ rfl rfl⟩
theorem RL.app {w : World} {S : Nat → Prop} {st su : List (Tm × Tm)} {ws wu : List (TV × TV)} (h : RL w S st ws) (h' : RL w S su wu) : RL w S (st ++ su) (ws ++ wu) := by
  refine ⟨by simp [h.len, h'.len], fun j p v h1 h2 => ?_⟩
  by_cases hj : j < st.length
  · rw [List.getElem?_append_left hj] at h1
    rw [List.getElem?_append_left (by rw [h.len]; exact hj)] at h2
    exact h.at_ j p v h1 h2
  · rw [List.getElem?_append_right (by omega)] at h1
    rw [List.getElem?_append_right (by rw [h.len]; omega), h.len] at h2
    exact h'.at_ _ p v h1 h2

/-- What stands between two steps. -/
structure RS (w wr : World) (s : Sbt) (st : List (Tm × Tm)) (A : Option Addr) (m c : Nat) (LA : Option Addr) (k lc : Nat) (ws : List (TV × TV)) : Prop where
  sub : Sub wr (fun b => b < w.heap.size) s A
  sm : s.length = m
  ac : A = none → c = 0
  rd : Rd wr LA (ws.flatMap lvE)
  lst : RL wr (fun b => b < w.heap.size) st ws
  sk : st.length = k
  lc0 : LA = none → lc = 0
  klc : k ≤ lc
  keep : Keeps w wr []
section
variable {w wr : World} {s : Sbt} {st : List (Tm × Tm)} {A : Option Addr} {m c : Nat} {LA : Option Addr} {k lc : Nat} {ws : List (TV × TV)}
theorem RS.keep0 (h : RS w wr s st A m c LA k lc ws) {W : World} (kk : Keeps wr W []) : RS w W s st A m c LA k lc ws :=
  ⟨h.sub.keep kk, h.sm, h.ac, h.rd.keep kk, h.lst.keepL kk (by simp), h.sk, h.lc0, h.klc, h.keep.trans kk⟩
/-- What left[1:] shows. -/
def cutA (b off lc : Nat) : Option Addr := if lc - 1 = 0 then some ⟨b, off, none⟩ else some ⟨b, off + 8, none⟩
/-- The first pair. -/
theorem RS.pop {a b : Tm} (h : RS w wr s ((a, b) :: st) A m c LA k lc ws) : ∃ k' lb off u v ws', k = k' + 1 ∧ LA = some ⟨lb, off, none⟩ ∧ lb < wr.heap.size ∧ k' + 1 ≤ lc ∧ Tr wr (fun b => b < w.heap.size) a u ∧ Tr wr (fun b => b < w.heap.size) b v ∧
    (∀ j x, (lvE (u, v))[j]? = some x → wr.cell? ⟨lb, off + j, none⟩ = some x) ∧ RS w wr s st A m c (cutA lb off lc) k' (lc - 1) ws' := by
  cases ws with
  | nil => have := h.lst.len; simp at this
  | cons x ws =>
    obtain ⟨u, v⟩ := x
    have hk := h.sk
    have hlc := h.klc
    simp only [List.length_cons] at hk
    obtain ⟨h1, ha, hb⟩ := h.lst.tail
    have hR := h.rd
    obtain ⟨lb, off, e, hbl, hcell⟩ := hR.field lvE_len (k := 0) rfl (by omega)
    refine ⟨st.length, lb, off, u, v, ws, by omega, e, hbl, by omega, ha, hb, fun j x hj => ?_, ⟨h.sub, h.sm, h.ac, ?_, h1, rfl, fun e => ?_, by omega, h.keep⟩⟩
    · have := hcell j x hj
      simpa using this
    · unfold cutA
      split
      · have : ws = [] := by
          have h2 := h1.len
          exact List.length_eq_zero_iff.1 (by omega)
        subst this
        exact Rd.nil
      · intro i hi
        obtain ⟨b', off', x, e', hb', hc, hv⟩ := hR (8 + i) (by rw [List.flatMap_cons, List.length_append, lvE_len]; omega)
        rw [e] at e'
        injection e' with e'
        injection e' with e1 e2
        subst e1 e2
        refine ⟨lb, off + 8, x, rfl, hb', by rw [Nat.add_assoc]; exact hc, ?_⟩
        rw [List.flatMap_cons, List.getElem?_append_right (by rw [lvE_len]; omega), lvE_len, show 8 + i - 8 = i by omega] at hv
        exact hv
    · unfold cutA at e
      split at e <;> cases e
/-- A new row of what is bound. -/
theorem RS.bound (h : RS w wr s st A m c LA k lc ws) {W : World} (kk : Keeps wr W []) {n : Int} {t : Tm} {v : TV} (ht : Tr W (fun b => b < w.heap.size) t v) {ps : List (Int × TV)} (hp : Prs W (fun b => b < w.heap.size) s ps) {A' : Option Addr} {c' : Nat} (hr : Rd W A' ((ps ++ [(n, v)]).flatMap pvE)) (ha : A' = none → c' = 0) : RS w W (s ++ [(n, t)]) st A' (m + 1) c' LA k lc ws :=
  ⟨⟨⟨_, hp.snoc ht, hr⟩⟩, by simp [h.sm], ha, h.rd.keep kk, h.lst.keepL kk (by simp), h.sk, h.lc0, h.klc, h.keep.trans kk⟩
theorem own_le {w : World} {base n c size : Nat} {e : TypeId} {A : Option Addr} {xs : List Value} (h : w.ownsRow base e size (.slice A n c) n xs) : n ≤ c := by
  rcases Nat.eq_zero_or_pos n with h0 | h0
  · omega
  · obtain ⟨g, _, h1⟩ := own_at h h0
    exact h1
/-- The parts' pairs go ahead of what is left. -/
theorem RS.pushed (h : RS w wr s st A m c LA k lc ws) {wi W : World} (kk : Keeps wr wi []) {e : TypeId} {MA : Option Addr} {n mc : Nat} {l : List (Tm × Tm)} {mw : List (TV × TV)} (ho : wi.ownsRow wr.heap.size e 8 (.slice MA n mc) n (mw.flatMap lvE)) (hm : RL wi (fun b => b < w.heap.size) l mw) (hl : l.length = n)
    (hg : wi.grownBy W (Value.slice MA n mc).ownBlock) {LA' : Option Addr} {lc' : Nat} (ho' : W.ownsRow wr.heap.size e 8 (.slice LA' (n + k) lc') (n + k) (mw.flatMap lvE ++ ws.flatMap lvE)) : RS w W s (l ++ st) A m c LA' (n + k) lc' (mw ++ ws) := by
  have h0 := h.keep0 (kk.app ho (Nat.le_refl _) hg)
  have kg : Keeps wi W (ownL (.slice MA n mc)) := Keeps.ofGrown hg
  have hw := h.keep.size
  have hlow : ∀ b ∈ ownL (.slice MA n mc), ¬ b < w.heap.size := fun b hb hlt => by have := (own_lt ho hb).1; omega
  exact ⟨h0.sub, h0.sm, h0.ac, by rw [List.flatMap_append]; exact Rd.of_own ho', (hm.keepL kg hlow).app h0.lst, by rw [List.length_append, hl, h.sk], fun e => by subst e; exact own_zeroN ho', own_le ho', h0.keep⟩
end

/-! ### append onto an empty literal -/
section
variable {P : Program} (w : World) {T E : TypeId} {sz : Nat}
theorem run_app0 (el : ElemT P T E sz) {ty : TypeId} (base g : Nat) (hb : base ≤ g) (hg : w.heap[g]? = some (.cells #[] E (0, 0))) (hbase : base ≤ w.heap.size)
    (A : Option Addr) (m c : Nat) (news : List Value) (hr : Rd w A news) (hl : news.length = m * sz) (hc0 : A = none → c = 0) (h1 : ∀ u ∈ news, u.oneCell' = true) (hnm : m ≤ 549755813888) :
    ∃ A' c' w', (Builtin.append_ #[T, T] ty #[.slice (some ⟨g, 0, none⟩) 0 0, .slice A m c]).run P w = .ok (.slice A' m c') w' ∧ w'.ownsRow base E sz (.slice A' m c') m news ∧ Keeps w w' [] := by
  obtain ⟨i, z, hi, hz, hsz, hby, hzs⟩ := el.ex
  have hown : w.ownsRow base E sz (.slice (some ⟨g, 0, none⟩) 0 0) 0 [] := ⟨by simp, .inr ⟨g, 0, #[], rfl, hb, hg, Nat.le_refl _, Nat.zero_le _, by simp, by simp⟩⟩
  obtain ⟨A', c', w', h2, h3, h4, h5⟩ := run_append_row (P := P) w base T ty E i z sz i.bytes el.sl hi hz hsz rfl hzs el.pos _ 0 0 [] hown w.heap.size A m c news hr hl hc0 h1 (by unfold maxLen; omega) (bytes_few hby (by omega)) hbase
  rw [Nat.zero_add] at h2 h3 h5
  refine ⟨A', c', w', h2, by simpa using h3, ⟨h4.os, h4.tape, h4.output, h4.size, fun k hk _ => ?_⟩⟩
  by_cases hkg : some k = (Value.slice (some ⟨g, 0, none⟩) 0 0).ownBlock
  · simp only [Value.ownBlock, Option.some.injEq] at hkg
    subst hkg
    rcases A with _ | ⟨b, off, f⟩
    · have hn : news = [] := by
        rcases news with _ | ⟨x, r⟩
        · rfl
        · obtain ⟨_, _, _, h, _⟩ := hr 0 (by simp)
          cases h
      subst hn
      have hm : m = 0 := by
        rcases Nat.eq_zero_or_pos m with h0 | h0
        · exact h0
        · have := Nat.mul_pos h0 el.pos
          simp at hl
          omega
      subst hm
      obtain rfl := hc0 rfl
      have h6 := run_append_owned_none (P := P) w base T ty E i sz el.sl hi (.slice (some ⟨k, 0, none⟩) 0 0) 0 [] hown
      rw [h6] at h2
      injection h2 with _ h2
      rw [← h2]
    · have hnews : ∀ j u, news[j]? = some u → w.cell? ((⟨b, off, f⟩ : Addr).add j) = some u := by
        intro j u hu
        obtain ⟨b', off', v, h, _, hc, hv⟩ := hr j (List.getElem?_eq_some_iff.1 hu).1
        injection h with h
        injection h with e1 e2 e3
        subst e1 e2 e3
        rw [add_lit, hc]
        rw [hu] at hv
        exact hv.symm
      by_cases hm : m = 0
      · subst hm
        have hn : news = [] := List.eq_nil_of_length_eq_zero (by simpa using hl)
        subst hn
        have h6 := run_append_room (P := P) w T ty E i el.sl hi k 0 0 #[] hg ⟨b, off, f⟩ 0 c [] (by simp) (by simp) (by simp) (by omega) (by simp)
        rw [h6] at h2
        injection h2 with _ h2
        rw [← h2]
        refine (setRow_heap w k #[] _ E _ hg).trans ?_
        rw [hg]
        simp
      · have h6 := run_append_grow (P := P) w T ty E i z el.sl hi hz ⟨k, 0, none⟩ 0 0 [] (by simp) (by simp) ⟨b, off, f⟩ m c news (by rw [hl, hsz]) hnews (by omega) (by omega) (growslice_fits (by omega) (by have := bytes_few hby hnm; simpa using this))
        rw [h6] at h2
        injection h2 with _ h2
        rw [← h2]
        exact Below.heap_alloc w.drew _ _ hk
  · exact h4.block k hk hkg
theorem step_app0 (el : ElemT P T E sz) {ops : Array Oper} {o : Oper} {a : Act} {K : Act → World → Prop} {Q : Exit → Act → World → Prop} {F : Prop} (hgd : o.guard = none) (s x : Operand)
    (ho : o.op = .call { callee := .builtin .append, args := #[s, x], argTypes := #[T, T] })
    (base g : Nat) (hb : base ≤ g) (hg : w.heap[g]? = some (.cells #[] E (0, 0))) (hbase : base ≤ w.heap.size) (hs : a.eval s = .slice (some ⟨g, 0, none⟩) 0 0)
    (A : Option Addr) (m c : Nat) (news : List Value) (hx : a.eval x = .slice A m c) (hr : Rd w A news) (hl : news.length = m * sz) (hc0 : A = none → c = 0) (h1 : ∀ u ∈ news, u.oneCell' = true) (hnm : m ≤ 549755813888)
    (h : ∀ A' c' w', w'.ownsRow base E sz (.slice A' m c') m news → Keeps w w' [] → K (a.put o.dst (.slice A' m c')) w') :
    if Region.wanted o (yielded ops a.tmps) = true then Oper.wp P o a w K Q else F := by
  have hw : Region.wanted o (yielded ops a.tmps) = true := by simp [Region.wanted, hgd]
  rw [if_pos hw]
  obtain ⟨A', c', w', hrun, h2, h3⟩ := run_app0 (P := P) w el (ty := o.type) base g hb hg hbase A m c news hr hl hc0 h1 hnm
  unfold Oper.wp execOp
  simp only [ho, resolve, invoke, builtin, Sem.run_bind, Sem.run_pure, Result.andThen_ok, List.map_toArray, List.map_cons, List.map_nil, hs, hx, hrun]
  exact h A' c' w' h2 h3
end

/-! ### A pair that goes down to its place -/
def ins {α : Type} (l : List α) (z : Nat) (p : α) : List α := l.take z ++ p :: l.drop z
theorem ins_len {α : Type} (l : List α) (z : Nat) (p : α) : (ins l z p).length = l.length + 1 := by
  unfold ins
  rw [List.length_append, List.length_cons, List.length_take, List.length_drop]
  omega
theorem ins_end {α : Type} (l : List α) (p : α) : ins l l.length p = l ++ [p] := by simp [ins]
theorem ins_here {α : Type} {l : List α} {z : Nat} (hz : z ≤ l.length) (p : α) : (ins l z p)[z]? = some p := by
  unfold ins
  rw [List.getElem?_append_right (by rw [List.length_take]; omega), List.length_take, Nat.min_eq_left hz, Nat.sub_self]
  rfl
theorem ins_ahead {α : Type} {l : List α} {z : Nat} (hz : z < l.length) (p : α) : (ins l (z + 1) p)[z]? = l[z]? := by
  unfold ins
  rw [List.getElem?_append_left (by rw [List.length_take]; omega), List.getElem?_take, if_pos (by omega)]
theorem ins_swap {α : Type} {l : List α} {z : Nat} {q : α} (hq : l[z]? = some q) (p : α) : ((ins l (z + 1) p).set z p).set (z + 1) q = ins l z p := by
  obtain ⟨hz, he⟩ := List.getElem?_eq_some_iff.1 hq
  unfold ins
  rw [List.take_add_one, hq, List.drop_eq_getElem_cons hz, he]
  have hl : (l.take z).length = z := by rw [List.length_take]; omega
  rw [List.append_assoc, List.set_append_right _ _ (by omega), hl, Nat.sub_self, List.set_append_right _ _ (by omega), hl, show z + 1 - z = 1 by omega]
  rfl
theorem take_none {l : Sbt} {p : Int × Tm} (h : ∀ q ∈ l, p.1 < q.1) : l.takeWhile (fun q => decide (q.1 ≤ p.1)) = [] ∧ l.dropWhile (fun q => decide (q.1 ≤ p.1)) = l := by
  cases l with
  | nil => exact ⟨rfl, rfl⟩
  | cons x l =>
    have hx : decide (x.1 ≤ p.1) = false := by have := h x (by simp); simp; omega
    rw [List.takeWhile_cons, List.dropWhile_cons, hx]
    exact ⟨rfl, rfl⟩
theorem take_whole : ∀ {l : Sbt} {p : Int × Tm} (m : Sbt), (∀ q ∈ l, q.1 ≤ p.1) → (l ++ m).takeWhile (fun q => decide (q.1 ≤ p.1)) = l ++ m.takeWhile (fun q => decide (q.1 ≤ p.1)) ∧ (l ++ m).dropWhile (fun q => decide (q.1 ≤ p.1)) = m.dropWhile (fun q => decide (q.1 ≤ p.1))
  | [], p, m, _ => ⟨rfl, rfl⟩
  | x :: l, p, m, h => by
    have hx : decide (x.1 ≤ p.1) = true := by have := h x (by simp); simpa using this
    obtain ⟨h1, h2⟩ := take_whole (l := l) (p := p) m fun q hq => h q (by simp [hq])
    rw [List.cons_append, List.takeWhile_cons, List.dropWhile_cons, hx]
    simp only [if_true]
    exact ⟨by rw [h1]; rfl, h2⟩
theorem insK_at {l : Sbt} {p : Int × Tm} {z : Nat} (h1 : ∀ q ∈ l.take z, q.1 ≤ p.1) (h2 : ∀ q ∈ l.drop z, p.1 < q.1) : insK l p = ins l z p := by
  unfold insK ins
  obtain ⟨a1, a2⟩ := take_whole (l.drop z) h1
  obtain ⟨b1, b2⟩ := take_none h2
  rw [List.take_append_drop] at a1 a2
  rw [a1, a2, b1, b2, List.append_nil]
/-- It stands where it stops. -/
theorem insK_stop {l : Sbt} (ha : Asc l) {p : Int × Tm} {z : Nat} (hz : ∀ q, l[z]? = some q → q.1 ≤ p.1) (h2 : ∀ q ∈ l.drop (z + 1), p.1 < q.1) (hlt : z < l.length) : insK l p = ins l (z + 1) p := by
  refine insK_at (fun q hq => ?_) h2
  obtain ⟨i, hi, rfl⟩ := List.getElem_of_mem hq
  rw [List.length_take] at hi
  have hzz := hz _ (List.getElem?_eq_getElem hlt)
  rw [List.getElem_take]
  rcases Nat.lt_or_ge i z with h | h
  · have := List.pairwise_iff_getElem.1 ha i z (by omega) hlt h
    omega
  · have : i = z := by omega
    subst this
    exact hzz
theorem insK_low {l : Sbt} {p : Int × Tm} (h2 : ∀ q ∈ l, p.1 < q.1) : insK l p = ins l 0 p := insK_at (z := 0) (by simp) (by simpa using h2)
theorem Prs.ins {w : World} {S : Nat → Prop} {s : Sbt} {ps : List (Int × TV)} (h : Prs w S s ps) {n : Int} {t : Tm} {v : TV} (ht : Tr w S t v) {z : Nat} (hz : z ≤ s.length) : Prs w S (ins s z (n, t)) (ins ps z (n, v)) := by
  refine ⟨by rw [ins_len, ins_len, h.len], fun j p x h1 h2 => ?_⟩
  have hlen := h.len
  unfold Proofs.Ytjbomjnkjcafcaa.ins at h1 h2
  have l1 : (s.take z).length = z := by rw [List.length_take]; omega
  have l2 : (ps.take z).length = z := by rw [List.length_take]; omega
  by_cases hj : j < z
  · rw [List.getElem?_append_left (by omega), List.getElem?_take, if_pos hj] at h1 h2
    exact h.at_ j p x h1 h2
  · rw [List.getElem?_append_right (by omega), l1] at h1
    rw [List.getElem?_append_right (by omega), l2] at h2
    cases hq : j - z with
    | zero =>
      rw [hq] at h1 h2
      simp at h1 h2
      subst h1 h2
      exact ⟨rfl, ht⟩
    | succ q =>
      rw [hq] at h1 h2
      rw [List.getElem?_cons_succ, List.getElem?_drop] at h1 h2
      exact h.at_ _ p x h1 h2
/-- The keys of both lists. -/
theorem Prs.key {w : World} {S : Nat → Prop} {s : Sbt} {ps : List (Int × TV)} (h : Prs w S s ps) {j : Nat} {v : Int × TV} (hv : ps[j]? = some v) : ∃ t, s[j]? = some (v.1, t) := by
  have hj : j < s.length := by rw [← h.len]; exact (List.getElem?_eq_some_iff.1 hv).1
  have h1 := h.at_ j _ _ (List.getElem?_eq_getElem hj) hv
  exact ⟨s[j].2, by rw [List.getElem?_eq_getElem hj, h1.1]⟩

/-! ### A cell of a row of the call's own is set -/
theorem own_cell {w : World} {base : Nat} {e : TypeId} {size n c g : Nat} {xs : List Value} (h : w.ownsRow base e size (.slice (some ⟨g, 0, none⟩) n c) n xs) (i : Nat) (u : Value) : (w.setCell ⟨g, i, none⟩ u).ownsRow base e size (.slice (some ⟨g, 0, none⟩) n c) n (xs.set i u) := by
  refine ⟨by rw [List.length_set]; exact h.1, ?_⟩
  rcases h.2 with ⟨h1, _⟩ | ⟨g', cap, cur, h1, h2, h3, h4, h5, h6, h7⟩
  · cases h1
  · injection h1 with h1 _ h8
    injection h1 with h1
    injection h1 with h1
    subst h1 h8
    refine .inr ⟨g, c, cur.setIfInBounds i u, rfl, h2, heap_setCell_same w g i cur e u h3, h4, h5, by simpa using h6, ?_⟩
    rw [← h7, Array.toList_setIfInBounds, List.take_set]
def set5 (w : World) (g o : Nat) (x : Int × TV) : World := ((((w.setCell ⟨g, o, none⟩ (.int .i64 x.1)).setCell ⟨g, o + 1, none⟩ (.int .i64 x.2.k)).setCell ⟨g, o + 2, none⟩ (.int .i64 x.2.n)).setCell ⟨g, o + 3, none⟩ (.string x.2.s)).setCell ⟨g, o + 4, none⟩ (.slice x.2.A x.2.len x.2.c)
theorem flat_set5 (x : Int × TV) : ∀ (us : List (Int × TV)) (j : Nat), j < us.length → (((((us.flatMap pvE).set (j * 5) (.int .i64 x.1)).set (j * 5 + 1) (.int .i64 x.2.k)).set (j * 5 + 2) (.int .i64 x.2.n)).set (j * 5 + 3) (.string x.2.s)).set (j * 5 + 4) (.slice x.2.A x.2.len x.2.c) = (us.set j x).flatMap pvE
  | [], j, h => absurd h (by simp)
  | y :: us, 0, _ => by
    rw [List.flatMap_cons, List.set_cons_zero, List.flatMap_cons]
    rfl
  | y :: us, j + 1, h => by
    have ih := flat_set5 x us j (by simpa using h)
    rw [List.flatMap_cons, List.set_cons_succ, List.flatMap_cons, ← ih]
    have e : ∀ (i : Nat) (l : List Value) (u : Value), (pvE y ++ l).set ((j + 1) * 5 + i) u = pvE y ++ l.set (j * 5 + i) u := fun i l u => by
      rw [List.set_append_right _ _ (by rw [pvE_len]; omega), pvE_len, show (j + 1) * 5 + i - 5 = j * 5 + i by omega]
    have e0 := e 0
    simp only [Nat.add_zero] at e0
    rw [e0, e, e, e, e]
theorem own_set5 {w : World} {base : Nat} {e : TypeId} {n c g : Nat} {us : List (Int × TV)} (h : w.ownsRow base e 5 (.slice (some ⟨g, 0, none⟩) n c) n (us.flatMap pvE)) {j : Nat} (hj : j < us.length) (x : Int × TV) : (set5 w g (j * 5) x).ownsRow base e 5 (.slice (some ⟨g, 0, none⟩) n c) n ((us.set j x).flatMap pvE) := by
  rw [← flat_set5 x us j hj]
  exact own_cell (own_cell (own_cell (own_cell (own_cell h _ _) _ _) _ _) _ _) _ _
theorem Keeps.put5 {a w : World} {L : List Nat} (h : Keeps a w L) {g : Nat} (hb : g ∈ L ∨ a.heap.size ≤ g) (o : Nat) (x : Int × TV) : Keeps a (set5 w g o x) L := ((((h.setCell (p := ⟨g, o, none⟩) hb _).setCell (p := ⟨g, o + 1, none⟩) hb _).setCell (p := ⟨g, o + 2, none⟩) hb _).setCell (p := ⟨g, o + 3, none⟩) hb _).setCell (p := ⟨g, o + 4, none⟩) hb _
end Go.Proofs.Ytjbomjnkjcafcaa
