/- The law's To and From on terms. Printed by gen_tmto.py. -/
import Derived.Test.YtnonfmaehfmigaaGreatDoorTmMk
namespace Go.Proofs.YtnonfmaehfmigaaGreatDoor
open Go.RowKit

mutual
/-- No node has more parts than an append bears. -/
def tWid : Tm → Prop
  | .mk _ _ _ l => l.length ≤ 1000000 ∧ tWids l
def tWids : List Tm → Prop
  | [] => True
  | a :: l => tWid a ∧ tWids l
end
theorem tWids_mem : ∀ {l : List Tm}, tWids l → ∀ {a : Tm}, a ∈ l → tWid a
  | [], _, a, h => absurd h (by simp)
  | b :: l, h, a, ha => by
    rw [tWids] at h
    rcases List.mem_cons.1 ha with rfl | ha
    · exact h.1
    · exact tWids_mem h.2 ha
theorem tWids_all : ∀ {l : List Tm}, (∀ a ∈ l, tWid a) → tWids l
  | [], _ => by rw [tWids]; trivial
  | b :: l, h => by rw [tWids]; exact ⟨h b (by simp), tWids_all fun a ha => h a (by simp [ha])⟩
theorem tWid_of_size {t : Tm} : tSize t ≤ 1000000 → tWid t := by
  induction t using Tm.ind_ with
  | h k n s l ih =>
    intro h
    rw [tSize] at h
    rw [tWid]
    refine ⟨by have := tSizes_len l; omega, tWids_all fun a ha => ih a ha (by have := tSizes_mem ha; omega)⟩
theorem tWid_of_right {t : Tm} : tRight t = true → tWid t := by
  induction t using Tm.ind_ with
  | h k n s l ih =>
    intro h
    rw [tRight, Bool.and_eq_true] at h
    obtain ⟨h1, h⟩ := h
    rw [tWid]
    refine ⟨?_, tWids_all fun a ha => ih a ha ((tRights_all l).1 h1 a ha)⟩
    split at h
    · simp only [Bool.and_eq_true, decide_eq_true_eq] at h; omega
    · split at h
      · simp only [Bool.and_eq_true, decide_eq_true_eq] at h; omega
      · split at h
        · simp only [Bool.and_eq_true, decide_eq_true_eq] at h; omega
        · split at h
          · simp only [Bool.and_eq_true, decide_eq_true_eq] at h; omega
          · cases h

set_option maxRecDepth 100000 in
set_option maxHeartbeats 1600000 in
theorem tmToW_any (t : Tm) : ∀ (v : TV) (w : World), Tr w (fun _ => True) t v → tWid t → Calls Tryz.prog 11 #[tvV v] w (TDone [] (fun b => w.heap.size ≤ b) w t) := by
  induction t using Tm.ind_ with
  | h k n s l ih =>
    intro v w ht hsz
    cases ht with
    | mk _ _ _ _ A c vs hl hR hS hc hz hk =>
    rw [tWid] at hsz
    have HT : Hid (Trs w (fun _ => True) l vs) := ⟨hl, hk⟩
    have HR := Lib.hid hR
    have HI := Lib.hid ih
    have HZ := Lib.hid hz.1
    obtain ⟨m, hm⟩ : ∃ m, l.length = m := ⟨_, rfl⟩
    have HM := Lib.hid hm
    have hmb : m ≤ 1000000 := by rw [← hm]; exact hsz.1
    have HSZ : Hid (∀ a ∈ l, tWid a) := fun a ha => tWids_mem hsz.2 ha
    clear hl hR hS hc hz hk ih hsz
    unfold tvV
    simp only [hm]
    clear hm
    have hbx : Blk (w.alloc (.cells #[.int .i64 k, .int .i64 n, .string s, .slice A m c] 24)) w.heap.size 24 #[.int .i64 k, .int .i64 n, .string s, .slice A m c] := Blk.new _ _ _
    have hrb : Blk ((w.alloc (.cells #[.int .i64 k, .int .i64 n, .string s, .slice A m c] 24)).alloc (.cells #[.int .i64 0, .int .i64 0, .string ⟨#[]⟩, .slice none 0 0] 40)) (w.heap.size + 1) 40 #[.int .i64 0, .int .i64 0, .string ⟨#[]⟩, .slice none 0 0] := Blk.newAt _ _ (by simp)
    have hK : Keeps w (((w.alloc (.cells #[.int .i64 k, .int .i64 n, .string s, .slice A m c] 24)).alloc (.cells #[.int .i64 0, .int .i64 0, .string ⟨#[]⟩, .slice none 0 0] 40)).alloc (.cells #[.int .i64 k, .int .i64 n, .string s, .slice none 0 0] 40)) [] := (((Keeps.refl w []).alloc _).alloc _).alloc _
    obtain ⟨g, hg⟩ : ∃ g, w.heap.size + 1 + 1 = g := ⟨_, rfl⟩
    have hst : TSt 40 (fun b => w.heap.size ≤ b) w (((w.alloc (.cells #[.int .i64 k, .int .i64 n, .string s, .slice A m c] 24)).alloc (.cells #[.int .i64 0, .int .i64 0, .string ⟨#[]⟩, .slice none 0 0] 40)).alloc (.cells #[.int .i64 k, .int .i64 n, .string s, .slice none 0 0] 40)) [] [(w.heap.size, 24, #[.int .i64 k, .int .i64 n, .string s, .slice A m c]), (w.heap.size + 1, 40, #[.int .i64 0, .int .i64 0, .string ⟨#[]⟩, .slice none 0 0])] g k n s [] [] none 0 0 :=
      TSt.start (by
        intro x hx
        simp only [List.mem_cons, List.not_mem_nil, or_false] at hx
        rcases hx with rfl | rfl
        · exact ⟨(hbx.alloc _).alloc _, by simp; omega⟩
        · exact ⟨hrb.alloc _, by simp; omega⟩) (Blk.newAt _ _ (by simp; omega)) hK (by omega) (fun b h => h) HZ.out
    have HST := Lib.hid hst
    clear hbx hrb hK hst
    go_enter Tryz.func11, Tryz.ntmps11
    go_wp2_with fail
    go_loopw [4] (fun i wr => ∃ j : Nat, j ≤ m ∧ i = .int .i64 j ∧ ∃ A2 c2 us, TSt 40 (fun b => w.heap.size ≤ b) w wr [] [(w.heap.size, 24, #[.int .i64 k, .int .i64 n, .string s, .slice A m c]), (w.heap.size + 1, 40, #[.int .i64 0, .int .i64 0, .string ⟨#[]⟩, .slice none 0 0])] g k n s (l.take j) us A2 j c2) (fun i _ => m - (intOf i).toNat)
    case atStart => exact ⟨0, Nat.zero_le _, rfl, none, 0, [], HST.out⟩
    case round =>
      obtain ⟨j, hj, rfl, A2, c2, us, st⟩ := hrel
      have HS := Lib.hid st
      have e1 := (st.fix _ (List.mem_cons_self ..)).1.cell 3
      have e2 := st.out.cell 3
      clear st HST
      by_cases hlt : j < m
      · obtain ⟨a, hx⟩ := at_of HM.out hlt
        have HX := Lib.hid hx
        have ha := List.mem_of_getElem? hx
        obtain ⟨v', b, off, _, htr, rfl, hb, p0, p1, p2, p3⟩ := HT.out.get HR.out hx
        have HC : Hid (∀ w', Keeps w w' [] → Calls Tryz.prog 11 #[.agg #[.int .i64 v'.k, .int .i64 v'.n, .string v'.s, .slice v'.A v'.len v'.c]] w' (TDone [] (fun b => w'.heap.size ≤ b) w' a)) := fun w' kk => HI.out a ha v' w' (htr.keep kk) (HSZ.out a ha)
        clear htr hx ha
        have HW : Hid (∀ W', Keeps wr W' (ownL (.slice A2 j c2)) → W'.frozen? ⟨g, 3, none⟩ = false ∧ W'.cell? ⟨g, 3, none⟩ = some (.slice A2 j c2) ∧ W'.cell? ⟨w.heap.size, 3, none⟩ = some (.slice (some ⟨b, off, none⟩) m c) ∧ W'.cell? ⟨b, off + j * 4, none⟩ = some (.int .i64 v'.k) ∧ W'.cell? ⟨b, off + j * 4 + 1, none⟩ = some (.int .i64 v'.n) ∧ W'.cell? ⟨b, off + j * 4 + 2, none⟩ = some (.string v'.s) ∧ W'.cell? ⟨b, off + j * 4 + 3, none⟩ = some (.slice v'.A v'.len v'.c)) := fun W' kk =>
          have kc : ∀ i x, w.cell? ⟨b, i, none⟩ = some x → W'.cell? ⟨b, i, none⟩ = some x := fun i x hx => ((kk.cell (p := ⟨b, i, none⟩) (Nat.lt_of_lt_of_le hb HS.out.keep.size) (own_out HS.out.row hb)).trans (HS.out.keep.cell0 hb)).trans hx
          ⟨(HS.out.out.keep kk HS.out.low.2.1).frozen 3, (HS.out.out.keep kk HS.out.low.2.1).cell 3, ((HS.out.fix _ (List.mem_cons_self ..)).1.keep kk (HS.out.fix _ (List.mem_cons_self ..)).2.1).cell 3, kc _ _ p0, kc _ _ p1, kc _ _ p2, kc _ _ p3⟩
        obtain ⟨q0, q1, q2, q3, q4, q5, q6⟩ := HW.out wr (Keeps.refl _ _)
        clear e1 e2 p0 p1 p2 p3
        have b0 : (0 : Int) ≤ (j : Int) := Int.natCast_nonneg _
        have b1 : (j : Int) < (m : Int) := by omega
        go_wp2_with fail
        refine wp_region_tx (fun W' => W'.frozen? ⟨g, 3, none⟩ = false ∧ W'.cell? ⟨g, 3, none⟩ = some (.slice A2 j c2) ∧ W'.cell? ⟨w.heap.size, 3, none⟩ = some (.slice (some ⟨b, off, none⟩) m c) ∧ W'.cell? ⟨b, off + j * 4, none⟩ = some (.int .i64 v'.k) ∧ W'.cell? ⟨b, off + j * 4 + 1, none⟩ = some (.int .i64 v'.n) ∧ W'.cell? ⟨b, off + j * 4 + 2, none⟩ = some (.string v'.s) ∧ W'.cell? ⟨b, off + j * 4 + 3, none⟩ = some (.slice v'.A v'.len v'.c)) [(0, true), (1, true), (2, true), (3, true), (4, true), (5, true), (6, true), (7, false), (8, false), (9, false), (10, true), (11, false)] (by kernel_rfl) (by kernel_rfl) (HW.out _ ((Keeps.refl _ _).drew)) (fun hHeld => ?_)
        (repeat (first | (refine wpTx_take (v := ?_) rfl (by assumption) ?_ (by rfl) ?_; rotate_left; (focus (intro w' hSw; (try dsimp only at hSw); go_simp; (try with_reducible rfl); done)); simp only [Act.put, List.setIfInBounds_toArray, List.set_cons_zero, List.set_cons_succ]) | (refine wpTx_skip rfl (by assumption) (by rfl) ?_; simp only [Act.put, List.setIfInBounds_toArray, List.set_cons_zero, List.set_cons_succ])))
        refine wpTx_go rfl (fun K hK => ?_)
        go_simp
        refine (HC.out _ (HS.out.keep.drew)).mono ?_
        rintro e w3 ⟨u, rfl, hu, k3⟩
        have HU : Hid (Tr w3 (fun b => wr.heap.size ≤ b) a u) := hu
        unfold tvV
        clear hu
        refine hK.out _ _ ?_ ?_
        · exact HW.out _ (((Keeps.refl _ []).drew.trans k3).to_ _)
        (clear hHeld; intro hHeld; clear hK K; (try simp only [Act.put, List.setIfInBounds_toArray, List.set_cons_zero, List.set_cons_succ]))
        refine wpTx_go rfl (fun K hK => ?_)
        go_simp
        refine hK.out _ _ ?_ ?_
        · exact HW.out _ ((((Keeps.refl _ []).drew.trans k3).alloc _).to_ _)
        (clear hHeld; intro hHeld; clear hK K; (try simp only [Act.put, List.setIfInBounds_toArray, List.set_cons_zero, List.set_cons_succ]))
        refine wpTx_go rfl (fun K hK => ?_)
        refine step_app _ el_pterm (by rfl) _ _ (by rfl) w.heap.size A2 j c2 (us.flatMap tvE) (by rfl) (own_keep0 HS.out.row (((Keeps.refl _ []).drew.trans k3).alloc _)) (some ⟨w3.heap.size, 0, none⟩) 1 1 (tvE u) (by rfl) (Rd.one w3 _ (tvE u)) rfl (by simp) (by simp [tvE, Value.oneCell']) (by omega) (by simp; have := HS.out.keep.size; have := k3.size; simp at this; omega) ?_
        intro A' c' w2 hown hgrow hat
        refine hK.out _ _ ?_ ?_
        · exact HW.out _ (((Keeps.refl _ []).drew.trans k3).alloc _ |>.rest (Keeps.ofGrown hgrow))
        (clear hHeld; intro hHeld; clear hK K; (try simp only [Act.put, List.setIfInBounds_toArray, List.set_cons_zero, List.set_cons_succ]))
        (repeat (first | (refine wpTx_take (v := ?_) rfl (by assumption) ?_ (by rfl) ?_; rotate_left; (focus (intro w' hSw; (try dsimp only at hSw); go_simp; (try with_reducible rfl); done)); simp only [Act.put, List.setIfInBounds_toArray, List.set_cons_zero, List.set_cons_succ]) | (refine wpTx_skip rfl (by assumption) (by rfl) ?_; simp only [Act.put, List.setIfInBounds_toArray, List.set_cons_zero, List.set_cons_succ])))
        refine wpTx_last rfl (fun K hK => ?_)
        go_simp
        refine hK.out _ _ (NoPanic.normal ?_); clear hK K; (try simp only [Act.put, List.setIfInBounds_toArray, List.set_cons_zero, List.set_cons_succ])
        go_wp2_with fail
        go_roundw
        case rel =>
          have hs := HS.out.step (((Keeps.refl _ []).drew.trans k3).alloc _) (HS.out.fresh ((HU.out).keep ((Keeps.refl _ []).alloc _))) hown hgrow hat
          rw [show l.take j ++ [a] = l.take (j + 1) by rw [List.take_add_one, HX.out]; rfl] at hs
          exact ⟨j + 1, by omega, by go_num, A', c', _, hs⟩
        case measure => simp [intOf]; omega
      · obtain rfl : m = j := by omega
        have hd := HS.out.done (by omega)
        rw [show l.take m = l by rw [← HM.out, List.take_length]] at hd
        have hr := (HS.out.fix (w.heap.size + 1, 40, #[.int .i64 0, .int .i64 0, .string ⟨#[]⟩, .slice none 0 0]) (by simp)).1
        have d0 := HS.out.out.cell 0
        have d1 := HS.out.out.cell 1
        have d2 := HS.out.out.cell 2
        have r0 := hr.cell 0
        have r1 := hr.cell 1
        have r2 := hr.cell 2
        have r3 := hr.cell 3
        have f0 := hr.frozen 0
        have f1 := hr.frozen 1
        have f2 := hr.frozen 2
        have f3 := hr.frozen 3
        have HD := Lib.hid ((hd.mono (S' := fun b => w.heap.size ≤ b ∧ b ≠ w.heap.size + 1) fun b hb => ⟨hb.1, hb.2.2 (w.heap.size + 1, 40, #[.int .i64 0, .int .i64 0, .string ⟨#[]⟩, .slice none 0 0]) (by simp)⟩).end4 (.int .i64 k) (.int .i64 n) (.string s) (.slice A2 m c2) HS.out.keep (by omega))
        clear hd hr hlt hj
        go_wp2_with fail
        exact bodyPost_ret (v := .agg #[.int .i64 k, .int .i64 n, .string s, .slice A2 m c2]) (by simp [results, Tryz.results11, go_sem, *]) rfl HD.out
theorem tmTo_any (t : Tm) : ∀ (v : TV) (w : World), Tr w (fun _ => True) t v → tSize t ≤ 1000000 → Calls Tryz.prog 11 #[tvV v] w (TDone [] (fun b => w.heap.size ≤ b) w t) := fun v w h hs => tmToW_any t v w h (tWid_of_size hs)

set_option maxRecDepth 100000 in
set_option maxHeartbeats 1600000 in
theorem tmFromW_any (t : Tm) : ∀ (v : TV) (w : World), Tr w (fun _ => True) t v → tWid t → Calls Tryz.prog 14 #[tvV v] w (TDone [] (fun b => w.heap.size ≤ b) w t) := by
  induction t using Tm.ind_ with
  | h k n s l ih =>
    intro v w ht hsz
    cases ht with
    | mk _ _ _ _ A c vs hl hR hS hc hz hk =>
    rw [tWid] at hsz
    have HT : Hid (Trs w (fun _ => True) l vs) := ⟨hl, hk⟩
    have HR := Lib.hid hR
    have HI := Lib.hid ih
    have HZ := Lib.hid hz.1
    obtain ⟨m, hm⟩ : ∃ m, l.length = m := ⟨_, rfl⟩
    have HM := Lib.hid hm
    have hmb : m ≤ 1000000 := by rw [← hm]; exact hsz.1
    have HSZ : Hid (∀ a ∈ l, tWid a) := fun a ha => tWids_mem hsz.2 ha
    clear hl hR hS hc hz hk ih hsz
    unfold tvV
    simp only [hm]
    clear hm
    have hbx : Blk (w.alloc (.cells #[.int .i64 k, .int .i64 n, .string s, .slice A m c] 40)) w.heap.size 40 #[.int .i64 k, .int .i64 n, .string s, .slice A m c] := Blk.new _ _ _
    have hrb : Blk ((w.alloc (.cells #[.int .i64 k, .int .i64 n, .string s, .slice A m c] 40)).alloc (.cells #[.int .i64 0, .int .i64 0, .string ⟨#[]⟩, .slice none 0 0] 24)) (w.heap.size + 1) 24 #[.int .i64 0, .int .i64 0, .string ⟨#[]⟩, .slice none 0 0] := Blk.newAt _ _ (by simp)
    have hK : Keeps w (((w.alloc (.cells #[.int .i64 k, .int .i64 n, .string s, .slice A m c] 40)).alloc (.cells #[.int .i64 0, .int .i64 0, .string ⟨#[]⟩, .slice none 0 0] 24)).alloc (.cells #[.int .i64 k, .int .i64 n, .string s, .slice none 0 0] 24)) [] := (((Keeps.refl w []).alloc _).alloc _).alloc _
    obtain ⟨g, hg⟩ : ∃ g, w.heap.size + 1 + 1 = g := ⟨_, rfl⟩
    have hst : TSt 24 (fun b => w.heap.size ≤ b) w (((w.alloc (.cells #[.int .i64 k, .int .i64 n, .string s, .slice A m c] 40)).alloc (.cells #[.int .i64 0, .int .i64 0, .string ⟨#[]⟩, .slice none 0 0] 24)).alloc (.cells #[.int .i64 k, .int .i64 n, .string s, .slice none 0 0] 24)) [] [(w.heap.size, 40, #[.int .i64 k, .int .i64 n, .string s, .slice A m c]), (w.heap.size + 1, 24, #[.int .i64 0, .int .i64 0, .string ⟨#[]⟩, .slice none 0 0])] g k n s [] [] none 0 0 :=
      TSt.start (by
        intro x hx
        simp only [List.mem_cons, List.not_mem_nil, or_false] at hx
        rcases hx with rfl | rfl
        · exact ⟨(hbx.alloc _).alloc _, by simp; omega⟩
        · exact ⟨hrb.alloc _, by simp; omega⟩) (Blk.newAt _ _ (by simp; omega)) hK (by omega) (fun b h => h) HZ.out
    have HST := Lib.hid hst
    clear hbx hrb hK hst
    go_enter Tryz.func14, Tryz.ntmps14
    go_wp2_with fail
    go_loopw [4] (fun i wr => ∃ j : Nat, j ≤ m ∧ i = .int .i64 j ∧ ∃ A2 c2 us, TSt 24 (fun b => w.heap.size ≤ b) w wr [] [(w.heap.size, 40, #[.int .i64 k, .int .i64 n, .string s, .slice A m c]), (w.heap.size + 1, 24, #[.int .i64 0, .int .i64 0, .string ⟨#[]⟩, .slice none 0 0])] g k n s (l.take j) us A2 j c2) (fun i _ => m - (intOf i).toNat)
    case atStart => exact ⟨0, Nat.zero_le _, rfl, none, 0, [], HST.out⟩
    case round =>
      obtain ⟨j, hj, rfl, A2, c2, us, st⟩ := hrel
      have HS := Lib.hid st
      have e1 := (st.fix _ (List.mem_cons_self ..)).1.cell 3
      have e2 := st.out.cell 3
      clear st HST
      by_cases hlt : j < m
      · obtain ⟨a, hx⟩ := at_of HM.out hlt
        have HX := Lib.hid hx
        have ha := List.mem_of_getElem? hx
        obtain ⟨v', b, off, _, htr, rfl, hb, p0, p1, p2, p3⟩ := HT.out.get HR.out hx
        have HC : Hid (∀ w', Keeps w w' [] → Calls Tryz.prog 14 #[.agg #[.int .i64 v'.k, .int .i64 v'.n, .string v'.s, .slice v'.A v'.len v'.c]] w' (TDone [] (fun b => w'.heap.size ≤ b) w' a)) := fun w' kk => HI.out a ha v' w' (htr.keep kk) (HSZ.out a ha)
        clear htr hx ha
        have HW : Hid (∀ W', Keeps wr W' (ownL (.slice A2 j c2)) → W'.frozen? ⟨g, 3, none⟩ = false ∧ W'.cell? ⟨g, 3, none⟩ = some (.slice A2 j c2) ∧ W'.cell? ⟨w.heap.size, 3, none⟩ = some (.slice (some ⟨b, off, none⟩) m c) ∧ W'.cell? ⟨b, off + j * 4, none⟩ = some (.int .i64 v'.k) ∧ W'.cell? ⟨b, off + j * 4 + 1, none⟩ = some (.int .i64 v'.n) ∧ W'.cell? ⟨b, off + j * 4 + 2, none⟩ = some (.string v'.s) ∧ W'.cell? ⟨b, off + j * 4 + 3, none⟩ = some (.slice v'.A v'.len v'.c)) := fun W' kk =>
          have kc : ∀ i x, w.cell? ⟨b, i, none⟩ = some x → W'.cell? ⟨b, i, none⟩ = some x := fun i x hx => ((kk.cell (p := ⟨b, i, none⟩) (Nat.lt_of_lt_of_le hb HS.out.keep.size) (own_out HS.out.row hb)).trans (HS.out.keep.cell0 hb)).trans hx
          ⟨(HS.out.out.keep kk HS.out.low.2.1).frozen 3, (HS.out.out.keep kk HS.out.low.2.1).cell 3, ((HS.out.fix _ (List.mem_cons_self ..)).1.keep kk (HS.out.fix _ (List.mem_cons_self ..)).2.1).cell 3, kc _ _ p0, kc _ _ p1, kc _ _ p2, kc _ _ p3⟩
        obtain ⟨q0, q1, q2, q3, q4, q5, q6⟩ := HW.out wr (Keeps.refl _ _)
        clear e1 e2 p0 p1 p2 p3
        have b0 : (0 : Int) ≤ (j : Int) := Int.natCast_nonneg _
        have b1 : (j : Int) < (m : Int) := by omega
        go_wp2_with fail
        refine wp_region_tx (fun W' => W'.frozen? ⟨g, 3, none⟩ = false ∧ W'.cell? ⟨g, 3, none⟩ = some (.slice A2 j c2) ∧ W'.cell? ⟨w.heap.size, 3, none⟩ = some (.slice (some ⟨b, off, none⟩) m c) ∧ W'.cell? ⟨b, off + j * 4, none⟩ = some (.int .i64 v'.k) ∧ W'.cell? ⟨b, off + j * 4 + 1, none⟩ = some (.int .i64 v'.n) ∧ W'.cell? ⟨b, off + j * 4 + 2, none⟩ = some (.string v'.s) ∧ W'.cell? ⟨b, off + j * 4 + 3, none⟩ = some (.slice v'.A v'.len v'.c)) [(0, true), (1, true), (2, true), (3, true), (4, true), (5, true), (6, true), (7, false), (8, false), (9, false), (10, true), (11, false)] (by kernel_rfl) (by kernel_rfl) (HW.out _ ((Keeps.refl _ _).drew)) (fun hHeld => ?_)
        (repeat (first | (refine wpTx_take (v := ?_) rfl (by assumption) ?_ (by rfl) ?_; rotate_left; (focus (intro w' hSw; (try dsimp only at hSw); go_simp; (try with_reducible rfl); done)); simp only [Act.put, List.setIfInBounds_toArray, List.set_cons_zero, List.set_cons_succ]) | (refine wpTx_skip rfl (by assumption) (by rfl) ?_; simp only [Act.put, List.setIfInBounds_toArray, List.set_cons_zero, List.set_cons_succ])))
        refine wpTx_go rfl (fun K hK => ?_)
        go_simp
        refine (HC.out _ (HS.out.keep.drew)).mono ?_
        rintro e w3 ⟨u, rfl, hu, k3⟩
        have HU : Hid (Tr w3 (fun b => wr.heap.size ≤ b) a u) := hu
        unfold tvV
        clear hu
        refine hK.out _ _ ?_ ?_
        · exact HW.out _ (((Keeps.refl _ []).drew.trans k3).to_ _)
        (clear hHeld; intro hHeld; clear hK K; (try simp only [Act.put, List.setIfInBounds_toArray, List.set_cons_zero, List.set_cons_succ]))
        refine wpTx_go rfl (fun K hK => ?_)
        go_simp
        refine hK.out _ _ ?_ ?_
        · exact HW.out _ ((((Keeps.refl _ []).drew.trans k3).alloc _).to_ _)
        (clear hHeld; intro hHeld; clear hK K; (try simp only [Act.put, List.setIfInBounds_toArray, List.set_cons_zero, List.set_cons_succ]))
        refine wpTx_go rfl (fun K hK => ?_)
        refine step_app _ el_rterm (by rfl) _ _ (by rfl) w.heap.size A2 j c2 (us.flatMap tvE) (by rfl) (own_keep0 HS.out.row (((Keeps.refl _ []).drew.trans k3).alloc _)) (some ⟨w3.heap.size, 0, none⟩) 1 1 (tvE u) (by rfl) (Rd.one w3 _ (tvE u)) rfl (by simp) (by simp [tvE, Value.oneCell']) (by omega) (by simp; have := HS.out.keep.size; have := k3.size; simp at this; omega) ?_
        intro A' c' w2 hown hgrow hat
        refine hK.out _ _ ?_ ?_
        · exact HW.out _ (((Keeps.refl _ []).drew.trans k3).alloc _ |>.rest (Keeps.ofGrown hgrow))
        (clear hHeld; intro hHeld; clear hK K; (try simp only [Act.put, List.setIfInBounds_toArray, List.set_cons_zero, List.set_cons_succ]))
        (repeat (first | (refine wpTx_take (v := ?_) rfl (by assumption) ?_ (by rfl) ?_; rotate_left; (focus (intro w' hSw; (try dsimp only at hSw); go_simp; (try with_reducible rfl); done)); simp only [Act.put, List.setIfInBounds_toArray, List.set_cons_zero, List.set_cons_succ]) | (refine wpTx_skip rfl (by assumption) (by rfl) ?_; simp only [Act.put, List.setIfInBounds_toArray, List.set_cons_zero, List.set_cons_succ])))
        refine wpTx_last rfl (fun K hK => ?_)
        go_simp
        refine hK.out _ _ (NoPanic.normal ?_); clear hK K; (try simp only [Act.put, List.setIfInBounds_toArray, List.set_cons_zero, List.set_cons_succ])
        go_wp2_with fail
        go_roundw
        case rel =>
          have hs := HS.out.step (((Keeps.refl _ []).drew.trans k3).alloc _) (HS.out.fresh ((HU.out).keep ((Keeps.refl _ []).alloc _))) hown hgrow hat
          rw [show l.take j ++ [a] = l.take (j + 1) by rw [List.take_add_one, HX.out]; rfl] at hs
          exact ⟨j + 1, by omega, by go_num, A', c', _, hs⟩
        case measure => simp [intOf]; omega
      · obtain rfl : m = j := by omega
        have hd := HS.out.done (by omega)
        rw [show l.take m = l by rw [← HM.out, List.take_length]] at hd
        have hr := (HS.out.fix (w.heap.size + 1, 24, #[.int .i64 0, .int .i64 0, .string ⟨#[]⟩, .slice none 0 0]) (by simp)).1
        have d0 := HS.out.out.cell 0
        have d1 := HS.out.out.cell 1
        have d2 := HS.out.out.cell 2
        have r0 := hr.cell 0
        have r1 := hr.cell 1
        have r2 := hr.cell 2
        have r3 := hr.cell 3
        have f0 := hr.frozen 0
        have f1 := hr.frozen 1
        have f2 := hr.frozen 2
        have f3 := hr.frozen 3
        have HD := Lib.hid ((hd.mono (S' := fun b => w.heap.size ≤ b ∧ b ≠ w.heap.size + 1) fun b hb => ⟨hb.1, hb.2.2 (w.heap.size + 1, 24, #[.int .i64 0, .int .i64 0, .string ⟨#[]⟩, .slice none 0 0]) (by simp)⟩).end4 (.int .i64 k) (.int .i64 n) (.string s) (.slice A2 m c2) HS.out.keep (by omega))
        clear hd hr hlt hj
        go_wp2_with fail
        exact bodyPost_ret (v := .agg #[.int .i64 k, .int .i64 n, .string s, .slice A2 m c2]) (by simp [results, Tryz.results14, go_sem, *]) rfl HD.out
theorem tmFrom_any (t : Tm) : ∀ (v : TV) (w : World), Tr w (fun _ => True) t v → tSize t ≤ 1000000 → Calls Tryz.prog 14 #[tvV v] w (TDone [] (fun b => w.heap.size ≤ b) w t) := fun v w h hs => tmFromW_any t v w h (tWid_of_size hs)
end Go.Proofs.YtnonfmaehfmigaaGreatDoor
