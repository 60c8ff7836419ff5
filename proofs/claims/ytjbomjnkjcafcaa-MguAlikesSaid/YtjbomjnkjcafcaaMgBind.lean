import Derived.Test.YtjbomjnkjcafcaaMgOf
import Derived.Test.YtjbomjnkjcafcaaTmTo
import Derived.Test.YtjbomjnkjcafcaaTmVars
import Derived.Test.YtjbomjnkjcafcaaTmSame
/- What is put in: the program's apply. Printed by gen_mgapply.py. -/
namespace Go.Proofs.Ytjbomjnkjcafcaa
open Go.RowKit

theorem apD_node (s : Sbt) : ∀ (d : Nat) {k n : Int} {b : ByteArray} {l : List Tm}, k ≠ 0 → apD s d (.mk k n b l) = .mk k n b (l.map (apD s d))
  | 0, k, n, b, l, h => by rw [apD, tP, if_neg h, tPs_map]
  | d + 1, k, n, b, l, h => by rw [apD, tP, if_neg h, tPs_map]
theorem apD_none {s : Sbt} {n : Int} (h : sOf s n = none) : ∀ (d : Nat) {b : ByteArray} {l : List Tm}, apD s d (.mk 0 n b l) = .mk 0 n b l
  | 0, b, l => by rw [apD, tP, if_pos rfl]; rfl
  | d + 1, b, l => by rw [apD, tP, if_pos rfl, h]; rfl
theorem apD_zero (s : Sbt) (n : Int) (b : ByteArray) (l : List Tm) : apD s 0 (.mk 0 n b l) = .mk 0 n b l := by rw [apD, tP, if_pos rfl]; rfl
theorem apD_some {s : Sbt} {n : Int} {x : Tm} (h : sOf s n = some x) (d : Nat) (b : ByteArray) (l : List Tm) : apD s (d + 1) (.mk 0 n b l) = apD s d x := by rw [apD, tP, if_pos rfl, h]; rfl
/-- A part of old blocks, or of new ones. -/
theorem TSt.part {tg : TypeId} {S : Nat → Prop} {w wr : World} {L : List Nat} {F : List (Nat × TypeId × Array Value)} {g : Nat} {k n : Int} {s : ByteArray} {l : List Tm} {vs : List TV} {A : Option Addr} {j c : Nat} (st : TSt tg (fun b => S b ∨ w.heap.size ≤ b) w wr L F g k n s l vs A j c)
    (hS : ∀ b, S b → b < w.heap.size) (hF : ∀ x ∈ F, w.heap.size ≤ x.1) {W : World} {t : Tm} {v : TV} (h : Tr W (fun b => S b ∨ wr.heap.size ≤ b) t v) : Tr W (fun b => (S b ∨ w.heap.size ≤ b) ∧ b ≠ g ∧ (∀ x ∈ F, b ≠ x.1) ∧ b ∉ ownL (.slice A j c)) t v := by
  refine h.mono fun b hb => ?_
  rcases hb with hb | hb
  · have h1 := hS b hb
    refine ⟨.inl hb, ?_, fun x hx e => ?_, fun hm => ?_⟩
    · have := st.low.1; omega
    · have := hF x hx; omega
    · have := (own_lt st.row hm).1; omega
  · refine ⟨.inr (Nat.le_trans st.keep.size hb), fun e => ?_, fun x hx e => ?_, fun hm => ?_⟩
    · have := st.out.lt; omega
    · have := (st.fix x hx).1.lt; omega
    · have := (own_lt st.row hm).2; omega

set_option maxRecDepth 100000 in
set_option maxHeartbeats 3200000 in
theorem applyN_any (sb : Sbt) (SA : Option Addr) (sm sc : Nat) (d : Nat) (k n : Int) (s : ByteArray) (l : List Tm) (h0 : k ≠ 0) (v : TV) (w : World) (S : Nat → Prop) (hSl : ∀ b, S b → b < w.heap.size) (ht : Tr w S (.mk k n s l) v) (hw : tWid (.mk k n s l))
    (hC : ∀ a ∈ l, ∀ (v' : TV) w', Keeps w w' [] → Tr w' S a v' → Calls Try.prog 25 #[.slice SA sm sc, .agg #[.int .i64 v'.k, .int .i64 v'.n, .string v'.s, .slice v'.A v'.len v'.c], .int .i64 d] w' (ApDone S w' (apD sb d a))) : Calls Try.prog 25 #[.slice SA sm sc, tvV v, .int .i64 d] w (ApDone S w (apD sb d (.mk k n s l))) := by
  cases ht with
  | mk _ _ _ _ A c vs hl hR hS hc hz hk =>
    rw [tWid] at hw
    rw [apD_node sb d h0]
    have HT : Hid (Trs w S l vs) := ⟨hl, hk⟩
    have HR := Lib.hid hR
    have HCall := Lib.hid hC
    have HZ := Lib.hid hz.1
    have HSl := Lib.hid hSl
    obtain ⟨m, hm⟩ : ∃ m, l.length = m := ⟨_, rfl⟩
    have HM := Lib.hid hm
    have hmb : m ≤ 1000000 := by rw [← hm]; exact hw.1
    have e0 : (k == 0) = false := by simpa using h0
    clear hl hR hS hc hz hk hC hw hSl
    unfold tvV
    simp only [hm]
    clear hm
    have hbx : Blk (w.alloc (.cells #[.int .i64 k, .int .i64 n, .string s, .slice A m c] 30)) w.heap.size 30 #[.int .i64 k, .int .i64 n, .string s, .slice A m c] := Blk.new _ _ _
    have hrb : Blk ((w.alloc (.cells #[.int .i64 k, .int .i64 n, .string s, .slice A m c] 30)).alloc (.cells #[.int .i64 0, .int .i64 0, .string ⟨#[]⟩, .slice none 0 0] 30)) (w.heap.size + 1) 30 #[.int .i64 0, .int .i64 0, .string ⟨#[]⟩, .slice none 0 0] := Blk.newAt _ _ (by simp)
    have hK : Keeps w (((w.alloc (.cells #[.int .i64 k, .int .i64 n, .string s, .slice A m c] 30)).alloc (.cells #[.int .i64 0, .int .i64 0, .string ⟨#[]⟩, .slice none 0 0] 30)).alloc (.cells #[.int .i64 k, .int .i64 n, .string s, .slice none 0 0] 30)) [] := (((Keeps.refl w []).alloc _).alloc _).alloc _
    obtain ⟨g, hg⟩ : ∃ g, w.heap.size + 1 + 1 = g := ⟨_, rfl⟩
    have hst : TSt 30 (fun b => S b ∨ w.heap.size ≤ b) w (((w.alloc (.cells #[.int .i64 k, .int .i64 n, .string s, .slice A m c] 30)).alloc (.cells #[.int .i64 0, .int .i64 0, .string ⟨#[]⟩, .slice none 0 0] 30)).alloc (.cells #[.int .i64 k, .int .i64 n, .string s, .slice none 0 0] 30)) [] [(w.heap.size, 30, #[.int .i64 k, .int .i64 n, .string s, .slice A m c]), (w.heap.size + 1, 30, #[.int .i64 0, .int .i64 0, .string ⟨#[]⟩, .slice none 0 0])] g k n s [] [] none 0 0 :=
      TSt.start (by
        intro x hx
        simp only [List.mem_cons, List.not_mem_nil, or_false] at hx
        rcases hx with rfl | rfl
        · exact ⟨(hbx.alloc _).alloc _, by simp; omega⟩
        · exact ⟨hrb.alloc _, by simp; omega⟩) (Blk.newAt _ _ (by simp; omega)) hK (by omega) (fun b h => .inr h) HZ.out
    have HST := Lib.hid hst
    clear hbx hrb hK hst
    have e3 := (HST.out.fix _ (List.mem_cons_self ..)).1.cell 3
    go_enter Try.func25, Try.ntmps25
    go_wp2_with fail
    clear e3
    go_loopw [44] (fun i wr => ∃ j : Nat, j ≤ m ∧ i = .int .i64 j ∧ ∃ A2 c2 us, TSt 30 (fun b => S b ∨ w.heap.size ≤ b) w wr [] [(w.heap.size, 30, #[.int .i64 k, .int .i64 n, .string s, .slice A m c]), (w.heap.size + 1, 30, #[.int .i64 0, .int .i64 0, .string ⟨#[]⟩, .slice none 0 0])] g k n s ((l.take j).map (apD sb d)) us A2 j c2) (fun i _ => m - (intOf i).toNat)
    case atStart => exact ⟨0, Nat.zero_le _, rfl, none, 0, [], HST.out⟩
    case round =>
      obtain ⟨j, hj, rfl, A2, c2, us, st⟩ := hrel
      have HS := Lib.hid st
      clear st HST
      by_cases hlt : j < m
      · obtain ⟨a, hx⟩ := at_of HM.out hlt
        have HX := Lib.hid hx
        have ha := List.mem_of_getElem? hx
        obtain ⟨v', b, off, _, htr, rfl, hb, p0, p1, p2, p3⟩ := HT.out.get HR.out hx
        have HC : Hid (∀ w', Keeps w w' [] → Calls Try.prog 25 #[.slice SA sm sc, .agg #[.int .i64 v'.k, .int .i64 v'.n, .string v'.s, .slice v'.A v'.len v'.c], .int .i64 d] w' (ApDone S w' (apD sb d a))) := fun w' kk => HCall.out a ha v' w' kk (htr.keep kk)
        clear htr hx ha
        replace p0 := (HS.out.keep.cell0 hb).trans p0
        replace p1 := (HS.out.keep.cell0 hb).trans p1
        replace p2 := (HS.out.keep.cell0 hb).trans p2
        replace p3 := (HS.out.keep.cell0 hb).trans p3
        have b0 : (0 : Int) ≤ (j : Int) := Int.natCast_nonneg _
        have b1 : (j : Int) < (m : Int) := by omega
        go_wp2_with fail
        have ka : Keeps wr (wr.alloc (.cells #[.int .i64 v'.k, .int .i64 v'.n, .string v'.s, .slice v'.A v'.len v'.c] 30)) [] := (Keeps.refl wr []).alloc _
        have HE : Hid (Blk (wr.alloc (.cells #[.int .i64 v'.k, .int .i64 v'.n, .string v'.s, .slice v'.A v'.len v'.c] 30)) wr.heap.size 30 #[.int .i64 v'.k, .int .i64 v'.n, .string v'.s, .slice v'.A v'.len v'.c]) := Blk.new _ _ _
        have HS1 := Lib.hid (HS.out.keep0 ka)
        generalize wr.alloc (.cells #[.int .i64 v'.k, .int .i64 v'.n, .string v'.s, .slice v'.A v'.len v'.c] 30) = wa at *
        have heb := HE.out.lt
        have hno : wr.heap.size ∉ ownL (.slice A2 j c2) := fun hm => by have := (own_lt HS.out.row hm).2; omega
        generalize wr.heap.size = eb at *
        have HW : Hid (∀ W', Keeps wa W' (ownL (.slice A2 j c2)) → W'.frozen? ⟨g, 3, none⟩ = false ∧ W'.cell? ⟨g, 3, none⟩ = some (.slice A2 j c2) ∧ W'.cell? ⟨eb, 0, none⟩ = some (.int .i64 v'.k) ∧ W'.cell? ⟨eb, 1, none⟩ = some (.int .i64 v'.n) ∧ W'.cell? ⟨eb, 2, none⟩ = some (.string v'.s) ∧ W'.cell? ⟨eb, 3, none⟩ = some (.slice v'.A v'.len v'.c)) := fun W' kk =>
          have e := HE.out.keep kk hno
          ⟨(HS1.out.out.keep kk HS1.out.low.2.1).frozen 3, (HS1.out.out.keep kk HS1.out.low.2.1).cell 3, e.cell 0, e.cell 1, e.cell 2, e.cell 3⟩
        obtain ⟨q0, q1, q2, q3, q4, q5⟩ := HW.out wa (Keeps.refl _ _)
        clear p0 p1 p2 p3 ka HE heb hno
        refine wp_region_tx (fun W' => W'.frozen? ⟨g, 3, none⟩ = false ∧ W'.cell? ⟨g, 3, none⟩ = some (.slice A2 j c2) ∧ W'.cell? ⟨eb, 0, none⟩ = some (.int .i64 v'.k) ∧ W'.cell? ⟨eb, 1, none⟩ = some (.int .i64 v'.n) ∧ W'.cell? ⟨eb, 2, none⟩ = some (.string v'.s) ∧ W'.cell? ⟨eb, 3, none⟩ = some (.slice v'.A v'.len v'.c)) [(0, true), (1, true), (2, true), (3, true), (4, true), (5, false), (6, false), (7, false), (8, true), (9, false)] (by kernel_rfl) (by kernel_rfl) (HW.out _ ((Keeps.refl _ _).drew)) (fun hHeld => ?_)
        (repeat (first | (refine wpTx_take (v := ?_) rfl (by assumption) ?_ (by rfl) ?_; rotate_left; (focus (intro w' hSw; (try dsimp only at hSw); go_simp; (try with_reducible rfl); done)); simp only [Act.put, List.setIfInBounds_toArray, List.set_cons_zero, List.set_cons_succ]) | (refine wpTx_skip rfl (by assumption) (by rfl) ?_; simp only [Act.put, List.setIfInBounds_toArray, List.set_cons_zero, List.set_cons_succ])))
        refine wpTx_go rfl (fun K hK => ?_)
        go_simp
        refine (HC.out _ (HS1.out.keep.drew)).mono ?_
        rintro e w3 ⟨u, rfl, hu, k3⟩
        have HU : Hid (Tr w3 (fun b => S b ∨ wa.heap.size ≤ b) ((apD sb d) a) u) := hu
        unfold tvV
        clear hu
        refine hK.out _ _ ?_ ?_
        · exact HW.out _ (((Keeps.refl _ []).drew.trans k3).to_ _)
        (clear hHeld; intro hHeld; clear hK K; (try simp only [Act.put, List.setIfInBounds_toArray, List.set_cons_zero, List.set_cons_succ]))
        refine wpTx_go rfl (fun K hK => ?_)
        go_simp
        refine hK.out _ _ ?_ ?_
        · exact HW.out _ ((((Keeps.refl _ []).drew.trans k3).alloc _).to_ _)
        (clear hHeld; intro hHeld; clear hK K; (try simp only [Act.put, List.setIfInBounds_toArray, List.set_cons_zero, List.set_cons_succ]))
        refine wpTx_go rfl (fun K hK => ?_)
        refine step_app _ el_pterm (by rfl) _ _ (by rfl) w.heap.size A2 j c2 (us.flatMap tvE) (by rfl) (own_keep0 HS1.out.row (((Keeps.refl _ []).drew.trans k3).alloc _)) (some ⟨w3.heap.size, 0, none⟩) 1 1 (tvE u) (by rfl) (Rd.one w3 _ (tvE u)) rfl (by simp) (by simp [tvE, Value.oneCell']) (by omega) (by simp; have := HS1.out.keep.size; have := k3.size; simp at this; omega) ?_
        intro A' c' w2 hown hgrow hat
        refine hK.out _ _ ?_ ?_
        · exact HW.out _ (((Keeps.refl _ []).drew.trans k3).alloc _ |>.rest (Keeps.ofGrown hgrow))
        (clear hHeld; intro hHeld; clear hK K; (try simp only [Act.put, List.setIfInBounds_toArray, List.set_cons_zero, List.set_cons_succ]))
        (repeat (first | (refine wpTx_take (v := ?_) rfl (by assumption) ?_ (by rfl) ?_; rotate_left; (focus (intro w' hSw; (try dsimp only at hSw); go_simp; (try with_reducible rfl); done)); simp only [Act.put, List.setIfInBounds_toArray, List.set_cons_zero, List.set_cons_succ]) | (refine wpTx_skip rfl (by assumption) (by rfl) ?_; simp only [Act.put, List.setIfInBounds_toArray, List.set_cons_zero, List.set_cons_succ])))
        refine wpTx_last rfl (fun K hK => ?_)
        go_simp
        refine hK.out _ _ (NoPanic.normal ?_); clear hK K; (try simp only [Act.put, List.setIfInBounds_toArray, List.set_cons_zero, List.set_cons_succ])
        go_wp2_with fail
        go_roundw
        case rel =>
          have hs := HS1.out.step (((Keeps.refl _ []).drew.trans k3).alloc _) (HS1.out.part HSl.out (by simp) ((HU.out).keep ((Keeps.refl _ []).alloc _))) hown hgrow hat
          rw [show (l.take j).map (apD sb d) ++ [(apD sb d) a] = (l.take (j + 1)).map (apD sb d) by rw [List.take_add_one, HX.out, List.map_append]; rfl] at hs
          exact ⟨j + 1, by omega, by go_num, A', c', _, hs⟩
        case measure => simp [intOf]; omega
      · obtain rfl : m = j := by omega
        have hd := HS.out.done (by omega)
        rw [show (l.take m).map (apD sb d) = l.map (apD sb d) by rw [← HM.out, List.take_length]] at hd
        have hr := (HS.out.fix (w.heap.size + 1, 30, #[.int .i64 0, .int .i64 0, .string ⟨#[]⟩, .slice none 0 0]) (by simp)).1
        have d0 := HS.out.out.cell 0
        have d1 := HS.out.out.cell 1
        have d2 := HS.out.out.cell 2
        have d3 := HS.out.out.cell 3
        have r0 := hr.cell 0
        have r1 := hr.cell 1
        have r2 := hr.cell 2
        have r3 := hr.cell 3
        have f0 := hr.frozen 0
        have f1 := hr.frozen 1
        have f2 := hr.frozen 2
        have f3 := hr.frozen 3
        have HD := Lib.hid ((hd.mono (S' := fun b => (S b ∨ w.heap.size ≤ b) ∧ b ≠ w.heap.size + 1) fun b hb => ⟨hb.1, hb.2.2 (w.heap.size + 1, 30, #[.int .i64 0, .int .i64 0, .string ⟨#[]⟩, .slice none 0 0]) (by simp)⟩).end4 (.int .i64 k) (.int .i64 n) (.string s) (.slice A2 m c2) HS.out.keep (by omega))
        clear hd hr hlt hj
        go_wp2_with fail
        exact bodyPost_ret (v := .agg #[.int .i64 k, .int .i64 n, .string s, .slice A2 m c2]) (by simp [results, Try.results25, go_sem, *]) rfl HD.out

end Go.Proofs.Ytjbomjnkjcafcaa

/- What is put in: the program's apply, whole; Apply. Printed by gen_mgapplyb.py. -/
namespace Go.Proofs.Ytjbomjnkjcafcaa
open Go.RowKit

theorem ApDone.end4 {w wr : World} {S : Nat → Prop} (hS : ∀ b, S b → b < w.heap.size) {t : Tm} {v : TV} {rb : Nat} (h : Tr wr (fun b => S b ∨ rb < b) t v) (hk : Keeps w wr []) (hb : w.heap.size ≤ rb) : ApDone S w t (.returned (tvV v)) (set4 wr rb (.int .i64 v.k) (.int .i64 v.n) (.string v.s) (.slice v.A v.len v.c)) :=
  ⟨v, rfl, (h.far4 (g := rb) (fun e => by rcases e with e | e; have := hS _ e; omega; omega) _ _ _ _).mono fun b hb' => hb'.imp id fun h => by omega, hk.put4 (.inr hb) _ _ _ _⟩
set_option maxRecDepth 100000 in
set_option maxHeartbeats 3200000 in
theorem applyV_any (sb : Sbt) (SA : Option Addr) (sm sc : Nat) (hsm : sb.length = sm) (hsb : sm ≤ 9223372036854775807) (d : Nat) (hd : d ≤ 4096) (n : Int) (s : ByteArray) (l : List Tm) (v : TV) (w : World) (S : Nat → Prop) (hSl : ∀ b, S b → b < w.heap.size) (ht : Tr w S (.mk 0 n s l) v) (hSub : Sub w S sb SA)
    (hC : ∀ x, sOf sb n = some x → ∀ d', d = d' + 1 → ∀ (v' : TV) w', Keeps w w' [] → Tr w' S x v' → Calls Try.prog 25 #[.slice SA sm sc, .agg #[.int .i64 v'.k, .int .i64 v'.n, .string v'.s, .slice v'.A v'.len v'.c], .int .i64 d'] w' (ApDone S w' (apD sb d' x))) : Calls Try.prog 25 #[.slice SA sm sc, tvV v, .int .i64 d] w (ApDone S w (apD sb d (.mk 0 n s l))) := by
  obtain ⟨hk, hn, hs, hlen, hc0, _⟩ := ht.inv
  obtain ⟨vk, vn, vs, A, m, c⟩ := v
  have hk' : 0 = vk := hk.symm
  have hn' : n = vn := hn.symm
  have hs' : s = vs := hs.symm
  subst hk' hn' hs'
  clear hk hn hs
  have HT := Lib.hid ht
  have HSl := Lib.hid hSl
  have HCall := Lib.hid hC
  have HSub := Lib.hid hSub
  have HM := Lib.hid hsm
  clear hlen hc0 ht hSl hC hSub hsm
  unfold tvV
  have hB : Blk ((w.alloc (.cells #[.int .i64 0, .int .i64 n, .string s, .slice A m c] 30)).alloc (.cells #[.int .i64 0, .int .i64 0, .string ⟨#[]⟩, .slice none 0 0] 30)) w.heap.size 30 #[.int .i64 0, .int .i64 n, .string s, .slice A m c] := (Blk.new _ _ _).alloc _
  have hR : Blk ((w.alloc (.cells #[.int .i64 0, .int .i64 n, .string s, .slice A m c] 30)).alloc (.cells #[.int .i64 0, .int .i64 0, .string ⟨#[]⟩, .slice none 0 0] 30)) (w.heap.size + 1) 30 #[.int .i64 0, .int .i64 0, .string ⟨#[]⟩, .slice none 0 0] := Blk.newAt _ _ (by simp)
  have hK : Keeps w ((w.alloc (.cells #[.int .i64 0, .int .i64 n, .string s, .slice A m c] 30)).alloc (.cells #[.int .i64 0, .int .i64 0, .string ⟨#[]⟩, .slice none 0 0] 30)) [] := ((Keeps.refl w []).alloc _).alloc _
  go_enter Try.func25, Try.ntmps25
  go_upto_region 2 with fail
  generalize ((w.alloc (.cells #[.int .i64 0, .int .i64 n, .string s, .slice A m c] 30)).alloc (.cells #[.int .i64 0, .int .i64 0, .string ⟨#[]⟩, .slice none 0 0] 30)) = w0 at hB hR hK ⊢
  have p1 := hB.cell 1
  have HB := Lib.hid hB
  have HR := Lib.hid hR
  have HK := Lib.hid hK
  have HO := Lib.hid (of_any n sb SA sm sc w0 S (HSub.out.keep hK) HM.out hsb)
  clear hB hR hK
  go_wp2_with fail
  refine HO.out.mono ?_
  rintro e w1 ⟨k1, (⟨rfl, h0⟩ | ⟨x, v', rfl, hx, htx⟩)⟩
  · have K2 : Keeps w0 (w1.alloc (.cells #[.int .i64 0, .int .i64 0, .string ⟨#[]⟩, .slice none 0 0] 30)) [] := k1.alloc _
    have hr := HR.out.keep K2 (by simp)
    have hq := HB.out.keep K2 (by simp)
    have HK2 := Lib.hid (HK.out.trans K2)
    have HE := Lib.hid (apD_none h0 d (b := s) (l := l))
    have hlt := HR.out.lt
    have hw1 := k1.size
    go_upto_region 3 with fail
    generalize w1.alloc (.cells #[.int .i64 0, .int .i64 0, .string ⟨#[]⟩, .slice none 0 0] 30) = w2 at K2 hr hq HK2 ⊢
    have HD := Lib.hid (ApDone.end4 (rb := w.heap.size + 1) HSl.out ((HT.out.keep HK2.out).mono fun b h => .inl h) HK2.out (by omega))
    have q0 := hq.cell 0
    have q1 := hq.cell 1
    have q2 := hq.cell 2
    have q3 := hq.cell 3
    have r0 := hr.cell 0
    have f0 := hr.frozen 0
    have r1 := hr.cell 1
    have f1 := hr.frozen 1
    have r2 := hr.cell 2
    have f2 := hr.frozen 2
    have r3 := hr.cell 3
    have f3 := hr.frozen 3
    clear hr hq K2 k1 h0 HO hlt hw1
    go_wp2_with fail
    exact bodyPost_ret (v := .agg #[.int .i64 0, .int .i64 n, .string s, .slice A m c]) (by simp [results, Try.results25, go_sem, *]) rfl (by rw [HE.out]; exact HD.out)
  · have K2 : Keeps w0 (w1.alloc (.cells #[.int .i64 v'.k, .int .i64 v'.n, .string v'.s, .slice v'.A v'.len v'.c] 30)) [] := k1.alloc _
    have hr := HR.out.keep K2 (by simp)
    have hq := HB.out.keep K2 (by simp)
    have hx2 : Blk (w1.alloc (.cells #[.int .i64 v'.k, .int .i64 v'.n, .string v'.s, .slice v'.A v'.len v'.c] 30)) w1.heap.size 30 #[.int .i64 v'.k, .int .i64 v'.n, .string v'.s, .slice v'.A v'.len v'.c] := Blk.new _ _ _
    have HK2 := Lib.hid (HK.out.trans K2)
    have HX := Lib.hid hx
    have HTX := Lib.hid (htx.keep ((Keeps.refl w1 []).alloc (.cells #[.int .i64 v'.k, .int .i64 v'.n, .string v'.s, .slice v'.A v'.len v'.c] 30)))
    have hlt := HR.out.lt
    have hw1 := k1.size
    go_upto_region 3 with fail
    generalize w1.alloc (.cells #[.int .i64 v'.k, .int .i64 v'.n, .string v'.s, .slice v'.A v'.len v'.c] 30) = w2 at K2 hr hq hx2 HK2 HTX ⊢
    cases d with
    | zero =>
      have HD := Lib.hid (ApDone.end4 (rb := w.heap.size + 1) HSl.out ((HT.out.keep HK2.out).mono fun b h => .inl h) HK2.out (by omega))
      have q0 := hq.cell 0
      have q1 := hq.cell 1
      have q2 := hq.cell 2
      have q3 := hq.cell 3
      have r0 := hr.cell 0
      have f0 := hr.frozen 0
      have r1 := hr.cell 1
      have f1 := hr.frozen 1
      have r2 := hr.cell 2
      have f2 := hr.frozen 2
      have r3 := hr.cell 3
      have f3 := hr.frozen 3
      clear hr hq K2 k1 hx htx HO hlt hw1 hx2
      go_wp2_with fail
      exact bodyPost_ret (v := .agg #[.int .i64 0, .int .i64 n, .string s, .slice A m c]) (by simp [results, Try.results25, go_sem, *]) rfl (by rw [apD_zero]; exact HD.out)
    | succ d =>
      have y0 := hx2.cell 0
      have y1 := hx2.cell 1
      have y2 := hx2.cell 2
      have y3 := hx2.cell 3
      have HC := Lib.hid (HCall.out x HX.out d rfl v' w2 HK2.out HTX.out)
      have HR2 := Lib.hid hr
      have HE := Lib.hid (apD_some hx d s l)
      have hw2 := hr.lt
      have b0 : ((d + 1 : Nat) : Int) = (d : Int) + 1 := by omega
      have b1 : ((d : Int) + 1 == 0) = false := by simpa using (show ¬ (d : Int) + 1 = 0 by omega)
      have b2 : wrap64 ((d : Int) + 1 - 1) = (d : Int) := by unfold wrap64; omega
      rw [b0]
      clear hr hq K2 k1 hx htx HO hlt hw1 hx2 b0
      go_wp2_with fail
      refine HC.out.mono ?_
      rintro e w3 ⟨u, rfl, hu, k3⟩
      have hr := HR2.out.keep k3 (by simp)
      have HD := Lib.hid (ApDone.end4 (w := w) (rb := w.heap.size + 1) HSl.out (hu.mono (S' := fun b => S b ∨ w.heap.size + 1 < b) fun b h => h.imp id fun h => by omega) (HK2.out.trans k3) (by omega))
      have r0 := hr.cell 0
      have f0 := hr.frozen 0
      have r1 := hr.cell 1
      have f1 := hr.frozen 1
      have r2 := hr.cell 2
      have f2 := hr.frozen 2
      have r3 := hr.cell 3
      have f3 := hr.frozen 3
      unfold tvV at HD ⊢
      clear hu k3 hr HC HR2
      go_wp2_with fail
      exact bodyPost_ret (v := .agg #[.int .i64 u.k, .int .i64 u.n, .string u.s, .slice u.A u.len u.c]) (by simp [results, Try.results25, go_sem, *]) rfl (by rw [HE.out]; exact HD.out)

/-- apply, of all trees. -/
theorem apply_any (sb : Sbt) (SA : Option Addr) (sm sc : Nat) (hsm : sb.length = sm) (hsb : sm ≤ 9223372036854775807) (hw : ∀ p ∈ sb, tWid p.2) : ∀ (d : Nat), d ≤ 4096 → ∀ (t : Tm) (v : TV) (w : World) (S : Nat → Prop), (∀ b, S b → b < w.heap.size) → Tr w S t v → tWid t → Sub w S sb SA →
    Calls Try.prog 25 #[.slice SA sm sc, tvV v, .int .i64 d] w (ApDone S w (apD sb d t)) := by
  intro d
  induction d with
  | zero =>
    intro hd t
    induction t using Tm.ind_ with
    | h k n s l ih =>
      intro v w S hSl ht hwt hS
      by_cases h0 : k = 0
      · subst h0
        exact applyV_any sb SA sm sc hsm hsb 0 hd n s l v w S hSl ht hS (fun x _ d' h => absurd h (by omega))
      · refine applyN_any sb SA sm sc 0 k n s l h0 v w S hSl ht hwt fun a ha v' w' k' ht' => ?_
        rw [tWid] at hwt
        exact ih a ha v' w' S (fun b hb => Nat.lt_of_lt_of_le (hSl b hb) k'.size) ht' (tWids_mem hwt.2 ha) (hS.keep k')
  | succ d ihd =>
    intro hd t
    induction t using Tm.ind_ with
    | h k n s l ih =>
      intro v w S hSl ht hwt hS
      by_cases h0 : k = 0
      · subst h0
        refine applyV_any sb SA sm sc hsm hsb (d + 1) hd n s l v w S hSl ht hS (fun x hx d' h v' w' k' ht' => ?_)
        obtain rfl : d' = d := by omega
        exact ihd (by omega) x v' w' S (fun b hb => Nat.lt_of_lt_of_le (hSl b hb) k'.size) ht' (hw _ (sOf_mem hx)) (hS.keep k')
      · refine applyN_any sb SA sm sc (d + 1) k n s l h0 v w S hSl ht hwt fun a ha v' w' k' ht' => ?_
        rw [tWid] at hwt
        exact ih a ha v' w' S (fun b hb => Nat.lt_of_lt_of_le (hSl b hb) k'.size) ht' (tWids_mem hwt.2 ha) (hS.keep k')

set_option maxHeartbeats 800000 in
theorem applyTop_any (sb : Sbt) (SA : Option Addr) (sm sc : Nat) (hsm : sb.length = sm) (hsb : sm ≤ 9223372036854775807) (hw : ∀ p ∈ sb, tWid p.2) (t : Tm) (v : TV) (w : World) (S : Nat → Prop) (hSl : ∀ b, S b → b < w.heap.size) (ht : Tr w S t v) (hwt : tWid t) (hS : Sub w S sb SA) :
    Calls Try.prog 10 #[.slice SA sm sc, tvV v] w (ApDone S w (apD sb deepest t)) := by
  obtain ⟨k, n, s, A, m, c⟩ := v
  have hB : Blk ((w.alloc (.cells #[.int .i64 k, .int .i64 n, .string s, .slice A m c] 30)).alloc (.cells #[.int .i64 0, .int .i64 0, .string ⟨#[]⟩, .slice none 0 0] 30)) w.heap.size 30 #[.int .i64 k, .int .i64 n, .string s, .slice A m c] := (Blk.new _ _ _).alloc _
  have hR : Blk ((w.alloc (.cells #[.int .i64 k, .int .i64 n, .string s, .slice A m c] 30)).alloc (.cells #[.int .i64 0, .int .i64 0, .string ⟨#[]⟩, .slice none 0 0] 30)) (w.heap.size + 1) 30 #[.int .i64 0, .int .i64 0, .string ⟨#[]⟩, .slice none 0 0] := Blk.newAt _ _ (by simp)
  have hK : Keeps w ((w.alloc (.cells #[.int .i64 k, .int .i64 n, .string s, .slice A m c] 30)).alloc (.cells #[.int .i64 0, .int .i64 0, .string ⟨#[]⟩, .slice none 0 0] 30)) [] := ((Keeps.refl w []).alloc _).alloc _
  have HSl := Lib.hid hSl
  have HT := Lib.hid ht
  have HS := Lib.hid hS
  have HW := Lib.hid hw
  have HWt := Lib.hid hwt
  have HM := Lib.hid hsm
  clear hSl ht hS hw hwt hsm
  unfold tvV
  go_enter Try.func10, Try.ntmps10
  go_upto_region 1 with fail
  generalize ((w.alloc (.cells #[.int .i64 k, .int .i64 n, .string s, .slice A m c] 30)).alloc (.cells #[.int .i64 0, .int .i64 0, .string ⟨#[]⟩, .slice none 0 0] 30)) = w0 at hB hR hK ⊢
  have q0 := hB.cell 0
  have q1 := hB.cell 1
  have q2 := hB.cell 2
  have q3 := hB.cell 3
  have HC := Lib.hid (apply_any sb SA sm sc HM.out hsb HW.out 4096 (Nat.le_refl _) t ⟨k, n, s, A, m, c⟩ w0 S (fun b hb => Nat.lt_of_lt_of_le (HSl.out b hb) hK.size) (HT.out.keep hK) HWt.out (HS.out.keep hK))
  have HR := Lib.hid hR
  have HK := Lib.hid hK
  have hlt := hR.lt
  clear hB hR hK
  unfold tvV at HC
  go_wp2_with fail
  refine HC.out.mono ?_
  rintro e w3 ⟨u, rfl, hu, k3⟩
  have hr := HR.out.keep k3 (by simp)
  have HD := Lib.hid (ApDone.end4 (w := w) (rb := w.heap.size + 1) HSl.out (hu.mono (S' := fun b => S b ∨ w.heap.size + 1 < b) fun b h => h.imp id fun h => by omega) (HK.out.trans k3) (by omega))
  have r0 := hr.cell 0
  have f0 := hr.frozen 0
  have r1 := hr.cell 1
  have f1 := hr.frozen 1
  have r2 := hr.cell 2
  have f2 := hr.frozen 2
  have r3 := hr.cell 3
  have f3 := hr.frozen 3
  unfold tvV at HD ⊢
  clear hu k3 hr HC HR hlt
  go_wp2_with fail
  exact bodyPost_ret (v := .agg #[.int .i64 u.k, .int .i64 u.n, .string u.s, .slice u.A u.len u.c]) (by simp [results, Try.results10, go_sem, *]) rfl HD.out
end Go.Proofs.Ytjbomjnkjcafcaa

/- A term at its top: the program's. Printed by gen_mgtop.py p. -/
namespace Go.Proofs.Ytjbomjnkjcafcaa
open Go.RowKit

theorem topD_node (s : Sbt) {t : Tm} (h : t.k ≠ 0) : ∀ d, topD s d t = t
  | 0 => rfl
  | d + 1 => by rw [topD, if_neg h]
theorem topD_none (s : Sbt) {t : Tm} (h : sOf s t.n = none) : ∀ d, topD s d t = t
  | 0 => rfl
  | d + 1 => by rw [topD]; split <;> simp [h]
theorem topD_some {s : Sbt} {t x : Tm} (h0 : t.k = 0) (h : sOf s t.n = some x) (d : Nat) : topD s (d + 1) t = topD s d x := by rw [topD, if_pos h0, h]
/-- What top tells: nothing new. -/
def TopDone (S : Nat → Prop) (w : World) (t : Tm) (e : Ending) (w' : World) : Prop := ∃ v, e = .returned (tvV v) ∧ Tr w' S t v ∧ Keeps w w' []
theorem TopDone.end4 {w wr : World} {S : Nat → Prop} (hS : ∀ b, S b → b < w.heap.size) {t : Tm} {v : TV} {rb : Nat} (h : Tr wr S t v) (hk : Keeps w wr []) (hb : w.heap.size ≤ rb) : TopDone S w t (.returned (tvV v)) (set4 wr rb (.int .i64 v.k) (.int .i64 v.n) (.string v.s) (.slice v.A v.len v.c)) :=
  ⟨v, rfl, h.far4 (g := rb) (fun e => by have := hS _ e; omega) _ _ _ _, hk.put4 (.inr hb) _ _ _ _⟩
set_option maxRecDepth 100000 in
set_option maxHeartbeats 3200000 in
theorem top_any (sb : Sbt) (SA : Option Addr) (sm sc : Nat) (hsm : sb.length = sm) (hsb : sm ≤ 9223372036854775807) (t : Tm) (v : TV) (w : World) (S : Nat → Prop) (hSl : ∀ b, S b → b < w.heap.size) (ht : Tr w S t v) (hS : Sub w S sb SA) (hfin : (topD sb deepest t).k = 0 → sOf sb (topD sb deepest t).n = none) :
    Calls Try.prog 26 #[.slice SA sm sc, tvV v] w (TopDone S w (topD sb deepest t)) := by
  obtain ⟨k, n, s, A, m, c⟩ := v
  have HSl := Lib.hid hSl
  have HT := Lib.hid ht
  have HS := Lib.hid hS
  have HM := Lib.hid hsm
  obtain ⟨RES, hRES⟩ : ∃ x, topD sb deepest t = x := ⟨_, rfl⟩
  rw [hRES] at hfin ⊢
  have HRES := Lib.hid hRES
  have HFin := Lib.hid hfin
  have hB : Blk ((w.alloc (.cells #[.int .i64 k, .int .i64 n, .string s, .slice A m c] 30)).alloc (.cells #[.int .i64 0, .int .i64 0, .string ⟨#[]⟩, .slice none 0 0] 30)) w.heap.size 30 #[.int .i64 k, .int .i64 n, .string s, .slice A m c] := (Blk.new _ _ _).alloc _
  have hR : Blk ((w.alloc (.cells #[.int .i64 k, .int .i64 n, .string s, .slice A m c] 30)).alloc (.cells #[.int .i64 0, .int .i64 0, .string ⟨#[]⟩, .slice none 0 0] 30)) (w.heap.size + 1) 30 #[.int .i64 0, .int .i64 0, .string ⟨#[]⟩, .slice none 0 0] := Blk.newAt _ _ (by simp)
  have hK : Keeps w ((w.alloc (.cells #[.int .i64 k, .int .i64 n, .string s, .slice A m c] 30)).alloc (.cells #[.int .i64 0, .int .i64 0, .string ⟨#[]⟩, .slice none 0 0] 30)) [] := ((Keeps.refl w []).alloc _).alloc _
  clear hSl ht hS hsm hRES hfin
  unfold tvV
  obtain ⟨D, hD⟩ : ∃ D, deepest = D := ⟨_, rfl⟩
  have HDp := Lib.hid hD
  go_enter Try.func26, Try.ntmps26
  go_wp2_with fail
  go_loopg [] D (fun gk wr => ∃ t v, topD sb gk t = RES ∧ Blk wr w.heap.size 30 #[.int .i64 v.k, .int .i64 v.n, .string v.s, .slice v.A v.len v.c] ∧ Blk wr (w.heap.size + 1) 30 #[.int .i64 0, .int .i64 0, .string ⟨#[]⟩, .slice none 0 0] ∧ Tr wr S t v ∧ Keeps w wr [])
  case atStart => exact ⟨t, ⟨k, n, s, A, m, c⟩, by rw [← HDp.out]; exact HRES.out, hB, hR, HT.out.keep hK, hK⟩
  case round =>
    clear hB hR hK hD
    obtain ⟨t, v, htop, hq, hr, ht, hk⟩ := hrel
    have hkk := ht.inv.1
    have hnn := ht.inv.2.1
    have hss := ht.inv.2.2.1
    obtain ⟨tk, tn, ts, tl⟩ := t
    obtain ⟨vk, vn, vs, vA, vl, vc⟩ := v
    replace hkk : tk = vk := hkk.symm
    replace hnn : tn = vn := hnn.symm
    replace hss : ts = vs := hss.symm
    subst hkk hnn hss
    by_cases h0 : tk = 0
    · subst h0
      have HTop := Lib.hid htop
      have HQ := Lib.hid hq
      have HR := Lib.hid hr
      have HTt := Lib.hid ht
      have HK := Lib.hid hk
      have qc0 := hq.cell 0
      have qc1 := hq.cell 1
      have HO := Lib.hid (of_any tn sb SA sm sc wr S (HS.out.keep hk) HM.out hsb)
      have hlt := hr.lt
      clear htop hq hr ht hk
      go_wp2_with fail
      refine HO.out.mono ?_
      rintro e w1 ⟨k1, (⟨rfl, hn0⟩ | ⟨x, v', rfl, hx, htx⟩)⟩
      · have HRe : Hid (RES = .mk 0 tn ts tl) := by show _ = _; rw [← HTop.out]; exact topD_none sb (t := .mk 0 tn ts tl) hn0 _
        have K2 : Keeps wr (w1.alloc (.cells #[.int .i64 0, .int .i64 0, .string ⟨#[]⟩, .slice none 0 0] 30)) [] := k1.alloc _
        have hq := HQ.out.keep K2 (by simp)
        have hr := HR.out.keep K2 (by simp)
        have HK2 := Lib.hid (HK.out.trans K2)
        have HT2 := Lib.hid (HTt.out.keep K2)
        go_upto_region 3 with fail
        generalize w1.alloc (.cells #[.int .i64 0, .int .i64 0, .string ⟨#[]⟩, .slice none 0 0] 30) = w2 at K2 hq hr HK2 HT2 ⊢
        have HD := Lib.hid (TopDone.end4 (rb := w.heap.size + 1) HSl.out HT2.out HK2.out (by omega))
        rw [← HRe.out] at HD
        unfold tvV at HD
        have qc0 := hq.cell 0
        have qf0 := hq.frozen 0
        have qc1 := hq.cell 1
        have qf1 := hq.frozen 1
        have qc2 := hq.cell 2
        have qf2 := hq.frozen 2
        have qc3 := hq.cell 3
        have qf3 := hq.frozen 3
        have rc0 := hr.cell 0
        have rf0 := hr.frozen 0
        have rc1 := hr.cell 1
        have rf1 := hr.frozen 1
        have rc2 := hr.cell 2
        have rf2 := hr.frozen 2
        have rc3 := hr.cell 3
        have rf3 := hr.frozen 3
        clear hq hr K2 k1 hn0 HO hlt
        go_wp2_with fail
        exact bodyPost_ret (v := .agg #[.int .i64 0, .int .i64 tn, .string ts, .slice vA vl vc]) (by simp [results, Try.results26, go_sem, *]) rfl HD.out
      · have K2 : Keeps wr (w1.alloc (.cells #[.int .i64 v'.k, .int .i64 v'.n, .string v'.s, .slice v'.A v'.len v'.c] 30)) [] := k1.alloc _
        have hq := HQ.out.keep K2 (by simp)
        have hr := HR.out.keep K2 (by simp)
        have hx2 : Blk (w1.alloc (.cells #[.int .i64 v'.k, .int .i64 v'.n, .string v'.s, .slice v'.A v'.len v'.c] 30)) w1.heap.size 30 #[.int .i64 v'.k, .int .i64 v'.n, .string v'.s, .slice v'.A v'.len v'.c] := Blk.new _ _ _
        have HK2 := Lib.hid (HK.out.trans K2)
        have HTX := Lib.hid (htx.keep ((Keeps.refl w1 []).alloc (.cells #[.int .i64 v'.k, .int .i64 v'.n, .string v'.s, .slice v'.A v'.len v'.c] 30)))
        obtain ⟨gk', rfl⟩ : ∃ g', gk = g' + 1 := by
          cases gk with
          | zero =>
            exfalso
            have h1 : Tm.mk 0 tn ts tl = RES := HTop.out
            have h2 := HFin.out (by rw [← h1]; rfl)
            rw [← h1] at h2
            exact absurd (hx.symm.trans h2) (by simp)
          | succ g' => exact ⟨g', rfl⟩
        have HTop2 : Hid (topD sb gk' x = RES) := by show _ = _; rw [← HTop.out]; exact (topD_some (t := .mk 0 tn ts tl) rfl hx gk').symm
        go_upto_region 3 with fail
        generalize w1.alloc (.cells #[.int .i64 v'.k, .int .i64 v'.n, .string v'.s, .slice v'.A v'.len v'.c] 30) = w2 at K2 hq hr hx2 HK2 HTX ⊢
        have HQ2 := Lib.hid (hq.put4 (.int .i64 v'.k) (.int .i64 v'.n) (.string v'.s) (.slice v'.A v'.len v'.c))
        have HR2 := Lib.hid (hr.far4 (g' := w.heap.size) (by omega) (.int .i64 v'.k) (.int .i64 v'.n) (.string v'.s) (.slice v'.A v'.len v'.c))
        have HT3 := Lib.hid (HTX.out.far4 (g := w.heap.size) (fun e => by have := HSl.out _ e; omega) (.int .i64 v'.k) (.int .i64 v'.n) (.string v'.s) (.slice v'.A v'.len v'.c))
        have HK3 := Lib.hid (HK2.out.put4 (.inr (Nat.le_refl _)) (.int .i64 v'.k) (.int .i64 v'.n) (.string v'.s) (.slice v'.A v'.len v'.c))
        have y0 := hx2.cell 0
        have y1 := hx2.cell 1
        have y2 := hx2.cell 2
        have y3 := hx2.cell 3
        have qf0 := hq.frozen 0
        have qf1 := hq.frozen 1
        have qf2 := hq.frozen 2
        have qf3 := hq.frozen 3
        have qc0 := hq.cell 0
        have qc1 := hq.cell 1
        have qc2 := hq.cell 2
        have qc3 := hq.cell 3
        clear hq hr K2 k1 hx htx HO hlt hx2
        go_wp2_with fail
        go_roundg gk'
        case measure => omega
        case rel => exact ⟨x, v', HTop2.out, HQ2.out, HR2.out, HT3.out, HK3.out⟩
    · have e0 : (tk == 0) = false := by simpa using h0
      have HRe : Hid (RES = .mk tk tn ts tl) := by show _ = _; rw [← htop]; exact topD_node sb (t := .mk tk tn ts tl) h0 _
      have HD := Lib.hid (TopDone.end4 (rb := w.heap.size + 1) HSl.out ht hk (by omega))
      rw [← HRe.out] at HD
      unfold tvV at HD
      have qc0 := hq.cell 0
      have qf0 := hq.frozen 0
      have qc1 := hq.cell 1
      have qf1 := hq.frozen 1
      have qc2 := hq.cell 2
      have qf2 := hq.frozen 2
      have qc3 := hq.cell 3
      have qf3 := hq.frozen 3
      have rc0 := hr.cell 0
      have rf0 := hr.frozen 0
      have rc1 := hr.cell 1
      have rf1 := hr.frozen 1
      have rc2 := hr.cell 2
      have rf2 := hr.frozen 2
      have rc3 := hr.cell 3
      have rf3 := hr.frozen 3
      clear hq hr ht hk htop
      go_wp2_with fail
      exact bodyPost_ret (v := .agg #[.int .i64 tk, .int .i64 tn, .string ts, .slice vA vl vc]) (by simp [results, Try.results26, go_sem, *]) rfl HD.out
end Go.Proofs.Ytjbomjnkjcafcaa

/- The program's bind, alike. Printed by gen_mgbind.py. -/
namespace Go.Proofs.Ytjbomjnkjcafcaa
open Go.RowKit

theorem el_pair : ElemT Try.prog 27 33 5 := elemT_of (b := 64) (z := .agg #[.int .i64 0, .int .i64 0, .int .i64 0, .string ⟨#[]⟩, .slice none 0 0]) Try.underlying27 (by kernel_rfl) (by omega) rfl (by omega)

set_option maxHeartbeats 1600000 in
theorem bind_cyc (sb : Sbt) (SA : Option Addr) (m c base : Nat) (n : Int) (t : Tm) (v : TV) (w : World) (S : Nat → Prop) (ps : List (Int × TV)) (hown : w.ownsRow base 33 5 (.slice SA m c) m (ps.flatMap pvE)) (hps : Prs w S sb ps) (hm : sb.length = m) (hmb : m ≤ 1000000)
    (hSl : ∀ b, S b → b < w.heap.size) (hSo : ∀ b ∈ ownL (.slice SA m c), ¬ S b) (ht : Tr w S t v) (hwt : tWid t) (hw : ∀ p ∈ sb, tWid p.2) (hlen : (tVars [apD sb deepest t]).length ≤ 1000000) (hany : (tVars [apD sb deepest t]).any (hasI n) = true) :
    Calls Try.prog 27 #[.slice SA m c, .int .i64 n, tvV v] w fun e w' => e = .returned (.tuple #[.slice none 0 0, .bool false]) ∧ Keeps w w' [] := by
  have HB : Hid (Blk (w.alloc (.cells #[.int .i64 v.k, .int .i64 v.n, .string v.s, .slice v.A v.len v.c] 30)) w.heap.size 30 #[.int .i64 v.k, .int .i64 v.n, .string v.s, .slice v.A v.len v.c]) := Blk.new _ _ _
  have HK : Hid (Keeps w (w.alloc (.cells #[.int .i64 v.k, .int .i64 v.n, .string v.s, .slice v.A v.len v.c] 30)) []) := (Keeps.refl w []).alloc _
  have HAp := Lib.hid (applyTop_any sb SA m c hm (by omega) hw t v (w.alloc (.cells #[.int .i64 v.k, .int .i64 v.n, .string v.s, .slice v.A v.len v.c] 30)) S (fun b hb => Nat.lt_of_lt_of_le (hSl b hb) HK.out.size) (ht.keep HK.out) hwt ⟨⟨ps, hps.keep HK.out, (Rd.of_own hown).keep HK.out⟩⟩)
  have HOwn := Lib.hid hown
  have HPs := Lib.hid hps
  have HSl := Lib.hid hSl
  have HSo := Lib.hid hSo
  have HT := Lib.hid ht
  have HM := Lib.hid hm
  have HLen := Lib.hid hlen
  have HAny := Lib.hid hany
  clear hown hps hSl hSo ht hwt hw hlen hany hm
  unfold tvV at HAp ⊢
  go_enter Try.func27, Try.ntmps27
  go_upto_region 1 with fail
  generalize (w.alloc (.cells #[.int .i64 v.k, .int .i64 v.n, .string v.s, .slice v.A v.len v.c] 30)) = w0 at HB HK HAp ⊢
  have q0 := HB.out.cell 0
  have q1 := HB.out.cell 1
  have q2 := HB.out.cell 2
  have q3 := HB.out.cell 3
  go_wp2_with fail
  refine HAp.out.mono ?_
  rintro e w1 ⟨u, rfl, hu, k1⟩
  have HV := Lib.hid (varsL_any [apD sb deepest t] [u] (some ⟨w1.heap.size, 0, none⟩) 1 1 (w1.alloc (.cells #[.int .i64 u.k, .int .i64 u.n, .string u.s, .slice u.A u.len u.c] 30)) (Trs.nil.snoc ((hu.mono fun _ _ => trivial).keep ((Keeps.refl w1 []).alloc _))) (Rd.one w1 30 (tvE u)) rfl (by omega) HLen.out)
  have HK1 : Hid (Keeps w0 (w1.alloc (.cells #[.int .i64 u.k, .int .i64 u.n, .string u.s, .slice u.A u.len u.c] 30)) []) := k1.alloc _
  unfold tvV
  clear hu k1 HAp q0 q1 q2 q3
  go_wp2_with fail
  refine HV.out.mono ?_
  rintro e w3 ⟨A3, c3, rfl, hn3, k3⟩
  have HC := Lib.hid (containsI_any n A3 _ c3 (tVars [apD sb deepest t]) w3 rfl (by have := HLen.out; omega) hn3)
  rw [HAny.out] at HC
  have HK3 := Lib.hid (HK1.out.trans k3)
  clear hn3 k3 HV
  go_wp2_with fail
  refine HC.out.mono ?_
  rintro e w4 ⟨rfl, rfl⟩
  go_wp2_with fail
  go_ret2
  exact ⟨rfl, HK.out.trans HK3.out⟩

set_option maxHeartbeats 1600000 in
theorem bind_ok (sb : Sbt) (SA : Option Addr) (m c base : Nat) (n : Int) (t : Tm) (v : TV) (w : World) (S : Nat → Prop) (ps : List (Int × TV)) (hown : w.ownsRow base 33 5 (.slice SA m c) m (ps.flatMap pvE)) (hps : Prs w S sb ps) (hm : sb.length = m) (hmb : m ≤ 1000000) (hbase : base ≤ w.heap.size)
    (hSl : ∀ b, S b → b < w.heap.size) (hSo : ∀ b ∈ ownL (.slice SA m c), ¬ S b) (ht : Tr w S t v) (hwt : tWid t) (hw : ∀ p ∈ sb, tWid p.2) (hlen : (tVars [apD sb deepest t]).length ≤ 1000000) (hany : (tVars [apD sb deepest t]).any (hasI n) = false) :
    Calls Try.prog 27 #[.slice SA m c, .int .i64 n, tvV v] w fun e w' => ∃ A' c', e = .returned (.tuple #[.slice A' (m + 1) c', .bool true]) ∧ w'.ownsRow base 33 5 (.slice A' (m + 1) c') (m + 1) ((ps ++ [(n, v)]).flatMap pvE) ∧ Prs w' S (sb ++ [(n, t)]) (ps ++ [(n, v)]) ∧ Keeps w w' (ownL (.slice SA m c)) ∧ (∀ b ∈ ownL (.slice A' (m + 1) c'), b ∈ ownL (.slice SA m c) ∨ w.heap.size ≤ b) := by
  have HB : Hid (Blk (w.alloc (.cells #[.int .i64 v.k, .int .i64 v.n, .string v.s, .slice v.A v.len v.c] 30)) w.heap.size 30 #[.int .i64 v.k, .int .i64 v.n, .string v.s, .slice v.A v.len v.c]) := Blk.new _ _ _
  have HK : Hid (Keeps w (w.alloc (.cells #[.int .i64 v.k, .int .i64 v.n, .string v.s, .slice v.A v.len v.c] 30)) []) := (Keeps.refl w []).alloc _
  have HAp := Lib.hid (applyTop_any sb SA m c hm (by omega) hw t v (w.alloc (.cells #[.int .i64 v.k, .int .i64 v.n, .string v.s, .slice v.A v.len v.c] 30)) S (fun b hb => Nat.lt_of_lt_of_le (hSl b hb) HK.out.size) (ht.keep HK.out) hwt ⟨⟨ps, hps.keep HK.out, (Rd.of_own hown).keep HK.out⟩⟩)
  have HOwn := Lib.hid hown
  have HPs := Lib.hid hps
  have HSl := Lib.hid hSl
  have HSo := Lib.hid hSo
  have HT := Lib.hid ht
  have HM := Lib.hid hm
  have HLen := Lib.hid hlen
  have HAny := Lib.hid hany
  clear hown hps hSl hSo ht hwt hw hlen hany hm
  unfold tvV at HAp ⊢
  go_enter Try.func27, Try.ntmps27
  go_upto_region 1 with fail
  generalize (w.alloc (.cells #[.int .i64 v.k, .int .i64 v.n, .string v.s, .slice v.A v.len v.c] 30)) = w0 at HB HK HAp ⊢
  have q0 := HB.out.cell 0
  have q1 := HB.out.cell 1
  have q2 := HB.out.cell 2
  have q3 := HB.out.cell 3
  go_wp2_with fail
  refine HAp.out.mono ?_
  rintro e w1 ⟨u, rfl, hu, k1⟩
  have HV := Lib.hid (varsL_any [apD sb deepest t] [u] (some ⟨w1.heap.size, 0, none⟩) 1 1 (w1.alloc (.cells #[.int .i64 u.k, .int .i64 u.n, .string u.s, .slice u.A u.len u.c] 30)) (Trs.nil.snoc ((hu.mono fun _ _ => trivial).keep ((Keeps.refl w1 []).alloc _))) (Rd.one w1 30 (tvE u)) rfl (by omega) HLen.out)
  have HK1 : Hid (Keeps w0 (w1.alloc (.cells #[.int .i64 u.k, .int .i64 u.n, .string u.s, .slice u.A u.len u.c] 30)) []) := k1.alloc _
  unfold tvV
  clear hu k1 HAp q0 q1 q2 q3
  go_wp2_with fail
  refine HV.out.mono ?_
  rintro e w3 ⟨A3, c3, rfl, hn3, k3⟩
  have HC := Lib.hid (containsI_any n A3 _ c3 (tVars [apD sb deepest t]) w3 rfl (by have := HLen.out; omega) hn3)
  rw [HAny.out] at HC
  have HK3 := Lib.hid (HK1.out.trans k3)
  clear hn3 k3 HV
  go_wp2_with fail
  refine HC.out.mono ?_
  rintro e w4 ⟨rfl, rfl⟩
  have hq := HB.out.keep HK3.out (by simp)
  have q0 := hq.cell 0
  have q1 := hq.cell 1
  have q2 := hq.cell 2
  have q3 := hq.cell 3
  have HK4 := Lib.hid (HK.out.trans HK3.out)
  clear hq HC
  go_wp2_with (at_builtin; have K5 := HK4.out.alloc (.cells #[.int .i64 n, .int .i64 v.k, .int .i64 v.n, .string v.s, .slice v.A v.len v.c] 33); refine wpList_app _ el_pair rfl (.tmp 15) (.tmp 19) rfl base SA m c (ps.flatMap pvE) rfl (own_keep0 HOwn.out K5) (some ⟨w3.heap.size, 0, none⟩) 1 1 (pvE (n, v)) rfl (Rd.one w3 _ (pvE (n, v))) rfl (by simp) (by simp [pvE, Value.oneCell']) (by omega) (by have := K5.size; omega) ?_; intro A' c' w9 hown hgrow hat; have HR := Lib.hid hown; have HG := Lib.hid hgrow; have HAt := Lib.hid hat; have HK5 := Lib.hid K5; clear hown hgrow hat K5)
  go_ret2
  refine ⟨A', c', rfl, by rw [List.flatMap_append]; simpa using HR.out, ?_, HK5.out.rest (Keeps.ofGrown HG.out), fun b hb => ?_⟩
  · exact ((HPs.out.keep HK5.out).keepL (Keeps.ofGrown HG.out) HSo.out).snoc ((HT.out.keep HK5.out).keepL (Keeps.ofGrown HG.out) HSo.out)
  · unfold ownL at hb ⊢
    simp only [Option.mem_toList] at hb ⊢
    rcases HAt.out with h | h
    · rw [h] at hb; exact .inl hb
    · rw [h] at hb
      simp only [Option.some.injEq] at hb
      right
      rw [← hb]
      exact HK5.out.size

set_option maxHeartbeats 1600000 in
theorem alike_any (t t' : Tm) (v v' : TV) (w : World) (ht : Tr w (fun _ => True) t v) (ht' : Tr w (fun _ => True) t' v') : Calls Try.prog 28 #[tvV v, tvV v'] w fun e w' => e = .returned (.bool (alikeT t t')) ∧ Keeps w w' [] := by
  obtain ⟨h1, h2, h3, h4, h5⟩ := ht.inv
  obtain ⟨h1', h2', h3', h4', h5'⟩ := ht'.inv
  obtain ⟨k, n, s, A, m, c⟩ := v
  obtain ⟨k', n', s', A', m', c'⟩ := v'
  obtain ⟨R, hR⟩ : ∃ R, alikeT t t' = R := ⟨_, rfl⟩
  rw [hR]
  unfold alikeT at hR
  rw [← h1, ← h1', ← h3, ← h3', ← h4, ← h4'] at hR
  have HR := Lib.hid hR
  have HK : Hid (Keeps w ((w.alloc (.cells #[.int .i64 k, .int .i64 n, .string s, .slice A m c] 30)).alloc (.cells #[.int .i64 k', .int .i64 n', .string s', .slice A' m' c'] 30)) []) := ((Keeps.refl w []).alloc _).alloc _
  clear h1 h2 h3 h4 h5 h1' h2' h3' h4' h5' ht ht' hR
  unfold tvV
  cases e1 : (k == k') with
  | false =>
    have HE : Hid (R = false) := by show _ = _; rw [← HR.out]; simp only [e1, Bool.false_and]
    go_enter Try.func28, Try.ntmps28
    go_wp2_with fail
    go_ret
    exact ⟨by rw [HE.out]; rfl, HK.out⟩
  | true =>
    cases e2 : (s.toList == s'.toList) with
    | false =>
      have HE : Hid (R = false) := by
        show _ = _
        rw [str_eq, decide_eq_false_iff_not] at e2
        rw [← HR.out]
        simp [e2]
      go_enter Try.func28, Try.ntmps28
      go_wp2_with fail
      go_ret
      exact ⟨by rw [HE.out]; rfl, HK.out⟩
    | true =>
      have HE : Hid (R = ((m : Int) == (m' : Int))) := by
        show _ = _
        rw [str_eq, decide_eq_true_eq] at e2
        rw [← HR.out, e1, e2]
        simp only [decide_true, Bool.true_and]
        rw [Bool.eq_iff_iff, beq_iff_eq, beq_iff_eq]
        exact Int.ofNat_inj.symm
      go_enter Try.func28, Try.ntmps28
      go_wp2_with fail
      go_ret
      exact ⟨by rw [HE.out]; rfl, HK.out⟩
end Go.Proofs.Ytjbomjnkjcafcaa
