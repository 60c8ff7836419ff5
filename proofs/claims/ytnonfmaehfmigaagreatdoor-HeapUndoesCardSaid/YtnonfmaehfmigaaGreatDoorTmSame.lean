/- Terms: are two the same? -/
import Derived.Test.YtnonfmaehfmigaaGreatDoorTmLaw
import Derived.Test.YtnonfmaehfmigaaGreatDoorText
namespace Go.Proofs.YtnonfmaehfmigaaGreatDoor
open Go.RowKit

theorem str_eq (s s' : ByteArray) : (s.toList == s'.toList) = decide (s = s') := by
  by_cases h : s = s'
  · subst h; simp
  · have : ¬ s.toList = s'.toList := fun e => h (by
      rw [ByteArray.toList_eq, ByteArray.toList_eq] at e
      cases s; cases s'; simp at e; simp [e])
    simp [h, this]
theorem tSame_top (k n : Int) (s : ByteArray) (l : List Tm) (k' n' : Int) (s' : ByteArray) (l' : List Tm) : tSame (.mk k n s l) (.mk k' n' s' l') = ((k == k') && (n == n') && (s.toList == s'.toList) && tSames l l') := by
  rw [tSame, str_eq]
  rfl
theorem tSames_len : ∀ {l l' : List Tm}, l.length ≠ l'.length → tSames l l' = false
  | [], [], h => absurd rfl h
  | [], _ :: _, _ => by simp [tSames]
  | _ :: _, [], _ => by simp [tSames]
  | a :: l, b :: l', h => by rw [tSames, tSames_len (l := l) (l' := l') (by simpa using h), Bool.and_false]
theorem tSames_snoc {l l' : List Tm} {j : Nat} {a b : Tm} (ha : l[j]? = some a) (hb : l'[j]? = some b) (h : tSames (l.take j) (l'.take j) = true) : tSames (l.take (j + 1)) (l'.take (j + 1)) = tSame a b := by
  rw [List.take_add_one, List.take_add_one, ha, hb, (tSames_iff _ _).1 h]
  cases hs : tSame a b with
  | true => rw [(tSame_iff a b).1 hs]; exact (tSames_iff _ _).2 rfl
  | false =>
    cases hq : tSames (l'.take j ++ (some a).toList) (l'.take j ++ (some b).toList) with
    | false => rfl
    | true =>
      have := (tSames_iff _ _).1 hq
      simp at this
      rw [(tSame_iff a b).2 this] at hs
      cases hs
theorem tSames_no {l l' : List Tm} {j : Nat} {a b : Tm} (ha : l[j]? = some a) (hb : l'[j]? = some b) (h : tSame a b = false) : tSames l l' = false := by
  cases hq : tSames l l' with
  | false => rfl
  | true =>
    rw [(tSames_iff _ _).1 hq, hb] at ha
    cases ha
    rw [(tSame_iff a a).2 rfl] at h
    cases h

set_option maxRecDepth 100000 in
set_option maxHeartbeats 1600000 in
theorem refSame_any (t : Tm) : ∀ (t' : Tm) (v v' : TV) (w : World), Tr w (fun _ => True) t v → Tr w (fun _ => True) t' v' → Calls Tryz.prog 44 #[tvV v, tvV v'] w fun e w' => e = .returned (.bool (tSame t t')) ∧ Keeps w w' [] := by
  induction t using Tm.ind_ with
  | h k n s l ih =>
    intro t' v v' w ht ht'
    cases ht with
    | mk _ _ _ _ A c vs hl hR hS hc hz hk =>
    cases ht' with
    | mk k' n' s' l' A' c' vs' hl' hR' hS' hc' hz' hk' =>
    rw [tSame_top]
    obtain ⟨m, hm⟩ : ∃ m, l.length = m := ⟨_, rfl⟩
    obtain ⟨m', hm'⟩ : ∃ m', l'.length = m' := ⟨_, rfl⟩
    unfold tvV
    simp only [hm, hm']
    have hmb : m ≤ 9223372036854775807 := by omega
    have HB0 : Hid (Blk ((w.alloc (.cells #[.int .i64 k, .int .i64 n, .string s, .slice A m c] 24)).alloc (.cells #[.int .i64 k', .int .i64 n', .string s', .slice A' m' c'] 24)) w.heap.size 24 #[.int .i64 k, .int .i64 n, .string s, .slice A m c]) := (Blk.new _ _ _).alloc _
    have HB1 : Hid (Blk ((w.alloc (.cells #[.int .i64 k, .int .i64 n, .string s, .slice A m c] 24)).alloc (.cells #[.int .i64 k', .int .i64 n', .string s', .slice A' m' c'] 24)) (w.heap.size + 1) 24 #[.int .i64 k', .int .i64 n', .string s', .slice A' m' c']) := Blk.newAt _ _ (by simp)
    have HK0 : Hid (Keeps w ((w.alloc (.cells #[.int .i64 k, .int .i64 n, .string s, .slice A m c] 24)).alloc (.cells #[.int .i64 k', .int .i64 n', .string s', .slice A' m' c'] 24)) []) := ((Keeps.refl w []).alloc _).alloc _
    have HT : Hid (Trs w (fun _ => True) l vs) := ⟨hl, hk⟩
    have HR := Lib.hid hR
    have HT' : Hid (Trs w (fun _ => True) l' vs') := ⟨hl', hk'⟩
    have HR' := Lib.hid hR'
    have HI := Lib.hid ih
    have HM := Lib.hid hm
    have HM' := Lib.hid hm'
    clear hl hR hS hc hz hk hm ih hl' hR' hS' hc' hz' hk' hm'
    by_cases e1 : k = k'
    case neg =>
      have d1 : (k == k') = false := by simpa using e1
      rw [d1]
      go_enter Tryz.func44, Tryz.ntmps44
      go_wp2_with fail
      go_ret
      exact ⟨rfl, HK0.out⟩
    subst e1
    by_cases e2 : n = n'
    case neg =>
      have d2 : (n == n') = false := by simpa using e2
      rw [d2, Bool.and_false, Bool.false_and]
      go_enter Tryz.func44, Tryz.ntmps44
      go_wp2_with fail
      go_ret
      exact ⟨rfl, HK0.out⟩
    subst e2
    by_cases e3 : s = s'
    case neg =>
      have d3 : (s.toList == s'.toList) = false := by rw [str_eq]; simpa using e3
      rw [d3, Bool.and_false, Bool.false_and]
      go_enter Tryz.func44, Tryz.ntmps44
      go_wp2_with fail
      go_ret
      exact ⟨rfl, HK0.out⟩
    subst e3
    rw [beq_self_eq_true, beq_self_eq_true, beq_self_eq_true, Bool.true_and, Bool.true_and, Bool.true_and]
    go_enter Tryz.func44, Tryz.ntmps44
    by_cases hmm : m = m'
    · subst hmm
      go_wp2_with fail
      go_loopw [5] (fun i wr => ∃ j : Nat, j ≤ m ∧ i = .int .i64 j ∧ tSames (l.take j) (l'.take j) = true ∧ Keeps w wr [] ∧ Blk wr w.heap.size 24 #[.int .i64 k, .int .i64 n, .string s, .slice A m c] ∧ Blk wr (w.heap.size + 1) 24 #[.int .i64 k, .int .i64 n, .string s, .slice A' m c']) (fun i _ => m - (intOf i).toNat)
      case atStart => exact ⟨0, Nat.zero_le _, rfl, by simp [tSames], HK0.out, HB0.out, HB1.out⟩
      case round =>
        obtain ⟨j, hj, rfl, hpos, hkeep, hb1, hb2⟩ := hrel
        have HK := Lib.hid hkeep
        have HP := Lib.hid hpos
        have HC1 := Lib.hid hb1
        have HC2 := Lib.hid hb2
        have e1 := hb1.cell 3
        have e2 := hb2.cell 3
        clear hkeep hpos hb1 hb2 HB0 HB1
        by_cases hlt : j < m
        · obtain ⟨a, hx⟩ := at_of HM.out hlt
          obtain ⟨b, hy⟩ := at_of HM'.out hlt
          have ha := List.mem_of_getElem? hx
          have HN := Lib.hid (tSames_snoc hx hy HP.out)
          have hno := tSames_no hx hy
          obtain ⟨v, g, off, _, htr, rfl, hg, p0, p1, p2, p3⟩ := (HT.out.keep HK.out).get (HR.out.keep HK.out) hx
          obtain ⟨v', g', off', _, htr', rfl, hg', q0, q1, q2, q3⟩ := (HT'.out.keep HK.out).get (HR'.out.keep HK.out) hy
          have hca := HI.out a ha b v v' _ (htr.keep (Keeps.refl wr []).drew) (htr'.keep (Keeps.refl wr []).drew)
          unfold tvV at hca
          have HW : Hid (∀ W', Keeps wr W' [] → W'.cell? ⟨w.heap.size, 3, none⟩ = some (.slice (some ⟨g, off, none⟩) m c) ∧ W'.cell? ⟨w.heap.size + 1, 3, none⟩ = some (.slice (some ⟨g', off', none⟩) m c') ∧ W'.cell? ⟨g, off + j * 4, none⟩ = some (.int .i64 v.k) ∧ W'.cell? ⟨g, off + j * 4 + 1, none⟩ = some (.int .i64 v.n) ∧ W'.cell? ⟨g, off + j * 4 + 2, none⟩ = some (.string v.s) ∧ W'.cell? ⟨g, off + j * 4 + 3, none⟩ = some (.slice v.A v.len v.c) ∧ W'.cell? ⟨g', off' + j * 4, none⟩ = some (.int .i64 v'.k) ∧ W'.cell? ⟨g', off' + j * 4 + 1, none⟩ = some (.int .i64 v'.n) ∧ W'.cell? ⟨g', off' + j * 4 + 2, none⟩ = some (.string v'.s) ∧ W'.cell? ⟨g', off' + j * 4 + 3, none⟩ = some (.slice v'.A v'.len v'.c)) := fun W' kk =>
            ⟨(HC1.out.keep kk (by simp)).cell 3, (HC2.out.keep kk (by simp)).cell 3, (kk.cell0 hg).trans p0, (kk.cell0 hg).trans p1, (kk.cell0 hg).trans p2, (kk.cell0 hg).trans p3, (kk.cell0 hg').trans q0, (kk.cell0 hg').trans q1, (kk.cell0 hg').trans q2, (kk.cell0 hg').trans q3⟩
          have b0 : (0 : Int) ≤ (j : Int) := Int.natCast_nonneg _
          have b1 : (j : Int) < (m : Int) := by omega
          clear p0 p1 p2 p3 q0 q1 q2 q3
          cases hr : tSame a b with
          | false =>
            rw [hr] at hca
            have HC := Lib.hid hca
            have HO : Hid (tSames l l' = false) := hno hr
            clear hca htr htr' hx hy ha hno hr
            go_wp2_with fail
            clear e1 e2
            refine wp_region_tx (fun W' => W'.cell? ⟨w.heap.size, 3, none⟩ = some (.slice (some ⟨g, off, none⟩) m c) ∧ W'.cell? ⟨w.heap.size + 1, 3, none⟩ = some (.slice (some ⟨g', off', none⟩) m c') ∧ W'.cell? ⟨g, off + j * 4, none⟩ = some (.int .i64 v.k) ∧ W'.cell? ⟨g, off + j * 4 + 1, none⟩ = some (.int .i64 v.n) ∧ W'.cell? ⟨g, off + j * 4 + 2, none⟩ = some (.string v.s) ∧ W'.cell? ⟨g, off + j * 4 + 3, none⟩ = some (.slice v.A v.len v.c) ∧ W'.cell? ⟨g', off' + j * 4, none⟩ = some (.int .i64 v'.k) ∧ W'.cell? ⟨g', off' + j * 4 + 1, none⟩ = some (.int .i64 v'.n) ∧ W'.cell? ⟨g', off' + j * 4 + 2, none⟩ = some (.string v'.s) ∧ W'.cell? ⟨g', off' + j * 4 + 3, none⟩ = some (.slice v'.A v'.len v'.c)) [(0, true), (1, true), (2, true), (3, true), (4, true), (5, true), (6, true), (7, true), (8, true), (9, true), (10, false), (11, false)] (by kernel_rfl) (by kernel_rfl) (HW.out _ ((Keeps.refl _ _).drew)) (fun hHeld => ?_)
            (repeat (first | (refine wpTx_take (v := ?_) rfl (by assumption) ?_ (by rfl) ?_; rotate_left; (focus (intro w' hSw; (try dsimp only at hSw); go_simp; (try with_reducible rfl); done)); simp only [Act.put, List.setIfInBounds_toArray, List.set_cons_zero, List.set_cons_succ]) | (refine wpTx_skip rfl (by assumption) (by rfl) ?_; simp only [Act.put, List.setIfInBounds_toArray, List.set_cons_zero, List.set_cons_succ])))
            refine wpTx_go rfl (fun K hK => ?_)
            go_simp
            refine HC.out.mono ?_
            rintro e w2 ⟨rfl, k2⟩
            refine hK.out _ _ ?_ ?_
            · exact HW.out _ ((Keeps.refl _ []).drew.trans k2)
            (clear hHeld; intro hHeld; clear hK K)
            refine wpTx_last rfl (fun K hK => ?_)
            go_simp
            refine hK.out _ _ (NoPanic.normal ?_); clear hK K; (try simp only [Act.put, List.setIfInBounds_toArray, List.set_cons_zero, List.set_cons_succ])
            go_wp2_with fail
            go_ret
            exact ⟨by rw [HO.out]; rfl, HK.out.drew.trans k2⟩
          | true =>
            rw [hr] at hca
            have HC := Lib.hid hca
            have HT1 := Lib.hid hr
            clear hca htr htr' hx hy ha hno hr
            go_wp2_with fail
            clear e1 e2
            refine wp_region_tx (fun W' => W'.cell? ⟨w.heap.size, 3, none⟩ = some (.slice (some ⟨g, off, none⟩) m c) ∧ W'.cell? ⟨w.heap.size + 1, 3, none⟩ = some (.slice (some ⟨g', off', none⟩) m c') ∧ W'.cell? ⟨g, off + j * 4, none⟩ = some (.int .i64 v.k) ∧ W'.cell? ⟨g, off + j * 4 + 1, none⟩ = some (.int .i64 v.n) ∧ W'.cell? ⟨g, off + j * 4 + 2, none⟩ = some (.string v.s) ∧ W'.cell? ⟨g, off + j * 4 + 3, none⟩ = some (.slice v.A v.len v.c) ∧ W'.cell? ⟨g', off' + j * 4, none⟩ = some (.int .i64 v'.k) ∧ W'.cell? ⟨g', off' + j * 4 + 1, none⟩ = some (.int .i64 v'.n) ∧ W'.cell? ⟨g', off' + j * 4 + 2, none⟩ = some (.string v'.s) ∧ W'.cell? ⟨g', off' + j * 4 + 3, none⟩ = some (.slice v'.A v'.len v'.c)) [(0, true), (1, true), (2, true), (3, true), (4, true), (5, true), (6, true), (7, true), (8, true), (9, true), (10, false), (11, false)] (by kernel_rfl) (by kernel_rfl) (HW.out _ ((Keeps.refl _ _).drew)) (fun hHeld => ?_)
            (repeat (first | (refine wpTx_take (v := ?_) rfl (by assumption) ?_ (by rfl) ?_; rotate_left; (focus (intro w' hSw; (try dsimp only at hSw); go_simp; (try with_reducible rfl); done)); simp only [Act.put, List.setIfInBounds_toArray, List.set_cons_zero, List.set_cons_succ]) | (refine wpTx_skip rfl (by assumption) (by rfl) ?_; simp only [Act.put, List.setIfInBounds_toArray, List.set_cons_zero, List.set_cons_succ])))
            refine wpTx_go rfl (fun K hK => ?_)
            go_simp
            refine HC.out.mono ?_
            rintro e w2 ⟨rfl, k2⟩
            refine hK.out _ _ ?_ ?_
            · exact HW.out _ ((Keeps.refl _ []).drew.trans k2)
            (clear hHeld; intro hHeld; clear hK K)
            refine wpTx_last rfl (fun K hK => ?_)
            go_simp
            refine hK.out _ _ (NoPanic.normal ?_); clear hK K; (try simp only [Act.put, List.setIfInBounds_toArray, List.set_cons_zero, List.set_cons_succ])
            go_wp2_with fail
            go_roundw
            case rel => exact ⟨j + 1, by omega, by go_num, by rw [HN.out, HT1.out], HK.out.drew.trans k2, HC1.out.keep ((Keeps.refl wr []).drew.trans k2) (by simp), HC2.out.keep ((Keeps.refl wr []).drew.trans k2) (by simp)⟩
            case measure => simp [intOf]; omega
        · obtain rfl : m = j := by omega
          have HA : Hid (tSames l l' = true) := by
            show _ = _
            have h1 := HP.out
            rw [List.take_of_length_le (by rw [HM.out]; omega), List.take_of_length_le (by rw [HM'.out]; omega)] at h1
            exact h1
          clear hlt hj
          go_wp2_with fail
          go_ret
          exact ⟨by rw [HA.out]; rfl, HK.out⟩
    · have HA : Hid (tSames l l' = false) := tSames_len (by rw [HM.out, HM'.out]; exact hmm)
      have d0 : ((m : Int) == (m' : Int)) = false := by simp; omega
      go_wp2_with fail
      go_ret
      exact ⟨by rw [HA.out]; rfl, HK0.out⟩
end Go.Proofs.YtnonfmaehfmigaaGreatDoor
