/- Renaming: the document's. Printed by gen_mgren.py b. -/
import Derived.Test.YtjbomjnkjcafcaaMgRenA
import Derived.Test.YtjbomjnkjcafcaaTmRVarsB
namespace Go.Proofs.Ytjbomjnkjcafcaa
open Go.RowKit

theorem TSt.setN {tg : TypeId} {S0 : Nat → Prop} {w wr : World} {L : List Nat} {F : List (Nat × TypeId × Array Value)} {g : Nat} {k n : Int} {s : ByteArray} (st : TSt tg S0 w wr L F g k n s [] [] none 0 0) (n' : Int) : TSt tg S0 w (wr.setCell ⟨g, 1, none⟩ (.int .i64 n')) L F g k n' s [] [] none 0 0 :=
  TSt.start (fun x hx => ⟨(st.fix x hx).1.far (st.fix x hx).2.2 _, (st.fix x hx).2.2⟩) (by have h := st.out.set_ 1 (.int .i64 n'); simpa using h) (st.keep.setCell (.inr st.low.1) _) st.low.1 st.low.2.2 st.sz
/-- The number so far. -/
def curN (kf : Int) (vars : List Int) (n : Int) (i : Nat) : Int := if n ∈ vars.take i then ren kf vars n else n
theorem curN_same {kf : Int} {vars : List Int} {n x : Int} {i : Nat} (hx : vars[i]? = some x) (h : x ≠ n) : curN kf vars n (i + 1) = curN kf vars n i := by
  unfold curN
  have : n ∈ vars.take (i + 1) ↔ n ∈ vars.take i := by
    rw [List.take_add_one, hx, List.mem_append]
    simp [Ne.symm h]
  simp only [this]
theorem curN_here {kf : Int} {vars : List Int} {n : Int} {i : Nat} (hd : vars.Nodup) (hx : vars[i]? = some n) : curN kf vars n (i + 1) = kf + i := by
  unfold curN
  rw [if_pos (by rw [List.take_add_one, hx]; simp)]
  unfold ren
  rw [findI_some (k := i) hx (by simp [hasI]) fun y hy => ?_]
  have : y ≠ n := by
    rintro rfl
    obtain ⟨hi, he⟩ := List.getElem?_eq_some_iff.1 hx
    obtain ⟨q, hq, hqe⟩ := List.getElem_of_mem hy
    rw [List.length_take] at hq
    rw [List.getElem_take] at hqe
    have := (List.getElem_inj hd).1 (hqe.trans he.symm)
    omega
  unfold hasI
  simpa using Ne.symm this
theorem curN_end {kf : Int} {vars : List Int} {n : Int} (h : n ∈ vars) : curN kf vars n vars.length = ren kf vars n := by
  unfold curN
  rw [List.take_length, if_pos h]
set_option maxRecDepth 100000 in
set_option maxHeartbeats 6400000 in
theorem refRename_any (kf : Int) (k0 : 0 ≤ kf) (k9 : kf ≤ 1000000) (VA : Option Addr) (vn vc : Nat) (vars : List Int) (hvl : vars.length = vn) (hvn : vn ≤ 1000000) (hnd : vars.Nodup) (t : Tm) : ∀ (v : TV) (w : World) (S : Nat → Prop), (∀ b, S b → b < w.heap.size) → Tr w S t v → tRight t = true → (∀ x ∈ tV t, x ∈ vars) → Nums .i64 w w.heap.size VA vars →
    Calls Try.prog 40 #[.int .i64 kf, .slice VA vn vc, tvV v] w (ApDone S w (tRn (ren kf vars) t)) := by
  induction t using Tm.ind_ with
  | h k n s l ih =>
    intro v w S hSl ht hrt hin hN
    have hw := tWid_of_right hrt
    cases ht with
    | mk _ _ _ _ A c vs hl hR hS hc hz hk =>
    rw [tWid] at hw
    have HT : Hid (Trs w S l vs) := ⟨hl, hk⟩
    have HR := Lib.hid hR
    have HZ := Lib.hid hz.1
    have HSl := Lib.hid hSl
    have HN := Lib.hid hN
    have HRt := Lib.hid hrt
    have HIn := Lib.hid hin
    have HND := Lib.hid hnd
    have HVl := Lib.hid hvl
    have HCall : Hid (∀ a ∈ l, ∀ (v' : TV) w', Keeps w w' [] → Tr w' S a v' → Calls Try.prog 40 #[.int .i64 kf, .slice VA vn vc, .agg #[.int .i64 v'.k, .int .i64 v'.n, .string v'.s, .slice v'.A v'.len v'.c]] w' (ApDone S w' (tRn (ren kf vars) a))) := fun a ha v' w' k' ht' => by
      have h0 : k ≠ 0 := by
        rintro rfl
        obtain ⟨e, _, _⟩ := right_var hrt
        obtain ⟨_, _, _, rfl⟩ := Tm.mk.inj e
        cases ha
      exact ih a ha v' w' S (fun b hb => Nat.lt_of_lt_of_le (hSl b hb) k'.size) ht' (right_parts hrt a ha) (fun x hx => hin x (by rw [tV, if_neg h0]; exact mem_tVL.2 ⟨a, ha, hx⟩)) ((hN.keep (w' := w') fun p hp => k'.cell hp (by simp)).more k'.size)
    obtain ⟨m, hm⟩ : ∃ m, l.length = m := ⟨_, rfl⟩
    have HM := Lib.hid hm
    have hmb : m ≤ 1000000 := by rw [← hm]; exact hw.1
    clear hl hR hS hc hz hk ih hw hSl hN hrt hin hnd hvl
    unfold tvV
    simp only [hm]
    clear hm
    by_cases h0 : k = 0
    · have e0 : (k == 0) = true := by simpa using h0
      have HG : Hid (tRn (ren kf vars) (.mk k n s l) = .mk k (ren kf vars n) s (l.map (tRn (ren kf vars)))) := tRn_var _ s l h0
      have HNi : Hid (n ∈ vars) := HIn.out n (by rw [tV, if_pos h0]; simp)
      clear h0
      have hbx : Blk (w.alloc (.cells #[.int .i64 k, .int .i64 n, .string s, .slice A m c] 24)) w.heap.size 24 #[.int .i64 k, .int .i64 n, .string s, .slice A m c] := Blk.new _ _ _
      have hrb : Blk ((w.alloc (.cells #[.int .i64 k, .int .i64 n, .string s, .slice A m c] 24)).alloc (.cells #[.int .i64 0, .int .i64 0, .string ⟨#[]⟩, .slice none 0 0] 24)) (w.heap.size + 1) 24 #[.int .i64 0, .int .i64 0, .string ⟨#[]⟩, .slice none 0 0] := Blk.newAt _ _ (by simp)
      have hK : Keeps w (((w.alloc (.cells #[.int .i64 k, .int .i64 n, .string s, .slice A m c] 24)).alloc (.cells #[.int .i64 0, .int .i64 0, .string ⟨#[]⟩, .slice none 0 0] 24)).alloc (.cells #[.int .i64 k, .int .i64 n, .string s, .slice none 0 0] 24)) [] := (((Keeps.refl w []).alloc _).alloc _).alloc _
      obtain ⟨g, hg⟩ : ∃ g, w.heap.size + 1 + 1 = g := ⟨_, rfl⟩
      have hst : TSt 24 (fun b => S b ∨ w.heap.size ≤ b) w (((w.alloc (.cells #[.int .i64 k, .int .i64 n, .string s, .slice A m c] 24)).alloc (.cells #[.int .i64 0, .int .i64 0, .string ⟨#[]⟩, .slice none 0 0] 24)).alloc (.cells #[.int .i64 k, .int .i64 n, .string s, .slice none 0 0] 24)) [] [(w.heap.size, 24, #[.int .i64 k, .int .i64 n, .string s, .slice A m c]), (w.heap.size + 1, 24, #[.int .i64 0, .int .i64 0, .string ⟨#[]⟩, .slice none 0 0])] g k n s [] [] none 0 0 :=
        TSt.start (by
          intro x hx
          simp only [List.mem_cons, List.not_mem_nil, or_false] at hx
          rcases hx with rfl | rfl
          · exact ⟨(hbx.alloc _).alloc _, by simp; omega⟩
          · exact ⟨hrb.alloc _, by simp; omega⟩) (Blk.newAt _ _ (by simp; omega)) hK (by omega) (fun b h => .inr h) HZ.out
      have HST := Lib.hid hst
      clear hbx hrb hK hst
      have HK0 : Hid (Keeps w (((w.alloc (.cells #[.int .i64 k, .int .i64 n, .string s, .slice A m c] 24)).alloc (.cells #[.int .i64 0, .int .i64 0, .string ⟨#[]⟩, .slice none 0 0] 24)).alloc (.cells #[.int .i64 k, .int .i64 n, .string s, .slice none 0 0] 24)) []) := (((Keeps.refl w []).alloc _).alloc _).alloc _
      go_enter Try.func40, Try.ntmps40
      go_wp2_with fail
      go_loopw [8] (fun x8 wr => ∃ i : Nat, i ≤ vn ∧ x8 = .int .i64 i ∧ TSt 24 (fun b => S b ∨ w.heap.size ≤ b) w wr [] [(w.heap.size, 24, #[.int .i64 k, .int .i64 n, .string s, .slice A m c]), (w.heap.size + 1, 24, #[.int .i64 0, .int .i64 0, .string ⟨#[]⟩, .slice none 0 0])] g k (curN kf vars n i) s [] [] none 0 0) (fun x8 _ => vn - (intOf x8).toNat)
      case atStart => exact ⟨0, Nat.zero_le _, rfl, by have h1 := HST.out; unfold curN; simpa using h1⟩
      case round =>
        clear HST HK0
        obtain ⟨i, hi, rfl, st⟩ := hrel
        have HS := Lib.hid st
        have e1 := (st.fix _ (List.mem_cons_self ..)).1.cell 0
        have e2 := (st.fix _ (List.mem_cons_self ..)).1.cell 1
        have e3 := (st.fix _ (List.mem_cons_self ..)).1.cell 3
        have i0 : (0 : Int) ≤ (i : Int) := Int.natCast_nonneg _
        by_cases hlt : i < vn
        · obtain ⟨b, off, x, rfl, hb, hc, hx⟩ := HN.out i (by rw [HVl.out]; exact hlt)
          have hcr := (st.keep.cell0 hb).trans hc
          have HX := Lib.hid hx
          have i1 : (i : Int) < (vn : Int) := by omega
          have i2 : wrap64 (kf + (i : Int)) = kf + (i : Int) := by unfold wrap64; omega
          have i3 : IntKind.i64.wrap (kf + (i : Int)) = kf + (i : Int) := by simp only [IntKind.wrap_i64]; omega
          clear hx hc st hb
          by_cases hxn : x = n
          · have hq : (x == n) = true := by simpa using hxn
            have HX2 : Hid (vars[i]? = some n) := by rw [← hxn]; exact HX
            have HC2 : Hid (curN kf vars n (i + 1) = kf + (i : Int)) := curN_here HND.out HX2.out
            have o1 := HS.out.out.frozen 1
            have o2 := HS.out.out.cell 1
            have HS2 := Lib.hid ((HS.out.setN (kf + (i : Int))).keep0 (Keeps.refl _ []).drew)
            clear hxn
            go_upto_region 5 with fail
            refine wp_region_tx (fun W' => W'.cell? ⟨b, off + i, none⟩ = some (.int .i64 x) ∧ W'.cell? ⟨w.heap.size, 1, none⟩ = some (.int .i64 n)) [(0, true), (1, true), (2, true), (3, true), (4, true), (5, true), (6, false)] (by kernel_rfl) (by kernel_rfl) ⟨hcr, e2⟩ (fun hHeld => ?_)
            (repeat (first | (refine wpTx_take (v := ?_) rfl (by assumption) ?_ (by rfl) ?_; rotate_left; (focus (intro w' hSw; (try dsimp only at hSw); go_simp; (try with_reducible rfl); done)); simp only [Act.put, List.setIfInBounds_toArray, List.set_cons_zero, List.set_cons_succ]) | (refine wpTx_skip rfl (by assumption) (by rfl) ?_; simp only [Act.put, List.setIfInBounds_toArray, List.set_cons_zero, List.set_cons_succ])))
            refine wpTx_last rfl (fun K hK => ?_)
            go_simp
            refine hK.out _ _ (NoPanic.normal ?_); clear hK K; (try simp only [Act.put, List.setIfInBounds_toArray, List.set_cons_zero, List.set_cons_succ])
            clear e1 e2 e3 hcr
            go_wp2_with fail
            go_roundw
            case rel => exact ⟨i + 1, by omega, by go_num, by rw [HC2.out]; exact HS2.out⟩
            case measure => simp [intOf]; omega
          · have hq : (x == n) = false := by simpa using hxn
            have HC2 : Hid (curN kf vars n (i + 1) = curN kf vars n i) := curN_same HX.out hxn
            clear hxn
            go_upto_region 5 with fail
            refine wp_region_tx (fun W' => W'.cell? ⟨b, off + i, none⟩ = some (.int .i64 x) ∧ W'.cell? ⟨w.heap.size, 1, none⟩ = some (.int .i64 n)) [(0, true), (1, true), (2, true), (3, true), (4, true), (5, true), (6, false)] (by kernel_rfl) (by kernel_rfl) ⟨hcr, e2⟩ (fun hHeld => ?_)
            (repeat (first | (refine wpTx_take (v := ?_) rfl (by assumption) ?_ (by rfl) ?_; rotate_left; (focus (intro w' hSw; (try dsimp only at hSw); go_simp; (try with_reducible rfl); done)); simp only [Act.put, List.setIfInBounds_toArray, List.set_cons_zero, List.set_cons_succ]) | (refine wpTx_skip rfl (by assumption) (by rfl) ?_; simp only [Act.put, List.setIfInBounds_toArray, List.set_cons_zero, List.set_cons_succ])))
            refine wpTx_last rfl (fun K hK => ?_)
            go_simp
            refine hK.out _ _ (NoPanic.normal ?_); clear hK K; (try simp only [Act.put, List.setIfInBounds_toArray, List.set_cons_zero, List.set_cons_succ])
            clear e1 e2 e3 hcr
            go_wp2_with fail
            go_roundw
            case rel => exact ⟨i + 1, by omega, by go_num, by rw [HC2.out]; exact HS.out.keep0 (Keeps.refl _ []).drew⟩
            case measure => simp [intOf]; omega
        · obtain rfl : vn = i := by omega
          have HST : Hid (TSt 24 (fun b => S b ∨ w.heap.size ≤ b) w wr [] [(w.heap.size, 24, #[.int .i64 k, .int .i64 n, .string s, .slice A m c]), (w.heap.size + 1, 24, #[.int .i64 0, .int .i64 0, .string ⟨#[]⟩, .slice none 0 0])] g k (ren kf vars n) s [] [] none 0 0) := by
            have h1 := HS.out
            have h2 := curN_end (kf := kf) HNi.out
            rw [HVl.out] at h2
            rw [h2] at h1
            exact h1
          clear hlt hi st HS
          go_wp2_with fail
          clear e1 e2 e3
          go_loopw [9] (fun i wr => ∃ j : Nat, j ≤ m ∧ i = .int .i64 j ∧ ∃ A2 c2 us, TSt 24 (fun b => S b ∨ w.heap.size ≤ b) w wr [] [(w.heap.size, 24, #[.int .i64 k, .int .i64 n, .string s, .slice A m c]), (w.heap.size + 1, 24, #[.int .i64 0, .int .i64 0, .string ⟨#[]⟩, .slice none 0 0])] g k (ren kf vars n) s ((l.take j).map (tRn (ren kf vars))) us A2 j c2) (fun i _ => m - (intOf i).toNat)
          case atStart => exact ⟨0, Nat.zero_le _, rfl, none, 0, [], HST.out⟩
          case round =>
            obtain ⟨j, hj, rfl, A2, c2, us, st⟩ := hrel
            have HS := Lib.hid st
            have e1 := (st.fix _ (List.mem_cons_self ..)).1.cell 3
            clear st HST
            by_cases hlt : j < m
            · obtain ⟨a, hx⟩ := at_of HM.out hlt
              have HX := Lib.hid hx
              have ha := List.mem_of_getElem? hx
              obtain ⟨v', b, off, _, htr, rfl, hb, p0, p1, p2, p3⟩ := HT.out.get HR.out hx
              have HC : Hid (∀ w', Keeps w w' [] → Calls Try.prog 40 #[.int .i64 kf, .slice VA vn vc, .agg #[.int .i64 v'.k, .int .i64 v'.n, .string v'.s, .slice v'.A v'.len v'.c]] w' (ApDone S w' (tRn (ren kf vars) a))) := fun w' kk => HCall.out a ha v' w' kk (htr.keep kk)
              clear htr hx ha
              have HW : Hid (∀ W', Keeps wr W' (ownL (.slice A2 j c2)) → W'.frozen? ⟨g, 3, none⟩ = false ∧ W'.cell? ⟨g, 3, none⟩ = some (.slice A2 j c2) ∧ W'.cell? ⟨w.heap.size, 3, none⟩ = some (.slice (some ⟨b, off, none⟩) m c) ∧ W'.cell? ⟨b, off + j * 4, none⟩ = some (.int .i64 v'.k) ∧ W'.cell? ⟨b, off + j * 4 + 1, none⟩ = some (.int .i64 v'.n) ∧ W'.cell? ⟨b, off + j * 4 + 2, none⟩ = some (.string v'.s) ∧ W'.cell? ⟨b, off + j * 4 + 3, none⟩ = some (.slice v'.A v'.len v'.c)) := fun W' kk =>
                have kc : ∀ i x, w.cell? ⟨b, i, none⟩ = some x → W'.cell? ⟨b, i, none⟩ = some x := fun i x hx => ((kk.cell (p := ⟨b, i, none⟩) (Nat.lt_of_lt_of_le hb HS.out.keep.size) (own_out HS.out.row hb)).trans (HS.out.keep.cell0 hb)).trans hx
                ⟨(HS.out.out.keep kk HS.out.low.2.1).frozen 3, (HS.out.out.keep kk HS.out.low.2.1).cell 3, ((HS.out.fix _ (List.mem_cons_self ..)).1.keep kk (HS.out.fix _ (List.mem_cons_self ..)).2.1).cell 3, kc _ _ p0, kc _ _ p1, kc _ _ p2, kc _ _ p3⟩
              obtain ⟨q0, q1, q2, q3, q4, q5, q6⟩ := HW.out wr (Keeps.refl _ _)
              clear e1 p0 p1 p2 p3
              have b0 : (0 : Int) ≤ (j : Int) := Int.natCast_nonneg _
              have b1 : (j : Int) < (m : Int) := by omega
              go_wp2_with fail
              have HS1 := HS
              refine wp_region_tx (fun W' => W'.frozen? ⟨g, 3, none⟩ = false ∧ W'.cell? ⟨g, 3, none⟩ = some (.slice A2 j c2) ∧ W'.cell? ⟨w.heap.size, 3, none⟩ = some (.slice (some ⟨b, off, none⟩) m c) ∧ W'.cell? ⟨b, off + j * 4, none⟩ = some (.int .i64 v'.k) ∧ W'.cell? ⟨b, off + j * 4 + 1, none⟩ = some (.int .i64 v'.n) ∧ W'.cell? ⟨b, off + j * 4 + 2, none⟩ = some (.string v'.s) ∧ W'.cell? ⟨b, off + j * 4 + 3, none⟩ = some (.slice v'.A v'.len v'.c)) [(0, true), (1, true), (2, true), (3, true), (4, true), (5, true), (6, true), (7, true), (8, true), (9, false), (10, false), (11, false), (12, true), (13, false)] (by kernel_rfl) (by kernel_rfl) (HW.out _ ((Keeps.refl _ _).drew)) (fun hHeld => ?_)
              (repeat (first | (refine wpTx_take (v := ?_) rfl (by assumption) ?_ (by rfl) ?_; rotate_left; (focus (intro w' hSw; (try dsimp only at hSw); go_simp; (try with_reducible rfl); done)); simp only [Act.put, List.setIfInBounds_toArray, List.set_cons_zero, List.set_cons_succ]) | (refine wpTx_skip rfl (by assumption) (by rfl) ?_; simp only [Act.put, List.setIfInBounds_toArray, List.set_cons_zero, List.set_cons_succ])))
              refine wpTx_go rfl (fun K hK => ?_)
              go_simp
              refine (HC.out _ (HS1.out.keep.drew)).mono ?_
              rintro e w3 ⟨u, rfl, hu, k3⟩
              have HU : Hid (Tr w3 (fun b => S b ∨ wr.heap.size ≤ b) ((tRn (ren kf vars)) a) u) := hu
              unfold tvV
              clear hu
              refine hK.out _ _ ?_ ?_
              · exact HW.out _ (((Keeps.refl _ []).drew.trans k3).to_ _)
              (clear hHeld; intro hHeld; clear hK K; (try simp only [Act.put, List.setIfInBounds_toArray, List.set_cons_zero, List.set_cons_succ]))
              refine wpTx_go rfl (fun K hK => ?_)
              go_simp
              refine hK.out _ _ ?_ ?_
              · exact HW.out _ ((((Keeps.refl _ []).drew.trans k3).alloc _).to_ _)
              (clear hHeld; intro hHeld; clear hK K; (try simp only [Act.put, List.setIfInBounds_toArray, List.set_cons_zero, List.set_cons_succ]))
              refine wpTx_go rfl (fun K hK => ?_)
              refine step_app _ el_rterm (by rfl) _ _ (by rfl) w.heap.size A2 j c2 (us.flatMap tvE) (by rfl) (own_keep0 HS1.out.row (((Keeps.refl _ []).drew.trans k3).alloc _)) (some ⟨w3.heap.size, 0, none⟩) 1 1 (tvE u) (by rfl) (Rd.one w3 _ (tvE u)) rfl (by simp) (by simp [tvE, Value.oneCell']) (by omega) (by simp; have := HS1.out.keep.size; have := k3.size; simp at this; omega) ?_
              intro A' c' w2 hown hgrow hat
              refine hK.out _ _ ?_ ?_
              · exact HW.out _ (((Keeps.refl _ []).drew.trans k3).alloc _ |>.rest (Keeps.ofGrown hgrow))
              (clear hHeld; intro hHeld; clear hK K; (try simp only [Act.put, List.setIfInBounds_toArray, List.set_cons_zero, List.set_cons_succ]))
              (repeat (first | (refine wpTx_take (v := ?_) rfl (by assumption) ?_ (by rfl) ?_; rotate_left; (focus (intro w' hSw; (try dsimp only at hSw); go_simp; (try with_reducible rfl); done)); simp only [Act.put, List.setIfInBounds_toArray, List.set_cons_zero, List.set_cons_succ]) | (refine wpTx_skip rfl (by assumption) (by rfl) ?_; simp only [Act.put, List.setIfInBounds_toArray, List.set_cons_zero, List.set_cons_succ])))
              refine wpTx_last rfl (fun K hK => ?_)
              go_simp
              refine hK.out _ _ (NoPanic.normal ?_); clear hK K; (try simp only [Act.put, List.setIfInBounds_toArray, List.set_cons_zero, List.set_cons_succ])
              go_wp2_with fail
              go_roundw
              case rel =>
                have hs := HS1.out.step (((Keeps.refl _ []).drew.trans k3).alloc _) (HS1.out.part HSl.out (by simp) ((HU.out).keep ((Keeps.refl _ []).alloc _))) hown hgrow hat
                rw [show (l.take j).map (tRn (ren kf vars)) ++ [(tRn (ren kf vars)) a] = (l.take (j + 1)).map (tRn (ren kf vars)) by rw [List.take_add_one, HX.out, List.map_append]; rfl] at hs
                exact ⟨j + 1, by omega, by go_num, A', c', _, hs⟩
              case measure => simp [intOf]; omega
            · obtain rfl : m = j := by omega
              have hd := HS.out.done (by omega)
              rw [show (l.take m).map (tRn (ren kf vars)) = l.map (tRn (ren kf vars)) by rw [← HM.out, List.take_length]] at hd
              have hr := (HS.out.fix (w.heap.size + 1, 24, #[.int .i64 0, .int .i64 0, .string ⟨#[]⟩, .slice none 0 0]) (by simp)).1
              have d0 := HS.out.out.cell 0
              have d1 := HS.out.out.cell 1
              have d2 := HS.out.out.cell 2
              have d3 := HS.out.out.cell 3
              have r0 := hr.cell 0
              have r1 := hr.cell 1
              have r2 := hr.cell 2
              have r3 := hr.cell 3
              have f0 := hr.frozen 0
              have f1 := hr.frozen 1
              have f2 := hr.frozen 2
              have f3 := hr.frozen 3
              have HD := Lib.hid ((hd.mono (S' := fun b => (S b ∨ w.heap.size ≤ b) ∧ b ≠ w.heap.size + 1) fun b hb => ⟨hb.1, hb.2.2 (w.heap.size + 1, 24, #[.int .i64 0, .int .i64 0, .string ⟨#[]⟩, .slice none 0 0]) (by simp)⟩).end4 (.int .i64 k) (.int .i64 (ren kf vars n)) (.string s) (.slice A2 m c2) HS.out.keep (by omega))
              clear hd hr hlt hj
              go_wp2_with fail
              exact bodyPost_ret (v := .agg #[.int .i64 k, .int .i64 (ren kf vars n), .string s, .slice A2 m c2]) (by simp [results, Try.results40, go_sem, *]) rfl (by rw [HG.out]; exact HD.out)
    · have e0 : (k == 0) = false := by simpa using h0
      have HG : Hid (tRn (ren kf vars) (.mk k n s l) = .mk k n s (l.map (tRn (ren kf vars)))) := tRn_node _ s l h0
      have hbx : Blk (w.alloc (.cells #[.int .i64 k, .int .i64 n, .string s, .slice A m c] 24)) w.heap.size 24 #[.int .i64 k, .int .i64 n, .string s, .slice A m c] := Blk.new _ _ _
      have hrb : Blk ((w.alloc (.cells #[.int .i64 k, .int .i64 n, .string s, .slice A m c] 24)).alloc (.cells #[.int .i64 0, .int .i64 0, .string ⟨#[]⟩, .slice none 0 0] 24)) (w.heap.size + 1) 24 #[.int .i64 0, .int .i64 0, .string ⟨#[]⟩, .slice none 0 0] := Blk.newAt _ _ (by simp)
      have hK : Keeps w (((w.alloc (.cells #[.int .i64 k, .int .i64 n, .string s, .slice A m c] 24)).alloc (.cells #[.int .i64 0, .int .i64 0, .string ⟨#[]⟩, .slice none 0 0] 24)).alloc (.cells #[.int .i64 k, .int .i64 n, .string s, .slice none 0 0] 24)) [] := (((Keeps.refl w []).alloc _).alloc _).alloc _
      obtain ⟨g, hg⟩ : ∃ g, w.heap.size + 1 + 1 = g := ⟨_, rfl⟩
      have hst : TSt 24 (fun b => S b ∨ w.heap.size ≤ b) w (((w.alloc (.cells #[.int .i64 k, .int .i64 n, .string s, .slice A m c] 24)).alloc (.cells #[.int .i64 0, .int .i64 0, .string ⟨#[]⟩, .slice none 0 0] 24)).alloc (.cells #[.int .i64 k, .int .i64 n, .string s, .slice none 0 0] 24)) [] [(w.heap.size, 24, #[.int .i64 k, .int .i64 n, .string s, .slice A m c]), (w.heap.size + 1, 24, #[.int .i64 0, .int .i64 0, .string ⟨#[]⟩, .slice none 0 0])] g k n s [] [] none 0 0 :=
        TSt.start (by
          intro x hx
          simp only [List.mem_cons, List.not_mem_nil, or_false] at hx
          rcases hx with rfl | rfl
          · exact ⟨(hbx.alloc _).alloc _, by simp; omega⟩
          · exact ⟨hrb.alloc _, by simp; omega⟩) (Blk.newAt _ _ (by simp; omega)) hK (by omega) (fun b h => .inr h) HZ.out
      have HST := Lib.hid hst
      clear hbx hrb hK hst
      have e1 := (HST.out.fix _ (List.mem_cons_self ..)).1.cell 0
      go_enter Try.func40, Try.ntmps40
      go_wp2_with fail
      go_loopw [8] (fun x8 wr => x8 = .int .i64 0 ∧ TSt 24 (fun b => S b ∨ w.heap.size ≤ b) w wr [] [(w.heap.size, 24, #[.int .i64 k, .int .i64 n, .string s, .slice A m c]), (w.heap.size + 1, 24, #[.int .i64 0, .int .i64 0, .string ⟨#[]⟩, .slice none 0 0])] g k n s [] [] none 0 0) (fun _ _ => 0)
      case atStart => exact ⟨rfl, HST.out⟩
      case round =>
        clear HST e1
        obtain ⟨rfl, st⟩ := hrel
        have HST := Lib.hid st
        have e1 := (st.fix _ (List.mem_cons_self ..)).1.cell 0
        have e3 := (st.fix _ (List.mem_cons_self ..)).1.cell 3
        clear st
        by_cases hv0 : 0 < vn
        · have i1 : (0 : Int) < (vn : Int) := by omega
          go_wp2_with fail
          clear e1 e3 i1 hv0
          go_loopw [9] (fun i wr => ∃ j : Nat, j ≤ m ∧ i = .int .i64 j ∧ ∃ A2 c2 us, TSt 24 (fun b => S b ∨ w.heap.size ≤ b) w wr [] [(w.heap.size, 24, #[.int .i64 k, .int .i64 n, .string s, .slice A m c]), (w.heap.size + 1, 24, #[.int .i64 0, .int .i64 0, .string ⟨#[]⟩, .slice none 0 0])] g k n s ((l.take j).map (tRn (ren kf vars))) us A2 j c2) (fun i _ => m - (intOf i).toNat)
          case atStart => exact ⟨0, Nat.zero_le _, rfl, none, 0, [], HST.out⟩
          case round =>
            obtain ⟨j, hj, rfl, A2, c2, us, st⟩ := hrel
            have HS := Lib.hid st
            have e1 := (st.fix _ (List.mem_cons_self ..)).1.cell 3
            clear st HST
            by_cases hlt : j < m
            · obtain ⟨a, hx⟩ := at_of HM.out hlt
              have HX := Lib.hid hx
              have ha := List.mem_of_getElem? hx
              obtain ⟨v', b, off, _, htr, rfl, hb, p0, p1, p2, p3⟩ := HT.out.get HR.out hx
              have HC : Hid (∀ w', Keeps w w' [] → Calls Try.prog 40 #[.int .i64 kf, .slice VA vn vc, .agg #[.int .i64 v'.k, .int .i64 v'.n, .string v'.s, .slice v'.A v'.len v'.c]] w' (ApDone S w' (tRn (ren kf vars) a))) := fun w' kk => HCall.out a ha v' w' kk (htr.keep kk)
              clear htr hx ha
              have HW : Hid (∀ W', Keeps wr W' (ownL (.slice A2 j c2)) → W'.frozen? ⟨g, 3, none⟩ = false ∧ W'.cell? ⟨g, 3, none⟩ = some (.slice A2 j c2) ∧ W'.cell? ⟨w.heap.size, 3, none⟩ = some (.slice (some ⟨b, off, none⟩) m c) ∧ W'.cell? ⟨b, off + j * 4, none⟩ = some (.int .i64 v'.k) ∧ W'.cell? ⟨b, off + j * 4 + 1, none⟩ = some (.int .i64 v'.n) ∧ W'.cell? ⟨b, off + j * 4 + 2, none⟩ = some (.string v'.s) ∧ W'.cell? ⟨b, off + j * 4 + 3, none⟩ = some (.slice v'.A v'.len v'.c)) := fun W' kk =>
                have kc : ∀ i x, w.cell? ⟨b, i, none⟩ = some x → W'.cell? ⟨b, i, none⟩ = some x := fun i x hx => ((kk.cell (p := ⟨b, i, none⟩) (Nat.lt_of_lt_of_le hb HS.out.keep.size) (own_out HS.out.row hb)).trans (HS.out.keep.cell0 hb)).trans hx
                ⟨(HS.out.out.keep kk HS.out.low.2.1).frozen 3, (HS.out.out.keep kk HS.out.low.2.1).cell 3, ((HS.out.fix _ (List.mem_cons_self ..)).1.keep kk (HS.out.fix _ (List.mem_cons_self ..)).2.1).cell 3, kc _ _ p0, kc _ _ p1, kc _ _ p2, kc _ _ p3⟩
              obtain ⟨q0, q1, q2, q3, q4, q5, q6⟩ := HW.out wr (Keeps.refl _ _)
              clear e1 p0 p1 p2 p3
              have b0 : (0 : Int) ≤ (j : Int) := Int.natCast_nonneg _
              have b1 : (j : Int) < (m : Int) := by omega
              go_wp2_with fail
              have HS1 := HS
              refine wp_region_tx (fun W' => W'.frozen? ⟨g, 3, none⟩ = false ∧ W'.cell? ⟨g, 3, none⟩ = some (.slice A2 j c2) ∧ W'.cell? ⟨w.heap.size, 3, none⟩ = some (.slice (some ⟨b, off, none⟩) m c) ∧ W'.cell? ⟨b, off + j * 4, none⟩ = some (.int .i64 v'.k) ∧ W'.cell? ⟨b, off + j * 4 + 1, none⟩ = some (.int .i64 v'.n) ∧ W'.cell? ⟨b, off + j * 4 + 2, none⟩ = some (.string v'.s) ∧ W'.cell? ⟨b, off + j * 4 + 3, none⟩ = some (.slice v'.A v'.len v'.c)) [(0, true), (1, true), (2, true), (3, true), (4, true), (5, true), (6, true), (7, true), (8, true), (9, false), (10, false), (11, false), (12, true), (13, false)] (by kernel_rfl) (by kernel_rfl) (HW.out _ ((Keeps.refl _ _).drew)) (fun hHeld => ?_)
              (repeat (first | (refine wpTx_take (v := ?_) rfl (by assumption) ?_ (by rfl) ?_; rotate_left; (focus (intro w' hSw; (try dsimp only at hSw); go_simp; (try with_reducible rfl); done)); simp only [Act.put, List.setIfInBounds_toArray, List.set_cons_zero, List.set_cons_succ]) | (refine wpTx_skip rfl (by assumption) (by rfl) ?_; simp only [Act.put, List.setIfInBounds_toArray, List.set_cons_zero, List.set_cons_succ])))
              refine wpTx_go rfl (fun K hK => ?_)
              go_simp
              refine (HC.out _ (HS1.out.keep.drew)).mono ?_
              rintro e w3 ⟨u, rfl, hu, k3⟩
              have HU : Hid (Tr w3 (fun b => S b ∨ wr.heap.size ≤ b) ((tRn (ren kf vars)) a) u) := hu
              unfold tvV
              clear hu
              refine hK.out _ _ ?_ ?_
              · exact HW.out _ (((Keeps.refl _ []).drew.trans k3).to_ _)
              (clear hHeld; intro hHeld; clear hK K; (try simp only [Act.put, List.setIfInBounds_toArray, List.set_cons_zero, List.set_cons_succ]))
              refine wpTx_go rfl (fun K hK => ?_)
              go_simp
              refine hK.out _ _ ?_ ?_
              · exact HW.out _ ((((Keeps.refl _ []).drew.trans k3).alloc _).to_ _)
              (clear hHeld; intro hHeld; clear hK K; (try simp only [Act.put, List.setIfInBounds_toArray, List.set_cons_zero, List.set_cons_succ]))
              refine wpTx_go rfl (fun K hK => ?_)
              refine step_app _ el_rterm (by rfl) _ _ (by rfl) w.heap.size A2 j c2 (us.flatMap tvE) (by rfl) (own_keep0 HS1.out.row (((Keeps.refl _ []).drew.trans k3).alloc _)) (some ⟨w3.heap.size, 0, none⟩) 1 1 (tvE u) (by rfl) (Rd.one w3 _ (tvE u)) rfl (by simp) (by simp [tvE, Value.oneCell']) (by omega) (by simp; have := HS1.out.keep.size; have := k3.size; simp at this; omega) ?_
              intro A' c' w2 hown hgrow hat
              refine hK.out _ _ ?_ ?_
              · exact HW.out _ (((Keeps.refl _ []).drew.trans k3).alloc _ |>.rest (Keeps.ofGrown hgrow))
              (clear hHeld; intro hHeld; clear hK K; (try simp only [Act.put, List.setIfInBounds_toArray, List.set_cons_zero, List.set_cons_succ]))
              (repeat (first | (refine wpTx_take (v := ?_) rfl (by assumption) ?_ (by rfl) ?_; rotate_left; (focus (intro w' hSw; (try dsimp only at hSw); go_simp; (try with_reducible rfl); done)); simp only [Act.put, List.setIfInBounds_toArray, List.set_cons_zero, List.set_cons_succ]) | (refine wpTx_skip rfl (by assumption) (by rfl) ?_; simp only [Act.put, List.setIfInBounds_toArray, List.set_cons_zero, List.set_cons_succ])))
              refine wpTx_last rfl (fun K hK => ?_)
              go_simp
              refine hK.out _ _ (NoPanic.normal ?_); clear hK K; (try simp only [Act.put, List.setIfInBounds_toArray, List.set_cons_zero, List.set_cons_succ])
              go_wp2_with fail
              go_roundw
              case rel =>
                have hs := HS1.out.step (((Keeps.refl _ []).drew.trans k3).alloc _) (HS1.out.part HSl.out (by simp) ((HU.out).keep ((Keeps.refl _ []).alloc _))) hown hgrow hat
                rw [show (l.take j).map (tRn (ren kf vars)) ++ [(tRn (ren kf vars)) a] = (l.take (j + 1)).map (tRn (ren kf vars)) by rw [List.take_add_one, HX.out, List.map_append]; rfl] at hs
                exact ⟨j + 1, by omega, by go_num, A', c', _, hs⟩
              case measure => simp [intOf]; omega
            · obtain rfl : m = j := by omega
              have hd := HS.out.done (by omega)
              rw [show (l.take m).map (tRn (ren kf vars)) = l.map (tRn (ren kf vars)) by rw [← HM.out, List.take_length]] at hd
              have hr := (HS.out.fix (w.heap.size + 1, 24, #[.int .i64 0, .int .i64 0, .string ⟨#[]⟩, .slice none 0 0]) (by simp)).1
              have d0 := HS.out.out.cell 0
              have d1 := HS.out.out.cell 1
              have d2 := HS.out.out.cell 2
              have d3 := HS.out.out.cell 3
              have r0 := hr.cell 0
              have r1 := hr.cell 1
              have r2 := hr.cell 2
              have r3 := hr.cell 3
              have f0 := hr.frozen 0
              have f1 := hr.frozen 1
              have f2 := hr.frozen 2
              have f3 := hr.frozen 3
              have HD := Lib.hid ((hd.mono (S' := fun b => (S b ∨ w.heap.size ≤ b) ∧ b ≠ w.heap.size + 1) fun b hb => ⟨hb.1, hb.2.2 (w.heap.size + 1, 24, #[.int .i64 0, .int .i64 0, .string ⟨#[]⟩, .slice none 0 0]) (by simp)⟩).end4 (.int .i64 k) (.int .i64 n) (.string s) (.slice A2 m c2) HS.out.keep (by omega))
              clear hd hr hlt hj
              go_wp2_with fail
              exact bodyPost_ret (v := .agg #[.int .i64 k, .int .i64 n, .string s, .slice A2 m c2]) (by simp [results, Try.results40, go_sem, *]) rfl (by rw [HG.out]; exact HD.out)
        · have i1 : ¬ (0 : Int) < (vn : Int) := by omega
          go_wp2_with fail
          clear e1 e3 i1 hv0
          go_loopw [9] (fun i wr => ∃ j : Nat, j ≤ m ∧ i = .int .i64 j ∧ ∃ A2 c2 us, TSt 24 (fun b => S b ∨ w.heap.size ≤ b) w wr [] [(w.heap.size, 24, #[.int .i64 k, .int .i64 n, .string s, .slice A m c]), (w.heap.size + 1, 24, #[.int .i64 0, .int .i64 0, .string ⟨#[]⟩, .slice none 0 0])] g k n s ((l.take j).map (tRn (ren kf vars))) us A2 j c2) (fun i _ => m - (intOf i).toNat)
          case atStart => exact ⟨0, Nat.zero_le _, rfl, none, 0, [], HST.out⟩
          case round =>
            obtain ⟨j, hj, rfl, A2, c2, us, st⟩ := hrel
            have HS := Lib.hid st
            have e1 := (st.fix _ (List.mem_cons_self ..)).1.cell 3
            clear st HST
            by_cases hlt : j < m
            · obtain ⟨a, hx⟩ := at_of HM.out hlt
              have HX := Lib.hid hx
              have ha := List.mem_of_getElem? hx
              obtain ⟨v', b, off, _, htr, rfl, hb, p0, p1, p2, p3⟩ := HT.out.get HR.out hx
              have HC : Hid (∀ w', Keeps w w' [] → Calls Try.prog 40 #[.int .i64 kf, .slice VA vn vc, .agg #[.int .i64 v'.k, .int .i64 v'.n, .string v'.s, .slice v'.A v'.len v'.c]] w' (ApDone S w' (tRn (ren kf vars) a))) := fun w' kk => HCall.out a ha v' w' kk (htr.keep kk)
              clear htr hx ha
              have HW : Hid (∀ W', Keeps wr W' (ownL (.slice A2 j c2)) → W'.frozen? ⟨g, 3, none⟩ = false ∧ W'.cell? ⟨g, 3, none⟩ = some (.slice A2 j c2) ∧ W'.cell? ⟨w.heap.size, 3, none⟩ = some (.slice (some ⟨b, off, none⟩) m c) ∧ W'.cell? ⟨b, off + j * 4, none⟩ = some (.int .i64 v'.k) ∧ W'.cell? ⟨b, off + j * 4 + 1, none⟩ = some (.int .i64 v'.n) ∧ W'.cell? ⟨b, off + j * 4 + 2, none⟩ = some (.string v'.s) ∧ W'.cell? ⟨b, off + j * 4 + 3, none⟩ = some (.slice v'.A v'.len v'.c)) := fun W' kk =>
                have kc : ∀ i x, w.cell? ⟨b, i, none⟩ = some x → W'.cell? ⟨b, i, none⟩ = some x := fun i x hx => ((kk.cell (p := ⟨b, i, none⟩) (Nat.lt_of_lt_of_le hb HS.out.keep.size) (own_out HS.out.row hb)).trans (HS.out.keep.cell0 hb)).trans hx
                ⟨(HS.out.out.keep kk HS.out.low.2.1).frozen 3, (HS.out.out.keep kk HS.out.low.2.1).cell 3, ((HS.out.fix _ (List.mem_cons_self ..)).1.keep kk (HS.out.fix _ (List.mem_cons_self ..)).2.1).cell 3, kc _ _ p0, kc _ _ p1, kc _ _ p2, kc _ _ p3⟩
              obtain ⟨q0, q1, q2, q3, q4, q5, q6⟩ := HW.out wr (Keeps.refl _ _)
              clear e1 p0 p1 p2 p3
              have b0 : (0 : Int) ≤ (j : Int) := Int.natCast_nonneg _
              have b1 : (j : Int) < (m : Int) := by omega
              go_wp2_with fail
              have HS1 := HS
              refine wp_region_tx (fun W' => W'.frozen? ⟨g, 3, none⟩ = false ∧ W'.cell? ⟨g, 3, none⟩ = some (.slice A2 j c2) ∧ W'.cell? ⟨w.heap.size, 3, none⟩ = some (.slice (some ⟨b, off, none⟩) m c) ∧ W'.cell? ⟨b, off + j * 4, none⟩ = some (.int .i64 v'.k) ∧ W'.cell? ⟨b, off + j * 4 + 1, none⟩ = some (.int .i64 v'.n) ∧ W'.cell? ⟨b, off + j * 4 + 2, none⟩ = some (.string v'.s) ∧ W'.cell? ⟨b, off + j * 4 + 3, none⟩ = some (.slice v'.A v'.len v'.c)) [(0, true), (1, true), (2, true), (3, true), (4, true), (5, true), (6, true), (7, true), (8, true), (9, false), (10, false), (11, false), (12, true), (13, false)] (by kernel_rfl) (by kernel_rfl) (HW.out _ ((Keeps.refl _ _).drew)) (fun hHeld => ?_)
              (repeat (first | (refine wpTx_take (v := ?_) rfl (by assumption) ?_ (by rfl) ?_; rotate_left; (focus (intro w' hSw; (try dsimp only at hSw); go_simp; (try with_reducible rfl); done)); simp only [Act.put, List.setIfInBounds_toArray, List.set_cons_zero, List.set_cons_succ]) | (refine wpTx_skip rfl (by assumption) (by rfl) ?_; simp only [Act.put, List.setIfInBounds_toArray, List.set_cons_zero, List.set_cons_succ])))
              refine wpTx_go rfl (fun K hK => ?_)
              go_simp
              refine (HC.out _ (HS1.out.keep.drew)).mono ?_
              rintro e w3 ⟨u, rfl, hu, k3⟩
              have HU : Hid (Tr w3 (fun b => S b ∨ wr.heap.size ≤ b) ((tRn (ren kf vars)) a) u) := hu
              unfold tvV
              clear hu
              refine hK.out _ _ ?_ ?_
              · exact HW.out _ (((Keeps.refl _ []).drew.trans k3).to_ _)
              (clear hHeld; intro hHeld; clear hK K; (try simp only [Act.put, List.setIfInBounds_toArray, List.set_cons_zero, List.set_cons_succ]))
              refine wpTx_go rfl (fun K hK => ?_)
              go_simp
              refine hK.out _ _ ?_ ?_
              · exact HW.out _ ((((Keeps.refl _ []).drew.trans k3).alloc _).to_ _)
              (clear hHeld; intro hHeld; clear hK K; (try simp only [Act.put, List.setIfInBounds_toArray, List.set_cons_zero, List.set_cons_succ]))
              refine wpTx_go rfl (fun K hK => ?_)
              refine step_app _ el_rterm (by rfl) _ _ (by rfl) w.heap.size A2 j c2 (us.flatMap tvE) (by rfl) (own_keep0 HS1.out.row (((Keeps.refl _ []).drew.trans k3).alloc _)) (some ⟨w3.heap.size, 0, none⟩) 1 1 (tvE u) (by rfl) (Rd.one w3 _ (tvE u)) rfl (by simp) (by simp [tvE, Value.oneCell']) (by omega) (by simp; have := HS1.out.keep.size; have := k3.size; simp at this; omega) ?_
              intro A' c' w2 hown hgrow hat
              refine hK.out _ _ ?_ ?_
              · exact HW.out _ (((Keeps.refl _ []).drew.trans k3).alloc _ |>.rest (Keeps.ofGrown hgrow))
              (clear hHeld; intro hHeld; clear hK K; (try simp only [Act.put, List.setIfInBounds_toArray, List.set_cons_zero, List.set_cons_succ]))
              (repeat (first | (refine wpTx_take (v := ?_) rfl (by assumption) ?_ (by rfl) ?_; rotate_left; (focus (intro w' hSw; (try dsimp only at hSw); go_simp; (try with_reducible rfl); done)); simp only [Act.put, List.setIfInBounds_toArray, List.set_cons_zero, List.set_cons_succ]) | (refine wpTx_skip rfl (by assumption) (by rfl) ?_; simp only [Act.put, List.setIfInBounds_toArray, List.set_cons_zero, List.set_cons_succ])))
              refine wpTx_last rfl (fun K hK => ?_)
              go_simp
              refine hK.out _ _ (NoPanic.normal ?_); clear hK K; (try simp only [Act.put, List.setIfInBounds_toArray, List.set_cons_zero, List.set_cons_succ])
              go_wp2_with fail
              go_roundw
              case rel =>
                have hs := HS1.out.step (((Keeps.refl _ []).drew.trans k3).alloc _) (HS1.out.part HSl.out (by simp) ((HU.out).keep ((Keeps.refl _ []).alloc _))) hown hgrow hat
                rw [show (l.take j).map (tRn (ren kf vars)) ++ [(tRn (ren kf vars)) a] = (l.take (j + 1)).map (tRn (ren kf vars)) by rw [List.take_add_one, HX.out, List.map_append]; rfl] at hs
                exact ⟨j + 1, by omega, by go_num, A', c', _, hs⟩
              case measure => simp [intOf]; omega
            · obtain rfl : m = j := by omega
              have hd := HS.out.done (by omega)
              rw [show (l.take m).map (tRn (ren kf vars)) = l.map (tRn (ren kf vars)) by rw [← HM.out, List.take_length]] at hd
              have hr := (HS.out.fix (w.heap.size + 1, 24, #[.int .i64 0, .int .i64 0, .string ⟨#[]⟩, .slice none 0 0]) (by simp)).1
              have d0 := HS.out.out.cell 0
              have d1 := HS.out.out.cell 1
              have d2 := HS.out.out.cell 2
              have d3 := HS.out.out.cell 3
              have r0 := hr.cell 0
              have r1 := hr.cell 1
              have r2 := hr.cell 2
              have r3 := hr.cell 3
              have f0 := hr.frozen 0
              have f1 := hr.frozen 1
              have f2 := hr.frozen 2
              have f3 := hr.frozen 3
              have HD := Lib.hid ((hd.mono (S' := fun b => (S b ∨ w.heap.size ≤ b) ∧ b ≠ w.heap.size + 1) fun b hb => ⟨hb.1, hb.2.2 (w.heap.size + 1, 24, #[.int .i64 0, .int .i64 0, .string ⟨#[]⟩, .slice none 0 0]) (by simp)⟩).end4 (.int .i64 k) (.int .i64 n) (.string s) (.slice A2 m c2) HS.out.keep (by omega))
              clear hd hr hlt hj
              go_wp2_with fail
              exact bodyPost_ret (v := .agg #[.int .i64 k, .int .i64 n, .string s, .slice A2 m c2]) (by simp [results, Try.results40, go_sem, *]) rfl (by rw [HG.out]; exact HD.out)

set_option maxRecDepth 100000 in
set_option maxHeartbeats 3200000 in
theorem refRenameL_any (k : Int) (k0 : 0 ≤ k) (k9 : k ≤ 1000000) (l : List Tm) (vs : List TV) (A : Option Addr) (m c : Nat) (w : World) (hT : Trs w (fun _ => True) l vs) (hR : Rd w A (vs.flatMap tvE)) (hm : l.length = m) (hmb : m ≤ 1000000) (hw : ∀ a ∈ l, tRight a = true) (hv : (tVars l).length ≤ 1000000) :
    Calls Try.prog 21 #[.int .i64 k, .slice A m c] w (LDone w (rn k l)) := by
  have HVs := Lib.hid (refVarsL_any l vs A m c w hT hR hm (by omega) hv hw)
  have HWd := Lib.hid hw
  have HV := Lib.hid hv
  have HT0 := Lib.hid hT
  have HR0 := Lib.hid hR
  have HM := Lib.hid hm
  have HRn : Hid (rn k l = l.map (tRn (ren k (tVars l)))) := rfl
  rw [HRn.out]
  clear hw hv hT hR hm HRn
  go_enter Try.func21, Try.ntmps21
  go_wp2_with fail
  refine HVs.out.mono ?_
  rintro e w2 ⟨VA, vc, rfl, hN, k1⟩
  have HNs := Lib.hid hN
  have HKw2 := Lib.hid k1
  have HT := Lib.hid (HT0.out.keep k1 |>.here.mono (S' := fun b => b < w2.heap.size) fun b h => h.2)
  have HR := Lib.hid (HR0.out.keep k1)
  have HK0 : Hid (Keeps w2 w2 []) := Keeps.refl _ _
  have HCa : Hid (∀ a ∈ l, ∀ (v' : TV) W, Keeps w2 W [] → Tr W (fun b => b < w2.heap.size) a v' → Calls Try.prog 40 #[.int .i64 k, .slice VA (tVars l).length vc, .agg #[.int .i64 v'.k, .int .i64 v'.n, .string v'.s, .slice v'.A v'.len v'.c]] W (ApDone (fun b => b < w2.heap.size) W (tRn (ren k (tVars l)) a))) := fun a ha v' W kk htr =>
    refRename_any k k0 k9 VA (tVars l).length vc (tVars l) rfl HV.out (walks_nodup [] l List.nodup_nil) a v' W (fun b => b < w2.heap.size) (fun b hb => Nat.lt_of_lt_of_le hb kk.size) htr (HWd.out a ha) (vars_in HWd.out a ha).vs ((HNs.out.keep (w' := W) (fun p hp => kk.cell hp (by simp))).more kk.size)
  clear hN k1 HVs HNs k0 k9
  go_wp2_with fail
  go_loopw [6, 7] (fun x6 x7 wr => ∃ (j : Nat) (A2 : Option Addr) (c2 : Nat) (us : List TV), j ≤ m ∧ x7 = .int .i64 j ∧ x6 = .slice A2 j c2 ∧ LR 24 w2 wr ((l.take j).map (tRn (ren k (tVars l)))) us A2 j c2) (fun _ i _ => m - (intOf i).toNat)
  case atStart => exact ⟨0, none, 0, [], Nat.zero_le _, rfl, rfl, LR.start _ HK0.out⟩
  case round =>
    obtain ⟨j, A2, c2, us, hj, rfl, rfl, st⟩ := hrel
    have HS := Lib.hid st
    clear st
    by_cases hlt : j < m
    · obtain ⟨a, hx⟩ := at_of HM.out hlt
      have HX := Lib.hid hx
      have HMem := Lib.hid (List.mem_of_getElem? hx)
      obtain ⟨v', b, off, _, htr, rfl, hb, p0, p1, p2, p3⟩ := (HT.out.keep HS.out.keep).get (HR.out.keep HS.out.keep) hx
      have HTr := Lib.hid htr
      have b0 : (0 : Int) ≤ (j : Int) := Int.natCast_nonneg _
      have b1 : (j : Int) < (m : Int) := by omega
      clear htr hx
      go_wp2_with fail
      refine (HCa.out a HMem.out v' _ HS.out.keep HTr.out).mono ?_
      rintro e w3 ⟨u, rfl, hu, k3⟩
      have HK3 := Lib.hid k3
      have HU := Lib.hid hu
      unfold tvV
      clear hu k3 p0 p1 p2 p3 hb
      go_wp2_with (at_builtin; have K5 := HK3.out.alloc (.cells #[.int .i64 u.k, .int .i64 u.n, .string u.s, .slice u.A u.len u.c] 24); have hz5 := K5.size; have hz6 := HS.out.keep.size; refine wpList_app _ el_rterm rfl (.tmp 16) (.tmp 24) rfl w2.heap.size A2 j c2 (us.flatMap tvE) rfl (own_keep0 HS.out.own K5) (some ⟨w3.heap.size, 0, none⟩) 1 1 (tvE u) rfl (Rd.one w3 _ (tvE u)) rfl (by simp) (by simp [tvE, Value.oneCell']) (by omega) (by omega) ?_; intro A' c' w2 hown hgrow hat; have HN := Lib.hid (HS.out.push K5 ((HU.out.keep ((Keeps.refl w3 []).alloc _)).mono fun b hb => by omega) hown hgrow hat); clear hown hgrow hat K5 hz5 hz6)
      go_roundw
      case rel =>
        have h1 := HN.out
        rw [show (l.take j).map (tRn (ren k (tVars l))) ++ [(tRn (ren k (tVars l))) a] = (l.take (j + 1)).map (tRn (ren k (tVars l))) by rw [List.take_add_one, HX.out, List.map_append]; rfl] at h1
        exact ⟨j + 1, A', c', _, by omega, by go_num, rfl, h1⟩
      case measure => simp [intOf]; omega
    · obtain rfl : m = j := by omega
      have hd := HS.out.done
      rw [show (l.take m).map (tRn (ren k (tVars l))) = l.map (tRn (ren k (tVars l))) by rw [← HM.out, List.take_length]] at hd
      have HD := Lib.hid hd
      clear hd hlt hj
      go_wp2_with fail
      go_ret
      exact ⟨_, _, _, HD.out.choose_spec.choose_spec.choose_spec.1, HD.out.choose_spec.choose_spec.choose_spec.2.1, HD.out.choose_spec.choose_spec.choose_spec.2.2.1, HKw2.out.trans HD.out.choose_spec.choose_spec.choose_spec.2.2.2⟩

set_option maxRecDepth 100000 in
set_option maxHeartbeats 3200000 in
theorem refAlikeL_any (l l' : List Tm) (vs vs' : List TV) (A A' : Option Addr) (m c m' c' : Nat) (w : World) (hT : Trs w (fun _ => True) l vs) (hR : Rd w A (vs.flatMap tvE)) (hm : l.length = m) (hmb : m ≤ 1000000) (hw : ∀ a ∈ l, tRight a = true) (hv : (tVars l).length ≤ 1000000)
    (hT' : Trs w (fun _ => True) l' vs') (hR' : Rd w A' (vs'.flatMap tvE)) (hm' : l'.length = m') (hmb' : m' ≤ 1000000) (hw' : ∀ a ∈ l', tRight a = true) (hv' : (tVars l').length ≤ 1000000) :
    Calls Try.prog 23 #[.slice A m c, .slice A' m' c'] w fun e w' => e = .returned (.bool (tSames (rn 0 l) (rn 0 l'))) ∧ Keeps w w' [] := by
  have HC1 := Lib.hid (refRenameL_any 0 (by omega) (by omega) l vs A m c w hT hR hm hmb hw hv)
  have HC2 : Hid (∀ W, Keeps w W [] → Calls Try.prog 21 #[.int .i64 0, .slice A' m' c'] W (LDone W (rn 0 l'))) := fun W k => refRenameL_any 0 (by omega) (by omega) l' vs' A' m' c' W (hT'.keep k) (hR'.keep k) hm' hmb' hw' hv'
  have HL1 : Hid ((rn 0 l).length = m) := by show _ = _; rw [rn_len, hm]
  have HL2 : Hid ((rn 0 l').length = m') := by show _ = _; rw [rn_len, hm']
  have HSm : Hid (∀ (t t' : Tm) (u v : TV) (w : World), Tr w (fun _ => True) t u → Tr w (fun _ => True) t' v → Calls Try.prog 16 #[.agg #[.int .i64 u.k, .int .i64 u.n, .string u.s, .slice u.A u.len u.c], .agg #[.int .i64 v.k, .int .i64 v.n, .string v.s, .slice v.A v.len v.c]] w fun e w' => e = .returned (.bool (tSame t t')) ∧ Keeps w w' []) := fun t t' u v w h1 h2 => refSame_any t t' u v w h1 h2
  clear hT hR hm hw hv hT' hR' hm' hw' hv'
  go_enter Try.func23, Try.ntmps23
  by_cases hmm : m = m'
  case neg =>
    have hne : Hid (tSames (rn 0 l) (rn 0 l') = false) := by
      refine Bool.eq_false_iff.2 fun h => ?_
      have h1 := congrArg List.length ((tSames_iff _ _).1 h)
      rw [HL1.out, HL2.out] at h1
      exact hmm h1
    have e7 : ((m : Int) != (m' : Int)) = true := by simpa using (show ¬ (m : Int) = (m' : Int) by omega)
    have e8 : (m == m') = false := by simpa using hmm
    have e9 : (m != m') = true := by simpa using hmm
    rw [hne.out]
    go_wp2_with fail
    go_ret
    exact ⟨rfl, Keeps.refl _ _⟩
  subst hmm
  go_wp2_with fail
  refine HC1.out.mono ?_
  rintro e w1 ⟨B1, d1, us1, rfl, ht1, hr1, k1⟩
  rw [HL1.out]
  have HT1 := Lib.hid ht1
  have HR1 := Lib.hid hr1
  have HK1 := Lib.hid k1
  clear ht1 hr1 k1 HC1
  go_wp2_with fail
  refine (HC2.out _ HK1.out).mono ?_
  rintro e w2 ⟨B2, d2, us2, rfl, ht2, hr2, k2⟩
  rw [HL2.out]
  have HTa := Lib.hid (HT1.out.keep k2)
  have HRa := Lib.hid (HR1.out.keep k2)
  have HTb := Lib.hid ht2
  have HRb := Lib.hid hr2
  have HK2 := Lib.hid (HK1.out.trans k2)
  obtain ⟨q1, hq1⟩ : ∃ q1, rn 0 l = q1 := ⟨_, rfl⟩
  obtain ⟨q2, hq2⟩ : ∃ q2, rn 0 l' = q2 := ⟨_, rfl⟩
  have HQ1 := Lib.hid hq1
  have HQ2 := Lib.hid hq2
  rw [hq1] at HL1 HTa
  rw [hq2] at HL2 HTb
  clear hq1 hq2
  clear ht2 hr2 k2 HC2 HT1 HR1
  go_wp2_with fail
  go_loopw [7] (fun x7 wr => ∃ j : Nat, j ≤ m ∧ x7 = .int .i64 j ∧ tSames (q1.take j) (q2.take j) = true ∧ Keeps w2 wr []) (fun x7 _ => m - (intOf x7).toNat)
  case atStart => exact ⟨0, Nat.zero_le _, rfl, by simp [tSames], Keeps.refl _ _⟩
  case round =>
    obtain ⟨j, hj, rfl, hpos, hkeep⟩ := hrel
    have HK := Lib.hid hkeep
    have HP := Lib.hid hpos
    clear hpos
    by_cases hlt : j < m
    · obtain ⟨a, hx⟩ := at_of HL1.out hlt
      obtain ⟨a', hy⟩ := at_of HL2.out hlt
      have HN := Lib.hid (tSames_snoc hx hy HP.out)
      have hno := tSames_no hx hy
      obtain ⟨u, b, off, _, htr, rfl, hb, p0, p1, p2, p3⟩ := (HTa.out.keep hkeep).get (HRa.out.keep hkeep) hx
      obtain ⟨v, b', off', _, htr', rfl, hb', q0, q1', q2', q3⟩ := (HTb.out.keep hkeep).get (HRb.out.keep hkeep) hy
      have HW : Hid (∀ W', Keeps wr W' [] → W'.cell? ⟨b, off + j * 4, none⟩ = some (.int .i64 u.k) ∧ W'.cell? ⟨b, off + j * 4 + 1, none⟩ = some (.int .i64 u.n) ∧ W'.cell? ⟨b, off + j * 4 + 2, none⟩ = some (.string u.s) ∧ W'.cell? ⟨b, off + j * 4 + 3, none⟩ = some (.slice u.A u.len u.c) ∧ W'.cell? ⟨b', off' + j * 4, none⟩ = some (.int .i64 v.k) ∧ W'.cell? ⟨b', off' + j * 4 + 1, none⟩ = some (.int .i64 v.n) ∧ W'.cell? ⟨b', off' + j * 4 + 2, none⟩ = some (.string v.s) ∧ W'.cell? ⟨b', off' + j * 4 + 3, none⟩ = some (.slice v.A v.len v.c)) := fun W' kk => ⟨(kk.cell0 hb).trans p0, (kk.cell0 hb).trans p1, (kk.cell0 hb).trans p2, (kk.cell0 hb).trans p3, (kk.cell0 hb').trans q0, (kk.cell0 hb').trans q1', (kk.cell0 hb').trans q2', (kk.cell0 hb').trans q3⟩
      have HCe0 : Hid (∀ W', Keeps wr W' [] → Calls Try.prog 16 #[.agg #[.int .i64 u.k, .int .i64 u.n, .string u.s, .slice u.A u.len u.c], .agg #[.int .i64 v.k, .int .i64 v.n, .string v.s, .slice v.A v.len v.c]] W' fun e w' => e = .returned (.bool (tSame a a')) ∧ Keeps W' w' []) := fun W' kk => HSm.out a a' u v W' (htr.keep kk) (htr'.keep kk)
      have b0 : (0 : Int) ≤ (j : Int) := Int.natCast_nonneg _
      have b1 : (j : Int) < (m : Int) := by omega
      clear hx hy htr htr' hb hb' p0 p1 p2 p3 q0 q1' q2' q3 hkeep
      cases hr : tSame a a' with
      | false =>
        have HO : Hid (tSames q1 q2 = false) := hno hr
        have HCe := HCe0
        rw [hr] at HCe
        clear hno hr HCe0
        go_upto_region 7 with fail
        refine wp_region_tx (fun W' => W'.cell? ⟨b, off + j * 4, none⟩ = some (.int .i64 u.k) ∧ W'.cell? ⟨b, off + j * 4 + 1, none⟩ = some (.int .i64 u.n) ∧ W'.cell? ⟨b, off + j * 4 + 2, none⟩ = some (.string u.s) ∧ W'.cell? ⟨b, off + j * 4 + 3, none⟩ = some (.slice u.A u.len u.c) ∧ W'.cell? ⟨b', off' + j * 4, none⟩ = some (.int .i64 v.k) ∧ W'.cell? ⟨b', off' + j * 4 + 1, none⟩ = some (.int .i64 v.n) ∧ W'.cell? ⟨b', off' + j * 4 + 2, none⟩ = some (.string v.s) ∧ W'.cell? ⟨b', off' + j * 4 + 3, none⟩ = some (.slice v.A v.len v.c)) [(0, true), (1, true), (2, true), (3, true), (4, true), (5, true), (6, true), (7, true), (8, false), (9, false)] (by kernel_rfl) (by kernel_rfl) (HW.out _ (Keeps.refl _ []).drew) (fun hHeld => ?_)
        (repeat (first | (refine wpTx_take (v := ?_) rfl (by assumption) ?_ (by rfl) ?_; rotate_left; (focus (intro w' hSw; (try dsimp only at hSw); go_simp; (try with_reducible rfl); done)); simp only [Act.put, List.setIfInBounds_toArray, List.set_cons_zero, List.set_cons_succ]) | (refine wpTx_skip rfl (by assumption) (by rfl) ?_; simp only [Act.put, List.setIfInBounds_toArray, List.set_cons_zero, List.set_cons_succ])))
        refine wpTx_go rfl (fun K hK => ?_)
        go_simp
        refine (HCe.out _ (Keeps.refl _ []).drew).mono ?_
        rintro e w5 ⟨rfl, k5⟩
        refine hK.out _ _ ?_ ?_
        · exact HW.out _ ((Keeps.refl _ []).drew.trans k5)
        (clear hHeld; intro hHeld; clear hK K)
        refine wpTx_last rfl (fun K hK => ?_)
        go_simp
        refine hK.out _ _ (NoPanic.normal ?_); clear hK K; (try simp only [Act.put, List.setIfInBounds_toArray, List.set_cons_zero, List.set_cons_succ])
        go_wp2_with fail
        go_ret
        exact ⟨by rw [HQ1.out, HQ2.out, HO.out]; rfl, HK2.out.trans (HK.out.trans ((Keeps.refl _ []).drew.trans k5))⟩
      | true =>
        have HCe := HCe0
        rw [hr] at HCe
        have HT1 : Hid (tSame a a' = true) := hr
        clear hno hr HCe0
        go_upto_region 7 with fail
        refine wp_region_tx (fun W' => W'.cell? ⟨b, off + j * 4, none⟩ = some (.int .i64 u.k) ∧ W'.cell? ⟨b, off + j * 4 + 1, none⟩ = some (.int .i64 u.n) ∧ W'.cell? ⟨b, off + j * 4 + 2, none⟩ = some (.string u.s) ∧ W'.cell? ⟨b, off + j * 4 + 3, none⟩ = some (.slice u.A u.len u.c) ∧ W'.cell? ⟨b', off' + j * 4, none⟩ = some (.int .i64 v.k) ∧ W'.cell? ⟨b', off' + j * 4 + 1, none⟩ = some (.int .i64 v.n) ∧ W'.cell? ⟨b', off' + j * 4 + 2, none⟩ = some (.string v.s) ∧ W'.cell? ⟨b', off' + j * 4 + 3, none⟩ = some (.slice v.A v.len v.c)) [(0, true), (1, true), (2, true), (3, true), (4, true), (5, true), (6, true), (7, true), (8, false), (9, false)] (by kernel_rfl) (by kernel_rfl) (HW.out _ (Keeps.refl _ []).drew) (fun hHeld => ?_)
        (repeat (first | (refine wpTx_take (v := ?_) rfl (by assumption) ?_ (by rfl) ?_; rotate_left; (focus (intro w' hSw; (try dsimp only at hSw); go_simp; (try with_reducible rfl); done)); simp only [Act.put, List.setIfInBounds_toArray, List.set_cons_zero, List.set_cons_succ]) | (refine wpTx_skip rfl (by assumption) (by rfl) ?_; simp only [Act.put, List.setIfInBounds_toArray, List.set_cons_zero, List.set_cons_succ])))
        refine wpTx_go rfl (fun K hK => ?_)
        go_simp
        refine (HCe.out _ (Keeps.refl _ []).drew).mono ?_
        rintro e w5 ⟨rfl, k5⟩
        refine hK.out _ _ ?_ ?_
        · exact HW.out _ ((Keeps.refl _ []).drew.trans k5)
        (clear hHeld; intro hHeld; clear hK K)
        refine wpTx_last rfl (fun K hK => ?_)
        go_simp
        refine hK.out _ _ (NoPanic.normal ?_); clear hK K; (try simp only [Act.put, List.setIfInBounds_toArray, List.set_cons_zero, List.set_cons_succ])
        go_wp2_with fail
        go_roundw
        case rel => exact ⟨j + 1, by omega, by go_num, by rw [HN.out, HT1.out], HK.out.trans ((Keeps.refl _ []).drew.trans k5)⟩
        case measure => simp [intOf]; omega
    · obtain rfl : m = j := by omega
      have HA : Hid (tSames q1 q2 = true) := by
        show _ = _
        have h1 := HP.out
        rw [List.take_of_length_le (by rw [HL1.out]; omega), List.take_of_length_le (by rw [HL2.out]; omega)] at h1
        exact h1
      have HK9 := Lib.hid (HK2.out.trans HK.out)
      clear hlt hj hkeep
      go_wp2_with fail
      go_ret
      exact ⟨by rw [HQ1.out, HQ2.out, HA.out]; rfl, HK9.out⟩
end Go.Proofs.Ytjbomjnkjcafcaa
