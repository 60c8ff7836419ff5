/- Renaming: the program's. Printed by gen_mgren.py a. -/
import Derived.Test.YtjbomjnkjcafcaaMgRenLaw
import Derived.Test.YtjbomjnkjcafcaaTmTo
import Derived.Test.YtjbomjnkjcafcaaTmSame
import Derived.Test.YtjbomjnkjcafcaaText
namespace Go.Proofs.Ytjbomjnkjcafcaa
open Go.RowKit

set_option maxRecDepth 100000 in
set_option maxHeartbeats 3200000 in
/-- Terms: as the program has them. -/
theorem terms_any (l : List Tm) (vs : List TV) (A : Option Addr) (m c : Nat) (w : World) (hT : Trs w (fun _ => True) l vs) (hR : Rd w A (vs.flatMap tvE)) (hm : l.length = m) (hmb : m ≤ 1000000) (hw : ∀ a ∈ l, tWid a) :
    Calls Try.prog 20 #[.slice A m c] w (LDone w l) := by
  have HTo : Hid (∀ (t : Tm) (v : TV) (w : World), tWid t → Tr w (fun _ => True) t v → Calls Try.prog 8 #[.agg #[.int .i64 v.k, .int .i64 v.n, .string v.s, .slice v.A v.len v.c]] w (TDone [] (fun b => w.heap.size ≤ b) w t)) := fun t v w h1 h2 => tmToW_any t v w h2 h1
  have HK0 : Hid (Keeps w w []) := Keeps.refl _ _
  have HWd := Lib.hid hw
  have HT := Lib.hid hT
  have HR := Lib.hid hR
  have HM := Lib.hid hm
  clear hT hR hm
  clear hw
  have hid : l.map (fun x : Tm => x) = l := List.map_id' l
  rw [← hid]
  clear hid
  go_enter Try.func20, Try.ntmps20
  go_wp2_with fail
  go_loopw [3, 4] (fun x3 x4 wr => ∃ (j : Nat) (A2 : Option Addr) (c2 : Nat) (us : List TV), j ≤ m ∧ x4 = .int .i64 j ∧ x3 = .slice A2 j c2 ∧ LR 30 w wr ((l.take j).map (fun x : Tm => x)) us A2 j c2) (fun _ i _ => m - (intOf i).toNat)
  case atStart => exact ⟨0, none, 0, [], Nat.zero_le _, rfl, rfl, LR.start _ HK0.out⟩
  case round =>
    obtain ⟨j, A2, c2, us, hj, rfl, rfl, st⟩ := hrel
    have HS := Lib.hid st
    clear st
    by_cases hlt : j < m
    · obtain ⟨a, hx⟩ := at_of HM.out hlt
      have HX := Lib.hid hx
      have HMem := Lib.hid (List.mem_of_getElem? hx)
      obtain ⟨v', b, off, _, htr, rfl, hb, p0, p1, p2, p3⟩ := (HT.out.keep HS.out.keep).get (HR.out.keep HS.out.keep) hx
      have HTr := Lib.hid htr
      have b0 : (0 : Int) ≤ (j : Int) := Int.natCast_nonneg _
      have b1 : (j : Int) < (m : Int) := by omega
      clear htr hx
      go_wp2_with fail
      refine (HTo.out a v' _ (HWd.out a HMem.out) HTr.out).mono ?_
      rintro e w3 ⟨u, rfl, hu, k3⟩
      have HK3 := Lib.hid k3
      have HU := Lib.hid hu
      unfold tvV
      clear hu k3 p0 p1 p2 p3 hb
      go_wp2_with (at_builtin; have K5 := HK3.out.alloc (.cells #[.int .i64 u.k, .int .i64 u.n, .string u.s, .slice u.A u.len u.c] 30); have hz5 := K5.size; have hz6 := HS.out.keep.size; refine wpList_app _ el_pterm rfl (.tmp 11) (.tmp 17) rfl w.heap.size A2 j c2 (us.flatMap tvE) rfl (own_keep0 HS.out.own K5) (some ⟨w3.heap.size, 0, none⟩) 1 1 (tvE u) rfl (Rd.one w3 _ (tvE u)) rfl (by simp) (by simp [tvE, Value.oneCell']) (by omega) (by omega) ?_; intro A' c' w2 hown hgrow hat; have HN := Lib.hid (HS.out.push K5 ((HU.out.keep ((Keeps.refl w3 []).alloc _)).mono fun b hb => by omega) hown hgrow hat); clear hown hgrow hat K5 hz5 hz6)
      go_roundw
      case rel =>
        have h1 := HN.out
        rw [show (l.take j).map (fun x : Tm => x) ++ [(fun x : Tm => x) a] = (l.take (j + 1)).map (fun x : Tm => x) by rw [List.take_add_one, HX.out, List.map_append]; rfl] at h1
        exact ⟨j + 1, A', c', _, by omega, by go_num, rfl, h1⟩
      case measure => simp [intOf]; omega
    · obtain rfl : m = j := by omega
      have hd := HS.out.done
      rw [show (l.take m).map (fun x : Tm => x) = l.map (fun x : Tm => x) by rw [← HM.out, List.take_length]] at hd
      have HD := Lib.hid hd
      clear hd hlt hj
      go_wp2_with fail
      go_ret
      exact HD.out

set_option maxHeartbeats 800000 in
theorem renName_any (k : Int) (k0 : 0 ≤ k) (k9 : k ≤ 1000000) (fb vb : Nat) (VA : Option Addr) (vn vc : Nat) (vars : List Int) (n : Int) (w : World) (hf : Blk w fb 3 #[.int .i64 k]) (hv : Blk w vb 71 #[.slice VA vn vc]) (hl : vars.length = vn) (hvn : vn ≤ 1000000) (hN : Nums .i64 w w.heap.size VA vars) :
    Calls Try.prog 38 #[.int .i64 n, .pointer (some ⟨fb, 0, none⟩), .pointer (some ⟨vb, 0, none⟩)] w fun e w' => e = .returned (.int .i64 (ren k vars n)) ∧ Keeps w w' [] := by
  have q0 := hf.cell 0
  have p0 := hv.cell 0
  have HC := Lib.hid (indexI_any n VA vn vc vars w.drew hl (by omega) hN)
  have hb := ren_bound k vars n
  have HE : Hid (ren k vars n = k + findI (hasI n) vars) := rfl
  rw [HE.out] at hb
  generalize findI (hasI n) vars = q at hb HE HC
  have hwr : wrap64 (k + q) = k + q := by unfold wrap64; omega
  have hwi : IntKind.i64.wrap (k + q) = k + q := by simp only [IntKind.wrap_i64]; omega
  clear hf hv hN hb hl
  go_enter Try.func38, Try.ntmps38
  go_upto_region 1 with fail
  refine wp_region_tx (fun W' => W'.cell? ⟨fb, 0, none⟩ = some (.int .i64 k) ∧ W'.cell? ⟨vb, 0, none⟩ = some (.slice VA vn vc)) [(0, true), (1, true), (2, true), (3, false), (4, true), (5, false)] (by kernel_rfl) (by kernel_rfl) ⟨q0, p0⟩ (fun hHeld => ?_)
  (repeat (first | (refine wpTx_take (v := ?_) rfl (by assumption) ?_ (by rfl) ?_; rotate_left; (focus (intro w' hSw; (try dsimp only at hSw); go_simp; (try with_reducible rfl); done)); simp only [Act.put, List.setIfInBounds_toArray, List.set_cons_zero, List.set_cons_succ]) | (refine wpTx_skip rfl (by assumption) (by rfl) ?_; simp only [Act.put, List.setIfInBounds_toArray, List.set_cons_zero, List.set_cons_succ])))
  refine wpTx_go rfl (fun K hK => ?_)
  go_simp
  refine HC.out.mono ?_
  rintro e w' ⟨rfl, rfl⟩
  refine hK.out _ _ ?_ ?_
  · exact ⟨q0, p0⟩
  (clear hHeld; intro hHeld; clear hK K; (try simp only [Act.put, List.setIfInBounds_toArray, List.set_cons_zero, List.set_cons_succ]))
  (repeat (first | (refine wpTx_take (v := ?_) rfl (by assumption) ?_ (by rfl) ?_; rotate_left; (focus (intro w' hSw; (try dsimp only at hSw); go_simp; (try with_reducible rfl); done)); simp only [Act.put, List.setIfInBounds_toArray, List.set_cons_zero, List.set_cons_succ]) | (refine wpTx_skip rfl (by assumption) (by rfl) ?_; simp only [Act.put, List.setIfInBounds_toArray, List.set_cons_zero, List.set_cons_succ])))
  refine wpTx_last rfl (fun K hK => ?_)
  go_simp
  refine hK.out _ _ (NoPanic.normal ?_); clear hK K; (try simp only [Act.put, List.setIfInBounds_toArray, List.set_cons_zero, List.set_cons_succ])
  go_wp2_with fail
  go_ret
  exact ⟨by rw [HE.out]; rfl, (Keeps.refl w []).drew⟩

set_option maxRecDepth 100000 in
set_option maxHeartbeats 6400000 in
theorem renamed_any (f : Int → Int) (fb vb : Nat) (t : Tm) : ∀ (v : TV) (w : World) (S : Nat → Prop), (∀ b, S b → b < w.heap.size) → Tr w S t v → tWid t → (∀ n W, Keeps w W [] → Calls Try.prog 38 #[.int .i64 n, .pointer (some ⟨fb, 0, none⟩), .pointer (some ⟨vb, 0, none⟩)] W fun e W' => e = .returned (.int .i64 (f n)) ∧ Keeps W W' []) → Calls Try.prog 37 #[tvV v, (.func (.func 38) #[] #[.pointer (some ⟨fb, 0, none⟩), .pointer (some ⟨vb, 0, none⟩)])] w (ApDone S w (tRn f t)) := by
  induction t using Tm.ind_ with
  | h k n s l ih =>
    intro v w S hSl ht hw hName
    cases ht with
    | mk _ _ _ _ A c vs hl hR hS hc hz hk =>
    rw [tWid] at hw
    have HT : Hid (Trs w S l vs) := ⟨hl, hk⟩
    have HR := Lib.hid hR
    have HCall : Hid (∀ a ∈ l, ∀ (v' : TV) w', Keeps w w' [] → Tr w' S a v' → Calls Try.prog 37 #[.agg #[.int .i64 v'.k, .int .i64 v'.n, .string v'.s, .slice v'.A v'.len v'.c], (.func (.func 38) #[] #[.pointer (some ⟨fb, 0, none⟩), .pointer (some ⟨vb, 0, none⟩)])] w' (ApDone S w' (tRn f a))) := fun a ha v' w' k' ht' => ih a ha v' w' S (fun b hb => Nat.lt_of_lt_of_le (hSl b hb) k'.size) ht' (tWids_mem hw.2 ha) (fun n W k2 => hName n W (k'.trans k2))
    have HNm := Lib.hid hName
    have HZ := Lib.hid hz.1
    have HSl := Lib.hid hSl
    obtain ⟨m, hm⟩ : ∃ m, l.length = m := ⟨_, rfl⟩
    have HM := Lib.hid hm
    have hmb : m ≤ 1000000 := by rw [← hm]; exact hw.1
    clear hl hR hS hc hz hk ih hw hSl hName
    unfold tvV
    simp only [hm]
    clear hm
    by_cases h0 : k = 0
    · have e0 : (k == 0) = true := by simpa using h0
      have HG : Hid (tRn f (.mk k n s l) = .mk k (f n) s (l.map (tRn f))) := tRn_var f s l h0
      clear h0
      have hbx : Blk (w.alloc (.cells #[.int .i64 k, .int .i64 n, .string s, .slice A m c] 30)) w.heap.size 30 #[.int .i64 k, .int .i64 n, .string s, .slice A m c] := Blk.new _ _ _
      have hrb : Blk ((w.alloc (.cells #[.int .i64 k, .int .i64 n, .string s, .slice A m c] 30)).alloc (.cells #[.int .i64 0, .int .i64 0, .string ⟨#[]⟩, .slice none 0 0] 30)) (w.heap.size + 1) 30 #[.int .i64 0, .int .i64 0, .string ⟨#[]⟩, .slice none 0 0] := Blk.newAt _ _ (by simp)
      have hob : Blk (((w.alloc (.cells #[.int .i64 k, .int .i64 n, .string s, .slice A m c] 30)).alloc (.cells #[.int .i64 0, .int .i64 0, .string ⟨#[]⟩, .slice none 0 0] 30)).alloc (.cells #[.int .i64 k, .int .i64 n, .string s, .slice none 0 0] 30)) (w.heap.size + 1 + 1) 30 #[.int .i64 k, .int .i64 n, .string s, .slice none 0 0] := Blk.newAt _ _ (by simp)
      have hK : Keeps w (((w.alloc (.cells #[.int .i64 k, .int .i64 n, .string s, .slice A m c] 30)).alloc (.cells #[.int .i64 0, .int .i64 0, .string ⟨#[]⟩, .slice none 0 0] 30)).alloc (.cells #[.int .i64 k, .int .i64 n, .string s, .slice none 0 0] 30)) [] := (((Keeps.refl w []).alloc _).alloc _).alloc _
      have hbx2 := (hbx.alloc (.cells #[.int .i64 0, .int .i64 0, .string ⟨#[]⟩, .slice none 0 0] 30)).alloc (.cells #[.int .i64 k, .int .i64 n, .string s, .slice none 0 0] 30)
      have hrb2 := hrb.alloc (.cells #[.int .i64 k, .int .i64 n, .string s, .slice none 0 0] 30)
      obtain ⟨g, hg⟩ : ∃ g, w.heap.size + 1 + 1 = g := ⟨_, rfl⟩
      clear hbx hrb
      go_enter Try.func37, Try.ntmps37
      go_upto_region 2 with fail
      rw [hg] at hob
      (try simp only [hg])
      generalize (((w.alloc (.cells #[.int .i64 k, .int .i64 n, .string s, .slice A m c] 30)).alloc (.cells #[.int .i64 0, .int .i64 0, .string ⟨#[]⟩, .slice none 0 0] 30)).alloc (.cells #[.int .i64 k, .int .i64 n, .string s, .slice none 0 0] 30)) = w0 at hob hK hbx2 hrb2 ⊢
      have HOb := Lib.hid hob
      have HBx := Lib.hid hbx2
      have HRb := Lib.hid hrb2
      have HK0 := Lib.hid hK
      have q0 := hbx2.cell 0
      have q1 := hbx2.cell 1
      clear hob hbx2 hrb2 hK
      go_wp2_with fail
      refine (HNm.out n _ HK0.out).mono ?_
      rintro e w1 ⟨rfl, k1⟩
      have o1 := (HOb.out.keep k1 (by simp)).cell 1
      have o2 := (HOb.out.keep k1 (by simp)).frozen 1
      have HST : Hid (TSt 30 (fun b => S b ∨ w.heap.size ≤ b) w (w1.setCell ⟨g, 1, none⟩ (.int .i64 (f n))) [] [(w.heap.size, 30, #[.int .i64 k, .int .i64 n, .string s, .slice A m c]), (w.heap.size + 1, 30, #[.int .i64 0, .int .i64 0, .string ⟨#[]⟩, .slice none 0 0])] g k (f n) s [] [] none 0 0) :=
        TSt.start (by
          intro x hx
          simp only [List.mem_cons, List.not_mem_nil, or_false] at hx
          rcases hx with rfl | rfl
          · exact ⟨(HBx.out.keep k1 (by simp)).far (by simp; omega) _, by simp; omega⟩
          · exact ⟨(HRb.out.keep k1 (by simp)).far (by simp; omega) _, by simp; omega⟩) (by have h1 := (HOb.out.keep k1 (by simp)).set_ 1 (.int .i64 (f n)); simpa using h1) ((HK0.out.trans k1).setCell (.inr (by simp; omega)) _) (by omega) (fun b h => .inr h) HZ.out
      have e3 := (HST.out.fix _ (List.mem_cons_self ..)).1.cell 3
      clear q0 q1 k1 HOb HBx HRb HK0
      go_upto_region 4 with fail
      generalize w1.setCell ⟨g, 1, none⟩ (.int .i64 (f n)) = w2 at HST e3 ⊢
      clear o1 o2
      go_wp2_with fail
      clear e3
      go_loopw [26] (fun i wr => ∃ j : Nat, j ≤ m ∧ i = .int .i64 j ∧ ∃ A2 c2 us, TSt 30 (fun b => S b ∨ w.heap.size ≤ b) w wr [] [(w.heap.size, 30, #[.int .i64 k, .int .i64 n, .string s, .slice A m c]), (w.heap.size + 1, 30, #[.int .i64 0, .int .i64 0, .string ⟨#[]⟩, .slice none 0 0])] g k (f n) s ((l.take j).map (tRn f)) us A2 j c2) (fun i _ => m - (intOf i).toNat)
      case atStart => exact ⟨0, Nat.zero_le _, rfl, none, 0, [], HST.out⟩
      case round =>
        obtain ⟨j, hj, rfl, A2, c2, us, st⟩ := hrel
        have HS := Lib.hid st
        clear st HST
        by_cases hlt : j < m
        · obtain ⟨a, hx⟩ := at_of HM.out hlt
          have HX := Lib.hid hx
          have ha := List.mem_of_getElem? hx
          obtain ⟨v', b, off, _, htr, rfl, hb, p0, p1, p2, p3⟩ := HT.out.get HR.out hx
          have HC : Hid (∀ w', Keeps w w' [] → Calls Try.prog 37 #[.agg #[.int .i64 v'.k, .int .i64 v'.n, .string v'.s, .slice v'.A v'.len v'.c], (.func (.func 38) #[] #[.pointer (some ⟨fb, 0, none⟩), .pointer (some ⟨vb, 0, none⟩)])] w' (ApDone S w' (tRn f a))) := fun w' kk => HCall.out a ha v' w' kk (htr.keep kk)
          clear htr hx ha
          replace p0 := (HS.out.keep.cell0 hb).trans p0
          replace p1 := (HS.out.keep.cell0 hb).trans p1
          replace p2 := (HS.out.keep.cell0 hb).trans p2
          replace p3 := (HS.out.keep.cell0 hb).trans p3
          have b0 : (0 : Int) ≤ (j : Int) := Int.natCast_nonneg _
          have b1 : (j : Int) < (m : Int) := by omega
          go_wp2_with fail
          have ka : Keeps wr (wr.alloc (.cells #[.int .i64 v'.k, .int .i64 v'.n, .string v'.s, .slice v'.A v'.len v'.c] 30)) [] := (Keeps.refl wr []).alloc _
          have HE : Hid (Blk (wr.alloc (.cells #[.int .i64 v'.k, .int .i64 v'.n, .string v'.s, .slice v'.A v'.len v'.c] 30)) wr.heap.size 30 #[.int .i64 v'.k, .int .i64 v'.n, .string v'.s, .slice v'.A v'.len v'.c]) := Blk.new _ _ _
          have HS1 := Lib.hid (HS.out.keep0 ka)
          generalize wr.alloc (.cells #[.int .i64 v'.k, .int .i64 v'.n, .string v'.s, .slice v'.A v'.len v'.c] 30) = wa at *
          have heb := HE.out.lt
          have hno : wr.heap.size ∉ ownL (.slice A2 j c2) := fun hm => by have := (own_lt HS.out.row hm).2; omega
          generalize wr.heap.size = eb at *
          have HW : Hid (∀ W', Keeps wa W' (ownL (.slice A2 j c2)) → W'.frozen? ⟨g, 3, none⟩ = false ∧ W'.cell? ⟨g, 3, none⟩ = some (.slice A2 j c2) ∧ W'.cell? ⟨eb, 0, none⟩ = some (.int .i64 v'.k) ∧ W'.cell? ⟨eb, 1, none⟩ = some (.int .i64 v'.n) ∧ W'.cell? ⟨eb, 2, none⟩ = some (.string v'.s) ∧ W'.cell? ⟨eb, 3, none⟩ = some (.slice v'.A v'.len v'.c)) := fun W' kk =>
            have e := HE.out.keep kk hno
            ⟨(HS1.out.out.keep kk HS1.out.low.2.1).frozen 3, (HS1.out.out.keep kk HS1.out.low.2.1).cell 3, e.cell 0, e.cell 1, e.cell 2, e.cell 3⟩
          obtain ⟨q0, q1, q2, q3, q4, q5⟩ := HW.out wa (Keeps.refl _ _)
          clear p0 p1 p2 p3 ka HE heb hno
          refine wp_region_tx (fun W' => W'.frozen? ⟨g, 3, none⟩ = false ∧ W'.cell? ⟨g, 3, none⟩ = some (.slice A2 j c2) ∧ W'.cell? ⟨eb, 0, none⟩ = some (.int .i64 v'.k) ∧ W'.cell? ⟨eb, 1, none⟩ = some (.int .i64 v'.n) ∧ W'.cell? ⟨eb, 2, none⟩ = some (.string v'.s) ∧ W'.cell? ⟨eb, 3, none⟩ = some (.slice v'.A v'.len v'.c)) [(0, true), (1, true), (2, true), (3, true), (4, false), (5, false), (6, false), (7, true), (8, false)] (by kernel_rfl) (by kernel_rfl) (HW.out _ ((Keeps.refl _ _).drew)) (fun hHeld => ?_)
          (repeat (first | (refine wpTx_take (v := ?_) rfl (by assumption) ?_ (by rfl) ?_; rotate_left; (focus (intro w' hSw; (try dsimp only at hSw); go_simp; (try with_reducible rfl); done)); simp only [Act.put, List.setIfInBounds_toArray, List.set_cons_zero, List.set_cons_succ]) | (refine wpTx_skip rfl (by assumption) (by rfl) ?_; simp only [Act.put, List.setIfInBounds_toArray, List.set_cons_zero, List.set_cons_succ])))
          refine wpTx_go rfl (fun K hK => ?_)
          go_simp
          refine (HC.out _ (HS1.out.keep.drew)).mono ?_
          rintro e w3 ⟨u, rfl, hu, k3⟩
          have HU : Hid (Tr w3 (fun b => S b ∨ wa.heap.size ≤ b) ((tRn f) a) u) := hu
          unfold tvV
          clear hu
          refine hK.out _ _ ?_ ?_
          · exact HW.out _ (((Keeps.refl _ []).drew.trans k3).to_ _)
          (clear hHeld; intro hHeld; clear hK K; (try simp only [Act.put, List.setIfInBounds_toArray, List.set_cons_zero, List.set_cons_succ]))
          refine wpTx_go rfl (fun K hK => ?_)
          go_simp
          refine hK.out _ _ ?_ ?_
          · exact HW.out _ ((((Keeps.refl _ []).drew.trans k3).alloc _).to_ _)
          (clear hHeld; intro hHeld; clear hK K; (try simp only [Act.put, List.setIfInBounds_toArray, List.set_cons_zero, List.set_cons_succ]))
          refine wpTx_go rfl (fun K hK => ?_)
          refine step_app _ el_pterm (by rfl) _ _ (by rfl) w.heap.size A2 j c2 (us.flatMap tvE) (by rfl) (own_keep0 HS1.out.row (((Keeps.refl _ []).drew.trans k3).alloc _)) (some ⟨w3.heap.size, 0, none⟩) 1 1 (tvE u) (by rfl) (Rd.one w3 _ (tvE u)) rfl (by simp) (by simp [tvE, Value.oneCell']) (by omega) (by simp; have := HS1.out.keep.size; have := k3.size; simp at this; omega) ?_
          intro A' c' w2 hown hgrow hat
          refine hK.out _ _ ?_ ?_
          · exact HW.out _ (((Keeps.refl _ []).drew.trans k3).alloc _ |>.rest (Keeps.ofGrown hgrow))
          (clear hHeld; intro hHeld; clear hK K; (try simp only [Act.put, List.setIfInBounds_toArray, List.set_cons_zero, List.set_cons_succ]))
          (repeat (first | (refine wpTx_take (v := ?_) rfl (by assumption) ?_ (by rfl) ?_; rotate_left; (focus (intro w' hSw; (try dsimp only at hSw); go_simp; (try with_reducible rfl); done)); simp only [Act.put, List.setIfInBounds_toArray, List.set_cons_zero, List.set_cons_succ]) | (refine wpTx_skip rfl (by assumption) (by rfl) ?_; simp only [Act.put, List.setIfInBounds_toArray, List.set_cons_zero, List.set_cons_succ])))
          refine wpTx_last rfl (fun K hK => ?_)
          go_simp
          refine hK.out _ _ (NoPanic.normal ?_); clear hK K; (try simp only [Act.put, List.setIfInBounds_toArray, List.set_cons_zero, List.set_cons_succ])
          go_wp2_with fail
          go_roundw
          case rel =>
            have hs := HS1.out.step (((Keeps.refl _ []).drew.trans k3).alloc _) (HS1.out.part HSl.out (by simp) ((HU.out).keep ((Keeps.refl _ []).alloc _))) hown hgrow hat
            rw [show (l.take j).map (tRn f) ++ [(tRn f) a] = (l.take (j + 1)).map (tRn f) by rw [List.take_add_one, HX.out, List.map_append]; rfl] at hs
            exact ⟨j + 1, by omega, by go_num, A', c', _, hs⟩
          case measure => simp [intOf]; omega
        · obtain rfl : m = j := by omega
          have hd := HS.out.done (by omega)
          rw [show (l.take m).map (tRn f) = l.map (tRn f) by rw [← HM.out, List.take_length]] at hd
          have hr := (HS.out.fix (w.heap.size + 1, 30, #[.int .i64 0, .int .i64 0, .string ⟨#[]⟩, .slice none 0 0]) (by simp)).1
          have d0 := HS.out.out.cell 0
          have d1 := HS.out.out.cell 1
          have d2 := HS.out.out.cell 2
          have d3 := HS.out.out.cell 3
          have r0 := hr.cell 0
          have r1 := hr.cell 1
          have r2 := hr.cell 2
          have r3 := hr.cell 3
          have f0 := hr.frozen 0
          have f1 := hr.frozen 1
          have f2 := hr.frozen 2
          have f3 := hr.frozen 3
          have HD := Lib.hid ((hd.mono (S' := fun b => (S b ∨ w.heap.size ≤ b) ∧ b ≠ w.heap.size + 1) fun b hb => ⟨hb.1, hb.2.2 (w.heap.size + 1, 30, #[.int .i64 0, .int .i64 0, .string ⟨#[]⟩, .slice none 0 0]) (by simp)⟩).end4 (.int .i64 k) (.int .i64 (f n)) (.string s) (.slice A2 m c2) HS.out.keep (by omega))
          clear hd hr hlt hj
          go_wp2_with fail
          exact bodyPost_ret (v := .agg #[.int .i64 k, .int .i64 (f n), .string s, .slice A2 m c2]) (by simp [results, Try.results37, go_sem, *]) rfl (by rw [HG.out]; exact HD.out)
    · have e0 : (k == 0) = false := by simpa using h0
      have HG : Hid (tRn f (.mk k n s l) = .mk k n s (l.map (tRn f))) := tRn_node f s l h0
      have hbx : Blk (w.alloc (.cells #[.int .i64 k, .int .i64 n, .string s, .slice A m c] 30)) w.heap.size 30 #[.int .i64 k, .int .i64 n, .string s, .slice A m c] := Blk.new _ _ _
      have hrb : Blk ((w.alloc (.cells #[.int .i64 k, .int .i64 n, .string s, .slice A m c] 30)).alloc (.cells #[.int .i64 0, .int .i64 0, .string ⟨#[]⟩, .slice none 0 0] 30)) (w.heap.size + 1) 30 #[.int .i64 0, .int .i64 0, .string ⟨#[]⟩, .slice none 0 0] := Blk.newAt _ _ (by simp)
      have hK : Keeps w (((w.alloc (.cells #[.int .i64 k, .int .i64 n, .string s, .slice A m c] 30)).alloc (.cells #[.int .i64 0, .int .i64 0, .string ⟨#[]⟩, .slice none 0 0] 30)).alloc (.cells #[.int .i64 k, .int .i64 n, .string s, .slice none 0 0] 30)) [] := (((Keeps.refl w []).alloc _).alloc _).alloc _
      obtain ⟨g, hg⟩ : ∃ g, w.heap.size + 1 + 1 = g := ⟨_, rfl⟩
      have hst : TSt 30 (fun b => S b ∨ w.heap.size ≤ b) w (((w.alloc (.cells #[.int .i64 k, .int .i64 n, .string s, .slice A m c] 30)).alloc (.cells #[.int .i64 0, .int .i64 0, .string ⟨#[]⟩, .slice none 0 0] 30)).alloc (.cells #[.int .i64 k, .int .i64 n, .string s, .slice none 0 0] 30)) [] [(w.heap.size, 30, #[.int .i64 k, .int .i64 n, .string s, .slice A m c]), (w.heap.size + 1, 30, #[.int .i64 0, .int .i64 0, .string ⟨#[]⟩, .slice none 0 0])] g k n s [] [] none 0 0 :=
        TSt.start (by
          intro x hx
          simp only [List.mem_cons, List.not_mem_nil, or_false] at hx
          rcases hx with rfl | rfl
          · exact ⟨(hbx.alloc _).alloc _, by simp; omega⟩
          · exact ⟨hrb.alloc _, by simp; omega⟩) (Blk.newAt _ _ (by simp; omega)) hK (by omega) (fun b h => .inr h) HZ.out
      have HST := Lib.hid hst
      clear hbx hrb hK hst
      have e3 := (HST.out.fix _ (List.mem_cons_self ..)).1.cell 3
      have e1 := (HST.out.fix _ (List.mem_cons_self ..)).1.cell 0
      go_enter Try.func37, Try.ntmps37
      go_wp2_with fail
      clear e3 e1
      go_loopw [26] (fun i wr => ∃ j : Nat, j ≤ m ∧ i = .int .i64 j ∧ ∃ A2 c2 us, TSt 30 (fun b => S b ∨ w.heap.size ≤ b) w wr [] [(w.heap.size, 30, #[.int .i64 k, .int .i64 n, .string s, .slice A m c]), (w.heap.size + 1, 30, #[.int .i64 0, .int .i64 0, .string ⟨#[]⟩, .slice none 0 0])] g k n s ((l.take j).map (tRn f)) us A2 j c2) (fun i _ => m - (intOf i).toNat)
      case atStart => exact ⟨0, Nat.zero_le _, rfl, none, 0, [], HST.out⟩
      case round =>
        obtain ⟨j, hj, rfl, A2, c2, us, st⟩ := hrel
        have HS := Lib.hid st
        clear st HST
        by_cases hlt : j < m
        · obtain ⟨a, hx⟩ := at_of HM.out hlt
          have HX := Lib.hid hx
          have ha := List.mem_of_getElem? hx
          obtain ⟨v', b, off, _, htr, rfl, hb, p0, p1, p2, p3⟩ := HT.out.get HR.out hx
          have HC : Hid (∀ w', Keeps w w' [] → Calls Try.prog 37 #[.agg #[.int .i64 v'.k, .int .i64 v'.n, .string v'.s, .slice v'.A v'.len v'.c], (.func (.func 38) #[] #[.pointer (some ⟨fb, 0, none⟩), .pointer (some ⟨vb, 0, none⟩)])] w' (ApDone S w' (tRn f a))) := fun w' kk => HCall.out a ha v' w' kk (htr.keep kk)
          clear htr hx ha
          replace p0 := (HS.out.keep.cell0 hb).trans p0
          replace p1 := (HS.out.keep.cell0 hb).trans p1
          replace p2 := (HS.out.keep.cell0 hb).trans p2
          replace p3 := (HS.out.keep.cell0 hb).trans p3
          have b0 : (0 : Int) ≤ (j : Int) := Int.natCast_nonneg _
          have b1 : (j : Int) < (m : Int) := by omega
          go_wp2_with fail
          have ka : Keeps wr (wr.alloc (.cells #[.int .i64 v'.k, .int .i64 v'.n, .string v'.s, .slice v'.A v'.len v'.c] 30)) [] := (Keeps.refl wr []).alloc _
          have HE : Hid (Blk (wr.alloc (.cells #[.int .i64 v'.k, .int .i64 v'.n, .string v'.s, .slice v'.A v'.len v'.c] 30)) wr.heap.size 30 #[.int .i64 v'.k, .int .i64 v'.n, .string v'.s, .slice v'.A v'.len v'.c]) := Blk.new _ _ _
          have HS1 := Lib.hid (HS.out.keep0 ka)
          generalize wr.alloc (.cells #[.int .i64 v'.k, .int .i64 v'.n, .string v'.s, .slice v'.A v'.len v'.c] 30) = wa at *
          have heb := HE.out.lt
          have hno : wr.heap.size ∉ ownL (.slice A2 j c2) := fun hm => by have := (own_lt HS.out.row hm).2; omega
          generalize wr.heap.size = eb at *
          have HW : Hid (∀ W', Keeps wa W' (ownL (.slice A2 j c2)) → W'.frozen? ⟨g, 3, none⟩ = false ∧ W'.cell? ⟨g, 3, none⟩ = some (.slice A2 j c2) ∧ W'.cell? ⟨eb, 0, none⟩ = some (.int .i64 v'.k) ∧ W'.cell? ⟨eb, 1, none⟩ = some (.int .i64 v'.n) ∧ W'.cell? ⟨eb, 2, none⟩ = some (.string v'.s) ∧ W'.cell? ⟨eb, 3, none⟩ = some (.slice v'.A v'.len v'.c)) := fun W' kk =>
            have e := HE.out.keep kk hno
            ⟨(HS1.out.out.keep kk HS1.out.low.2.1).frozen 3, (HS1.out.out.keep kk HS1.out.low.2.1).cell 3, e.cell 0, e.cell 1, e.cell 2, e.cell 3⟩
          obtain ⟨q0, q1, q2, q3, q4, q5⟩ := HW.out wa (Keeps.refl _ _)
          clear p0 p1 p2 p3 ka HE heb hno
          refine wp_region_tx (fun W' => W'.frozen? ⟨g, 3, none⟩ = false ∧ W'.cell? ⟨g, 3, none⟩ = some (.slice A2 j c2) ∧ W'.cell? ⟨eb, 0, none⟩ = some (.int .i64 v'.k) ∧ W'.cell? ⟨eb, 1, none⟩ = some (.int .i64 v'.n) ∧ W'.cell? ⟨eb, 2, none⟩ = some (.string v'.s) ∧ W'.cell? ⟨eb, 3, none⟩ = some (.slice v'.A v'.len v'.c)) [(0, true), (1, true), (2, true), (3, true), (4, false), (5, false), (6, false), (7, true), (8, false)] (by kernel_rfl) (by kernel_rfl) (HW.out _ ((Keeps.refl _ _).drew)) (fun hHeld => ?_)
          (repeat (first | (refine wpTx_take (v := ?_) rfl (by assumption) ?_ (by rfl) ?_; rotate_left; (focus (intro w' hSw; (try dsimp only at hSw); go_simp; (try with_reducible rfl); done)); simp only [Act.put, List.setIfInBounds_toArray, List.set_cons_zero, List.set_cons_succ]) | (refine wpTx_skip rfl (by assumption) (by rfl) ?_; simp only [Act.put, List.setIfInBounds_toArray, List.set_cons_zero, List.set_cons_succ])))
          refine wpTx_go rfl (fun K hK => ?_)
          go_simp
          refine (HC.out _ (HS1.out.keep.drew)).mono ?_
          rintro e w3 ⟨u, rfl, hu, k3⟩
          have HU : Hid (Tr w3 (fun b => S b ∨ wa.heap.size ≤ b) ((tRn f) a) u) := hu
          unfold tvV
          clear hu
          refine hK.out _ _ ?_ ?_
          · exact HW.out _ (((Keeps.refl _ []).drew.trans k3).to_ _)
          (clear hHeld; intro hHeld; clear hK K; (try simp only [Act.put, List.setIfInBounds_toArray, List.set_cons_zero, List.set_cons_succ]))
          refine wpTx_go rfl (fun K hK => ?_)
          go_simp
          refine hK.out _ _ ?_ ?_
          · exact HW.out _ ((((Keeps.refl _ []).drew.trans k3).alloc _).to_ _)
          (clear hHeld; intro hHeld; clear hK K; (try simp only [Act.put, List.setIfInBounds_toArray, List.set_cons_zero, List.set_cons_succ]))
          refine wpTx_go rfl (fun K hK => ?_)
          refine step_app _ el_pterm (by rfl) _ _ (by rfl) w.heap.size A2 j c2 (us.flatMap tvE) (by rfl) (own_keep0 HS1.out.row (((Keeps.refl _ []).drew.trans k3).alloc _)) (some ⟨w3.heap.size, 0, none⟩) 1 1 (tvE u) (by rfl) (Rd.one w3 _ (tvE u)) rfl (by simp) (by simp [tvE, Value.oneCell']) (by omega) (by simp; have := HS1.out.keep.size; have := k3.size; simp at this; omega) ?_
          intro A' c' w2 hown hgrow hat
          refine hK.out _ _ ?_ ?_
          · exact HW.out _ (((Keeps.refl _ []).drew.trans k3).alloc _ |>.rest (Keeps.ofGrown hgrow))
          (clear hHeld; intro hHeld; clear hK K; (try simp only [Act.put, List.setIfInBounds_toArray, List.set_cons_zero, List.set_cons_succ]))
          (repeat (first | (refine wpTx_take (v := ?_) rfl (by assumption) ?_ (by rfl) ?_; rotate_left; (focus (intro w' hSw; (try dsimp only at hSw); go_simp; (try with_reducible rfl); done)); simp only [Act.put, List.setIfInBounds_toArray, List.set_cons_zero, List.set_cons_succ]) | (refine wpTx_skip rfl (by assumption) (by rfl) ?_; simp only [Act.put, List.setIfInBounds_toArray, List.set_cons_zero, List.set_cons_succ])))
          refine wpTx_last rfl (fun K hK => ?_)
          go_simp
          refine hK.out _ _ (NoPanic.normal ?_); clear hK K; (try simp only [Act.put, List.setIfInBounds_toArray, List.set_cons_zero, List.set_cons_succ])
          go_wp2_with fail
          go_roundw
          case rel =>
            have hs := HS1.out.step (((Keeps.refl _ []).drew.trans k3).alloc _) (HS1.out.part HSl.out (by simp) ((HU.out).keep ((Keeps.refl _ []).alloc _))) hown hgrow hat
            rw [show (l.take j).map (tRn f) ++ [(tRn f) a] = (l.take (j + 1)).map (tRn f) by rw [List.take_add_one, HX.out, List.map_append]; rfl] at hs
            exact ⟨j + 1, by omega, by go_num, A', c', _, hs⟩
          case measure => simp [intOf]; omega
        · obtain rfl : m = j := by omega
          have hd := HS.out.done (by omega)
          rw [show (l.take m).map (tRn f) = l.map (tRn f) by rw [← HM.out, List.take_length]] at hd
          have hr := (HS.out.fix (w.heap.size + 1, 30, #[.int .i64 0, .int .i64 0, .string ⟨#[]⟩, .slice none 0 0]) (by simp)).1
          have d0 := HS.out.out.cell 0
          have d1 := HS.out.out.cell 1
          have d2 := HS.out.out.cell 2
          have d3 := HS.out.out.cell 3
          have r0 := hr.cell 0
          have r1 := hr.cell 1
          have r2 := hr.cell 2
          have r3 := hr.cell 3
          have f0 := hr.frozen 0
          have f1 := hr.frozen 1
          have f2 := hr.frozen 2
          have f3 := hr.frozen 3
          have HD := Lib.hid ((hd.mono (S' := fun b => (S b ∨ w.heap.size ≤ b) ∧ b ≠ w.heap.size + 1) fun b hb => ⟨hb.1, hb.2.2 (w.heap.size + 1, 30, #[.int .i64 0, .int .i64 0, .string ⟨#[]⟩, .slice none 0 0]) (by simp)⟩).end4 (.int .i64 k) (.int .i64 n) (.string s) (.slice A2 m c2) HS.out.keep (by omega))
          clear hd hr hlt hj
          go_wp2_with fail
          exact bodyPost_ret (v := .agg #[.int .i64 k, .int .i64 n, .string s, .slice A2 m c2]) (by simp [results, Try.results37, go_sem, *]) rfl (by rw [HG.out]; exact HD.out)

set_option maxRecDepth 100000 in
set_option maxHeartbeats 3200000 in
theorem rename_any (k : Int) (k0 : 0 ≤ k) (k9 : k ≤ 1000000) (l : List Tm) (vs : List TV) (A : Option Addr) (m c : Nat) (w : World) (hT : Trs w (fun _ => True) l vs) (hR : Rd w A (vs.flatMap tvE)) (hm : l.length = m) (hmb : m ≤ 1000000) (hw : ∀ a ∈ l, tWid a) (hv : (tVars l).length ≤ 1000000) :
    Calls Try.prog 19 #[.int .i64 k, .slice A m c] w (LDone w (rn k l)) := by
  have HVs := Lib.hid (varsL_any l vs A m c (w.alloc (.cells #[.int .i64 k] 3)) (hT.keep ((Keeps.refl w []).alloc _)) (hR.keep ((Keeps.refl w []).alloc _)) hm (by omega) hv)
  have HFb : Hid (Blk (w.alloc (.cells #[.int .i64 k] 3)) w.heap.size 3 #[.int .i64 k]) := Blk.new _ _ _
  have HKw : Hid (Keeps w (w.alloc (.cells #[.int .i64 k] 3)) []) := (Keeps.refl w []).alloc _
  have HWd := Lib.hid hw
  have HV := Lib.hid hv
  have HT0 := Lib.hid hT
  have HR0 := Lib.hid hR
  have HM := Lib.hid hm
  have HRn : Hid (rn k l = l.map (tRn (ren k (tVars l)))) := rfl
  rw [HRn.out]
  clear hw hv hT hR hm HRn
  go_enter Try.func19, Try.ntmps19
  go_wp2_with fail
  refine HVs.out.mono ?_
  rintro e w1 ⟨VA, vc, rfl, hN, k1⟩
  have HN1 := Lib.hid hN
  have HK1 := Lib.hid k1
  clear hN k1 HVs
  go_upto_region 2 with fail
  have hvb : Blk ((w1.alloc (.cells #[.slice VA (tVars l).length vc] 71))) w1.heap.size 71 #[.slice VA (tVars l).length vc] := Blk.new _ _ _
  have hkb : Keeps w1 ((w1.alloc (.cells #[.slice VA (tVars l).length vc] 71))) [] := (Keeps.refl w1 []).alloc _
  generalize ((w1.alloc (.cells #[.slice VA (tVars l).length vc] 71))) = w2 at hvb hkb ⊢
  have HVb := Lib.hid hvb
  have hfb := HFb.out.keep (HK1.out.trans hkb) (by simp)
  have HFb2 := Lib.hid hfb
  have hk2 := HKw.out.trans (HK1.out.trans hkb)
  have HKw2 := Lib.hid hk2
  have HNs : Hid (Nums .i64 w2 w2.heap.size VA (tVars l)) := by
    have h1 := HN1.out.keep (w' := w2) (fun p hp => hkb.cell hp (by simp))
    exact h1.more hkb.size
  have HT := Lib.hid (HT0.out.keep hk2 |>.here.mono (S' := fun b => b < w2.heap.size) fun b h => h.2)
  have HR := Lib.hid (HR0.out.keep hk2)
  have HK0 : Hid (Keeps w2 w2 []) := Keeps.refl _ _
  have HCa : Hid (∀ a ∈ l, ∀ (v' : TV) W, Keeps w2 W [] → Tr W (fun b => b < w2.heap.size) a v' → Calls Try.prog 37 #[.agg #[.int .i64 v'.k, .int .i64 v'.n, .string v'.s, .slice v'.A v'.len v'.c], .func (.func 38) #[] #[.pointer (some ⟨w.heap.size, 0, none⟩), .pointer (some ⟨w1.heap.size, 0, none⟩)]] W (ApDone (fun b => b < w2.heap.size) W (tRn (ren k (tVars l)) a))) := fun a ha v' W kk htr =>
    renamed_any (ren k (tVars l)) w.heap.size w1.heap.size a v' W (fun b => b < w2.heap.size) (fun b hb => Nat.lt_of_lt_of_le hb kk.size) htr (HWd.out a ha) (fun n W' k' => by
      have k2 := kk.trans k'
      exact renName_any k k0 k9 w.heap.size w1.heap.size VA (tVars l).length vc (tVars l) n W' (HFb2.out.keep k2 (by simp)) (HVb.out.keep k2 (by simp)) rfl HV.out ((HNs.out.keep (w' := W') (fun p hp => k2.cell hp (by simp))).more k2.size))
  clear hvb hkb hfb hk2 HVb HFb HN1 HK1 HNs HFb2 HKw k0 k9
  go_wp2_with fail
  go_loopw [6, 13] (fun x6 x13 wr => ∃ (j : Nat) (A2 : Option Addr) (c2 : Nat) (us : List TV), j ≤ m ∧ x13 = .int .i64 j ∧ x6 = .slice A2 j c2 ∧ LR 30 w2 wr ((l.take j).map (tRn (ren k (tVars l)))) us A2 j c2) (fun _ i _ => m - (intOf i).toNat)
  case atStart => exact ⟨0, none, 0, [], Nat.zero_le _, rfl, rfl, LR.start _ HK0.out⟩
  case round =>
    obtain ⟨j, A2, c2, us, hj, rfl, rfl, st⟩ := hrel
    have HS := Lib.hid st
    clear st
    by_cases hlt : j < m
    · obtain ⟨a, hx⟩ := at_of HM.out hlt
      have HX := Lib.hid hx
      have HMem := Lib.hid (List.mem_of_getElem? hx)
      obtain ⟨v', b, off, _, htr, rfl, hb, p0, p1, p2, p3⟩ := (HT.out.keep HS.out.keep).get (HR.out.keep HS.out.keep) hx
      have HTr := Lib.hid htr
      have b0 : (0 : Int) ≤ (j : Int) := Int.natCast_nonneg _
      have b1 : (j : Int) < (m : Int) := by omega
      clear htr hx
      go_upto_region 6 with fail
      have ka : Keeps wr (wr.alloc (.cells #[.int .i64 v'.k, .int .i64 v'.n, .string v'.s, .slice v'.A v'.len v'.c] 30)) [] := (Keeps.refl wr []).alloc _
      have hb4 : Blk (wr.alloc (.cells #[.int .i64 v'.k, .int .i64 v'.n, .string v'.s, .slice v'.A v'.len v'.c] 30)) wr.heap.size 30 #[.int .i64 v'.k, .int .i64 v'.n, .string v'.s, .slice v'.A v'.len v'.c] := Blk.new _ _ _
      generalize (wr.alloc (.cells #[.int .i64 v'.k, .int .i64 v'.n, .string v'.s, .slice v'.A v'.len v'.c] 30)) = wa at ka hb4 ⊢
      have HKa := Lib.hid ka
      have q0 := hb4.cell 0
      have q1 := hb4.cell 1
      have q2 := hb4.cell 2
      have q3 := hb4.cell 3
      clear ka hb4
      go_wp2_with fail
      refine (HCa.out a HMem.out v' _ (HS.out.keep.trans HKa.out) (HTr.out.keep HKa.out)).mono ?_
      rintro e w3 ⟨u, rfl, hu, k3⟩
      have HK3 := Lib.hid k3
      have HU := Lib.hid hu
      unfold tvV
      clear hu k3 p0 p1 p2 p3 hb
      go_wp2_with (at_builtin; have K5 := HKa.out.trans <| HK3.out.alloc (.cells #[.int .i64 u.k, .int .i64 u.n, .string u.s, .slice u.A u.len u.c] 30); have hz5 := K5.size; have hz6 := HS.out.keep.size; refine wpList_app _ el_pterm rfl (.tmp 17) (.tmp 21) rfl w2.heap.size A2 j c2 (us.flatMap tvE) rfl (own_keep0 HS.out.own K5) (some ⟨w3.heap.size, 0, none⟩) 1 1 (tvE u) rfl (Rd.one w3 _ (tvE u)) rfl (by simp) (by simp [tvE, Value.oneCell']) (by omega) (by omega) ?_; intro A' c' w2 hown hgrow hat; have HN := Lib.hid (HS.out.push K5 ((HU.out.keep ((Keeps.refl w3 []).alloc _)).mono fun b hb => by have := HKa.out.size; omega) hown hgrow hat); clear hown hgrow hat K5 hz5 hz6)
      go_roundw
      case rel =>
        have h1 := HN.out
        rw [show (l.take j).map (tRn (ren k (tVars l))) ++ [(tRn (ren k (tVars l))) a] = (l.take (j + 1)).map (tRn (ren k (tVars l))) by rw [List.take_add_one, HX.out, List.map_append]; rfl] at h1
        exact ⟨j + 1, A', c', _, by omega, by go_num, rfl, h1⟩
      case measure => simp [intOf]; omega
    · obtain rfl : m = j := by omega
      have hd := HS.out.done
      rw [show (l.take m).map (tRn (ren k (tVars l))) = l.map (tRn (ren k (tVars l))) by rw [← HM.out, List.take_length]] at hd
      have HD := Lib.hid hd
      clear hd hlt hj
      go_wp2_with fail
      go_ret
      exact ⟨_, _, _, HD.out.choose_spec.choose_spec.choose_spec.1, HD.out.choose_spec.choose_spec.choose_spec.2.1, HD.out.choose_spec.choose_spec.choose_spec.2.2.1, HKw2.out.trans HD.out.choose_spec.choose_spec.choose_spec.2.2.2⟩

set_option maxHeartbeats 800000 in
/-- Alike: both are renamed from 0 on; are they the same? -/
theorem alikeL_any (l l' : List Tm) (vs vs' : List TV) (A A' : Option Addr) (m c m' c' : Nat) (w : World) (hT : Trs w (fun _ => True) l vs) (hR : Rd w A (vs.flatMap tvE)) (hm : l.length = m) (hmb : m ≤ 1000000) (hw : ∀ a ∈ l, tWid a) (hv : (tVars l).length ≤ 1000000)
    (hT' : Trs w (fun _ => True) l' vs') (hR' : Rd w A' (vs'.flatMap tvE)) (hm' : l'.length = m') (hmb' : m' ≤ 1000000) (hw' : ∀ a ∈ l', tWid a) (hv' : (tVars l').length ≤ 1000000) :
    Calls Try.prog 22 #[.slice A m c, .slice A' m' c'] w fun e w' => e = .returned (.bool (tSames (rn 0 l) (rn 0 l'))) ∧ Keeps w w' [] := by
  have HC1 := Lib.hid (rename_any 0 (by omega) (by omega) l vs A m c w hT hR hm hmb hw hv)
  have HC2 : Hid (∀ W, Keeps w W [] → Calls Try.prog 19 #[.int .i64 0, .slice A' m' c'] W (LDone W (rn 0 l'))) := fun W k => rename_any 0 (by omega) (by omega) l' vs' A' m' c' W (hT'.keep k) (hR'.keep k) hm' hmb' hw' hv'
  have HL1 : Hid ((rn 0 l).length = m) := by show _ = _; rw [rn_len, hm]
  have HL2 : Hid ((rn 0 l').length = m') := by show _ = _; rw [rn_len, hm']
  clear hT hR hm hw hv hT' hR' hm' hw' hv'
  go_enter Try.func22, Try.ntmps22
  go_wp2_with fail
  refine HC1.out.mono ?_
  rintro e w1 ⟨B1, d1, us1, rfl, ht1, hr1, k1⟩
  rw [HL1.out]
  have HT1 := Lib.hid ht1
  have HR1 := Lib.hid hr1
  have HK1 := Lib.hid k1
  clear ht1 hr1 k1 HC1
  go_wp2_with fail
  refine (HC2.out _ HK1.out).mono ?_
  rintro e w2 ⟨B2, d2, us2, rfl, ht2, hr2, k2⟩
  rw [HL2.out]
  have HC3 := Lib.hid (sameAll_any (rn 0 l) us1 B1 m d1 (rn 0 l') us2 B2 m' d2 w2 (fun a _ b v v' W h1 h2 => same_any a b v v' W h1 h2) (HT1.out.keep k2) (HR1.out.keep k2) HL1.out (by omega) ht2 hr2 HL2.out)
  have HK2 := Lib.hid (HK1.out.trans k2)
  clear ht2 hr2 k2 HC2 HT1 HR1
  go_wp2_with fail
  refine HC3.out.mono ?_
  rintro e w3 ⟨rfl, k3⟩
  have HK3 := Lib.hid (HK2.out.trans k3)
  clear k3 HC3
  go_wp2_with fail
  go_ret
  exact ⟨rfl, HK3.out⟩
end Go.Proofs.Ytjbomjnkjcafcaa
