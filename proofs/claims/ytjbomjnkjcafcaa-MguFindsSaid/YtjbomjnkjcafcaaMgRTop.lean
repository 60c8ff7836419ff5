import Derived.Test.YtjbomjnkjcafcaaMgOf
import Derived.Test.YtjbomjnkjcafcaaFour
import Derived.Test.YtjbomjnkjcafcaaMgBind
/- The document's Of. -/
namespace Go.Proofs.Ytjbomjnkjcafcaa
open Go.RowKit

set_option maxHeartbeats 1600000 in
theorem refOf_any (n : Int) (s : Sbt) (A : Option Addr) (m c : Nat) (w : World) (S : Nat → Prop) (hS : Sub w S s A) (hm : s.length = m) (hb : m ≤ 9223372036854775807) :
    Calls Try.prog 48 #[.slice A m c, .int .i64 n] w (OfDone S w (sOf s n)) := by
  have HS0 := Lib.hid hS.here
  have HM := Lib.hid hm
  have hR : Blk (w.alloc (.cells #[.int .i64 0, .int .i64 0, .string ⟨#[]⟩, .slice none 0 0] 24)) w.heap.size 24 #[.int .i64 0, .int .i64 0, .string ⟨#[]⟩, .slice none 0 0] := Blk.new _ _ _
  have hK : Keeps w (w.alloc (.cells #[.int .i64 0, .int .i64 0, .string ⟨#[]⟩, .slice none 0 0] 24)) [] := (Keeps.refl w []).alloc _
  clear hS hm
  go_enter Try.func48, Try.ntmps48
  go_upto_region 1 with fail
  generalize (w.alloc (.cells #[.int .i64 0, .int .i64 0, .string ⟨#[]⟩, .slice none 0 0] 24)) = w0 at hR hK ⊢
  have HR := Lib.hid hR
  have HK0 := Lib.hid hK
  have HS := Lib.hid (HS0.out.keep hK)
  clear hR hK HS0
  go_wp2_with fail
  go_loopw [6] (fun i wr => ∃ j : Nat, j ≤ m ∧ i = .int .i64 j ∧ (∀ p ∈ s.take j, p.1 ≠ n) ∧ wr = w0) (fun i _ => m - (intOf i).toNat)
  case atStart => exact ⟨0, Nat.zero_le _, rfl, by simp, rfl⟩
  case round =>
    obtain ⟨j, hj, rfl, hpos, rfl⟩ := hrel
    have HP := Lib.hid hpos
    have r0 := HR.out.cell 0
    have r1 := HR.out.cell 1
    have r2 := HR.out.cell 2
    have r3 := HR.out.cell 3
    have f0 := HR.out.frozen 0
    have f1 := HR.out.frozen 1
    have f2 := HR.out.frozen 2
    have f3 := HR.out.frozen 3
    have b0 : (0 : Int) ≤ (j : Int) := Int.natCast_nonneg _
    clear hpos
    by_cases hlt : j < m
    · obtain ⟨⟨x, t⟩, hx⟩ := at_of HM.out hlt
      obtain ⟨v', b, off, htr, rfl, hb, p0, p1, p2, p3, p4⟩ := HS.out.get hx
      have HX := Lib.hid hx
      have HT := Lib.hid htr
      have b1 : (j : Int) < (m : Int) := by omega
      clear hx htr
      cases hr : (x == n) with
      | true =>
        have HE : Hid (x = n) := by show x = n; simpa using hr
        have HK2 : Hid (Keeps w (set4 wr w.heap.size (.int .i64 v'.k) (.int .i64 v'.n) (.string v'.s) (.slice v'.A v'.len v'.c)) []) := HK0.out.put4 (.inr (Nat.le_refl _)) _ _ _ _
        have HT2 : Hid (Tr (set4 wr w.heap.size (.int .i64 v'.k) (.int .i64 v'.n) (.string v'.s) (.slice v'.A v'.len v'.c)) S t v') := (HT.out.far4 (by omega) _ _ _ _).mono fun b h => h.1
        have HO : Hid (sOf s n = some t) := by
          have hx := HX.out
          rw [HE.out] at hx
          exact sOf_at HP.out hx
        go_wp2_with fail
        exact bodyPost_ret (v := .tuple #[.agg #[.int .i64 v'.k, .int .i64 v'.n, .string v'.s, .slice v'.A v'.len v'.c], .bool true]) (by simp [results, Try.results48, go_sem, *]) rfl ⟨HK2.out, .inr ⟨t, v', rfl, HO.out, HT2.out⟩⟩
      | false =>
        have HE : Hid (x ≠ n) := by show x ≠ n; simpa using hr
        go_wp2_with fail
        go_roundw
        case rel =>
          refine ⟨j + 1, by omega, by go_num, fun p hp => ?_, trivial⟩
          rw [List.take_add_one, HX.out] at hp
          rcases List.mem_append.1 hp with hp | hp
          · exact HP.out p hp
          · simp at hp; subst hp; exact HE.out
        case measure => simp [intOf]; omega
    · have b1 : ¬ (j : Int) < (m : Int) := by omega
      have HO : Hid (sOf s n = none) := by
        show _ = _
        have h1 := HP.out
        have h2 : s.take j = s := List.take_of_length_le (by have := HM.out; omega)
        rw [h2] at h1
        unfold sOf
        rw [List.find?_eq_none.2 fun p hp => by simpa using h1 p hp]
        rfl
      have HK2 : Hid (Keeps w (set4 wr w.heap.size (.int .i64 0) (.int .i64 0) (.string ⟨#[]⟩) (.slice none 0 0)) []) := HK0.out.put4 (.inr (Nat.le_refl _)) _ _ _ _
      go_wp2_with fail
      exact bodyPost_ret (v := .tuple #[.agg #[.int .i64 0, .int .i64 0, .string ⟨#[]⟩, .slice none 0 0], .bool false]) (by simp [results, Try.results48, go_sem, *]) rfl ⟨HK2.out, .inl ⟨rfl, HO.out⟩⟩
end Go.Proofs.Ytjbomjnkjcafcaa

/- A term at its top: the document's. Printed by gen_mgtop.py r. -/
namespace Go.Proofs.Ytjbomjnkjcafcaa
open Go.RowKit

set_option maxRecDepth 100000 in
set_option maxHeartbeats 3200000 in
theorem refTop_any (sb : Sbt) (SA : Option Addr) (sm sc : Nat) (hsm : sb.length = sm) (hsb : sm ≤ 9223372036854775807) (t : Tm) (v : TV) (w : World) (S : Nat → Prop) (hSl : ∀ b, S b → b < w.heap.size) (ht : Tr w S t v) (hS : Sub w S sb SA) (hfin : (topD sb deepest t).k = 0 → sOf sb (topD sb deepest t).n = none) :
    Calls Try.prog 31 #[.slice SA sm sc, tvV v] w (TopDone S w (topD sb deepest t)) := by
  obtain ⟨k, n, s, A, m, c⟩ := v
  have HSl := Lib.hid hSl
  have HT := Lib.hid ht
  have HS := Lib.hid hS
  have HM := Lib.hid hsm
  obtain ⟨RES, hRES⟩ : ∃ x, topD sb deepest t = x := ⟨_, rfl⟩
  rw [hRES] at hfin ⊢
  have HRES := Lib.hid hRES
  have HFin := Lib.hid hfin
  have hB : Blk ((w.alloc (.cells #[.int .i64 k, .int .i64 n, .string s, .slice A m c] 24)).alloc (.cells #[.int .i64 0, .int .i64 0, .string ⟨#[]⟩, .slice none 0 0] 24)) w.heap.size 24 #[.int .i64 k, .int .i64 n, .string s, .slice A m c] := (Blk.new _ _ _).alloc _
  have hR : Blk ((w.alloc (.cells #[.int .i64 k, .int .i64 n, .string s, .slice A m c] 24)).alloc (.cells #[.int .i64 0, .int .i64 0, .string ⟨#[]⟩, .slice none 0 0] 24)) (w.heap.size + 1) 24 #[.int .i64 0, .int .i64 0, .string ⟨#[]⟩, .slice none 0 0] := Blk.newAt _ _ (by simp)
  have hK : Keeps w ((w.alloc (.cells #[.int .i64 k, .int .i64 n, .string s, .slice A m c] 24)).alloc (.cells #[.int .i64 0, .int .i64 0, .string ⟨#[]⟩, .slice none 0 0] 24)) [] := ((Keeps.refl w []).alloc _).alloc _
  clear hSl ht hS hsm hRES hfin
  unfold tvV
  obtain ⟨D, hD⟩ : ∃ D, deepest = D := ⟨_, rfl⟩
  have HDp := Lib.hid hD
  go_enter Try.func31, Try.ntmps31
  go_wp2_with fail
  go_loopg [] D (fun gk wr => ∃ t v, topD sb gk t = RES ∧ Blk wr w.heap.size 24 #[.int .i64 v.k, .int .i64 v.n, .string v.s, .slice v.A v.len v.c] ∧ Blk wr (w.heap.size + 1) 24 #[.int .i64 0, .int .i64 0, .string ⟨#[]⟩, .slice none 0 0] ∧ Tr wr S t v ∧ Keeps w wr [])
  case atStart => exact ⟨t, ⟨k, n, s, A, m, c⟩, by rw [← HDp.out]; exact HRES.out, hB, hR, HT.out.keep hK, hK⟩
  case round =>
    clear hB hR hK hD
    obtain ⟨t, v, htop, hq, hr, ht, hk⟩ := hrel
    have hkk := ht.inv.1
    have hnn := ht.inv.2.1
    have hss := ht.inv.2.2.1
    obtain ⟨tk, tn, ts, tl⟩ := t
    obtain ⟨vk, vn, vs, vA, vl, vc⟩ := v
    replace hkk : tk = vk := hkk.symm
    replace hnn : tn = vn := hnn.symm
    replace hss : ts = vs := hss.symm
    subst hkk hnn hss
    by_cases h0 : tk = 0
    · subst h0
      have HTop := Lib.hid htop
      have HQ := Lib.hid hq
      have HR := Lib.hid hr
      have HTt := Lib.hid ht
      have HK := Lib.hid hk
      have qc0 := hq.cell 0
      have qc1 := hq.cell 1
      have HO := Lib.hid (refOf_any tn sb SA sm sc wr S (HS.out.keep hk) HM.out hsb)
      have hlt := hr.lt
      clear htop hq hr ht hk
      go_wp2_with fail
      refine HO.out.mono ?_
      rintro e w1 ⟨k1, (⟨rfl, hn0⟩ | ⟨x, v', rfl, hx, htx⟩)⟩
      · have HRe : Hid (RES = .mk 0 tn ts tl) := by show _ = _; rw [← HTop.out]; exact topD_none sb (t := .mk 0 tn ts tl) hn0 _
        have K2 : Keeps wr (w1.alloc (.cells #[.int .i64 0, .int .i64 0, .string ⟨#[]⟩, .slice none 0 0] 24)) [] := k1.alloc _
        have hq := HQ.out.keep K2 (by simp)
        have hr := HR.out.keep K2 (by simp)
        have HK2 := Lib.hid (HK.out.trans K2)
        have HT2 := Lib.hid (HTt.out.keep K2)
        go_upto_region 3 with fail
        generalize w1.alloc (.cells #[.int .i64 0, .int .i64 0, .string ⟨#[]⟩, .slice none 0 0] 24) = w2 at K2 hq hr HK2 HT2 ⊢
        have HD := Lib.hid (TopDone.end4 (rb := w.heap.size + 1) HSl.out HT2.out HK2.out (by omega))
        rw [← HRe.out] at HD
        unfold tvV at HD
        have qc0 := hq.cell 0
        have qf0 := hq.frozen 0
        have qc1 := hq.cell 1
        have qf1 := hq.frozen 1
        have qc2 := hq.cell 2
        have qf2 := hq.frozen 2
        have qc3 := hq.cell 3
        have qf3 := hq.frozen 3
        have rc0 := hr.cell 0
        have rf0 := hr.frozen 0
        have rc1 := hr.cell 1
        have rf1 := hr.frozen 1
        have rc2 := hr.cell 2
        have rf2 := hr.frozen 2
        have rc3 := hr.cell 3
        have rf3 := hr.frozen 3
        clear hq hr K2 k1 hn0 HO hlt
        go_wp2_with fail
        exact bodyPost_ret (v := .agg #[.int .i64 0, .int .i64 tn, .string ts, .slice vA vl vc]) (by simp [results, Try.results31, go_sem, *]) rfl HD.out
      · have K2 : Keeps wr (w1.alloc (.cells #[.int .i64 v'.k, .int .i64 v'.n, .string v'.s, .slice v'.A v'.len v'.c] 24)) [] := k1.alloc _
        have hq := HQ.out.keep K2 (by simp)
        have hr := HR.out.keep K2 (by simp)
        have hx2 : Blk (w1.alloc (.cells #[.int .i64 v'.k, .int .i64 v'.n, .string v'.s, .slice v'.A v'.len v'.c] 24)) w1.heap.size 24 #[.int .i64 v'.k, .int .i64 v'.n, .string v'.s, .slice v'.A v'.len v'.c] := Blk.new _ _ _
        have HK2 := Lib.hid (HK.out.trans K2)
        have HTX := Lib.hid (htx.keep ((Keeps.refl w1 []).alloc (.cells #[.int .i64 v'.k, .int .i64 v'.n, .string v'.s, .slice v'.A v'.len v'.c] 24)))
        obtain ⟨gk', rfl⟩ : ∃ g', gk = g' + 1 := by
          cases gk with
          | zero =>
            exfalso
            have h1 : Tm.mk 0 tn ts tl = RES := HTop.out
            have h2 := HFin.out (by rw [← h1]; rfl)
            rw [← h1] at h2
            exact absurd (hx.symm.trans h2) (by simp)
          | succ g' => exact ⟨g', rfl⟩
        have HTop2 : Hid (topD sb gk' x = RES) := by show _ = _; rw [← HTop.out]; exact (topD_some (t := .mk 0 tn ts tl) rfl hx gk').symm
        go_upto_region 3 with fail
        generalize w1.alloc (.cells #[.int .i64 v'.k, .int .i64 v'.n, .string v'.s, .slice v'.A v'.len v'.c] 24) = w2 at K2 hq hr hx2 HK2 HTX ⊢
        have HQ2 := Lib.hid (hq.put4 (.int .i64 v'.k) (.int .i64 v'.n) (.string v'.s) (.slice v'.A v'.len v'.c))
        have HR2 := Lib.hid (hr.far4 (g' := w.heap.size) (by omega) (.int .i64 v'.k) (.int .i64 v'.n) (.string v'.s) (.slice v'.A v'.len v'.c))
        have HT3 := Lib.hid (HTX.out.far4 (g := w.heap.size) (fun e => by have := HSl.out _ e; omega) (.int .i64 v'.k) (.int .i64 v'.n) (.string v'.s) (.slice v'.A v'.len v'.c))
        have HK3 := Lib.hid (HK2.out.put4 (.inr (Nat.le_refl _)) (.int .i64 v'.k) (.int .i64 v'.n) (.string v'.s) (.slice v'.A v'.len v'.c))
        have y0 := hx2.cell 0
        have y1 := hx2.cell 1
        have y2 := hx2.cell 2
        have y3 := hx2.cell 3
        have qf0 := hq.frozen 0
        have qf1 := hq.frozen 1
        have qf2 := hq.frozen 2
        have qf3 := hq.frozen 3
        have qc0 := hq.cell 0
        have qc1 := hq.cell 1
        have qc2 := hq.cell 2
        have qc3 := hq.cell 3
        clear hq hr K2 k1 hx htx HO hlt hx2
        go_wp2_with fail
        go_roundg gk'
        case measure => omega
        case rel => exact ⟨x, v', HTop2.out, HQ2.out, HR2.out, HT3.out, HK3.out⟩
    · have e0 : (tk == 0) = false := by simpa using h0
      have HRe : Hid (RES = .mk tk tn ts tl) := by show _ = _; rw [← htop]; exact topD_node sb (t := .mk tk tn ts tl) h0 _
      have HD := Lib.hid (TopDone.end4 (rb := w.heap.size + 1) HSl.out ht hk (by omega))
      rw [← HRe.out] at HD
      unfold tvV at HD
      have qc0 := hq.cell 0
      have qf0 := hq.frozen 0
      have qc1 := hq.cell 1
      have qf1 := hq.frozen 1
      have qc2 := hq.cell 2
      have qf2 := hq.frozen 2
      have qc3 := hq.cell 3
      have qf3 := hq.frozen 3
      have rc0 := hr.cell 0
      have rf0 := hr.frozen 0
      have rc1 := hr.cell 1
      have rf1 := hr.frozen 1
      have rc2 := hr.cell 2
      have rf2 := hr.frozen 2
      have rc3 := hr.cell 3
      have rf3 := hr.frozen 3
      clear hq hr ht hk htop
      go_wp2_with fail
      exact bodyPost_ret (v := .agg #[.int .i64 tk, .int .i64 tn, .string ts, .slice vA vl vc]) (by simp [results, Try.results31, go_sem, *]) rfl HD.out
end Go.Proofs.Ytjbomjnkjcafcaa
