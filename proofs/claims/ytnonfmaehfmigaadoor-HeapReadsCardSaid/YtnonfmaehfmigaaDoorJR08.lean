/- The program's read. Printed by gen_hpreadc.py. -/
import Derived.Test.YtnonfmaehfmigaaDoorJR07
namespace Go.Proofs.YtnonfmaehfmigaaDoor
open Go.RowKit Go.Maps
section
variable {base hb ag ah vb : Nat} {AA FA TA MA : Option Addr} {ca nt ct nm cm cf : Nat} {H : PH} {tr : List Int} {mk : List (Int × Int)} {room : Nat}
theorem cpd_any (ho : HOk H) {f : Nat} (hf : f ≤ 100000) (hC : CallRd base hb ag ah vb AA FA TA MA ca nt ct nm cm cf H tr mk room f) {w : World} {rb : Nat} {d k : Int} (hm : Hm w base hb ag ah vb AA FA TA MA ca nt ct nm cm cf H tr mk room) (hout : rb ∉ hpL hb ag ah vb AA FA TA MA) (hbl : Blk w rb 74 #[.pointer (some ⟨hb, 0, none⟩), .int .i64 k, .int .i64 0]) (hk0 : 0 ≤ k) (hkf : k < f) (h0 : 0 ≤ d) (h1 : d < 18446744073709551616) (hr : right d = true) (hk : kindOf d = 1 ∨ kindOf d = 3) :
    Calls Tryd.prog 65 #[.pointer (some ⟨rb, 0, none⟩), .int .u64 d] w (RdD w rb hb (cpd H (rd H f) d k)) := by
  unfold cpd
  rcases hk with hk | hk
  · by_cases hn : partsP H d = []
    · rw [if_pos ⟨hk, hn⟩]
      exact cpd0_any ho hm hout hbl hk0 hkf h0 h1 hr hk hn
    · rw [if_neg (fun h => hn h.2), if_pos hk, if_pos hk]
      exact cpd1_any ho hf hC hm hout hbl hk0 hkf h0 h1 hr hk hn
  · have h3 : ¬ kindOf d = 1 := by omega
    rw [if_neg (fun h => h3 h.1), if_neg h3, if_neg h3]
    exact cpd3_any ho hf hC hm hout hbl hk0 hkf h0 h1 hr hk
theorem kind_of {d : Int} (hr : right d = true) : kindOf d = 0 ∨ kindOf d = 1 ∨ kindOf d = 2 ∨ kindOf d = 3 ∨ kindOf d = 4 := by
  have h := (right_iff d).1 hr
  unfold kindOf
  rw [if_pos hr]
  omega
set_option maxRecDepth 100000 in
set_option maxHeartbeats 6400000 in
theorem read_step (ho : HOk H) {f : Nat} (hf : f ≤ 100000) (hC : 0 < f → CallRd base hb ag ah vb AA FA TA MA ca nt ct nm cm cf H tr mk room f) : CallRd base hb ag ah vb AA FA TA MA ca nt ct nm cm cf H tr mk room (f + 1) := by
  intro w rb c s hm hout hbl hok hup hlow h0 h1 hr
  obtain ⟨left, err⟩ := s
  simp only at hok hup hlow
  obtain ⟨R, hR⟩ : ∃ R, rd H (f + 1) c (left, err) = R := ⟨_, rfl⟩
  rw [hR]
  rw [rd] at hR
  simp only at hR
  have hlt := hbl.lt
  have hne : w.heap.size ≠ rb := by omega
  have hne' : rb ≠ w.heap.size := by omega
  have hbb := hm.ar.bytes
  have HHm : Hid (∀ W, Keeps w W [rb] → Hm W base hb ag ah vb AA FA TA MA ca nt ct nm cm cf H tr mk room) := fun W kk => hm.keep kk (fun b hb' => by simp at hb'; subst hb'; exact hout)
  have HOut := Lib.hid hout
  have HO := Lib.hid ho
  have hK0 : Keeps w (w.alloc (.cells #[.int .i64 0, .int .i64 0, .string ⟨#[]⟩, .slice none 0 0] 34)) [] := (Keeps.refl w []).alloc _
  have hG0 : Blk (w.alloc (.cells #[.int .i64 0, .int .i64 0, .string ⟨#[]⟩, .slice none 0 0] 34)) w.heap.size 34 #[.int .i64 0, .int .i64 0, .string ⟨#[]⟩, .slice none 0 0] := Blk.new _ _ _
  have HK0 := Lib.hid hK0
  have HG0 := Lib.hid hG0
  have HB0 := Lib.hid (hbl.keep hK0 (by simp))
  obtain ⟨o, hoo⟩ : ∃ o, derefP H c = o := ⟨_, rfl⟩
  have HD0 := Lib.hid (deref_any (HHm.out _ (hK0.to_ _)) ho c h0 h1 hr)
  unfold derV at HD0
  rw [hoo] at HD0 hR
  have HR := Lib.hid hR
  have HDi : Hid (∀ d, o = some d → 0 ≤ d ∧ d < 18446744073709551616 ∧ right d = true) := fun d hd => by
    subst hd
    have h := deref_is ho hbb _ c d (Nat.le_refl _) h0 h1 hr hoo
    exact ⟨h.1, h.2.1, h.2.2.1⟩
  clear hm hbb hK0 hG0 hbl hout ho h0 h1 hr hoo hR
  go_enter Tryd.func32, Tryd.ntmps32
  go_upto_region 1 with fail
  generalize (w.alloc (.cells #[.int .i64 0, .int .i64 0, .string ⟨#[]⟩, .slice none 0 0] 34)) = w0 at HK0 HG0 HB0 HD0 ⊢
  have x0 := HB0.out.cell 0
  go_wp2_with fail
  refine HD0.out.mono ?_
  rintro e w1 ⟨rfl, k1⟩
  have hK1 := HK0.out.trans k1
  have hB1 := HB0.out.keep k1 (by simp)
  have hG1 := HG0.out.keep k1 (by simp)
  have x1 := hB1.cell 1
  have y1 := hB1.frozen 1
  have x2 := hB1.cell 2
  have x0 := hB1.cell 0
  have HB2 : Hid (Blk (w1.setCell ⟨rb, 1, none⟩ (.int .i64 (left - 1))) rb 74 #[.pointer (some ⟨hb, 0, none⟩), .int .i64 (left - 1), .int .i64 err]) := by
    have := hB1.set_ 1 (.int .i64 (left - 1))
    exact Lib.hid (by simpa using this)
  have HG2 : Hid (Blk (w1.setCell ⟨rb, 1, none⟩ (.int .i64 (left - 1))) w.heap.size 34 #[.int .i64 0, .int .i64 0, .string ⟨#[]⟩, .slice none 0 0]) := hG1.far hne _
  have HK2 : Hid (Keeps w (w1.setCell ⟨rb, 1, none⟩ (.int .i64 (left - 1))) [rb]) := (hK1.to_ [rb]).setCell (.inl (by simp)) _
  clear hK1 hB1 hG1 k1 HD0 HB0 HG0 HK0
  go_upto_region 3 with fail
  generalize (w1.setCell ⟨rb, 1, none⟩ (.int .i64 (left - 1))) = wl at *
  clear x0 x1 x2 y1
  have x0 := HB2.out.cell 0
  have x1 := HB2.out.cell 1
  have x2 := HB2.out.cell 2
  by_cases he : err = 0
  · subst he
    have hR := HR.out
    rw [if_pos rfl] at hR
    clear HR
    have hl0 := hok rfl
    clear hok
    cases o with
    | none =>
      have HFa := Lib.hid (fail_any HB2.out 1)
      simp only [rdC] at hR
      have HRes := Lib.hid hR.symm
      clear hR
      go_wp2_with fail
      refine HFa.out.mono ?_
      rintro e w3 ⟨u, rfl, hu, hb3, k3⟩
      obtain ⟨k_, n_, s_, A_, m_, c_⟩ := u
      have hK3 := HK2.out.trans k3
      have HG3 := HG2.out.keep k3 (by simp; omega)
      have HD : Hid (∀ v0 v1 v2 v3, RdD w rb hb R (.returned (tvV ⟨k_, n_, s_, A_, m_, c_⟩)) ((((w3.setCell ⟨w.heap.size, 0, none⟩ v0).setCell ⟨w.heap.size, 1, none⟩ v1).setCell ⟨w.heap.size, 2, none⟩ v2).setCell ⟨w.heap.size, 3, none⟩ v3)) := fun v0 v1 v2 v3 =>
        by rw [HRes.out]; exact RdD.up4 (r := (tZ, (left - 1, 1))) hu hb3 hK3 (Nat.le_refl _) HG2.out.lt hlt v0 v1 v2 v3
      unfold tvV
      have r0 := HG3.cell 0
      have r1 := HG3.cell 1
      have r2 := HG3.cell 2
      have r3 := HG3.cell 3
      have f0 := HG3.frozen 0
      have f1 := HG3.frozen 1
      have f2 := HG3.frozen 2
      have f3 := HG3.frozen 3
      clear hu hb3 k3 hK3 HG3
      go_wp2_with fail
      exact bodyPost_ret (v := .agg #[.int .i64 k_, .int .i64 n_, .string s_, .slice A_ m_ c_]) (by simp [results, Tryd.results32, go_sem, *]) rfl (HD.out _ _ _ _)
    | some d =>
      obtain ⟨d0, d1, dr⟩ := HDi.out d rfl
      simp only [rdC] at hR
      simp only [Option.getD_some, Option.isSome_some]
      by_cases hl : left - 1 < 0
      · have HFa := Lib.hid (fail_any HB2.out 2)
        have dl : decide (left - 1 < 0) = true := by simpa using hl
        rw [if_pos hl] at hR
        have HRes := Lib.hid hR.symm
        clear d0 d1 dr hR
        go_wp2_with fail
        refine HFa.out.mono ?_
        rintro e w3 ⟨u, rfl, hu, hb3, k3⟩
        obtain ⟨k_, n_, s_, A_, m_, c_⟩ := u
        have hK3 := HK2.out.trans k3
        have HG3 := HG2.out.keep k3 (by simp; omega)
        have HD : Hid (∀ v0 v1 v2 v3, RdD w rb hb R (.returned (tvV ⟨k_, n_, s_, A_, m_, c_⟩)) ((((w3.setCell ⟨w.heap.size, 0, none⟩ v0).setCell ⟨w.heap.size, 1, none⟩ v1).setCell ⟨w.heap.size, 2, none⟩ v2).setCell ⟨w.heap.size, 3, none⟩ v3)) := fun v0 v1 v2 v3 =>
          by rw [HRes.out]; exact RdD.up4 (r := (tZ, (left - 1, 2))) hu hb3 hK3 (Nat.le_refl _) HG2.out.lt hlt v0 v1 v2 v3
        unfold tvV
        have r0 := HG3.cell 0
        have r1 := HG3.cell 1
        have r2 := HG3.cell 2
        have r3 := HG3.cell 3
        have f0 := HG3.frozen 0
        have f1 := HG3.frozen 1
        have f2 := HG3.frozen 2
        have f3 := HG3.frozen 3
        clear hu hb3 k3 hK3 HG3
        go_wp2_with fail
        exact bodyPost_ret (v := .agg #[.int .i64 k_, .int .i64 n_, .string s_, .slice A_ m_ c_]) (by simp [results, Tryd.results32, go_sem, *]) rfl (HD.out _ _ _ _)
      · have dl : decide (left - 1 < 0) = false := by simpa using hl
        rw [if_neg hl] at hR
        have HNu := Lib.hid (fun W => number_any d W d0 d1)
        have HKd := Lib.hid (fun W => kind_any d W d0 d1)
        obtain ⟨p, hp⟩ := Int.eq_ofNat_of_zero_le (num_nn d0 dr)
        rw [hp] at HNu
        rcases kind_of dr with hk | hk | hk | hk | hk
        · rw [hk] at HKd
          rw [if_pos hk, hp] at hR
          by_cases h9 : 999 < (p : Int)
          · have dg : decide ((p : Int) > 999) = true := by simpa using h9
            have dg2 : decide (999 < (p : Int)) = true := by simpa using h9
            have HFa := Lib.hid (fail_any HB2.out 2)
            rw [if_pos h9] at hR
            have HRes := Lib.hid hR.symm
            clear d0 d1 dr hk hp h9 hl hR
            go_wp2_with fail
            refine (HNu.out _).mono ?_
            rintro e w3 ⟨rfl, rfl⟩
            go_wp2_with fail
            refine (HKd.out _).mono ?_
            rintro e w3 ⟨rfl, rfl⟩
            go_wp2_with fail
            refine HFa.out.mono ?_
            rintro e w3 ⟨u, rfl, hu, hb3, k3⟩
            obtain ⟨k_, n_, s_, A_, m_, c_⟩ := u
            have hK3 := HK2.out.trans k3
            have HG3 := HG2.out.keep k3 (by simp; omega)
            have HD : Hid (∀ v0 v1 v2 v3, RdD w rb hb R (.returned (tvV ⟨k_, n_, s_, A_, m_, c_⟩)) ((((w3.setCell ⟨w.heap.size, 0, none⟩ v0).setCell ⟨w.heap.size, 1, none⟩ v1).setCell ⟨w.heap.size, 2, none⟩ v2).setCell ⟨w.heap.size, 3, none⟩ v3)) := fun v0 v1 v2 v3 =>
              by rw [HRes.out]; exact RdD.up4 (r := (tZ, (left - 1, 2))) hu hb3 hK3 (Nat.le_refl _) HG2.out.lt hlt v0 v1 v2 v3
            unfold tvV
            have r0 := HG3.cell 0
            have r1 := HG3.cell 1
            have r2 := HG3.cell 2
            have r3 := HG3.cell 3
            have f0 := HG3.frozen 0
            have f1 := HG3.frozen 1
            have f2 := HG3.frozen 2
            have f3 := HG3.frozen 3
            clear hu hb3 k3 hK3 HG3
            go_wp2_with fail
            exact bodyPost_ret (v := .agg #[.int .i64 k_, .int .i64 n_, .string s_, .slice A_ m_ c_]) (by simp [results, Tryd.results32, go_sem, *]) rfl (HD.out _ _ _ _)
          · have dg : decide ((p : Int) > 999) = false := by simpa using h9
            have dg2 : decide (999 < (p : Int)) = false := by simpa using h9
            rw [if_neg h9] at hR
            have HRes := Lib.hid hR.symm
            clear d0 d1 dr hk hp h9 hl hR
            go_wp2_with fail
            refine (HNu.out _).mono ?_
            rintro e w3 ⟨rfl, rfl⟩
            go_wp2_with fail
            refine (HKd.out _).mono ?_
            rintro e w3 ⟨rfl, rfl⟩
            have HD : Hid (∀ v0 v1 v2 v3, RdD w rb hb R (.returned (tvV ⟨0, p, ⟨#[]⟩, none, 0, 0⟩)) ((((wl.setCell ⟨w.heap.size, 0, none⟩ v0).setCell ⟨w.heap.size, 1, none⟩ v1).setCell ⟨w.heap.size, 2, none⟩ v2).setCell ⟨w.heap.size, 3, none⟩ v3)) := fun v0 v1 v2 v3 =>
              by rw [HRes.out]; exact RdD.end4 (r := (.mk 0 p ⟨#[]⟩ [], (left - 1, 0))) (tr_leaf _ _ 0 p ⟨#[]⟩ (by decide)) HB2.out HK2.out (Nat.le_refl _) hlt v0 v1 v2 v3
            unfold tvV at HD
            have r0 := HG2.out.cell 0
            have r1 := HG2.out.cell 1
            have r2 := HG2.out.cell 2
            have r3 := HG2.out.cell 3
            have f0 := HG2.out.frozen 0
            have f1 := HG2.out.frozen 1
            have f2 := HG2.out.frozen 2
            have f3 := HG2.out.frozen 3
            go_wp2_with fail
            exact bodyPost_ret (v := .agg #[.int .i64 0, .int .i64 p, .string ⟨#[]⟩, .slice none 0 0]) (by simp [results, Tryd.results32, go_sem, *]) rfl (HD.out _ _ _ _)
        · rw [hk] at HKd
          rw [if_neg (by omega), if_neg (by omega), if_neg (by omega)] at hR
          have HFa := Lib.hid (cpd_any HO.out hf (hC (by omega)) (HHm.out _ HK2.out) HOut.out HB2.out (by omega) (by omega) d0 d1 dr (.inl hk))
          have HRes := Lib.hid hR.symm
          clear d0 d1 dr hk hp hl hR
          go_wp2_with fail
          refine (HNu.out _).mono ?_
          rintro e w3 ⟨rfl, rfl⟩
          go_wp2_with fail
          refine (HKd.out _).mono ?_
          rintro e w3 ⟨rfl, rfl⟩
          go_wp2_with fail
          refine HFa.out.mono ?_
          rintro e w3 ⟨u, rfl, hu, hb3, k3⟩
          obtain ⟨k_, n_, s_, A_, m_, c_⟩ := u
          have hK3 := HK2.out.trans k3
          have HG3 := HG2.out.keep k3 (by simp; omega)
          have HD : Hid (∀ v0 v1 v2 v3, RdD w rb hb R (.returned (tvV ⟨k_, n_, s_, A_, m_, c_⟩)) ((((w3.setCell ⟨w.heap.size, 0, none⟩ v0).setCell ⟨w.heap.size, 1, none⟩ v1).setCell ⟨w.heap.size, 2, none⟩ v2).setCell ⟨w.heap.size, 3, none⟩ v3)) := fun v0 v1 v2 v3 =>
            by rw [HRes.out]; exact RdD.up4 (r := (cpd H (rd H f) d (left - 1))) hu hb3 hK3 (Nat.le_refl _) HG2.out.lt hlt v0 v1 v2 v3
          unfold tvV
          have r0 := HG3.cell 0
          have r1 := HG3.cell 1
          have r2 := HG3.cell 2
          have r3 := HG3.cell 3
          have f0 := HG3.frozen 0
          have f1 := HG3.frozen 1
          have f2 := HG3.frozen 2
          have f3 := HG3.frozen 3
          clear hu hb3 k3 hK3 HG3
          go_wp2_with fail
          exact bodyPost_ret (v := .agg #[.int .i64 k_, .int .i64 n_, .string s_, .slice A_ m_ c_]) (by simp [results, Tryd.results32, go_sem, *]) rfl (HD.out _ _ _ _)
        · rw [hk] at HKd
          rw [if_neg (by omega), if_pos hk, hp, Int.toNat_natCast] at hR
          have hmw := HHm.out _ HK2.out
          have a1 := hmw.blk.cell 1
          have a0 := x0
          cases ha : H.atoms[p]? with
          | none =>
            rw [ha] at hR
            simp only at hR
            have hpl := List.getElem?_eq_none_iff.1 ha
            have dg : decide ((p : Int) ≥ (H.atoms.length : Int)) = true := by simp; omega
            have dg1 : decide ((H.atoms.length : Int) ≤ (p : Int)) = true := by simp; omega
            have dg2 : decide (H.atoms.length ≤ p) = true := by simp; omega
            have HFa := Lib.hid (fail_any HB2.out 1)
            have HRes := Lib.hid hR.symm
            clear d0 d1 dr hk hp hl hmw ha hpl a0 hR
            go_wp2_with fail
            refine (HNu.out _).mono ?_
            rintro e w3 ⟨rfl, rfl⟩
            go_wp2_with fail
            refine (HKd.out _).mono ?_
            rintro e w3 ⟨rfl, rfl⟩
            go_wp2_with fail
            refine HFa.out.mono ?_
            rintro e w3 ⟨u, rfl, hu, hb3, k3⟩
            obtain ⟨k_, n_, s_, A_, m_, c_⟩ := u
            have hK3 := HK2.out.trans k3
            have HG3 := HG2.out.keep k3 (by simp; omega)
            have HD : Hid (∀ v0 v1 v2 v3, RdD w rb hb R (.returned (tvV ⟨k_, n_, s_, A_, m_, c_⟩)) ((((w3.setCell ⟨w.heap.size, 0, none⟩ v0).setCell ⟨w.heap.size, 1, none⟩ v1).setCell ⟨w.heap.size, 2, none⟩ v2).setCell ⟨w.heap.size, 3, none⟩ v3)) := fun v0 v1 v2 v3 =>
              by rw [HRes.out]; exact RdD.up4 (r := (tZ, (left - 1, 1))) hu hb3 hK3 (Nat.le_refl _) HG2.out.lt hlt v0 v1 v2 v3
            unfold tvV
            have r0 := HG3.cell 0
            have r1 := HG3.cell 1
            have r2 := HG3.cell 2
            have r3 := HG3.cell 3
            have f0 := HG3.frozen 0
            have f1 := HG3.frozen 1
            have f2 := HG3.frozen 2
            have f3 := HG3.frozen 3
            clear hu hb3 k3 hK3 HG3
            go_wp2_with fail
            exact bodyPost_ret (v := .agg #[.int .i64 k_, .int .i64 n_, .string s_, .slice A_ m_ c_]) (by simp [results, Tryd.results32, go_sem, *]) rfl (HD.out _ _ _ _)
          | some s =>
            rw [ha] at hR
            simp only at hR
            have hpl := (List.getElem?_eq_some_iff.1 ha).1
            have dg : decide ((p : Int) ≥ (H.atoms.length : Int)) = false := by simp; omega
            have dg1 : decide ((H.atoms.length : Int) ≤ (p : Int)) = false := by simp; omega
            have dg2 : decide (H.atoms.length ≤ p) = false := by simp; omega
            obtain ⟨ab, aoff, va, hAA, hab, hac, hav⟩ := (Rd.of_own hmw.atoms) p (by simpa using hpl)
            have hva : va = .string s := by rw [List.getElem?_map, ha] at hav; exact (Option.some.inj hav).symm
            subst hva
            rw [hAA] at a1
            have hss := HO.out.sizes.1 s (List.mem_of_getElem? ha)
            have b0 : (0 : Int) ≤ (p : Int) := Int.natCast_nonneg _
            have b1 : (p : Int) < (H.atoms.length : Int) := by omega
            have HRes := Lib.hid hR.symm
            clear d0 d1 dr hk hp hl hmw ha hav hAA hab a0 hR
            go_wp2_with fail
            refine (HNu.out _).mono ?_
            rintro e w3 ⟨rfl, rfl⟩
            go_wp2_with fail
            refine (HKd.out _).mono ?_
            rintro e w3 ⟨rfl, rfl⟩
            have HD : Hid (∀ v0 v1 v2 v3, RdD w rb hb R (.returned (tvV ⟨1, 0, s, none, 0, 0⟩)) ((((wl.setCell ⟨w.heap.size, 0, none⟩ v0).setCell ⟨w.heap.size, 1, none⟩ v1).setCell ⟨w.heap.size, 2, none⟩ v2).setCell ⟨w.heap.size, 3, none⟩ v3)) := fun v0 v1 v2 v3 =>
              by rw [HRes.out]; exact RdD.end4 (r := (.mk 1 0 s [], (left - 1, 0))) (tr_leaf _ _ 1 0 s hss) HB2.out HK2.out (Nat.le_refl _) hlt v0 v1 v2 v3
            unfold tvV at HD
            have r0 := HG2.out.cell 0
            have r1 := HG2.out.cell 1
            have r2 := HG2.out.cell 2
            have r3 := HG2.out.cell 3
            have f0 := HG2.out.frozen 0
            have f1 := HG2.out.frozen 1
            have f2 := HG2.out.frozen 2
            have f3 := HG2.out.frozen 3
            go_wp2_with fail
            exact bodyPost_ret (v := .agg #[.int .i64 1, .int .i64 0, .string s, .slice none 0 0]) (by simp [results, Tryd.results32, go_sem, *]) rfl (HD.out _ _ _ _)
        · rw [hk] at HKd
          rw [if_neg (by omega), if_neg (by omega), if_neg (by omega)] at hR
          have HFa := Lib.hid (cpd_any HO.out hf (hC (by omega)) (HHm.out _ HK2.out) HOut.out HB2.out (by omega) (by omega) d0 d1 dr (.inr hk))
          have HRes := Lib.hid hR.symm
          clear d0 d1 dr hk hp hl hR
          go_wp2_with fail
          refine (HNu.out _).mono ?_
          rintro e w3 ⟨rfl, rfl⟩
          go_wp2_with fail
          refine (HKd.out _).mono ?_
          rintro e w3 ⟨rfl, rfl⟩
          go_wp2_with fail
          refine HFa.out.mono ?_
          rintro e w3 ⟨u, rfl, hu, hb3, k3⟩
          obtain ⟨k_, n_, s_, A_, m_, c_⟩ := u
          have hK3 := HK2.out.trans k3
          have HG3 := HG2.out.keep k3 (by simp; omega)
          have HD : Hid (∀ v0 v1 v2 v3, RdD w rb hb R (.returned (tvV ⟨k_, n_, s_, A_, m_, c_⟩)) ((((w3.setCell ⟨w.heap.size, 0, none⟩ v0).setCell ⟨w.heap.size, 1, none⟩ v1).setCell ⟨w.heap.size, 2, none⟩ v2).setCell ⟨w.heap.size, 3, none⟩ v3)) := fun v0 v1 v2 v3 =>
            by rw [HRes.out]; exact RdD.up4 (r := (cpd H (rd H f) d (left - 1))) hu hb3 hK3 (Nat.le_refl _) HG2.out.lt hlt v0 v1 v2 v3
          unfold tvV
          have r0 := HG3.cell 0
          have r1 := HG3.cell 1
          have r2 := HG3.cell 2
          have r3 := HG3.cell 3
          have f0 := HG3.frozen 0
          have f1 := HG3.frozen 1
          have f2 := HG3.frozen 2
          have f3 := HG3.frozen 3
          clear hu hb3 k3 hK3 HG3
          go_wp2_with fail
          exact bodyPost_ret (v := .agg #[.int .i64 k_, .int .i64 n_, .string s_, .slice A_ m_ c_]) (by simp [results, Tryd.results32, go_sem, *]) rfl (HD.out _ _ _ _)
        · rw [hk] at HKd
          rw [if_neg (by omega), if_neg (by omega), if_pos hk] at hR
          have HFa := Lib.hid (fail_any HB2.out 1)
          have HRes := Lib.hid hR.symm
          clear d0 d1 dr hk hp hl hR
          go_wp2_with fail
          refine (HNu.out _).mono ?_
          rintro e w3 ⟨rfl, rfl⟩
          go_wp2_with fail
          refine (HKd.out _).mono ?_
          rintro e w3 ⟨rfl, rfl⟩
          go_wp2_with fail
          refine HFa.out.mono ?_
          rintro e w3 ⟨u, rfl, hu, hb3, k3⟩
          obtain ⟨k_, n_, s_, A_, m_, c_⟩ := u
          have hK3 := HK2.out.trans k3
          have HG3 := HG2.out.keep k3 (by simp; omega)
          have HD : Hid (∀ v0 v1 v2 v3, RdD w rb hb R (.returned (tvV ⟨k_, n_, s_, A_, m_, c_⟩)) ((((w3.setCell ⟨w.heap.size, 0, none⟩ v0).setCell ⟨w.heap.size, 1, none⟩ v1).setCell ⟨w.heap.size, 2, none⟩ v2).setCell ⟨w.heap.size, 3, none⟩ v3)) := fun v0 v1 v2 v3 =>
            by rw [HRes.out]; exact RdD.up4 (r := (tZ, (left - 1, 1))) hu hb3 hK3 (Nat.le_refl _) HG2.out.lt hlt v0 v1 v2 v3
          unfold tvV
          have r0 := HG3.cell 0
          have r1 := HG3.cell 1
          have r2 := HG3.cell 2
          have r3 := HG3.cell 3
          have f0 := HG3.frozen 0
          have f1 := HG3.frozen 1
          have f2 := HG3.frozen 2
          have f3 := HG3.frozen 3
          clear hu hb3 k3 hK3 HG3
          go_wp2_with fail
          exact bodyPost_ret (v := .agg #[.int .i64 k_, .int .i64 n_, .string s_, .slice A_ m_ c_]) (by simp [results, Tryd.results32, go_sem, *]) rfl (HD.out _ _ _ _)
  · have e1 : (err == 0) = false := by simpa using he
    have e2 : (err != 0) = true := by simpa using he
    have hR := HR.out
    rw [if_neg he] at hR
    have HRes := Lib.hid hR.symm
    clear hR HR
    have HD : Hid (∀ v0 v1 v2 v3, RdD w rb hb R (.returned (tvV zV)) ((((wl.setCell ⟨w.heap.size, 0, none⟩ v0).setCell ⟨w.heap.size, 1, none⟩ v1).setCell ⟨w.heap.size, 2, none⟩ v2).setCell ⟨w.heap.size, 3, none⟩ v3)) := fun v0 v1 v2 v3 =>
      by rw [HRes.out]; exact RdD.end4 (r := (tZ, (left - 1, err))) (tr_zero _ _) HB2.out HK2.out (Nat.le_refl _) hlt v0 v1 v2 v3
    unfold tvV at HD
    have r0 := HG2.out.cell 0
    have r1 := HG2.out.cell 1
    have r2 := HG2.out.cell 2
    have r3 := HG2.out.cell 3
    have f0 := HG2.out.frozen 0
    have f1 := HG2.out.frozen 1
    have f2 := HG2.out.frozen 2
    have f3 := HG2.out.frozen 3
    unfold zV at HD
    go_wp2_with fail
    exact bodyPost_ret (v := .agg #[.int .i64 0, .int .i64 0, .string ⟨#[]⟩, .slice none 0 0]) (by simp [results, Tryd.results32, go_sem, *]) rfl (HD.out _ _ _ _)
theorem read_any (ho : HOk H) : ∀ f, f ≤ 100000 → CallRd base hb ag ah vb AA FA TA MA ca nt ct nm cm cf H tr mk room (f + 1)
  | 0, h => read_step ho h (fun h => absurd h (by omega))
  | f + 1, h => read_step ho h (fun _ => read_any ho f (by omega))
end
end Go.Proofs.YtnonfmaehfmigaaDoor
