/- Terms in words: the document's Text. -/
import Derived.Test.YtjbomjnkjcafcaaDoorTmText
import Derived.Test.YtjbomjnkjcafcaaDoorNum
namespace Go.Proofs.YtjbomjnkjcafcaaDoor
open Go.RowKit

theorem tJoin_snoc (c : UInt8) : ∀ (l : List Txt) (a : Txt), l ≠ [] → tJoin c (l ++ [a]) = tJoin c l ++ c :: a
  | [], a, h => absurd rfl h
  | [x], a, _ => by simp [tJoin]
  | x :: y :: l, a, _ => by
    have ih := tJoin_snoc c (y :: l) a (by simp)
    rw [List.cons_append] at ih ⊢
    rw [List.cons_append, tJoin, ih, tJoin]
    simp
theorem tJoin_len (c : UInt8) : ∀ (l : List Txt) (j : Nat), (tJoin c (l.take j)).length ≤ (tJoin c l).length
  | [], j => by simp
  | [x], 0 => by simp [tJoin]
  | [x], j + 1 => by simp
  | x :: y :: l, 0 => by simp [tJoin]
  | x :: y :: l, 1 => by simp [tJoin]
  | x :: y :: l, j + 2 => by
    have ih := tJoin_len c (y :: l) (j + 1)
    rw [List.take_succ_cons] at ih ⊢
    rw [List.take_succ_cons, tJoin, tJoin, List.length_append, List.length_append, List.length_cons, List.length_cons]
    omega
set_option maxRecDepth 100000 in
set_option maxHeartbeats 3200000 in
theorem refText_any (t : Tm) : ∀ (v : TV) (w : World), Tr w (fun _ => True) t v → tRight t = true → tSize t ≤ 10000 → Calls Tryd.prog 19 #[tvV v] w fun e w' => e = .returned (.string (stB (tText t))) ∧ Keeps w w' [] := by
  induction t using Tm.ind_ with
  | h k n s l ih =>
    intro v w ht hrt hsz
    have htl := tText_few _ hrt
    cases ht with
    | mk _ _ _ _ A c vs hl hR hS hc hz hk =>
    rw [tRight, Bool.and_eq_true] at hrt
    obtain ⟨hall, hrt⟩ := hrt
    have HRt : Hid (∀ a ∈ l, tRight a = true) := (tRights_all l).1 hall
    have HSz : Hid (∀ a ∈ l, tSize a ≤ 10000) := fun a ha => by have := tSizes_mem ha; rw [tSize] at hsz; omega
    have HT : Hid (Trs w (fun _ => True) l vs) := ⟨hl, hk⟩
    have HR := Lib.hid hR
    have HI := Lib.hid ih
    obtain ⟨m, hm⟩ : ∃ m, l.length = m := ⟨_, rfl⟩
    have HM := Lib.hid hm
    have hmb : m ≤ 10000 := by have := tSizes_len l; rw [tSize] at hsz; omega
    have HTL : Hid ((tText (.mk k n s l)).length ≤ 440000) := by show _ ≤ _; omega
    clear hl hR hS hc hz hk ih hall htl hsz
    unfold tvV
    rw [hm] at hrt
    simp only [hm]
    clear hm
    have HB0 : Hid (Blk (w.alloc (.cells #[.int .i64 k, .int .i64 n, .string s, .slice A m c] 24)) w.heap.size 24 #[.int .i64 k, .int .i64 n, .string s, .slice A m c]) := Blk.new _ _ _
    have HK0 : Hid (Keeps w (w.alloc (.cells #[.int .i64 k, .int .i64 n, .string s, .slice A m c] 24)) []) := (Keeps.refl w []).alloc _
    go_enter Tryd.func19, Tryd.ntmps19
    by_cases h0 : k = 0
    · subst h0
      rw [if_pos rfl] at hrt
      simp only [Bool.and_eq_true, decide_eq_true_eq] at hrt
      obtain ⟨⟨⟨g0, g9⟩, g7⟩, g8⟩ := hrt
      clear g7 g8
      obtain ⟨nn, rfl⟩ := Int.eq_ofNat_of_zero_le g0
      have HV : Hid (tText (.mk 0 nn s l) = 88 :: Lib.decDigits nn) := by show _ = _; rw [tText, if_pos rfl, Int.toNat_natCast]
      have HI2 := Lib.hid (fun w' => num_any nn w' (by omega))
      have hadd := add_st (a := ⟨#[88]⟩) (b := digits nn) (c := stB (88 :: Lib.decDigits nn)) (stB_app [88] _) (by rw [show digits nn = stB (Lib.decDigits nn) from rfl, stB_size]; have := digits_len4 nn (by omega); have : (⟨#[88]⟩ : ByteArray).size = 1 := rfl; omega)
      go_wp2_with fail
      refine (HI2.out _).mono ?_
      rintro e w5 ⟨rfl, kd, rfl⟩
      go_wp2_with fail
      go_ret
      exact ⟨by rw [HV.out]; rfl, HK0.out.drewN kd⟩
    rw [if_neg h0] at hrt
    have e0 : (k == 0) = false := by simpa using h0
    by_cases h1 : k = 1
    · subst h1
      have HV : Hid (tText (.mk 1 n s l) = s.data.toList) := by show _ = _; rw [tText, if_neg (by omega), if_pos rfl]
      clear hrt
      go_wp2_with fail
      go_ret
      exact ⟨by rw [HV.out, stB_of]; rfl, HK0.out⟩
    rw [if_neg h1] at hrt
    have e1 : (k == 1) = false := by simpa using h1
    by_cases h3 : k = 3
    · subst h3
      simp at hrt
      obtain ⟨g7, hm2⟩ := hrt
      clear g7
      subst hm2
      obtain ⟨a, b, rfl⟩ : ∃ a b, l = [a, b] := by
        have := HM.out
        match l, this with
        | [a, b], _ => exact ⟨a, b, rfl⟩
      have hv : tText (.mk 3 n s [a, b]) = 91 :: (tText a ++ 124 :: (tText b ++ [93])) := by rw [tText, if_neg (by omega), if_neg (by omega), if_pos rfl]; simp [tTexts, tJoin]
      have hln := HTL.out
      rw [hv] at hln
      simp only [List.length_cons, List.length_append, List.length_nil] at hln
      have HV := Lib.hid hv
      clear hv
      obtain ⟨va, ba, oa, _, htra, rfl, hba, p0, p1, p2, p3⟩ := (HT.out.keep HK0.out).get (HR.out.keep HK0.out) (j := 0) (t := a) rfl
      obtain ⟨vb, bb, ob, _, htrb, hAb, _, r0, r1, r2, r3⟩ := (HT.out.keep HK0.out).get (HR.out.keep HK0.out) (j := 1) (t := b) rfl
      injection hAb with hAb
      injection hAb with hb1 hb2 hb3
      subst hb1
      subst hb2
      have HCa := Lib.hid (fun W' (kk : Keeps (w.alloc (.cells #[.int .i64 3, .int .i64 n, .string s, .slice (some ⟨ba, oa, none⟩) 2 c] 24)) W' []) => HI.out a (by simp) va W' (htra.keep kk) (HRt.out a (by simp)) (HSz.out a (by simp)))
      have HCb := Lib.hid (fun W' (kk : Keeps (w.alloc (.cells #[.int .i64 3, .int .i64 n, .string s, .slice (some ⟨ba, oa, none⟩) 2 c] 24)) W' []) => HI.out b (by simp) vb W' (htrb.keep kk) (HRt.out b (by simp)) (HSz.out b (by simp)))
      unfold tvV at HCa HCb
      have HW : Hid (∀ W', Keeps (w.alloc (.cells #[.int .i64 3, .int .i64 n, .string s, .slice (some ⟨ba, oa, none⟩) 2 c] 24)) W' [] → W'.cell? ⟨w.heap.size, 3, none⟩ = some (.slice (some ⟨ba, oa, none⟩) 2 c) ∧ W'.cell? ⟨ba, oa, none⟩ = some (.int .i64 va.k) ∧ W'.cell? ⟨ba, oa + 1, none⟩ = some (.int .i64 va.n) ∧ W'.cell? ⟨ba, oa + 2, none⟩ = some (.string va.s) ∧ W'.cell? ⟨ba, oa + 3, none⟩ = some (.slice va.A va.len va.c) ∧ W'.cell? ⟨ba, oa + 4, none⟩ = some (.int .i64 vb.k) ∧ W'.cell? ⟨ba, oa + 4 + 1, none⟩ = some (.int .i64 vb.n) ∧ W'.cell? ⟨ba, oa + 4 + 2, none⟩ = some (.string vb.s) ∧ W'.cell? ⟨ba, oa + 4 + 3, none⟩ = some (.slice vb.A vb.len vb.c)) := fun W' kk =>
        have f := fun (i : Nat) (v : Value) (h : (w.alloc (.cells #[.int .i64 3, .int .i64 n, .string s, .slice (some ⟨ba, oa, none⟩) 2 c] 24)).cell? ⟨ba, i, none⟩ = some v) => (kk.cell (p := ⟨ba, i, none⟩) hba (by simp)).trans h
        ⟨(HB0.out.keep kk (by simp)).cell 3, f _ _ (by simpa using p0), f _ _ (by simpa using p1), f _ _ (by simpa using p2), f _ _ (by simpa using p3), f _ _ (by simpa using r0), f _ _ (by simpa using r1), f _ _ (by simpa using r2), f _ _ (by simpa using r3)⟩
      clear p0 p1 p2 p3 r0 r1 r2 r3 htra htrb
      have z1 : (⟨#[91]⟩ : ByteArray).size = 1 := rfl
      have z2 : (⟨#[93]⟩ : ByteArray).size = 1 := rfl
      have z3 : (⟨#[124]⟩ : ByteArray).size = 1 := rfl
      have hadd := add_st (a := ⟨#[91]⟩) (b := stB (tText a)) (c := stB (91 :: tText a)) (stB_app [91] _) (by rw [stB_size]; omega)
      have hadd2 := add_st (a := stB (91 :: tText a)) (b := ⟨#[124]⟩) (c := stB (91 :: (tText a ++ [124]))) (by have := stB_app (91 :: tText a) [124]; rw [List.cons_append] at this; exact this) (by rw [stB_size, List.length_cons]; omega)
      have hadd3 := add_st (a := stB (91 :: (tText a ++ [124]))) (b := stB (tText b)) (c := stB (91 :: (tText a ++ 124 :: tText b))) (by rw [stB_app]; simp) (by rw [stB_size, stB_size, List.length_cons, List.length_append, List.length_singleton]; omega)
      have hadd4 := add_st (a := stB (91 :: (tText a ++ 124 :: tText b))) (b := ⟨#[93]⟩) (c := stB (91 :: (tText a ++ 124 :: (tText b ++ [93])))) (by have := stB_app (91 :: (tText a ++ 124 :: tText b)) [93]; simp only [List.append_assoc, List.cons_append] at this; exact this) (by rw [stB_size, List.length_cons, List.length_append, List.length_cons]; omega)
      go_wp2_with fail
      generalize hw0 : w.alloc (.cells #[.int .i64 3, .int .i64 n, .string s, .slice (some ⟨ba, oa, none⟩) 2 c] 24) = w0 at *
      clear HT HR HB0
      refine wp_region_tx (fun W' => W'.cell? ⟨w.heap.size, 3, none⟩ = some (.slice (some ⟨ba, oa, none⟩) 2 c) ∧ W'.cell? ⟨ba, oa, none⟩ = some (.int .i64 va.k) ∧ W'.cell? ⟨ba, oa + 1, none⟩ = some (.int .i64 va.n) ∧ W'.cell? ⟨ba, oa + 2, none⟩ = some (.string va.s) ∧ W'.cell? ⟨ba, oa + 3, none⟩ = some (.slice va.A va.len va.c) ∧ W'.cell? ⟨ba, oa + 4, none⟩ = some (.int .i64 vb.k) ∧ W'.cell? ⟨ba, oa + 4 + 1, none⟩ = some (.int .i64 vb.n) ∧ W'.cell? ⟨ba, oa + 4 + 2, none⟩ = some (.string vb.s) ∧ W'.cell? ⟨ba, oa + 4 + 3, none⟩ = some (.slice vb.A vb.len vb.c)) [(0, true), (1, true), (2, true), (3, true), (7, true), (8, true), (9, true), (10, true), (4, false), (5, true), (6, true), (11, false), (12, true), (13, true), (14, false)] (by kernel_rfl) (by kernel_rfl) (by exact HW.out _ (Keeps.refl _ []).drew) (fun hHeld => ?_)
      (repeat (first | (refine wpTx_take (v := ?_) rfl (by assumption) ?_ (by rfl) ?_; rotate_left; (focus (intro w' hSw; (try dsimp only at hSw); go_simp; (try with_reducible rfl); done)); simp only [Act.put, List.setIfInBounds_toArray, List.set_cons_zero, List.set_cons_succ]) | (refine wpTx_skip rfl (by assumption) (by rfl) ?_; simp only [Act.put, List.setIfInBounds_toArray, List.set_cons_zero, List.set_cons_succ])))
      refine wpTx_go rfl (fun K hK => ?_)
      go_simp
      refine (HCa.out _ (Keeps.refl _ []).drew).mono ?_
      rintro e w5 ⟨rfl, k5⟩
      have k5' : Keeps w0 w5 [] := (Keeps.refl _ []).drew.trans k5
      refine hK.out _ _ ?_ ?_
      · exact HW.out _ k5'
      (clear hHeld; intro hHeld; clear hK K; (try simp only [Act.put, List.setIfInBounds_toArray, List.set_cons_zero, List.set_cons_succ]))
      (repeat (first | (refine wpTx_take (v := ?_) rfl (by assumption) ?_ (by rfl) ?_; rotate_left; (focus (intro w' hSw; (try dsimp only at hSw); go_simp; (try with_reducible rfl); done)); simp only [Act.put, List.setIfInBounds_toArray, List.set_cons_zero, List.set_cons_succ]) | (refine wpTx_skip rfl (by assumption) (by rfl) ?_; simp only [Act.put, List.setIfInBounds_toArray, List.set_cons_zero, List.set_cons_succ])))
      refine wpTx_go rfl (fun K hK => ?_)
      go_simp
      refine (HCb.out _ k5').mono ?_
      rintro e w6 ⟨rfl, k6⟩
      refine hK.out _ _ ?_ ?_
      · exact HW.out _ (k5'.trans k6)
      (clear hHeld; intro hHeld; clear hK K; (try simp only [Act.put, List.setIfInBounds_toArray, List.set_cons_zero, List.set_cons_succ]))
      (repeat (first | (refine wpTx_take (v := ?_) rfl (by assumption) ?_ (by rfl) ?_; rotate_left; (focus (intro w' hSw; (try dsimp only at hSw); go_simp; (try with_reducible rfl); done)); simp only [Act.put, List.setIfInBounds_toArray, List.set_cons_zero, List.set_cons_succ]) | (refine wpTx_skip rfl (by assumption) (by rfl) ?_; simp only [Act.put, List.setIfInBounds_toArray, List.set_cons_zero, List.set_cons_succ])))
      refine wpTx_last rfl (fun K hK => ?_)
      go_simp
      refine hK.out _ _ (NoPanic.normal ?_); clear hK K; (try simp only [Act.put, List.setIfInBounds_toArray, List.set_cons_zero, List.set_cons_succ])
      go_wp2_with fail
      go_ret
      exact ⟨by rw [HV.out]; rfl, HK0.out.trans (k5'.trans k6)⟩
    · have e3 : (k == 3) = false := by simpa using h3
      have hv : tText (.mk k n s l) = s.data.toList ++ 40 :: (tJoin 44 (tTexts l) ++ [41]) := by rw [tText, if_neg h0, if_neg h1, if_neg h3]
      have hln := HTL.out
      rw [hv] at hln
      simp only [List.length_append, List.length_cons, List.length_nil] at hln
      have hss : s.data.toList.length = s.size := rfl
      have HV := Lib.hid hv
      have HLN := Lib.hid hln
      have z1 : (⟨#[40]⟩ : ByteArray).size = 1 := rfl
      have z2 : (⟨#[41]⟩ : ByteArray).size = 1 := rfl
      have z3 : (⟨#[44]⟩ : ByteArray).size = 1 := rfl
      have hadd := add_st (a := s) (b := ⟨#[40]⟩) (c := stB (s.data.toList ++ [40])) (by have := stB_app s.data.toList [40]; rw [stB_of] at this; exact this) (by omega)
      clear hv hrt
      go_wp2_with fail
      clear hadd
      go_loopw [3, 4] (fun x i wr => ∃ j : Nat, j ≤ m ∧ i = .int .i64 j ∧ x = .string (stB (s.data.toList ++ 40 :: tJoin 44 ((tTexts l).take j))) ∧ Blk wr w.heap.size 24 #[.int .i64 k, .int .i64 n, .string s, .slice A m c] ∧ Keeps w wr []) (fun _ i _ => m - (intOf i).toNat)
      case atStart => exact ⟨0, Nat.zero_le _, rfl, by simp [tJoin], HB0.out, HK0.out⟩
      case round =>
        clear HB0 HK0
        obtain ⟨j, hj, rfl, rfl, hb, hk⟩ := hrel
        have HB := Lib.hid hb
        have HK := Lib.hid hk
        have q3 := hb.cell 3
        clear hb hk
        by_cases hlt : j < m
        · obtain ⟨a, hx⟩ := at_of HM.out hlt
          have HX := Lib.hid hx
          have ha := List.mem_of_getElem? hx
          have htx : (tTexts l)[j]? = some (tText a) := by rw [tTexts_map, List.getElem?_map, hx]; rfl
          have htk : (tTexts l).take (j + 1) = (tTexts l).take j ++ [tText a] := by rw [List.take_add_one, htx]; rfl
          have hlen := tJoin_len 44 (tTexts l) (j + 1)
          obtain ⟨v', b, off, _, htr, rfl, hb, p0, p1, p2, p3⟩ := (HT.out.keep HK.out).get (HR.out.keep HK.out) hx
          have hca := HI.out a ha v' wr htr (HRt.out a ha) (HSz.out a ha)
          unfold tvV at hca
          have HC := Lib.hid hca
          have b0 : (0 : Int) ≤ (j : Int) := Int.natCast_nonneg _
          have b1 : (j : Int) < (m : Int) := by omega
          have hln := HLN.out
          by_cases hj0 : j = 0
          · have hjp : ¬ (0 : Int) < (j : Int) := by omega
            have e9 : (tTexts l).take j = [] := by rw [hj0]; rfl
            rw [htk, e9] at hlen
            have hN : s.data.toList ++ 40 :: tJoin 44 ((tTexts l).take (j + 1)) = (s.data.toList ++ 40 :: tJoin 44 ((tTexts l).take j)) ++ tText a := by rw [htk, e9]; simp [tJoin]
            simp [tJoin] at hlen
            have hadd := add_st (a := stB (s.data.toList ++ 40 :: tJoin 44 ((tTexts l).take j))) (b := stB (tText a)) (c := stB (s.data.toList ++ 40 :: tJoin 44 ((tTexts l).take (j + 1)))) (by rw [hN, stB_app]) (by rw [stB_size, stB_size, e9]; simp [tJoin]; omega)
            clear hca htr hx ha htx htk hlen hN hj0 e9
            go_wp2_with fail
            refine HC.out.mono ?_
            rintro e w4 ⟨rfl, k4⟩
            go_wp2_with fail
            go_roundw
            case rel => exact ⟨j + 1, by omega, by go_num, rfl, HB.out.keep k4 (by simp), HK.out.trans k4⟩
            case measure => simp [intOf]; omega
          · have hjp : (0 : Int) < (j : Int) := by omega
            have hne : (tTexts l).take j ≠ [] := by
              rw [tTexts_map]
              intro h
              have := congrArg List.length h
              rw [List.length_take, List.length_map, HM.out] at this
              simp at this
              omega
            have hjn := tJoin_snoc 44 ((tTexts l).take j) (tText a) hne
            rw [htk, hjn] at hlen
            simp only [List.length_append, List.length_cons] at hlen
            have hadd := add_st (a := stB (s.data.toList ++ 40 :: tJoin 44 ((tTexts l).take j))) (b := ⟨#[44]⟩) (c := stB (s.data.toList ++ 40 :: (tJoin 44 ((tTexts l).take j) ++ [44]))) (by have := stB_app (s.data.toList ++ 40 :: tJoin 44 ((tTexts l).take j)) [44]; simp only [List.append_assoc, List.cons_append] at this; exact this) (by rw [stB_size, List.length_append, List.length_cons]; omega)
            have hadd2 := add_st (a := stB (s.data.toList ++ 40 :: (tJoin 44 ((tTexts l).take j) ++ [44]))) (b := stB (tText a)) (c := stB (s.data.toList ++ 40 :: tJoin 44 ((tTexts l).take (j + 1)))) (by rw [htk, hjn, stB_app]; simp) (by rw [stB_size, stB_size, List.length_append, List.length_cons, List.length_append, List.length_singleton]; omega)
            clear hca htr hx ha htx htk hlen hne hjn hj0
            go_wp2_with fail
            refine HC.out.mono ?_
            rintro e w4 ⟨rfl, k4⟩
            go_wp2_with fail
            go_roundw
            case rel => exact ⟨j + 1, by omega, by go_num, rfl, HB.out.keep k4 (by simp), HK.out.trans k4⟩
            case measure => simp [intOf]; omega
        · obtain rfl : m = j := by omega
          have htk : (tTexts l).take m = tTexts l := List.take_of_length_le (by rw [tTexts_map, List.length_map, HM.out]; omega)
          rw [htk] at *
          have hln := HLN.out
          have hadd := add_st (a := stB (s.data.toList ++ 40 :: tJoin 44 (tTexts l))) (b := ⟨#[41]⟩) (c := stB (s.data.toList ++ 40 :: (tJoin 44 (tTexts l) ++ [41]))) (by have := stB_app (s.data.toList ++ 40 :: tJoin 44 (tTexts l)) [41]; simp only [List.append_assoc, List.cons_append] at this; exact this) (by rw [stB_size, List.length_append, List.length_cons]; omega)
          clear hlt hj
          go_wp2_with fail
          go_ret
          exact ⟨by rw [HV.out]; rfl, HK.out⟩
end Go.Proofs.YtjbomjnkjcafcaaDoor
