/- Instructions in words: the document's Parse. Printed by gen_refparse.py. -/
import Derived.Test.YtpcihhdalofdiaaGreatDoorTxtJ
namespace Go.Proofs.YtpcihhdalofdiaaGreatDoor
open Go.RowKit

theorem numT_range (w : Txt) : -1 ≤ numT w ∧ numT w ≤ 10000000 := by
  unfold numT
  split
  · omega
  · split
    · omega
    · split
      · next h1 h2 _ =>
        have ha : w.all isDig = true := by simpa using h2
        have hv := valT_lt w (List.all_eq_true.1 ha)
        have hv2 : (10 : Nat) ^ w.length ≤ 10 ^ 7 := Nat.pow_le_pow_right (by omega) (by omega)
        omega
      · omega
theorem opR_dash {k : Nat} {w : Txt} (h : w = [45]) : opR k w = 65535 := if_pos h
theorem opR_X {k : Nat} {w : Txt} (h : w ≠ [45]) (h1 : 1 < w.length) (h2 : w.head? = some 88) : opR k w = numT w.tail := by rw [opR, if_neg h, if_pos ⟨h1, h2⟩]
theorem opR_Y {k : Nat} {w : Txt} (h : w ≠ [45]) (h1 : 1 < w.length) (h2 : w.head? = some 89) : opR k w = if k = 1 then numT w.tail + 16 else numT w.tail := by
  rw [opR, if_neg h, if_neg (fun h => by rw [h2] at h; exact absurd h.2 (by decide)), if_pos ⟨h1, h2⟩]
theorem opR_num {k : Nat} {w : Txt} (h : w ≠ [45]) (h1 : ¬ (1 < w.length ∧ w.head? = some 88)) (h2 : ¬ (1 < w.length ∧ w.head? = some 89)) : opR k w = numT w := by
  rw [opR, if_neg h, if_neg h1, if_neg h2]
theorem own_strs {w w1 : World} {ws : List Txt} {e : Ending} (h : WordsMade w ws e w1) (hne : ws ≠ []) :
    ∃ g c, e = .returned (.slice (some ⟨g, 0, none⟩) ws.length c) ∧ Keeps w w1 [] ∧ g < w1.heap.size ∧ ∀ t x, ws[t]? = some x → w1.cell? ⟨g, t, none⟩ = some (.string (stB x)) := by
  obtain ⟨A, c, rfl, hown, hk⟩ := h
  have hpos : 0 < ws.length := List.length_pos_iff.2 hne
  obtain ⟨g, hAg⟩ : ∃ g, A = some ⟨g, 0, none⟩ := by
    rcases hown.2 with ⟨h2, h3⟩ | ⟨g, cap, cur, h2, _⟩
    · omega
    · injection h2 with h2
      exact ⟨g, h2⟩
  subst hAg
  refine ⟨g, c, rfl, hk, (own_room6 hown).2 _ rfl, fun t x hx => ?_⟩
  have hrd := Rd.of_own hown
  have ht := (List.getElem?_eq_some_iff.1 hx).1
  obtain ⟨b, off, v, e, _, hc, hv⟩ := hrd t (by rw [List.length_map]; exact ht)
  injection e with e
  injection e with e1 e2
  subst e1 e2
  rw [Nat.zero_add] at hc
  rw [hc, ← hv]
  simp only [List.getElem?_map, hx, Option.map_some]
theorem tail_of (x : ByteArray) : (x.extract 1 x.size).data.toList = x.data.toList.tail := by
  rw [Lib.extract_data]
  have : x.data.toList.length = x.size := rfl
  rw [List.take_of_length_le (by rw [List.length_drop]; omega), List.drop_one]
theorem head_of (x : ByteArray) (h : 0 < x.size) : x.data.toList.head? = some x[0] := by
  rw [List.head?_eq_getElem?, dat_at x 0 h]
theorem refNumK_any (s : ByteArray) (w : World) : Calls Tryz.prog 55 #[.string s] w fun e w' => e = .returned (.int .i64 (numT s.data.toList)) ∧ Keeps w w' [] :=
  (refNum_any s w).mono fun _ _ ⟨h, m, hm⟩ => ⟨h, hm ▸ Keeps.ofDrewN w m⟩
theorem byte_eq {x y : UInt8} : ((x.toNat : Int) == (y.toNat : Int)) = decide (x = y) := by
  by_cases h : x = y
  · subst h; simp
  · have : x.toNat ≠ y.toNat := fun h' => h (UInt8.toNat_inj.1 h')
    simp [h]
    omega
theorem argsW_rest (f : Nat → Txt → Int) (op : Int) (ks : List Int) (ws : List Txt) (n : Nat) (hn : ws.length = n + 1) (j : Nat) (hj : n ≤ j) : insC6 op (argsW f ks ws) = insC6 op ((argsW f ks ws).take j) := by
  have h : ∀ k, (argsW f ks ws).getD k 0 = ((argsW f ks ws).take j).getD k 0 := by
    intro k
    rw [List.getD_eq_getElem?_getD, List.getD_eq_getElem?_getD, List.getElem?_take]
    by_cases hk : k < j
    · rw [if_pos hk]
    · rw [if_neg hk]
      have h0 : ws[k + 1]? = none := List.getElem?_eq_none (by omega)
      by_cases hr : k < ks.length
      · rw [argsW, List.getElem?_map, List.getElem?_range hr]
        simp only [Option.map_some, h0]
        rfl
      · rw [argsW, List.getElem?_map, List.getElem?_eq_none (by simpa using hr)]
        rfl
  rw [insC6, h 0, h 1, h 2, h 3]
  rfl
theorem set_twice6 (cs : Array Value) (i : Nat) (u v : Value) : (cs.setIfInBounds i u).setIfInBounds i v = cs.setIfInBounds i v := by
  apply Array.ext_getElem?
  intro k
  simp only [Array.getElem?_setIfInBounds]
  by_cases h : i = k
  · simp [h]
  · simp [h]
attribute [local irreducible] kindsOf nameOf opR namedT splitT insTxt argsW numT
set_option maxRecDepth 100000 in
set_option maxHeartbeats 12800000 in
theorem refParse6_any (s : ByteArray) (hl : s.size ≤ 4294967280) (w : World) :
    Calls Tryz.prog 116 #[.string s] w fun e w' => e = .returned (.tuple #[insV (parseT opR s.data.toList).1, .bool (decide ((parseT opR s.data.toList).2 = 0))]) ∧ Keeps w w' [] := by
  have hwords := fun w => refWords_any s hl w
  have hnum := split_num s.data.toList
  have hsl : s.data.toList.length = s.size := rfl
  have hne := splitT_ne s.data.toList
  have hC0 : cand opR s.data.toList = insW (namedT ((splitT s.data.toList).headD [])) (argsW opR (kindsOf (namedT ((splitT s.data.toList).headD []))) (splitT s.data.toList)) := rfl
  generalize splitT s.data.toList = ws at *
  obtain ⟨n, hn⟩ : ∃ n, ws.length = n + 1 := ⟨ws.length - 1, by have := List.length_pos_iff.2 hne; omega⟩
  obtain ⟨b0, hb0⟩ : ∃ b0, ws[0]? = some b0 := ⟨ws[0]'(by omega), List.getElem?_eq_getElem _⟩
  obtain ⟨op, hop⟩ : ∃ op, namedT b0 = op := ⟨_, rfl⟩
  have hcand : cand opR s.data.toList = insW op (argsW opR (kindsOf op) ws) := by
    have hh : ws.headD [] = b0 := by
      cases ws with
      | nil => simp at hn
      | cons x r => simp at hb0; subst hb0; rfl
    rw [hC0, hh, hop]
  have HC := Lib.hid hcand
  have HWn := Lib.hid hn
  have HNe := Lib.hid hne
  have HNm : Hid (∀ w, Calls Tryz.prog 56 #[.string (stB b0)] w fun e w' => e = .returned (.int .i64 op) ∧ Keeps w w' []) := fun w => by
    have := refNamed_any (stB b0) w
    rw [stB_list, hop] at this
    exact this
  have HK0 : Hid (Keeps w (w.alloc (.cells #[.int .i64 0, .int .i64 0, .int .i64 0, .int .i64 0, .int .i64 0] 72)) []) := (Keeps.refl w []).alloc _
  have HR0 : Hid (Blk (w.alloc (.cells #[.int .i64 0, .int .i64 0, .int .i64 0, .int .i64 0, .int .i64 0] 72)) w.heap.size 72 #[.int .i64 0, .int .i64 0, .int .i64 0, .int .i64 0, .int .i64 0]) := Blk.new w _ _
  have HS := Lib.hid (hwords (w.alloc (.cells #[.int .i64 0, .int .i64 0, .int .i64 0, .int .i64 0, .int .i64 0] 72)))
  clear hwords hcand hop hC0 hne
  go_enter Tryz.func116, Tryz.ntmps116
  go_wp2_with fail
  refine HS.out.mono ?_
  intro e w1 hmade
  obtain ⟨g, cg, rfl, k1, hg, hcells⟩ := own_strs hmade HNe.out
  have HCl := Lib.hid hcells
  have c1 := hcells 0 b0 hb0
  have HK1 := Lib.hid (HK0.out.trans k1)
  have HR1 := Lib.hid (HR0.out.keep k1 (by simp))
  have hs1 := k1.size
  simp at hs1
  rw [hn]
  clear hmade k1 hcells HK0 HR0
  go_wp2_with fail
  refine (HNm.out _).mono ?_
  rintro e w2 ⟨rfl, k2⟩
  have HK2 := Lib.hid ((HK1.out.trans k2).alloc (.cells #[.int .i64 op, .int .i64 0, .int .i64 0, .int .i64 0, .int .i64 0] 72))
  have HR2 := Lib.hid ((HR1.out.keep k2 (by simp)).alloc (.cells #[.int .i64 op, .int .i64 0, .int .i64 0, .int .i64 0, .int .i64 0] 72))
  have HI2 : Hid (Blk (w2.alloc (.cells #[.int .i64 op, .int .i64 0, .int .i64 0, .int .i64 0, .int .i64 0] 72)) w2.heap.size 72 (insC6 op [])) := Blk.new w2 _ _
  have HG2 : Hid (∀ t x, ws[t]? = some x → (w2.alloc (.cells #[.int .i64 op, .int .i64 0, .int .i64 0, .int .i64 0, .int .i64 0] 72)).cell? ⟨g, t, none⟩ = some (.string (stB x))) := fun t x h => ((k2.alloc (.cells #[.int .i64 op, .int .i64 0, .int .i64 0, .int .i64 0, .int .i64 0] 72)).cell (p := ⟨g, t, none⟩) hg (by simp)).trans (HCl.out t x h)
  have hs2 := k2.size
  clear c1 k2 HK1 HR1
  go_wp2_with fail
  refine (refKindsF_any op _).mono ?_
  rintro e w3 ⟨A, c, rfl, hN, k3, hfr⟩
  have hfr2 : ∀ b off, A = some ⟨b, off, none⟩ → w2.heap.size < b := fun b off h => by have := hfr b off h; simp at this; omega
  have HFR := Lib.hid hfr2
  have HN := Lib.hid hN
  have HK3 := Lib.hid (HK2.out.trans k3)
  have HR3 := Lib.hid (HR2.out.keep k3 (by simp))
  have HI3 := Lib.hid (HI2.out.keep k3 (by simp))
  have HG3 : Hid (∀ t x, ws[t]? = some x → w3.cell? ⟨g, t, none⟩ = some (.string (stB x))) := fun t x h => (k3.cell (p := ⟨g, t, none⟩) (by simp; omega) (by simp)).trans (HG2.out t x h)
  have hs3 := k3.size
  simp at hs3
  have hfew := kinds_few op
  obtain ⟨m, hm⟩ : ∃ m, (kindsOf op).length = m := ⟨_, rfl⟩
  have hal := argsW_len opR (kindsOf op) ws
  rw [hm] at hfew hal ⊢
  have HM := Lib.hid hm
  have HAt : Hid (∀ (j : Nat) (y : Int), (kindsOf op)[j]? = some y → (argsW opR (kindsOf op) ws).take (j + 1) = (argsW opR (kindsOf op) ws).take j ++ [match ws[j + 1]? with
    | some w => opR y.toNat w
    | none => 0]) := fun _ _ h => argsW_at opR _ h
  have HZr : Hid (∀ j, n ≤ j → insC6 op (argsW opR (kindsOf op) ws) = insC6 op ((argsW opR (kindsOf op) ws).take j)) := argsW_rest opR op (kindsOf op) ws n hn
  generalize argsW opR (kindsOf op) ws = AR at *
  clear k3 hN hfr hfr2 hm HK2 HR2 HI2 HG2
  go_wp2_with fail
  go_loopw [7] (fun i wr => ∃ j : Nat, j ≤ m ∧ j ≤ n ∧ i = .int .i64 j ∧ Blk wr w2.heap.size 72 (insC6 op (AR.take j)) ∧ Keeps w3 wr [w2.heap.size]) (fun i _ => m - (intOf i).toNat)
  case atStart => exact ⟨0, Nat.zero_le _, Nat.zero_le _, rfl, by rw [List.take_zero]; exact HI3.out, Keeps.refl _ _⟩
  case round =>
    clear HI3
    obtain ⟨j, hj, hjn, rfl, hi, kr⟩ := hrel
    have HIr := Lib.hid hi
    have HKr := Lib.hid kr
    have hsr := kr.size
    clear hi kr
    by_cases hgo : j < m ∧ j < n
    · obtain ⟨hlj, hln⟩ := hgo
      obtain ⟨b7, off7, y, hA7, hb7, hc7, hy⟩ := HN.out j (by rw [HM.out]; exact hlj)
      subst hA7
      have hfr7 := HFR.out b7 off7 rfl
      have hx1 := kinds_mem op y (List.mem_of_getElem? hy)
      obtain ⟨q, rfl⟩ := Int.eq_ofNat_of_zero_le (show 0 ≤ y by omega)
      have b1 : (j : Int) < (m : Int) := by omega
      have b0 : (0 : Int) ≤ (j : Int) := Int.natCast_nonneg _
      have b4 : (j : Int) < 4 := by omega
      have b5 : (j : Int) < (n : Int) := by omega
      have b6 : (n : Int) ≤ 4294967280 := by omega
      obtain ⟨wd, hx⟩ : ∃ wd, ws[j + 1]? = some wd := ⟨ws[j + 1]'(by omega), List.getElem?_eq_getElem _⟩
      have HStep := Lib.hid (HAt.out j q hy)
      simp only [hx, Int.toNat_natCast] at HStep
      obtain ⟨x, hxw⟩ : ∃ x, stB wd = x := ⟨_, rfl⟩
      have hwx : wd = x.data.toList := by rw [← hxw, stB_list]
      have q1 := (HKr.out.cell (p := ⟨b7, off7 + j, none⟩) hb7 (by simp; omega)).trans hc7
      have c9 : wr.cell? ⟨g, j + 1, none⟩ = some (.string x) := by
        have h9 := HG3.out (j + 1) wd hx
        rw [hxw] at h9
        exact (HKr.out.cell (p := ⟨g, j + 1, none⟩) (lt_cell6 h9) (by simp; omega)).trans h9
      subst hwx
      have hlt : (AR.take j).length = j := by rw [List.length_take]; omega
      have HLen := Lib.hid hlt
      have hi0 := HIr.out
      have f0 := hi0.frozen (1 + j)
      have c0 : World.cell? _ ⟨w2.heap.size, 1 + j, none⟩ = (insC6 op (AR.take j))[1 + j]? := hi0.cell (1 + j)
      obtain ⟨u5, hu5⟩ := insC6_at op (AR.take j) j (by omega)
      rw [hu5] at c0
      have hcl : (x.toList == [45]) = decide (x.data.toList = [45]) := by rw [ByteArray.toList_eq]; by_cases h : x.data.toList = [45] <;> simp [h]
      have hxl : x.data.toList.length = x.size := rfl
      have HC7 := Lib.hid hc7
      clear hy hc7 hx hxw hlt
      by_cases h45 : x.data.toList = [45]
      · have d0 : (x.toList == [45]) = true := by rw [hcl]; exact decide_eq_true h45
        have HE := Lib.hid (opR_dash (k := q) h45)
        clear hcl h45
        have HI6 := Lib.hid (hi0.set_ (1 + j) (.int .i64 65535))
        have HK6 := Lib.hid (HKr.out.setCell (p := ⟨w2.heap.size, 1 + j, none⟩) (.inl (by simp)) (.int .i64 65535))
        clear hi0 hu5
        go_wp2_with fail
        go_roundw
        case rel =>
          refine ⟨j + 1, by omega, by omega, by go_num, ?_, HK6.out⟩
          rw [HStep.out, HE.out]
          have := HI6.out
          rw [insC6_set op _ (AR.take j) j HLen.out (by omega)] at this
          exact this
        case measure => simp [intOf]; omega
      have d0 : (x.toList == [45]) = false := by rw [hcl]; exact decide_eq_false h45
      clear f0 c0 hi0
      by_cases h1 : 1 < x.size
      · have bl1 : (1 : Int) < (x.size : Int) := by omega
        have hh := head_of x (by omega)
        obtain ⟨u, hu⟩ : ∃ u, x[0] = u := ⟨_, rfl⟩
        rw [hu] at hh
        have hur := u.toNat_lt
        by_cases h88 : u = 88
        · subst h88
          have HE := Lib.hid (opR_X (k := q) h45 (by omega) hh)
          have HNu : Hid (Calls Tryz.prog 55 #[.string (x.extract 1 x.size)] wr fun e w' => e = .returned (.int .i64 (numT x.data.toList.tail)) ∧ Keeps wr w' []) := by
            have := refNumK_any (x.extract 1 x.size) wr
            rw [tail_of] at this
            exact this
          clear hcl h45 hh hxl hur
          generalize numT x.data.toList.tail = v at *
          go_wp2_with fail
          refine HNu.out.mono ?_
          rintro e w5 ⟨rfl, k5⟩
          have hi5 := HIr.out.keep k5 (by simp)
          have f5 := hi5.frozen (1 + j)
          have c5 : World.cell? _ ⟨w2.heap.size, 1 + j, none⟩ = (insC6 op (AR.take j))[1 + j]? := hi5.cell (1 + j)
          rw [hu5] at c5
          have HI6 := Lib.hid (hi5.set_ (1 + j) (.int .i64 v))
          have HK6 := Lib.hid ((HKr.out.trans (k5.to_ _)).setCell (p := ⟨w2.heap.size, 1 + j, none⟩) (.inl (by simp)) (.int .i64 v))
          clear k5 hi5 hu5
          go_wp2_with fail
          go_roundw
          case rel =>
            refine ⟨j + 1, by omega, by omega, by go_num, ?_, HK6.out⟩
            rw [HStep.out, HE.out]
            have := HI6.out
            rw [insC6_set op _ (AR.take j) j HLen.out (by omega)] at this
            exact this
          case measure => simp [intOf]; omega
        have e88 : ((u.toNat : Int) == 88) = false := (byte_eq (y := 88)).trans (decide_eq_false h88)
        by_cases h89 : u = 89
        · subst h89
          have HE := Lib.hid (opR_Y (k := q) h45 (by omega) hh)
          have HNu : Hid (Calls Tryz.prog 55 #[.string (x.extract 1 x.size)] wr fun e w' => e = .returned (.int .i64 (numT x.data.toList.tail)) ∧ Keeps wr w' []) := by
            have := refNumK_any (x.extract 1 x.size) wr
            rw [tail_of] at this
            exact this
          obtain ⟨nr1, nr2⟩ := numT_range x.data.toList.tail
          clear hcl h45 hh hxl hur
          generalize numT x.data.toList.tail = v at *
          by_cases hq1 : q = 1
          · subst hq1
            simp only [if_true] at HE
            go_wp2_with fail
            refine HNu.out.mono ?_
            rintro e w5 ⟨rfl, k5⟩
            have hi5 := HIr.out.keep k5 (by simp)
            have f5 := hi5.frozen (1 + j)
            have c5 : World.cell? _ ⟨w2.heap.size, 1 + j, none⟩ = (insC6 op (AR.take j))[1 + j]? := hi5.cell (1 + j)
            rw [hu5] at c5
            have HI6 := Lib.hid (hi5.set_ (1 + j) (.int .i64 v))
            have HK6 := Lib.hid ((HKr.out.trans (k5.to_ _)).setCell (p := ⟨w2.heap.size, 1 + j, none⟩) (.inl (by simp)) (.int .i64 v))
            have h7 := HI6.out
            have f7 := h7.frozen (1 + j)
            have c7 : World.cell? _ ⟨w2.heap.size, 1 + j, none⟩ = ((insC6 op (AR.take j)).setIfInBounds (1 + j) (.int .i64 v))[1 + j]? := h7.cell (1 + j)
            rw [Array.getElem?_setIfInBounds_self_of_lt (by show 1 + j < 5; omega)] at c7
            have q2 := (HK6.out.cell (p := ⟨b7, off7 + j, none⟩) hb7 (by simp; omega)).trans HC7.out
            have HI8 := Lib.hid (h7.set_ (1 + j) (.int .i64 (v + 16)))
            have HK8 := Lib.hid (HK6.out.setCell (p := ⟨w2.heap.size, 1 + j, none⟩) (.inl (by simp)) (.int .i64 (v + 16)))
            clear k5 hi5 hu5 h7
            go_wp2_with fail
            go_roundw
            case rel =>
              refine ⟨j + 1, by omega, by omega, by go_num, ?_, HK8.out⟩
              rw [HStep.out, HE.out]
              have := HI8.out
              rw [set_twice6, insC6_set op _ (AR.take j) j HLen.out (by omega)] at this
              exact this
            case measure => simp [intOf]; omega
          · have e1 : ((q : Int) == 1) = false := by simp; omega
            rw [if_neg hq1] at HE
            go_wp2_with fail
            refine HNu.out.mono ?_
            rintro e w5 ⟨rfl, k5⟩
            have hi5 := HIr.out.keep k5 (by simp)
            have f5 := hi5.frozen (1 + j)
            have c5 : World.cell? _ ⟨w2.heap.size, 1 + j, none⟩ = (insC6 op (AR.take j))[1 + j]? := hi5.cell (1 + j)
            rw [hu5] at c5
            have HI6 := Lib.hid (hi5.set_ (1 + j) (.int .i64 v))
            have HK6 := Lib.hid ((HKr.out.trans (k5.to_ _)).setCell (p := ⟨w2.heap.size, 1 + j, none⟩) (.inl (by simp)) (.int .i64 v))
            have q2 := (HK6.out.cell (p := ⟨b7, off7 + j, none⟩) hb7 (by simp; omega)).trans HC7.out
            clear k5 hi5 hu5
            go_wp2_with fail
            go_roundw
            case rel =>
              refine ⟨j + 1, by omega, by omega, by go_num, ?_, HK6.out⟩
              rw [HStep.out, HE.out]
              have := HI6.out
              rw [insC6_set op _ (AR.take j) j HLen.out (by omega)] at this
              exact this
            case measure => simp [intOf]; omega
        have e89 : ((u.toNat : Int) == 89) = false := (byte_eq (y := 89)).trans (decide_eq_false h89)
        have HE := Lib.hid (opR_num (k := q) h45 (fun h => h88 (by have := h.2; rw [hh] at this; injection this)) (fun h => h89 (by have := h.2; rw [hh] at this; injection this)))
        have HNu := Lib.hid (refNumK_any x wr)
        clear hcl h45 hh hxl hur h88 h89
        generalize numT x.data.toList = v at *
        go_wp2_with fail
        refine HNu.out.mono ?_
        rintro e w5 ⟨rfl, k5⟩
        have hi5 := HIr.out.keep k5 (by simp)
        have f5 := hi5.frozen (1 + j)
        have c5 : World.cell? _ ⟨w2.heap.size, 1 + j, none⟩ = (insC6 op (AR.take j))[1 + j]? := hi5.cell (1 + j)
        rw [hu5] at c5
        have HI6 := Lib.hid (hi5.set_ (1 + j) (.int .i64 v))
        have HK6 := Lib.hid ((HKr.out.trans (k5.to_ _)).setCell (p := ⟨w2.heap.size, 1 + j, none⟩) (.inl (by simp)) (.int .i64 v))
        clear k5 hi5 hu5
        go_wp2_with fail
        go_roundw
        case rel =>
          refine ⟨j + 1, by omega, by omega, by go_num, ?_, HK6.out⟩
          rw [HStep.out, HE.out]
          have := HI6.out
          rw [insC6_set op _ (AR.take j) j HLen.out (by omega)] at this
          exact this
        case measure => simp [intOf]; omega
      have bl1 : ¬ (1 : Int) < (x.size : Int) := by omega
      have HE := Lib.hid (opR_num (k := q) h45 (fun h => h1 (by omega)) (fun h => h1 (by omega)))
      have HNu := Lib.hid (refNumK_any x wr)
      clear hcl h45 hxl h1
      generalize numT x.data.toList = v at *
      go_wp2_with fail
      refine HNu.out.mono ?_
      rintro e w5 ⟨rfl, k5⟩
      have hi5 := HIr.out.keep k5 (by simp)
      have f5 := hi5.frozen (1 + j)
      have c5 : World.cell? _ ⟨w2.heap.size, 1 + j, none⟩ = (insC6 op (AR.take j))[1 + j]? := hi5.cell (1 + j)
      rw [hu5] at c5
      have HI6 := Lib.hid (hi5.set_ (1 + j) (.int .i64 v))
      have HK6 := Lib.hid ((HKr.out.trans (k5.to_ _)).setCell (p := ⟨w2.heap.size, 1 + j, none⟩) (.inl (by simp)) (.int .i64 v))
      clear k5 hi5 hu5
      go_wp2_with fail
      go_roundw
      case rel =>
        refine ⟨j + 1, by omega, by omega, by go_num, ?_, HK6.out⟩
        rw [HStep.out, HE.out]
        have := HI6.out
        rw [insC6_set op _ (AR.take j) j HLen.out (by omega)] at this
        exact this
      case measure => simp [intOf]; omega
    · have hstop : ¬ (j : Int) < (m : Int) ∨ ¬ (j : Int) < (n : Int) := by omega
      have hall : insC6 op (AR.take j) = insC6 op AR := by
        by_cases h : n ≤ j
        · exact (HZr.out j h).symm
        · rw [List.take_of_length_le (by omega)]
      rw [hall] at HIr
      have z1 := HIr.out
      have z2 := HR3.out.keep HKr.out (by simp; omega)
      have HKw := Lib.hid (HK3.out.past6 HKr.out (fun q hq => by simp at hq; omega))
      have hT := refText_any (insW op AR)
      have HV : Hid (parseT opR s.data.toList = if s.data.toList = [] ∨ insTxt (insW op AR) ≠ s.data.toList then (⟨0, 0, 0, 0, 0⟩, 17) else (insW op AR, 0)) := by show _ = _; rw [parseT, HC.out]
      rw [insC6_V] at hT
      obtain ⟨a0, a1, a2, a3, hC⟩ : ∃ a0 a1 a2 a3 : Int, insC6 op AR = #[.int .i64 op, .int .i64 a0, .int .i64 a1, .int .i64 a2, .int .i64 a3] := ⟨_, _, _, _, rfl⟩
      have HIV : Hid (insV (insW op AR) = .agg #[.int .i64 op, .int .i64 a0, .int .i64 a1, .int .i64 a2, .int .i64 a3]) := by show _ = _; rw [insC6_V, hC]
      rw [hC] at z1 hT
      have HT := Lib.hid hT
      have z3 : Blk wr w.heap.size 72 #[.int .i64 0, .int .i64 0, .int .i64 0, .int .i64 0, .int .i64 0] := z2
      have HZ2 := Lib.hid z3
      have HZ1 := Lib.hid z1
      have y0 := z1.cell 0
      have y1 := z1.cell 1
      have y2 := z1.cell 2
      have y3 := z1.cell 3
      have y4 := z1.cell 4
      have x0 := z2.frozen 0
      have x1 := z2.frozen 1
      have x2 := z2.frozen 2
      have x3 := z2.frozen 3
      have x4 := z2.frozen 4
      have v0 := z3.cell 0
      have v1 := z3.cell 1
      have v2 := z3.cell 2
      have v3 := z3.cell 3
      have v4 := z3.cell 4
      have b6 : (n : Int) ≤ 4294967280 := by omega
      have b4 : (j : Int) ≤ 4 := by omega
      clear z1 z2 z3 hC hT HIr hall hgo
      have hps : s.data.toList = [] → s.toList.isEmpty = true := fun h => by rw [ByteArray.toList_eq, h]; rfl
      have hpn : s.data.toList ≠ [] → s.toList.isEmpty = false := fun h => by rw [ByteArray.toList_eq]; simpa using h
      by_cases hjm : (j : Int) < (m : Int)
      · have hjn2 : ¬ (j : Int) < (n : Int) := by omega
        clear hstop
        by_cases hs0 : s.data.toList = []
        · have d0 := hps hs0
          have HE : Hid (parseT opR s.data.toList = (⟨0, 0, 0, 0, 0⟩, 17)) := HV.out.trans (if_pos (.inl hs0))
          clear hs0 hps hpn
          go_wp2_with fail
          have HB := Lib.hid (blk_fill HZ2.out 0 0 0 0 0)
          have HKf := Lib.hid (keeps_fill wr w.heap.size 0 0 0 0 0)
          dsimp only [fillW] at HB HKf
          clear x0 x1 x2 x3 x4 v0 v1 v2 v3 v4 y0 y1 y2 y3 y4
          generalize ((((((wr).setCell ⟨w.heap.size, 0, none⟩ (.int .i64 0)).setCell ⟨w.heap.size, 1, none⟩ (.int .i64 0)).setCell ⟨w.heap.size, 2, none⟩ (.int .i64 0)).setCell ⟨w.heap.size, 3, none⟩ (.int .i64 0)).setCell ⟨w.heap.size, 4, none⟩ (.int .i64 0)) = W at *
          have y0 := HB.out.cell 0
          have y1 := HB.out.cell 1
          have y2 := HB.out.cell 2
          have y3 := HB.out.cell 3
          have y4 := HB.out.cell 4
          refine bodyPost_ret (v := .tuple #[.agg #[.int .i64 0, .int .i64 0, .int .i64 0, .int .i64 0, .int .i64 0], .bool false]) (by simp [results, Tryz.results116, go_sem, y0, y1, y2, y3, y4]) rfl ⟨by rw [HE.out]; rfl, ?_⟩
          exact HKw.out.past6 HKf.out (fun q hq => by simp at hq; omega)
        · have d0 := hpn hs0
          clear x0 x1 x2 x3 x4 v0 v1 v2 v3 v4 hps hpn
          by_cases ht : insTxt (insW op AR) = s.data.toList
          · have d1 : ((stB (insTxt (insW op AR))).toList == s.toList) = true := bytes_eq.2 (by rw [stB_list, ht])
            have HE : Hid (parseT opR s.data.toList = (insW op AR, 0)) := HV.out.trans (if_neg (by rintro (h | h); exact hs0 h; exact h ht))
            clear hs0 ht
            generalize insTxt (insW op AR) = tx at *
            go_wp2_with (go_at_call 72; refine (HT.out _).mono ?_; rintro e w5 ⟨rfl, k5⟩; have z2 := HZ2.out.keep k5 (by simp); have HZ5 := Lib.hid z2; have HK5 := Lib.hid (HKw.out.trans k5); have y0 := (HZ1.out.keep k5 (by simp)).cell 0; have y1 := (HZ1.out.keep k5 (by simp)).cell 1; have y2 := (HZ1.out.keep k5 (by simp)).cell 2; have y3 := (HZ1.out.keep k5 (by simp)).cell 3; have y4 := (HZ1.out.keep k5 (by simp)).cell 4; have x0 := z2.frozen 0; have x1 := z2.frozen 1; have x2 := z2.frozen 2; have x3 := z2.frozen 3; have x4 := z2.frozen 4; have v0 := z2.cell 0; have v1 := z2.cell 1; have v2 := z2.cell 2; have v3 := z2.cell 3; have v4 := z2.cell 4; clear k5 z2)
            have HB := Lib.hid (blk_fill HZ5.out op a0 a1 a2 a3)
            have HKf := Lib.hid (keeps_fill w5 w.heap.size op a0 a1 a2 a3)
            dsimp only [fillW] at HB HKf
            clear x0 x1 x2 x3 x4 v0 v1 v2 v3 v4 y0 y1 y2 y3 y4
            generalize ((((((w5).setCell ⟨w.heap.size, 0, none⟩ (.int .i64 op)).setCell ⟨w.heap.size, 1, none⟩ (.int .i64 a0)).setCell ⟨w.heap.size, 2, none⟩ (.int .i64 a1)).setCell ⟨w.heap.size, 3, none⟩ (.int .i64 a2)).setCell ⟨w.heap.size, 4, none⟩ (.int .i64 a3)) = W at *
            have y0 := HB.out.cell 0
            have y1 := HB.out.cell 1
            have y2 := HB.out.cell 2
            have y3 := HB.out.cell 3
            have y4 := HB.out.cell 4
            refine bodyPost_ret (v := .tuple #[.agg #[.int .i64 op, .int .i64 a0, .int .i64 a1, .int .i64 a2, .int .i64 a3], .bool true]) (by simp [results, Tryz.results116, go_sem, y0, y1, y2, y3, y4]) rfl ⟨by rw [HE.out]; dsimp only; rw [HIV.out]; rfl, ?_⟩
            exact HK5.out.past6 HKf.out (fun q hq => by simp at hq; omega)
          · have d1 : ((stB (insTxt (insW op AR))).toList == s.toList) = false := by
              cases h : ((stB (insTxt (insW op AR))).toList == s.toList) with
              | false => rfl
              | true => exact absurd ((stB_list _).symm.trans (bytes_eq.1 h)) ht
            have HE : Hid (parseT opR s.data.toList = (⟨0, 0, 0, 0, 0⟩, 17)) := HV.out.trans (if_pos (.inr ht))
            clear hs0 ht
            generalize insTxt (insW op AR) = tx at *
            go_wp2_with (go_at_call 72; refine (HT.out _).mono ?_; rintro e w5 ⟨rfl, k5⟩; have z2 := HZ2.out.keep k5 (by simp); have HZ5 := Lib.hid z2; have HK5 := Lib.hid (HKw.out.trans k5); have y0 := (HZ1.out.keep k5 (by simp)).cell 0; have y1 := (HZ1.out.keep k5 (by simp)).cell 1; have y2 := (HZ1.out.keep k5 (by simp)).cell 2; have y3 := (HZ1.out.keep k5 (by simp)).cell 3; have y4 := (HZ1.out.keep k5 (by simp)).cell 4; have x0 := z2.frozen 0; have x1 := z2.frozen 1; have x2 := z2.frozen 2; have x3 := z2.frozen 3; have x4 := z2.frozen 4; have v0 := z2.cell 0; have v1 := z2.cell 1; have v2 := z2.cell 2; have v3 := z2.cell 3; have v4 := z2.cell 4; clear k5 z2)
            have HB := Lib.hid (blk_fill HZ5.out 0 0 0 0 0)
            have HKf := Lib.hid (keeps_fill w5 w.heap.size 0 0 0 0 0)
            dsimp only [fillW] at HB HKf
            clear x0 x1 x2 x3 x4 v0 v1 v2 v3 v4 y0 y1 y2 y3 y4
            generalize ((((((w5).setCell ⟨w.heap.size, 0, none⟩ (.int .i64 0)).setCell ⟨w.heap.size, 1, none⟩ (.int .i64 0)).setCell ⟨w.heap.size, 2, none⟩ (.int .i64 0)).setCell ⟨w.heap.size, 3, none⟩ (.int .i64 0)).setCell ⟨w.heap.size, 4, none⟩ (.int .i64 0)) = W at *
            have y0 := HB.out.cell 0
            have y1 := HB.out.cell 1
            have y2 := HB.out.cell 2
            have y3 := HB.out.cell 3
            have y4 := HB.out.cell 4
            refine bodyPost_ret (v := .tuple #[.agg #[.int .i64 0, .int .i64 0, .int .i64 0, .int .i64 0, .int .i64 0], .bool false]) (by simp [results, Tryz.results116, go_sem, y0, y1, y2, y3, y4]) rfl ⟨by rw [HE.out]; rfl, ?_⟩
            exact HK5.out.past6 HKf.out (fun q hq => by simp at hq; omega)
      · clear hstop
        by_cases hs0 : s.data.toList = []
        · have d0 := hps hs0
          have HE : Hid (parseT opR s.data.toList = (⟨0, 0, 0, 0, 0⟩, 17)) := HV.out.trans (if_pos (.inl hs0))
          clear hs0 hps hpn
          go_wp2_with fail
          have HB := Lib.hid (blk_fill HZ2.out 0 0 0 0 0)
          have HKf := Lib.hid (keeps_fill wr w.heap.size 0 0 0 0 0)
          dsimp only [fillW] at HB HKf
          clear x0 x1 x2 x3 x4 v0 v1 v2 v3 v4 y0 y1 y2 y3 y4
          generalize ((((((wr).setCell ⟨w.heap.size, 0, none⟩ (.int .i64 0)).setCell ⟨w.heap.size, 1, none⟩ (.int .i64 0)).setCell ⟨w.heap.size, 2, none⟩ (.int .i64 0)).setCell ⟨w.heap.size, 3, none⟩ (.int .i64 0)).setCell ⟨w.heap.size, 4, none⟩ (.int .i64 0)) = W at *
          have y0 := HB.out.cell 0
          have y1 := HB.out.cell 1
          have y2 := HB.out.cell 2
          have y3 := HB.out.cell 3
          have y4 := HB.out.cell 4
          refine bodyPost_ret (v := .tuple #[.agg #[.int .i64 0, .int .i64 0, .int .i64 0, .int .i64 0, .int .i64 0], .bool false]) (by simp [results, Tryz.results116, go_sem, y0, y1, y2, y3, y4]) rfl ⟨by rw [HE.out]; rfl, ?_⟩
          exact HKw.out.past6 HKf.out (fun q hq => by simp at hq; omega)
        · have d0 := hpn hs0
          clear x0 x1 x2 x3 x4 v0 v1 v2 v3 v4 hps hpn
          by_cases ht : insTxt (insW op AR) = s.data.toList
          · have d1 : ((stB (insTxt (insW op AR))).toList == s.toList) = true := bytes_eq.2 (by rw [stB_list, ht])
            have HE : Hid (parseT opR s.data.toList = (insW op AR, 0)) := HV.out.trans (if_neg (by rintro (h | h); exact hs0 h; exact h ht))
            clear hs0 ht
            generalize insTxt (insW op AR) = tx at *
            go_wp2_with (go_at_call 72; refine (HT.out _).mono ?_; rintro e w5 ⟨rfl, k5⟩; have z2 := HZ2.out.keep k5 (by simp); have HZ5 := Lib.hid z2; have HK5 := Lib.hid (HKw.out.trans k5); have y0 := (HZ1.out.keep k5 (by simp)).cell 0; have y1 := (HZ1.out.keep k5 (by simp)).cell 1; have y2 := (HZ1.out.keep k5 (by simp)).cell 2; have y3 := (HZ1.out.keep k5 (by simp)).cell 3; have y4 := (HZ1.out.keep k5 (by simp)).cell 4; have x0 := z2.frozen 0; have x1 := z2.frozen 1; have x2 := z2.frozen 2; have x3 := z2.frozen 3; have x4 := z2.frozen 4; have v0 := z2.cell 0; have v1 := z2.cell 1; have v2 := z2.cell 2; have v3 := z2.cell 3; have v4 := z2.cell 4; clear k5 z2)
            have HB := Lib.hid (blk_fill HZ5.out op a0 a1 a2 a3)
            have HKf := Lib.hid (keeps_fill w5 w.heap.size op a0 a1 a2 a3)
            dsimp only [fillW] at HB HKf
            clear x0 x1 x2 x3 x4 v0 v1 v2 v3 v4 y0 y1 y2 y3 y4
            generalize ((((((w5).setCell ⟨w.heap.size, 0, none⟩ (.int .i64 op)).setCell ⟨w.heap.size, 1, none⟩ (.int .i64 a0)).setCell ⟨w.heap.size, 2, none⟩ (.int .i64 a1)).setCell ⟨w.heap.size, 3, none⟩ (.int .i64 a2)).setCell ⟨w.heap.size, 4, none⟩ (.int .i64 a3)) = W at *
            have y0 := HB.out.cell 0
            have y1 := HB.out.cell 1
            have y2 := HB.out.cell 2
            have y3 := HB.out.cell 3
            have y4 := HB.out.cell 4
            refine bodyPost_ret (v := .tuple #[.agg #[.int .i64 op, .int .i64 a0, .int .i64 a1, .int .i64 a2, .int .i64 a3], .bool true]) (by simp [results, Tryz.results116, go_sem, y0, y1, y2, y3, y4]) rfl ⟨by rw [HE.out]; dsimp only; rw [HIV.out]; rfl, ?_⟩
            exact HK5.out.past6 HKf.out (fun q hq => by simp at hq; omega)
          · have d1 : ((stB (insTxt (insW op AR))).toList == s.toList) = false := by
              cases h : ((stB (insTxt (insW op AR))).toList == s.toList) with
              | false => rfl
              | true => exact absurd ((stB_list _).symm.trans (bytes_eq.1 h)) ht
            have HE : Hid (parseT opR s.data.toList = (⟨0, 0, 0, 0, 0⟩, 17)) := HV.out.trans (if_pos (.inr ht))
            clear hs0 ht
            generalize insTxt (insW op AR) = tx at *
            go_wp2_with (go_at_call 72; refine (HT.out _).mono ?_; rintro e w5 ⟨rfl, k5⟩; have z2 := HZ2.out.keep k5 (by simp); have HZ5 := Lib.hid z2; have HK5 := Lib.hid (HKw.out.trans k5); have y0 := (HZ1.out.keep k5 (by simp)).cell 0; have y1 := (HZ1.out.keep k5 (by simp)).cell 1; have y2 := (HZ1.out.keep k5 (by simp)).cell 2; have y3 := (HZ1.out.keep k5 (by simp)).cell 3; have y4 := (HZ1.out.keep k5 (by simp)).cell 4; have x0 := z2.frozen 0; have x1 := z2.frozen 1; have x2 := z2.frozen 2; have x3 := z2.frozen 3; have x4 := z2.frozen 4; have v0 := z2.cell 0; have v1 := z2.cell 1; have v2 := z2.cell 2; have v3 := z2.cell 3; have v4 := z2.cell 4; clear k5 z2)
            have HB := Lib.hid (blk_fill HZ5.out 0 0 0 0 0)
            have HKf := Lib.hid (keeps_fill w5 w.heap.size 0 0 0 0 0)
            dsimp only [fillW] at HB HKf
            clear x0 x1 x2 x3 x4 v0 v1 v2 v3 v4 y0 y1 y2 y3 y4
            generalize ((((((w5).setCell ⟨w.heap.size, 0, none⟩ (.int .i64 0)).setCell ⟨w.heap.size, 1, none⟩ (.int .i64 0)).setCell ⟨w.heap.size, 2, none⟩ (.int .i64 0)).setCell ⟨w.heap.size, 3, none⟩ (.int .i64 0)).setCell ⟨w.heap.size, 4, none⟩ (.int .i64 0)) = W at *
            have y0 := HB.out.cell 0
            have y1 := HB.out.cell 1
            have y2 := HB.out.cell 2
            have y3 := HB.out.cell 3
            have y4 := HB.out.cell 4
            refine bodyPost_ret (v := .tuple #[.agg #[.int .i64 0, .int .i64 0, .int .i64 0, .int .i64 0, .int .i64 0], .bool false]) (by simp [results, Tryz.results116, go_sem, y0, y1, y2, y3, y4]) rfl ⟨by rw [HE.out]; rfl, ?_⟩
            exact HK5.out.past6 HKf.out (fun q hq => by simp at hq; omega)

end Go.Proofs.YtpcihhdalofdiaaGreatDoor
