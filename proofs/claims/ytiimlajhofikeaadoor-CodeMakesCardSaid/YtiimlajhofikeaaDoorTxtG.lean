/- Instructions in words: the document's names, Name, Named, Make. -/
import Derived.Test.YtiimlajhofikeaaDoorTxtF
import Derived.Test.YtiimlajhofikeaaDoorOpG
namespace Go.Proofs.YtiimlajhofikeaaDoor
open Go.RowKit

def NamesMade (w : World) (e : Ending) (w' : World) : Prop :=
  ∃ b, e = .returned (.slice (some ⟨b, 0, none⟩) 27 27) ∧ Keeps w w' [] ∧ ∀ k, k < 27 → w'.cell? ⟨b, k, none⟩ = some (.string (opName k))
theorem names_cells : ∀ k, k < 27 → ((opNames.map Value.string).toArray)[k]? = some (.string (opName k)) := by
  intro k hk
  have hl : opNames.length = 27 := rfl
  simp only [List.getElem?_toArray, List.getElem?_map]
  rw [List.getElem?_eq_getElem (by omega), opName, List.getD_eq_getElem?_getD, List.getElem?_eq_getElem (by omega)]
  rfl
set_option maxRecDepth 100000 in
theorem names_any (w : World) : Calls Tryd.prog 28 #[] w (NamesMade w) := by
  go_enter Tryd.func28, Tryd.ntmps28
  go_wp2_with fail
  go_ret
  exact ⟨_, rfl, (Keeps.refl w []).alloc _, fun k hk => ((Blk.new w 9 (opNames.map Value.string).toArray).cell k).trans (names_cells k hk)⟩
set_option maxHeartbeats 800000 in
theorem refName_any (op : Int) (w : World) : Calls Tryd.prog 14 #[.int .i64 op] w fun e w' => e = .returned (.string (nameOf op)) ∧ Keeps w w' [] := by
  by_cases h0 : op < 0
  · have d0 : decide (op < 0) = true := by simpa using h0
    have HN : Hid (nameOf op = ⟨#[]⟩) := if_neg (by omega)
    clear h0
    go_enter Tryd.func14, Tryd.ntmps14
    go_wp2_with fail
    go_ret
    exact ⟨by rw [HN.out]; rfl, Keeps.refl _ _⟩
  have d0 : decide (op < 0) = false := by simpa using h0
  by_cases h1 : 26 < op
  · have d1 : decide (26 < op) = true := by simpa using h1
    have HN : Hid (nameOf op = ⟨#[]⟩) := if_neg (by omega)
    clear h0 h1
    go_enter Tryd.func14, Tryd.ntmps14
    go_wp2_with fail
    go_ret
    exact ⟨by rw [HN.out]; rfl, Keeps.refl _ _⟩
  have d1 : decide (26 < op) = false := by simpa using h1
  obtain ⟨k, rfl⟩ := Int.eq_ofNat_of_zero_le (show 0 ≤ op by omega)
  have hk : k < 27 := by omega
  have HN : Hid (nameOf (k : Int) = opName k) := nameOf_of rfl hk
  have b1 : (k : Int) < 27 := by omega
  clear h0 h1
  go_enter Tryd.func14, Tryd.ntmps14
  go_wp2_with fail
  refine (names_any _).mono ?_
  rintro e w1 ⟨b, rfl, k1, hc⟩
  have q := hc k hk
  have HK := Lib.hid k1
  clear hc k1
  go_wp2_with fail
  go_ret
  exact ⟨by rw [HN.out]; rfl, HK.out⟩
theorem names_full : ∀ k : Nat, k < 27 → nameT (k : Int) ≠ [] := by decide +kernel
set_option maxHeartbeats 1600000 in
theorem refNamed_any (s : ByteArray) (w : World) : Calls Tryd.prog 23 #[.string s] w fun e w' => e = .returned (.int .i64 (namedT s.data.toList)) ∧ Keeps w w' [] := by
  go_enter Tryd.func23, Tryd.ntmps23
  go_wp2_with fail
  refine (names_any _).mono ?_
  rintro e w1 ⟨b, rfl, k1, hc⟩
  have HC := Lib.hid hc
  have HK := Lib.hid k1
  clear hc k1
  go_wp2_with fail
  go_loopw [4] (fun i4 wr => ∃ j : Nat, j ≤ 27 ∧ i4 = .int .i64 j ∧ wr = w1 ∧ ∀ i : Nat, i < j → nameT (i : Int) ≠ s.data.toList) (fun i4 _ => 27 - (intOf i4).toNat)
  case atStart => exact ⟨0, Nat.zero_le _, rfl, rfl, fun i hi => absurd hi (Nat.not_lt_zero _)⟩
  case round =>
    obtain ⟨j, hj, rfl, rfl, hno⟩ := hrel
    have HN := Lib.hid hno
    clear hno
    by_cases hlj : j < 27
    · have q0 := HC.out j hlj
      have b1 : (j : Int) < 27 := by omega
      cases he : ((opName j).toList == s.toList) with
      | true =>
        have hne := (nameT_at hlj).trans (bytes_eq.1 he)
        have HE : Hid (namedT s.data.toList = j) := named_hit (fun h => names_full j hlj (hne.trans h)) hlj hne HN.out
        clear hne
        go_wp2_with fail
        go_ret
        exact ⟨by rw [HE.out]; rfl, HK.out⟩
      | false =>
        have HE : Hid (nameT (j : Int) ≠ s.data.toList) := by
          intro h
          rw [bytes_eq.2 ((nameT_at hlj).symm.trans h)] at he
          cases he
        go_wp2_with fail
        go_roundw
        case rel =>
          refine ⟨j + 1, by omega, by go_num, by first | rfl | trivial, fun i hi => ?_⟩
          rcases Nat.lt_succ_iff_lt_or_eq.1 hi with h | rfl
          · exact HN.out i h
          · exact HE.out
        case measure => simp [intOf]; omega
    · obtain rfl : j = 27 := by omega
      have HE : Hid (namedT s.data.toList = -1) := by
        by_cases hs : s.data.toList = []
        · exact if_pos hs
        · exact named_miss hs HN.out
      go_wp2_with fail
      go_ret
      exact ⟨by rw [HE.out]; rfl, HK.out⟩
theorem insC6_take4 (op : Int) (l : List Int) : insC6 op (l.take 4) = insC6 op l := by
  match l with
  | [] => rfl
  | [a] => rfl
  | [a, b] => rfl
  | [a, b, c] => rfl
  | a :: b :: c :: d :: l => simp [insC6]
set_option maxHeartbeats 3200000 in
theorem refMake_any (op : Int) (A : Option Addr) (c : Nat) (l : List Int) (w : World) (hN : Nums .i64 w w.heap.size A l) (hl : l.length ≤ 9223372036854775807) :
    Calls Tryd.prog 19 #[.int .i64 op, .slice A l.length c] w fun e w' => e = .returned (insV (insW op l)) ∧ Keeps w w' [] := by
  have HN := Lib.hid hN
  clear hN
  have HI0 : Hid (Blk ((w.alloc (.cells #[.int .i64 0, .int .i64 0, .int .i64 0, .int .i64 0, .int .i64 0] 24)).alloc (.cells #[.int .i64 op, .int .i64 0, .int .i64 0, .int .i64 0, .int .i64 0] 24)) (w.heap.size + 1) 24 (insC6 op [])) := Blk.atNew _ _ (by simp)
  have HK0 : Hid (Keeps w ((w.alloc (.cells #[.int .i64 0, .int .i64 0, .int .i64 0, .int .i64 0, .int .i64 0] 24)).alloc (.cells #[.int .i64 op, .int .i64 0, .int .i64 0, .int .i64 0, .int .i64 0] 24)) []) := ((Keeps.refl w []).alloc _).alloc _
  have HR0 : Hid (Blk ((w.alloc (.cells #[.int .i64 0, .int .i64 0, .int .i64 0, .int .i64 0, .int .i64 0] 24)).alloc (.cells #[.int .i64 op, .int .i64 0, .int .i64 0, .int .i64 0, .int .i64 0] 24)) w.heap.size 24 #[.int .i64 0, .int .i64 0, .int .i64 0, .int .i64 0, .int .i64 0]) := (Blk.new w _ _).alloc _
  obtain ⟨n, hn⟩ : ∃ n, l.length = n := ⟨_, rfl⟩
  rw [hn] at hl ⊢
  have HL := Lib.hid hn
  clear hn
  go_enter Tryd.func19, Tryd.ntmps19
  go_wp2_with fail
  generalize (w.alloc (.cells #[.int .i64 0, .int .i64 0, .int .i64 0, .int .i64 0, .int .i64 0] 24)).alloc (.cells #[.int .i64 op, .int .i64 0, .int .i64 0, .int .i64 0, .int .i64 0] 24) = w2 at *
  go_loopw [6] (fun i6 wr => ∃ j : Nat, j ≤ 4 ∧ j ≤ n ∧ i6 = .int .i64 j ∧ Blk wr (w.heap.size + 1) 24 (insC6 op (l.take j)) ∧ Keeps w2 wr [w.heap.size + 1]) (fun i6 _ => 4 - (intOf i6).toNat)
  case atStart => exact ⟨0, Nat.zero_le _, Nat.zero_le _, rfl, by rw [List.take_zero]; exact HI0.out, Keeps.refl _ _⟩
  case round =>
    clear HI0
    obtain ⟨j, hj4, hjn, rfl, hi, hk⟩ := hrel
    have HI := Lib.hid hi
    have HK := Lib.hid hk
    clear hi hk
    by_cases h4 : j < 4
    · by_cases hlj : j < n
      · obtain ⟨b7, off7, y, rfl, hb7, hc7, hy⟩ := HN.out j (by rw [HL.out]; exact hlj)
        have hw2 := HK0.out.size
        have q1 := (HK.out.cell (p := ⟨b7, off7 + j, none⟩) (Nat.lt_of_lt_of_le hb7 hw2) (by simp; omega)).trans ((HK0.out.cell (p := ⟨b7, off7 + j, none⟩) hb7 (by simp)).trans hc7)
        have hi := HI.out
        have f5 := hi.frozen (1 + j)
        have c5 : World.cell? _ ⟨w.heap.size + 1, 1 + j, none⟩ = (insC6 op (l.take j))[1 + j]? := hi.cell (1 + j)
        obtain ⟨u5, hu5⟩ := insC6_at op (l.take j) j h4
        rw [hu5] at c5
        have b0 : (0 : Int) ≤ (j : Int) := Int.natCast_nonneg _
        have b1 : (j : Int) < (n : Int) := by omega
        have b4 : (j : Int) < 4 := by omega
        have HI6 := Lib.hid (hi.set_ (1 + j) (.int .i64 y))
        have HK6 := Lib.hid (HK.out.setCell (p := ⟨w.heap.size + 1, 1 + j, none⟩) (.inl (by simp)) (.int .i64 y))
        have hlt : (l.take j).length = j := by rw [List.length_take]; have := HL.out; omega
        have HLen := Lib.hid hlt
        have HY : Hid (l.take (j + 1) = l.take j ++ [y]) := by show _ = _; rw [List.take_add_one, hy]; rfl
        clear hi hu5 hlt hc7 hy
        go_wp2_with fail
        go_roundw
        case rel =>
          refine ⟨j + 1, by omega, by omega, by go_num, ?_, HK6.out⟩
          rw [HY.out]
          have := HI6.out
          rw [insC6_set op y (l.take j) j HLen.out h4] at this
          exact this
        case measure => simp [intOf]; omega
      · obtain rfl : j = n := by omega
        have hall : insC6 op (l.take j) = insC6 op l := by rw [List.take_of_length_le (by have := HL.out; omega)]
        rw [hall] at HI
        have z1 := HI.out
        have HIV : Hid (insV (insW op l) = .agg (insC6 op l)) := (rfl : insV (insW op l) = .agg (insC6 op l))
        obtain ⟨a0, a1, a2, a3, hC⟩ : ∃ a0 a1 a2 a3 : Int, insC6 op l = #[.int .i64 op, .int .i64 a0, .int .i64 a1, .int .i64 a2, .int .i64 a3] := ⟨_, _, _, _, rfl⟩
        rw [hC] at z1 HIV
        have HZ := Lib.hid (HR0.out.keep HK.out (by simp))
        have HKw : Hid (Keeps w wr []) := HK0.out.past6 HK.out (fun q hq => by simp at hq; omega)
        have b4 : (j : Int) < 4 := by omega
        have y0 := z1.cell 0
        have y1 := z1.cell 1
        have y2 := z1.cell 2
        have y3 := z1.cell 3
        have y4 := z1.cell 4
        have x0 := HZ.out.frozen 0
        have x1 := HZ.out.frozen 1
        have x2 := HZ.out.frozen 2
        have x3 := HZ.out.frozen 3
        have x4 := HZ.out.frozen 4
        have v0 := HZ.out.cell 0
        have v1 := HZ.out.cell 1
        have v2 := HZ.out.cell 2
        have v3 := HZ.out.cell 3
        have v4 := HZ.out.cell 4
        clear z1 hC hall HI
        go_wp2_with fail
        have HB := Lib.hid (blk_fill HZ.out op a0 a1 a2 a3)
        have HKf := Lib.hid (keeps_fill wr w.heap.size op a0 a1 a2 a3)
        dsimp only [fillW] at HB HKf
        clear x0 x1 x2 x3 x4 v0 v1 v2 v3 v4 y0 y1 y2 y3 y4
        generalize ((((((wr).setCell ⟨w.heap.size, 0, none⟩ (.int .i64 op)).setCell ⟨w.heap.size, 1, none⟩ (.int .i64 a0)).setCell ⟨w.heap.size, 2, none⟩ (.int .i64 a1)).setCell ⟨w.heap.size, 3, none⟩ (.int .i64 a2)).setCell ⟨w.heap.size, 4, none⟩ (.int .i64 a3)) = W at *
        have y0 := HB.out.cell 0
        have y1 := HB.out.cell 1
        have y2 := HB.out.cell 2
        have y3 := HB.out.cell 3
        have y4 := HB.out.cell 4
        refine bodyPost_ret (v := .agg #[.int .i64 op, .int .i64 a0, .int .i64 a1, .int .i64 a2, .int .i64 a3]) (by simp [results, Tryd.results19, go_sem, y0, y1, y2, y3, y4]) rfl ⟨by rw [HIV.out], ?_⟩
        exact HKw.out.past6 HKf.out (fun q hq => by simp at hq; omega)
    · obtain rfl : j = 4 := by omega
      have hall := insC6_take4 op l
      rw [hall] at HI
      have z1 := HI.out
      have HIV : Hid (insV (insW op l) = .agg (insC6 op l)) := (rfl : insV (insW op l) = .agg (insC6 op l))
      obtain ⟨a0, a1, a2, a3, hC⟩ : ∃ a0 a1 a2 a3 : Int, insC6 op l = #[.int .i64 op, .int .i64 a0, .int .i64 a1, .int .i64 a2, .int .i64 a3] := ⟨_, _, _, _, rfl⟩
      rw [hC] at z1 HIV
      have HZ := Lib.hid (HR0.out.keep HK.out (by simp))
      have HKw : Hid (Keeps w wr []) := HK0.out.past6 HK.out (fun q hq => by simp at hq; omega)
      have y0 := z1.cell 0
      have y1 := z1.cell 1
      have y2 := z1.cell 2
      have y3 := z1.cell 3
      have y4 := z1.cell 4
      have x0 := HZ.out.frozen 0
      have x1 := HZ.out.frozen 1
      have x2 := HZ.out.frozen 2
      have x3 := HZ.out.frozen 3
      have x4 := HZ.out.frozen 4
      have v0 := HZ.out.cell 0
      have v1 := HZ.out.cell 1
      have v2 := HZ.out.cell 2
      have v3 := HZ.out.cell 3
      have v4 := HZ.out.cell 4
      clear z1 hC hall HI
      go_wp2_with fail
      have HB := Lib.hid (blk_fill HZ.out op a0 a1 a2 a3)
      have HKf := Lib.hid (keeps_fill wr w.heap.size op a0 a1 a2 a3)
      dsimp only [fillW] at HB HKf
      clear x0 x1 x2 x3 x4 v0 v1 v2 v3 v4 y0 y1 y2 y3 y4
      generalize ((((((wr).setCell ⟨w.heap.size, 0, none⟩ (.int .i64 op)).setCell ⟨w.heap.size, 1, none⟩ (.int .i64 a0)).setCell ⟨w.heap.size, 2, none⟩ (.int .i64 a1)).setCell ⟨w.heap.size, 3, none⟩ (.int .i64 a2)).setCell ⟨w.heap.size, 4, none⟩ (.int .i64 a3)) = W at *
      have y0 := HB.out.cell 0
      have y1 := HB.out.cell 1
      have y2 := HB.out.cell 2
      have y3 := HB.out.cell 3
      have y4 := HB.out.cell 4
      refine bodyPost_ret (v := .agg #[.int .i64 op, .int .i64 a0, .int .i64 a1, .int .i64 a2, .int .i64 a3]) (by simp [results, Tryd.results19, go_sem, y0, y1, y2, y3, y4]) rfl ⟨by rw [HIV.out], ?_⟩
      exact HKw.out.past6 HKf.out (fun q hq => by simp at hq; omega)
end Go.Proofs.YtiimlajhofikeaaDoor
