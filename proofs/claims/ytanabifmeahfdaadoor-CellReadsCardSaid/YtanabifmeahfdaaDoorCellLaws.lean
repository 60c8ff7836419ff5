/- CellMakes and CellReads: the walks. -/
import Derived.Test.YtanabifmeahfdaaDoorCellText
namespace Go.Proofs.YtanabifmeahfdaaDoor
open Go.RowKit

set_option maxHeartbeats 1600000 in
theorem cellTold_any (w : World) (ht : Tab w) : Calls Tryd.prog 6 #[] w fun e w' => e = .returned (.bool true) ∧ Keeps w w' [] := by
  have HT := Lib.hid ht
  clear ht
  have HX : Hid (cellText 42 = ⟨#[99, 111, 110, 32, 53]⟩) := by
    show _ = _
    unfold cellText
    rw [if_pos (by decide)]
    show kindName 2 ++ digits 5 = _
    rw [digits_small 5 (by omega)]
    rfl
  go_enter Tryd.func6, Tryd.ntmps6
  go_wp2_with fail
  refine (make_yes 2 5 _ ⟨by omega, by omega, by omega, by omega⟩).mono ?_
  rintro e w' ⟨rfl, rfl⟩
  go_wp2_with fail
  refine (text_any 42 _ (by omega) (by omega) HT.out).mono ?_
  rintro e w1 ⟨rfl, hk1⟩
  rw [HX.out]
  go_wp2_with (first
    | (go_at_call 9; refine (kind_any _ _ (by omega) (by omega)).mono ?_; rintro e w' ⟨rfl, rfl⟩; rw [show kindOf 42 = 2 from rfl])
    | (go_at_call 10; refine (number_any _ _ (by omega) (by omega)).mono ?_; rintro e w' ⟨rfl, rfl⟩; rw [show numOf 42 = 5 from rfl])
    | (go_at_call 8; refine (right_any _ _ (by omega) (by omega)).mono ?_; rintro e w' ⟨rfl, rfl⟩; first | rw [show right 42 = true from rfl] | rw [show right 5 = false from rfl]))
  go_ret
  exact ⟨rfl, hk1⟩

set_option maxHeartbeats 1600000 in
theorem makes_no (k n : Int) (w : World) (ht : Tab w) (h : ¬ fits k n) :
    Calls Tryd.prog 3 #[.int .i64 k, .int .i64 n] w fun e w' => e = .returned (.bool true) ∧ Keeps w w' [] := by
  have HT := Lib.hid ht
  have HH := Lib.hid h
  clear ht h
  go_enter Tryd.func3, Tryd.ntmps3
  go_wp2_with fail
  refine (make_no k n _ HH.out).mono ?_
  rintro e w' ⟨rfl, rfl⟩
  go_wp2_with fail
  refine (cellTold_any _ HT.out).mono ?_
  rintro e w1 ⟨rfl, hk1⟩
  go_wp2_with fail
  refine (refMake_no k n _ HH.out).mono ?_
  rintro e w' ⟨rfl, rfl⟩
  go_wp2_with fail
  refine (right_any _ _ (by omega) (by omega)).mono ?_
  rintro e w' ⟨rfl, rfl⟩
  rw [show right 18446744073709551615 = false from rfl]
  go_wp2_with fail
  go_ret
  exact ⟨rfl, hk1⟩
theorem fits_right {k n : Int} (h : fits k n) : right (n * 8 + k) = true ∧ kindOf (n * 8 + k) = k ∧ numOf (n * 8 + k) = n := by
  obtain ⟨h1, h2, h3, h4⟩ := h
  have hr : right (n * 8 + k) = true := (right_iff _).2 ⟨by omega, by omega⟩
  refine ⟨hr, ?_, ?_⟩
  · unfold kindOf; rw [if_pos hr]; omega
  · unfold numOf; rw [if_pos hr]; omega
set_option maxHeartbeats 1600000 in
theorem makes_yes (k n : Int) (w : World) (ht : Tab w) (h : fits k n) :
    Calls Tryd.prog 3 #[.int .i64 k, .int .i64 n] w fun e w' => e = .returned (.bool true) ∧ Keeps w w' [] := by
  have HT := Lib.hid ht
  have HH := Lib.hid h
  have HF := Lib.hid (fits_right h)
  obtain ⟨h1, h2, h3, h4⟩ := h
  obtain ⟨c, hc⟩ : ∃ c, c = n * 8 + k := ⟨_, rfl⟩
  have HC := Lib.hid hc
  have HC2 : Hid (8 * n + k = c) := by show _ = _; omega
  have hc0 : 0 ≤ c := by omega
  have hc1 : c < 18446744073709551616 := by omega
  clear ht hc
  go_enter Tryd.func3, Tryd.ntmps3
  go_wp2_with fail
  refine (make_yes k n _ HH.out).mono ?_
  rintro e w' ⟨rfl, rfl⟩
  rw [← HC.out]
  go_wp2_with fail
  refine (cellTold_any _ HT.out).mono ?_
  rintro e w1 ⟨rfl, hk1⟩
  go_wp2_with fail
  refine (refMake_yes k n _ HH.out).mono ?_
  rintro e w' ⟨rfl, rfl⟩
  rw [HC2.out]
  go_wp2_with fail
  refine (right_any _ _ hc0 hc1).mono ?_
  rintro e w' ⟨rfl, rfl⟩
  rw [show right c = true by rw [HC.out]; exact HF.out.1]
  go_wp2_with fail
  refine (kind_any _ _ hc0 hc1).mono ?_
  rintro e w' ⟨rfl, rfl⟩
  rw [show kindOf c = k by rw [HC.out]; exact HF.out.2.1]
  go_wp2_with fail
  refine (number_any _ _ hc0 hc1).mono ?_
  rintro e w' ⟨rfl, rfl⟩
  rw [show numOf c = n by rw [HC.out]; exact HF.out.2.2]
  go_wp2_with fail
  go_ret
  exact ⟨rfl, hk1⟩
theorem makes_any (k n : Int) (w : World) (ht : Tab w) :
    Calls Tryd.prog 3 #[.int .i64 k, .int .i64 n] w fun e w' => e = .returned (.bool true) ∧ Keeps w w' [] := by
  by_cases h : fits k n
  · exact makes_yes k n w ht h
  · exact makes_no k n w ht h

set_option maxHeartbeats 3200000 in
theorem reads_any (c : Int) (w : World) (ht : Tab w) (hc0 : 0 ≤ c) (hc1 : c < 18446744073709551616) :
    Calls Tryd.prog 4 #[.int .u64 c] w fun e w' => e = .returned (.bool true) ∧ Keeps w w' [] := by
  have HT := Lib.hid ht
  clear ht
  obtain ⟨r, hr⟩ : ∃ r, right c = r := ⟨_, rfl⟩
  obtain ⟨k, hk⟩ : ∃ k, kindOf c = k := ⟨_, rfl⟩
  obtain ⟨n, hn⟩ : ∃ n, numOf c = n := ⟨_, rfl⟩
  obtain ⟨t, htx⟩ : ∃ t, cellText c = t := ⟨_, rfl⟩
  have hmk : r = true → fits k n ∧ n * 8 + k = c := by
    intro h
    subst hr
    have := (right_iff c).1 h
    rw [← hk, ← hn]
    unfold kindOf numOf fits
    rw [if_pos h, if_pos h]
    omega
  have HR := Lib.hid hr
  have HK := Lib.hid hk
  have HN := Lib.hid hn
  have HX := Lib.hid htx
  have HM := Lib.hid hmk
  clear hr hk hn htx hmk
  go_enter Tryd.func4, Tryd.ntmps4
  go_wp2_with fail
  refine (cellTold_any _ HT.out).mono ?_
  rintro e w1 ⟨rfl, hk1⟩
  go_wp2_with fail
  refine (right_any c _ hc0 hc1).mono ?_
  rintro e w' ⟨rfl, rfl⟩
  rw [HR.out]
  go_wp2_with fail
  refine (refRight_any c _ hc0 hc1).mono ?_
  rintro e w' ⟨rfl, rfl⟩
  rw [HR.out]
  go_wp2_with fail
  refine (kind_any c _ hc0 hc1).mono ?_
  rintro e w' ⟨rfl, rfl⟩
  rw [HK.out]
  go_wp2_with fail
  refine (refKind_any c _ hc0 hc1).mono ?_
  rintro e w' ⟨rfl, rfl⟩
  rw [HK.out]
  go_wp2_with fail
  refine (number_any c _ hc0 hc1).mono ?_
  rintro e w' ⟨rfl, rfl⟩
  rw [HN.out]
  go_wp2_with fail
  refine (refNumber_any c _ hc0 hc1).mono ?_
  rintro e w' ⟨rfl, rfl⟩
  rw [HN.out]
  go_wp2_with fail
  refine (text_any c _ hc0 hc1 (HT.out.keep hk1)).mono ?_
  rintro e w2 ⟨rfl, hk2⟩
  rw [HX.out]
  go_wp2_with fail
  refine (refText_any c _ hc0 hc1).mono ?_
  rintro e w3 ⟨rfl, hk3⟩
  rw [HX.out]
  have hkk := (hk1.trans hk2).trans hk3
  go_wp2_with fail
  refine (right_any c _ hc0 hc1).mono ?_
  rintro e w' ⟨rfl, rfl⟩
  rw [HR.out]
  cases r
  · go_wp2_with fail
    go_ret
    exact ⟨rfl, hkk⟩
  · go_wp2_with fail
    refine (kind_any c _ hc0 hc1).mono ?_
    rintro e w' ⟨rfl, rfl⟩
    rw [HK.out]
    go_wp2_with fail
    refine (number_any c _ hc0 hc1).mono ?_
    rintro e w' ⟨rfl, rfl⟩
    rw [HN.out]
    go_wp2_with fail
    refine (make_yes k n _ (HM.out (by first | trivial | rfl)).1).mono ?_
    rintro e w' ⟨rfl, rfl⟩
    rw [(HM.out (by first | trivial | rfl)).2]
    go_wp2_with fail
    go_ret
    exact ⟨rfl, hkk⟩
end Go.Proofs.YtanabifmeahfdaaDoor
