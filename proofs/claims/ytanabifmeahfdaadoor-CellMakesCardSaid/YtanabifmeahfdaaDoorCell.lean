/- The contracts of package cell and of the document's cells, but for their texts. -/
import Derived.Test.YtanabifmeahfdaaDoorAppend
import Derived.BigRegion
import Derived.BigQuiet
import Derived.Deep.QuietTactic
import Derived.RegionTactic
namespace Go.Proofs.YtanabifmeahfdaaDoor
open Go.RowKit

/-- May it be a cell? -/
def right (c : Int) : Bool := decide (c % 8 ≤ 4) && decide (c / 8 < 1099511627776)
theorem right_iff (c : Int) : right c = true ↔ c % 8 ≤ 4 ∧ c / 8 < 1099511627776 := by simp [right]
theorem right_not (c : Int) : right c = false ↔ ¬ (c % 8 ≤ 4 ∧ c / 8 < 1099511627776) := by
  rw [← right_iff]; cases right c <;> simp

set_option maxHeartbeats 400000 in
theorem right_any (c : Int) (w : World) (h0 : 0 ≤ c) (h1 : c < 18446744073709551616) : Calls Tryd.prog 8 #[.int .u64 c] w fun e w' => e = .returned (.bool (right c)) ∧ w = w' := by
  by_cases ha : c % 8 ≤ 4
  · have da : decide (c % 8 ≤ 4) = true := by simpa using ha
    by_cases hb : c / 8 < 1099511627776
    · have HR : Hid (right c = true) := (right_iff c).2 ⟨ha, hb⟩
      have db : decide (c / 8 < 1099511627776) = true := by simpa using hb
      go_enter Tryd.func8, Tryd.ntmps8
      go_wp2_with fail
      go_ret
      exact ⟨by rw [HR.out]; rfl, rfl⟩
    · have HR : Hid (right c = false) := (right_not c).2 (fun h => hb h.2)
      have db : decide (c / 8 < 1099511627776) = false := by simpa using hb
      go_enter Tryd.func8, Tryd.ntmps8
      go_wp2_with fail
      go_ret
      exact ⟨by rw [HR.out]; rfl, rfl⟩
  · have HR : Hid (right c = false) := (right_not c).2 (fun h => ha h.1)
    have da : decide (c % 8 ≤ 4) = false := by simpa using ha
    go_enter Tryd.func8, Tryd.ntmps8
    go_wp2_with fail
    go_ret
    exact ⟨by rw [HR.out]; rfl, rfl⟩
set_option maxHeartbeats 400000 in
theorem refRight_any (c : Int) (w : World) (h0 : 0 ≤ c) (h1 : c < 18446744073709551616) : Calls Tryd.prog 11 #[.int .u64 c] w fun e w' => e = .returned (.bool (right c)) ∧ w = w' := by
  by_cases ha : c % 8 ≤ 4
  · have da : decide (c % 8 ≤ 4) = true := by simpa using ha
    by_cases hb : c / 8 < 1099511627776
    · have HR : Hid (right c = true) := (right_iff c).2 ⟨ha, hb⟩
      have db : decide (c / 8 < 1099511627776) = true := by simpa using hb
      go_enter Tryd.func11, Tryd.ntmps11
      go_wp2_with fail
      go_ret
      exact ⟨by rw [HR.out]; rfl, rfl⟩
    · have HR : Hid (right c = false) := (right_not c).2 (fun h => hb h.2)
      have db : decide (c / 8 < 1099511627776) = false := by simpa using hb
      go_enter Tryd.func11, Tryd.ntmps11
      go_wp2_with fail
      go_ret
      exact ⟨by rw [HR.out]; rfl, rfl⟩
  · have HR : Hid (right c = false) := (right_not c).2 (fun h => ha h.1)
    have da : decide (c % 8 ≤ 4) = false := by simpa using ha
    go_enter Tryd.func11, Tryd.ntmps11
    go_wp2_with fail
    go_ret
    exact ⟨by rw [HR.out]; rfl, rfl⟩

/-! ### The kind and the number of a cell; -1 where it is none -/
def kindOf (c : Int) : Int := if right c then c % 8 else -1
def numOf (c : Int) : Int := if right c then c / 8 else -1
set_option maxHeartbeats 400000 in
theorem kind_any (c : Int) (w : World) (h0 : 0 ≤ c) (h1 : c < 18446744073709551616) : Calls Tryd.prog 9 #[.int .u64 c] w fun e w' => e = .returned (.int .i64 (kindOf c)) ∧ w = w' := by
  have hm : 0 ≤ c % 8 ∧ c % 8 < 8 := by omega
  by_cases hr : right c = true
  · have HK : Hid (kindOf c = c % 8) := by show _ = _; unfold kindOf; rw [if_pos hr]
    have HR := Lib.hid hr
    clear hr
    go_enter Tryd.func9, Tryd.ntmps9
    go_wp2_with fail
    refine (right_any c _ h0 h1).mono ?_
    rintro e w' ⟨rfl, rfl⟩
    rw [HR.out]
    go_wp2_with fail
    go_ret
    exact ⟨by rw [HK.out]; rfl, rfl⟩
  · have HK : Hid (kindOf c = -1) := by show _ = _; unfold kindOf; rw [if_neg hr]
    have HR : Hid (right c = false) := by show _ = _; simpa using hr
    clear hr
    go_enter Tryd.func9, Tryd.ntmps9
    go_wp2_with fail
    refine (right_any c _ h0 h1).mono ?_
    rintro e w' ⟨rfl, rfl⟩
    rw [HR.out]
    go_wp2_with fail
    go_ret
    exact ⟨by rw [HK.out]; rfl, rfl⟩
set_option maxHeartbeats 400000 in
theorem number_any (c : Int) (w : World) (h0 : 0 ≤ c) (h1 : c < 18446744073709551616) : Calls Tryd.prog 10 #[.int .u64 c] w fun e w' => e = .returned (.int .i64 (numOf c)) ∧ w = w' := by
  have hm : 0 ≤ c / 8 ∧ c / 8 < 2305843009213693952 := by omega
  by_cases hr : right c = true
  · have HK : Hid (numOf c = c / 8) := by show _ = _; unfold numOf; rw [if_pos hr]
    have HR := Lib.hid hr
    clear hr
    go_enter Tryd.func10, Tryd.ntmps10
    go_wp2_with fail
    refine (right_any c _ h0 h1).mono ?_
    rintro e w' ⟨rfl, rfl⟩
    rw [HR.out]
    go_wp2_with fail
    go_ret
    exact ⟨by rw [HK.out]; rfl, rfl⟩
  · have HK : Hid (numOf c = -1) := by show _ = _; unfold numOf; rw [if_neg hr]
    have HR : Hid (right c = false) := by show _ = _; simpa using hr
    clear hr
    go_enter Tryd.func10, Tryd.ntmps10
    go_wp2_with fail
    refine (right_any c _ h0 h1).mono ?_
    rintro e w' ⟨rfl, rfl⟩
    rw [HR.out]
    go_wp2_with fail
    go_ret
    exact ⟨by rw [HK.out]; rfl, rfl⟩
set_option maxHeartbeats 400000 in
theorem refKind_any (c : Int) (w : World) (h0 : 0 ≤ c) (h1 : c < 18446744073709551616) : Calls Tryd.prog 12 #[.int .u64 c] w fun e w' => e = .returned (.int .i64 (kindOf c)) ∧ w = w' := by
  have hm : 0 ≤ c % 8 ∧ c % 8 < 8 := by omega
  by_cases hr : right c = true
  · have HK : Hid (kindOf c = c % 8) := by show _ = _; unfold kindOf; rw [if_pos hr]
    have HR := Lib.hid hr
    clear hr
    go_enter Tryd.func12, Tryd.ntmps12
    go_wp2_with fail
    refine (refRight_any c _ h0 h1).mono ?_
    rintro e w' ⟨rfl, rfl⟩
    rw [HR.out]
    go_wp2_with fail
    go_ret
    exact ⟨by rw [HK.out]; rfl, rfl⟩
  · have HK : Hid (kindOf c = -1) := by show _ = _; unfold kindOf; rw [if_neg hr]
    have HR : Hid (right c = false) := by show _ = _; simpa using hr
    clear hr
    go_enter Tryd.func12, Tryd.ntmps12
    go_wp2_with fail
    refine (refRight_any c _ h0 h1).mono ?_
    rintro e w' ⟨rfl, rfl⟩
    rw [HR.out]
    go_wp2_with fail
    go_ret
    exact ⟨by rw [HK.out]; rfl, rfl⟩
set_option maxHeartbeats 400000 in
theorem refNumber_any (c : Int) (w : World) (h0 : 0 ≤ c) (h1 : c < 18446744073709551616) : Calls Tryd.prog 13 #[.int .u64 c] w fun e w' => e = .returned (.int .i64 (numOf c)) ∧ w = w' := by
  have hm : 0 ≤ c / 8 ∧ c / 8 < 2305843009213693952 := by omega
  by_cases hr : right c = true
  · have HK : Hid (numOf c = c / 8) := by show _ = _; unfold numOf; rw [if_pos hr]
    have HR := Lib.hid hr
    clear hr
    go_enter Tryd.func13, Tryd.ntmps13
    go_wp2_with fail
    refine (refRight_any c _ h0 h1).mono ?_
    rintro e w' ⟨rfl, rfl⟩
    rw [HR.out]
    go_wp2_with fail
    go_ret
    exact ⟨by rw [HK.out]; rfl, rfl⟩
  · have HK : Hid (numOf c = -1) := by show _ = _; unfold numOf; rw [if_neg hr]
    have HR : Hid (right c = false) := by show _ = _; simpa using hr
    clear hr
    go_enter Tryd.func13, Tryd.ntmps13
    go_wp2_with fail
    refine (refRight_any c _ h0 h1).mono ?_
    rintro e w' ⟨rfl, rfl⟩
    rw [HR.out]
    go_wp2_with fail
    go_ret
    exact ⟨by rw [HK.out]; rfl, rfl⟩

/-! ### Make -/
def fits (k n : Int) : Prop := 0 ≤ k ∧ k ≤ 4 ∧ 0 ≤ n ∧ n < 1099511627776
set_option maxHeartbeats 400000 in
theorem make_yes (k n : Int) (w : World) (h : fits k n) : Calls Tryd.prog 5 #[.int .i64 k, .int .i64 n] w fun e w' => e = .returned (.int .u64 (n * 8 + k)) ∧ w = w' := by
  obtain ⟨h1, h2, h3, h4⟩ := h
  have d1 : decide (k < 0) = false := by simpa using h1
  have d2 : decide (4 < k) = false := by simpa using h2
  have d3 : decide (n < 0) = false := by simpa using h3
  have d4 : decide (1099511627776 ≤ n) = false := by simpa using h4
  go_enter Tryd.func5, Tryd.ntmps5
  go_wp2_with fail
  go_ret
  exact ⟨rfl, rfl⟩
set_option maxHeartbeats 400000 in
theorem refMake_yes (k n : Int) (w : World) (h : fits k n) : Calls Tryd.prog 7 #[.int .i64 k, .int .i64 n] w fun e w' => e = .returned (.int .u64 (8 * n + k)) ∧ w = w' := by
  obtain ⟨h1, h2, h3, h4⟩ := h
  have d1 : decide (k < 0) = false := by simpa using h1
  have d2 : decide (4 < k) = false := by simpa using h2
  have d3 : decide (n < 0) = false := by simpa using h3
  have d4 : decide (1099511627776 ≤ n) = false := by simpa using h4
  go_enter Tryd.func7, Tryd.ntmps7
  go_wp2_with fail
  go_ret
  exact ⟨rfl, rfl⟩
set_option maxHeartbeats 800000 in
theorem make_no (k n : Int) (w : World) (h : ¬ fits k n) : Calls Tryd.prog 5 #[.int .i64 k, .int .i64 n] w fun e w' => e = .returned (.int .u64 18446744073709551615) ∧ w = w' := by
  have HH := Lib.hid h
  clear h
  by_cases h1 : k < 0
  · have d1 : decide (k < 0) = true := by simpa using h1
    go_enter Tryd.func5, Tryd.ntmps5
    go_wp2_with fail
    go_ret
    exact ⟨rfl, rfl⟩
  · have d1 : decide (k < 0) = false := by simpa using h1
    by_cases h2 : 4 < k
    · have d2 : decide (4 < k) = true := by simpa using h2
      go_enter Tryd.func5, Tryd.ntmps5
      go_wp2_with fail
      go_ret
      exact ⟨rfl, rfl⟩
    · have d2 : decide (4 < k) = false := by simpa using h2
      by_cases h3 : n < 0
      · have d3 : decide (n < 0) = true := by simpa using h3
        go_enter Tryd.func5, Tryd.ntmps5
        go_wp2_with fail
        go_ret
        exact ⟨rfl, rfl⟩
      · have d3 : decide (n < 0) = false := by simpa using h3
        have h4 : 1099511627776 ≤ n := by
          have := HH.out
          unfold fits at this
          omega
        have d4 : decide (1099511627776 ≤ n) = true := by simpa using h4
        go_enter Tryd.func5, Tryd.ntmps5
        go_wp2_with fail
        go_ret
        exact ⟨rfl, rfl⟩
set_option maxHeartbeats 800000 in
theorem refMake_no (k n : Int) (w : World) (h : ¬ fits k n) : Calls Tryd.prog 7 #[.int .i64 k, .int .i64 n] w fun e w' => e = .returned (.int .u64 18446744073709551615) ∧ w = w' := by
  have HH := Lib.hid h
  clear h
  by_cases h1 : k < 0
  · have d1 : decide (k < 0) = true := by simpa using h1
    go_enter Tryd.func7, Tryd.ntmps7
    go_wp2_with fail
    go_ret
    exact ⟨rfl, rfl⟩
  · have d1 : decide (k < 0) = false := by simpa using h1
    by_cases h2 : 4 < k
    · have d2 : decide (4 < k) = true := by simpa using h2
      go_enter Tryd.func7, Tryd.ntmps7
      go_wp2_with fail
      go_ret
      exact ⟨rfl, rfl⟩
    · have d2 : decide (4 < k) = false := by simpa using h2
      by_cases h3 : n < 0
      · have d3 : decide (n < 0) = true := by simpa using h3
        go_enter Tryd.func7, Tryd.ntmps7
        go_wp2_with fail
        go_ret
        exact ⟨rfl, rfl⟩
      · have d3 : decide (n < 0) = false := by simpa using h3
        have h4 : 1099511627776 ≤ n := by
          have := HH.out
          unfold fits at this
          omega
        have d4 : decide (1099511627776 ≤ n) = true := by simpa using h4
        go_enter Tryd.func7, Tryd.ntmps7
        go_wp2_with fail
        go_ret
        exact ⟨rfl, rfl⟩
end Go.Proofs.YtanabifmeahfdaaDoor
