/- The contracts of package cell and of the document's cells, but for their texts. -/
import Derived.Test.YtnonfmaehfmigaaGreatDoorArea
import Derived.BigRegion
import Derived.BigQuiet
import Derived.Deep.QuietTactic
import Derived.RegionTactic
namespace Go.Proofs.YtnonfmaehfmigaaGreatDoor
open Go.RowKit

theorem right_iff (c : Int) : right c = true ↔ c % 8 ≤ 4 ∧ c / 8 < 1099511627776 := by simp [right]
theorem right_not (c : Int) : right c = false ↔ ¬ (c % 8 ≤ 4 ∧ c / 8 < 1099511627776) := by
  rw [← right_iff]; cases right c <;> simp

/-! ### The kind and the number of a cell; -1 where it is none -/
def kindOf (c : Int) : Int := if right c then c % 8 else -1
def numOf (c : Int) : Int := if right c then c / 8 else -1
set_option maxHeartbeats 400000 in
theorem kind_any (c : Int) (w : World) (h0 : 0 ≤ c) (h1 : c < 18446744073709551616) : Calls Tryz.prog 49 #[.int .u64 c] w fun e w' => e = .returned (.int .i64 (kindOf c)) ∧ w = w' := by
  have hm : 0 ≤ c % 8 ∧ c % 8 < 8 := by omega
  by_cases hr : right c = true
  · have HK : Hid (kindOf c = c % 8) := by show _ = _; unfold kindOf; rw [if_pos hr]
    have HR := Lib.hid hr
    clear hr
    go_enter Tryz.func49, Tryz.ntmps49
    go_wp2_with fail
    refine (right_any c _ h0 h1).mono ?_
    rintro e w' ⟨rfl, rfl⟩
    rw [HR.out]
    go_wp2_with fail
    go_ret
    exact ⟨by rw [HK.out]; rfl, rfl⟩
  · have HK : Hid (kindOf c = -1) := by show _ = _; unfold kindOf; rw [if_neg hr]
    have HR : Hid (right c = false) := by show _ = _; simpa using hr
    clear hr
    go_enter Tryz.func49, Tryz.ntmps49
    go_wp2_with fail
    refine (right_any c _ h0 h1).mono ?_
    rintro e w' ⟨rfl, rfl⟩
    rw [HR.out]
    go_wp2_with fail
    go_ret
    exact ⟨by rw [HK.out]; rfl, rfl⟩
set_option maxHeartbeats 400000 in
theorem number_any (c : Int) (w : World) (h0 : 0 ≤ c) (h1 : c < 18446744073709551616) : Calls Tryz.prog 51 #[.int .u64 c] w fun e w' => e = .returned (.int .i64 (numOf c)) ∧ w = w' := by
  have hm : 0 ≤ c / 8 ∧ c / 8 < 2305843009213693952 := by omega
  by_cases hr : right c = true
  · have HK : Hid (numOf c = c / 8) := by show _ = _; unfold numOf; rw [if_pos hr]
    have HR := Lib.hid hr
    clear hr
    go_enter Tryz.func51, Tryz.ntmps51
    go_wp2_with fail
    refine (right_any c _ h0 h1).mono ?_
    rintro e w' ⟨rfl, rfl⟩
    rw [HR.out]
    go_wp2_with fail
    go_ret
    exact ⟨by rw [HK.out]; rfl, rfl⟩
  · have HK : Hid (numOf c = -1) := by show _ = _; unfold numOf; rw [if_neg hr]
    have HR : Hid (right c = false) := by show _ = _; simpa using hr
    clear hr
    go_enter Tryz.func51, Tryz.ntmps51
    go_wp2_with fail
    refine (right_any c _ h0 h1).mono ?_
    rintro e w' ⟨rfl, rfl⟩
    rw [HR.out]
    go_wp2_with fail
    go_ret
    exact ⟨by rw [HK.out]; rfl, rfl⟩
/-! ### Make -/
def fits (k n : Int) : Prop := 0 ≤ k ∧ k ≤ 4 ∧ 0 ≤ n ∧ n < 1099511627776
set_option maxHeartbeats 400000 in
theorem make_yes (k n : Int) (w : World) (h : fits k n) : Calls Tryz.prog 39 #[.int .i64 k, .int .i64 n] w fun e w' => e = .returned (.int .u64 (n * 8 + k)) ∧ w = w' := by
  obtain ⟨h1, h2, h3, h4⟩ := h
  have d1 : decide (k < 0) = false := by simpa using h1
  have d2 : decide (4 < k) = false := by simpa using h2
  have d3 : decide (n < 0) = false := by simpa using h3
  have d4 : decide (1099511627776 ≤ n) = false := by simpa using h4
  go_enter Tryz.func39, Tryz.ntmps39
  go_wp2_with fail
  go_ret
  exact ⟨rfl, rfl⟩
set_option maxHeartbeats 800000 in
theorem make_no (k n : Int) (w : World) (h : ¬ fits k n) : Calls Tryz.prog 39 #[.int .i64 k, .int .i64 n] w fun e w' => e = .returned (.int .u64 18446744073709551615) ∧ w = w' := by
  have HH := Lib.hid h
  clear h
  by_cases h1 : k < 0
  · have d1 : decide (k < 0) = true := by simpa using h1
    go_enter Tryz.func39, Tryz.ntmps39
    go_wp2_with fail
    go_ret
    exact ⟨rfl, rfl⟩
  · have d1 : decide (k < 0) = false := by simpa using h1
    by_cases h2 : 4 < k
    · have d2 : decide (4 < k) = true := by simpa using h2
      go_enter Tryz.func39, Tryz.ntmps39
      go_wp2_with fail
      go_ret
      exact ⟨rfl, rfl⟩
    · have d2 : decide (4 < k) = false := by simpa using h2
      by_cases h3 : n < 0
      · have d3 : decide (n < 0) = true := by simpa using h3
        go_enter Tryz.func39, Tryz.ntmps39
        go_wp2_with fail
        go_ret
        exact ⟨rfl, rfl⟩
      · have d3 : decide (n < 0) = false := by simpa using h3
        have h4 : 1099511627776 ≤ n := by
          have := HH.out
          unfold fits at this
          omega
        have d4 : decide (1099511627776 ≤ n) = true := by simpa using h4
        go_enter Tryz.func39, Tryz.ntmps39
        go_wp2_with fail
        go_ret
        exact ⟨rfl, rfl⟩
end Go.Proofs.YtnonfmaehfmigaaGreatDoor
