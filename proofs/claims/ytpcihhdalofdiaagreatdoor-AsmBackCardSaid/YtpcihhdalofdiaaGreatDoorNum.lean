/- The document's numbers in digits: what strconv.Itoa says. -/
import Derived.Test.YtpcihhdalofdiaaGreatDoorKeep
import Derived.BigRegion
import Derived.BigQuiet
import Derived.Deep.QuietTactic
import Derived.RegionTactic
import Derived.Lib.ItoaNum
import Derived.Lib.ItoaLen
namespace Go.Proofs.YtpcihhdalofdiaaGreatDoor
open Go.RowKit

theorem drewN_alloc (w : World) (n : Nat) (o : Obj) : (w.drewN n).alloc o = (w.alloc o).drewN n := rfl
theorem drewN_setCell (w : World) (n : Nat) (a : Addr) (v : Value) : (w.drewN n).setCell a v = (w.setCell a v).drewN n := rfl
def digits (n : Nat) : ByteArray := ⟨(Lib.decDigits n).toArray⟩
def digit1 (n : Nat) : ByteArray := ⟨#[UInt8.ofNat (48 + n)]⟩
theorem digits_size (n : Nat) (h : n < 18446744073709551616) : (digits n).size ≤ 20 := by
  have := Lib.nDigits_le20 n h
  rw [← Lib.decDigits_length] at this
  simpa [digits, ByteArray.size] using this
theorem digits_small (n : Nat) (h : n < 10) : digits n = digit1 n := by
  unfold digits digit1
  rw [Lib.decDigits_one h]
theorem digits_big (n : Nat) (h : 10 ≤ n) : digits n = digits (n / 10) ++ digit1 (n % 10) := by
  have e : Lib.decDigits n = Lib.decDigits (n / 10) ++ [UInt8.ofNat (48 + n % 10)] := by
    rw [Lib.decDigits, dif_neg (by omega)]
  unfold digits digit1
  rw [e]
  exact (ByteArray.mk_append_mk (Lib.decDigits (n / 10)) [UInt8.ofNat (48 + n % 10)]).symm
theorem cut1 (n : Nat) (h : n < 10) : (⟨#[48, 49, 50, 51, 52, 53, 54, 55, 56, 57]⟩ : ByteArray).extract n (n + 1) = digit1 n := by
  rcases n with _ | _ | _ | _ | _ | _ | _ | _ | _ | _ | n
  all_goals first | rfl | (exfalso; omega)

set_option maxHeartbeats 400000 in
theorem num_small (n : Nat) (w : World) (h : n < 10) : Calls Tryz.prog 39 #[.int .i64 n] w fun e w' => e = .returned (.string (digits n)) ∧ w = w' := by
  have HD := Lib.hid ((cut1 n h).trans (digits_small n h).symm)
  have d1 : decide ((n : Int) < -9223372036854775807) = false := by simp
  have d2 : decide ((n : Int) < 0) = false := by simp
  have d3 : decide ((n : Int) < 10) = true := by simp; omega
  go_enter Tryz.func39, Tryz.ntmps39
  go_wp2_with fail
  go_ret
  exact ⟨by rw [← HD.out]; rfl, rfl⟩
set_option maxHeartbeats 400000 in
theorem num_big (n : Nat) (w : World) (h : 10 ≤ n) (hn : n ≤ 9223372036854775807) (ih : ∀ w, Calls Tryz.prog 39 #[.int .i64 ((n / 10 : Nat) : Int)] w fun e w' => e = .returned (.string (digits (n / 10))) ∧ ∃ k, w' = w.drewN k) :
    Calls Tryz.prog 39 #[.int .i64 n] w fun e w' => e = .returned (.string (digits n)) ∧ ∃ k, w' = w.drewN k := by
  have HI := Lib.hid ih
  clear ih
  have d1 : decide ((n : Int) < -9223372036854775807) = false := by simp
  have d2 : decide ((n : Int) < 0) = false := by simp
  have d3 : decide ((n : Int) < 10) = false := by simp; omega
  have b1 : (0 : Int) ≤ (n : Int) % 10 := by omega
  have b2 : (n : Int) % 10 < 10 := by omega
  have e1 : (n : Int).tdiv 10 = (n : Int) / 10 := Int.tdiv_eq_ediv_of_nonneg (by omega)
  have e2 : IntKind.i64.wrap ((n : Int) / 10) = (n : Int) / 10 := IntWalk.i64_in _ (by omega)
  have e3 : (n : Int).tmod 10 = (n : Int) % 10 := Int.tmod_eq_emod_of_nonneg (by omega)
  have e4 : IntKind.i64.wrap ((n : Int) % 10) = (n : Int) % 10 := IntWalk.i64_in _ (by omega)
  have e5 : IntKind.i64.wrap ((n : Int) % 10 + 1) = (n : Int) % 10 + 1 := IntWalk.i64_in _ (by omega)
  have hs : ∀ w, (Instr.slice 9 (.string ⟨#[48, 49, 50, 51, 52, 53, 54, 55, 56, 57]⟩) (some (.int .i64 ((n : Int) % 10))) (some (.int .i64 ((n : Int) % 10 + 1))) none).run Tryz.prog w = .ok (.string (digit1 (n % 10))) w := fun w => by
    rw [run_slice_string_if (P := Tryz.prog) (w := w) 9 _ _ _ _ _ Tryz.underlying9, if_pos ⟨by omega, by show (n : Int) % 10 + 1 ≤ 10; omega⟩, if_pos ⟨by omega, by omega⟩,
      show ((n : Int) % 10).toNat = n % 10 by omega, show ((n : Int) % 10 + 1).toNat = n % 10 + 1 by omega, cut1 _ (by omega)]
  have ha : ∀ w, (Op.stringOp .add (digits (n / 10)) (digit1 (n % 10))).run Tryz.prog w = .ok (.string (digits n)) w := fun w => by
    rw [run_string_add_sum (P := Tryz.prog) w _ _ (by have := digits_size (n / 10) (by omega); have : (digit1 (n % 10)).size = 1 := rfl; omega), digits_big n h]
  go_enter Tryz.func39, Tryz.ntmps39
  go_wp2_with fail
  go_quiet ((go_at_call 39; exact Calls.quiet_of (HI.out _)))
  go_wp2_with fail
  go_ret
  exact ⟨rfl, _, rfl⟩
theorem num_any (n : Nat) : ∀ w : World, n ≤ 9223372036854775807 → Calls Tryz.prog 39 #[.int .i64 n] w fun e w' => e = .returned (.string (digits n)) ∧ ∃ k, w' = w.drewN k := by
  induction n using Nat.strongRecOn with
  | _ n ih =>
    intro w hn
    by_cases h : n < 10
    · exact (num_small n w h).mono fun e w' ⟨he, hw⟩ => ⟨he, 0, hw.symm⟩
    · exact num_big n w (by omega) hn (fun w => ih (n / 10) (by omega) w (by omega))
end Go.Proofs.YtpcihhdalofdiaaGreatDoor
