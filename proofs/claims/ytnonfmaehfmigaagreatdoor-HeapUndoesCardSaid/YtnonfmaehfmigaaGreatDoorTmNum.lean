/- The program's reader: a variable's number. -/
import Derived.Test.YtnonfmaehfmigaaGreatDoorTmRd
namespace Go.Proofs.YtnonfmaehfmigaaGreatDoor
open Go.RowKit

theorem atoi_pos {ds : Txt} (hd : ∀ c ∈ ds, isDig c = true) {v : Int} (h : Lib.atoiAll ds = .ok v) : 0 ≤ v ∧ v < 9223372036854775808 := by
  cases ds with
  | nil => simp [Lib.atoiAll] at h
  | cons c r =>
    have hc := hd c (by simp)
    simp only [isDig, Bool.and_eq_true, decide_eq_true_eq] at hc
    rw [Lib.atoiAll_plain c r (by omega) (by omega)] at h
    cases hp : Lib.parseMag (c :: r) with
    | ok u =>
      rw [hp] at h
      simp only [Lib.signless] at h
      split at h
      · cases h
      · cases h; omega
    | _ => rw [hp] at h; simp [Lib.signless] at h
theorem numP_some {l : Txt} {v : Nat} (h : Lib.atoiAll (l.takeWhile isDig) = .ok (v : Int)) : numP l = if Lib.decDigits v = l.takeWhile isDig then some ((v : Int), l.dropWhile isDig) else none := by
  unfold numP
  rw [h]
  by_cases hd : Lib.decDigits v = l.takeWhile isDig
  · simp [hd]
  · simp [hd]
theorem numP_none {l : Txt} (h : atoiV (l.takeWhile isDig) = none) : numP l = none := by
  unfold atoiV at h
  unfold numP
  split at h
  · cases h
  · rename_i hn
    split
    · rename_i v hv
      exact absurd hv (hn v)
    · rfl
end Go.Proofs.YtnonfmaehfmigaaGreatDoor
