/- Digits, and texts as bytes. -/
import Derived.Test.YtnonfmaehfmigaaGreatDoorNum
import Derived.Lib.ItoaNum
import Derived.Lib.AtoiAll
import Derived.Lib.AtoiAllCases
namespace Go.Proofs.YtnonfmaehfmigaaGreatDoor
open Go.RowKit

abbrev Txt := List UInt8
def isDig (c : UInt8) : Bool := decide (48 ≤ c.toNat) && decide (c.toNat ≤ 57)
theorem dig_of {i : Nat} (h : i < 10) : (UInt8.ofNat (48 + i)).toNat = 48 + i := by rw [UInt8.toNat_ofNat']; omega
theorem digits_dig (n : Nat) : ∀ c ∈ Lib.decDigits n, isDig c = true := by
  induction n using Nat.strongRecOn with
  | _ n ih =>
    intro c hc
    by_cases h : n < 10
    · rw [Lib.decDigits_one h] at hc
      simp only [List.mem_singleton] at hc
      subst hc
      simp [isDig]
      omega
    · rw [Lib.decDigits, dif_neg h] at hc
      rcases List.mem_append.1 hc with hc | hc
      · exact ih (n / 10) (by omega) c hc
      · simp only [List.mem_singleton] at hc
        subst hc
        have : n % 10 < 10 := by omega
        simp [isDig]
        omega
theorem digits_ne (n : Nat) : Lib.decDigits n ≠ [] := by
  rw [Lib.decDigits]
  split
  · simp
  · simp
/-- The number that digits spell. -/
def valT (l : Txt) : Nat := l.foldl (fun n c => 10 * n + (c.toNat - 48)) 0
theorem valT_snoc (l : Txt) (c : UInt8) : valT (l ++ [c]) = 10 * valT l + (c.toNat - 48) := by simp [valT]
theorem valT_digits (n : Nat) : valT (Lib.decDigits n) = n := by
  induction n using Nat.strongRecOn with
  | _ n ih =>
    by_cases h : n < 10
    · rw [Lib.decDigits_one h]
      show 10 * 0 + ((UInt8.ofNat (48 + n)).toNat - 48) = n
      rw [dig_of h]
      omega
    · have hm : n % 10 < 10 := by omega
      rw [Lib.decDigits, dif_neg h, valT_snoc, ih (n / 10) (by omega), dig_of hm]
      omega
theorem parse_from (l : Txt) : ∀ acc : Nat, (∀ c ∈ l, isDig c = true) → l.foldl (fun n c => 10 * n + (c.toNat - 48)) acc < 9223372036854775808 → Lib.parseUint10 acc l = .ok (l.foldl (fun n c => 10 * n + (c.toNat - 48)) acc) := by
  induction l with
  | nil => intro acc _ _; rfl
  | cons c l ih =>
    intro acc hd hb
    have hc := hd c (by simp)
    simp only [isDig, Bool.and_eq_true, decide_eq_true_eq] at hc
    have hle : ∀ (l : Txt) (a : Nat), a ≤ l.foldl (fun n c => 10 * n + (c.toNat - 48)) a := fun l => by
      induction l with
      | nil => intro a; exact Nat.le_refl _
      | cons c l ih => intro a; rw [List.foldl_cons]; exact Nat.le_trans (by omega) (ih _)
    have h1 := hle l (10 * acc + (c.toNat - 48))
    rw [List.foldl_cons] at hb ⊢
    rw [Lib.parseUint10, if_pos hc, if_neg (by omega), if_neg (by omega), show acc * 10 + (c.toNat - 48) = 10 * acc + (c.toNat - 48) by omega]
    exact ih _ (fun x hx => hd x (by simp [hx])) hb
theorem atoi_digits {n : Nat} (h : n < 9223372036854775808) : Lib.atoiAll (Lib.decDigits n) = .ok n := by
  have hd := digits_dig n
  have hv := valT_digits n
  have hp : Lib.parseMag (Lib.decDigits n) = .ok n := by
    rw [Lib.parseMag, if_neg (digits_ne n), parse_from _ 0 hd (by rw [← valT, hv]; exact h)]
    rw [← valT, hv]
  cases hl : Lib.decDigits n with
  | nil => exact absurd hl (digits_ne n)
  | cons c r =>
    have hc := hd c (by rw [hl]; simp)
    simp only [isDig, Bool.and_eq_true, decide_eq_true_eq] at hc
    rw [Lib.atoiAll_plain c r (by omega) (by omega), ← hl, hp]
    simp [Lib.signless]
    omega

theorem digits_head (n : Nat) : ∃ c r, Lib.decDigits n = c :: r ∧ isDig c = true := by
  cases h : Lib.decDigits n with
  | nil => exact absurd h (digits_ne n)
  | cons c r => exact ⟨c, r, rfl, digits_dig n c (by rw [h]; simp)⟩
theorem digits_len (n : Nat) (h : n ≤ 65535) : 1 ≤ (Lib.decDigits n).length ∧ (Lib.decDigits n).length ≤ 7 := by
  refine ⟨Nat.pos_of_ne_zero (fun h0 => digits_ne n (List.eq_nil_of_length_eq_zero h0)), ?_⟩
  have step : ∀ m j : Nat, (m < 10 → (Lib.decDigits m).length ≤ j + 1) := fun m j hm => by rw [Lib.decDigits_one hm]; simp
  have go : ∀ j m : Nat, m < 10 ^ (j + 1) → (Lib.decDigits m).length ≤ j + 1 := fun j => by
    induction j with
    | zero => intro m hm; exact step m 0 (by simpa using hm)
    | succ j ih =>
      intro m hm
      by_cases h10 : m < 10
      · exact step m _ h10
      · rw [Lib.decDigits, dif_neg h10, List.length_append]
        have := ih (m / 10) (by rw [Nat.pow_succ] at hm; omega)
        simp only [List.length_singleton]
        omega
  exact go 6 n (by omega)
theorem digits_len4 (n : Nat) (h : n ≤ 999) : (Lib.decDigits n).length ≤ 3 := by
  have step : ∀ m j : Nat, (m < 10 → (Lib.decDigits m).length ≤ j + 1) := fun m j hm => by rw [Lib.decDigits_one hm]; simp
  have go : ∀ j m : Nat, m < 10 ^ (j + 1) → (Lib.decDigits m).length ≤ j + 1 := fun j => by
    induction j with
    | zero => intro m hm; exact step m 0 (by simpa using hm)
    | succ j ih =>
      intro m hm
      by_cases h10 : m < 10
      · exact step m _ h10
      · rw [Lib.decDigits, dif_neg h10, List.length_append]
        have := ih (m / 10) (by rw [Nat.pow_succ] at hm; omega)
        simp only [List.length_singleton]
        omega
  exact go 2 n (by omega)
def stB (l : Txt) : ByteArray := ⟨l.toArray⟩
theorem stB_app (a b : Txt) : stB a ++ stB b = stB (a ++ b) := ByteArray.mk_append_mk a b
theorem stB_size (l : Txt) : (stB l).size = l.length := by simp [stB, ByteArray.size]
theorem stB_list (l : Txt) : (stB l).data.toList = l := by simp [stB]
theorem stB_of (s : ByteArray) : stB s.data.toList = s := by cases s; simp [stB]
theorem bytes_eq {a b : ByteArray} : (a.toList == b.toList) = true ↔ a.data.toList = b.data.toList := by
  rw [ByteArray.toList_eq, ByteArray.toList_eq, beq_iff_eq]
end Go.Proofs.YtnonfmaehfmigaaGreatDoor
