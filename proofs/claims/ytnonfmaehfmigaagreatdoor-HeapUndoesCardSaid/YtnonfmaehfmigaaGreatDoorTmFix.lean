/- Terms: the document's Fix. -/
import Derived.Test.YtnonfmaehfmigaaGreatDoorTmMk
import Derived.Test.YtnonfmaehfmigaaGreatDoorTmText
namespace Go.Proofs.YtnonfmaehfmigaaGreatDoor
open Go.RowKit

/-! ### What Fix makes -/
def tz : Tm := .mk 0 0 ⟨#[]⟩ []
def u64 (n : Int) : Int := IntKind.u64.wrap n
theorem u64_nonneg (n : Int) : 0 ≤ u64 n := by unfold u64; simp only [IntKind.wrap, IntKind.bits, IntKind.signed, Bool.false_and, Bool.false_eq_true, if_false]; omega
def fixK (d : Nat) (left k : Int) : Int := if 2 ≤ u64 k % 4 ∧ (d = 0 ∨ left < 4) then u64 k % 4 - 2 else u64 k % 4
def letter (i : Int) : ByteArray := if i = 0 then ⟨#[97]⟩ else if i = 1 then ⟨#[98]⟩ else if i = 2 then ⟨#[99]⟩ else if i = 3 then ⟨#[102]⟩ else ⟨#[103]⟩
def fixN (k n : Int) : Int := if k = 0 then u64 n % 6 else 0
def fixS (k n : Int) : ByteArray := if k = 1 then letter (u64 n % 3) else if k = 2 then letter (3 + u64 n % 2) else ⟨#[]⟩
def fixW (k n : Int) : Nat := if k = 3 then 2 else if k = 2 then 1 + (u64 n / 2 % 3).toNat else 0
def fixes (f : Tm → Int → Tm × Int) (l : List Tm) (left : Int) : Nat → List Tm × Int
  | 0 => ([], left)
  | i + 1 => ((fixes f l left i).1 ++ [(f (l.getD i tz) (fixes f l left i).2).1], (f (l.getD i tz) (fixes f l left i).2).2)
def fixT (f : Tm → Int → Tm × Int) (d : Nat) : Tm → Int → Tm × Int
  | .mk k n _ l, left => (.mk (fixK d left k) (fixN (fixK d left k) n) (fixS (fixK d left k) n) (fixes f l (left - 1) (fixW (fixK d left k) n)).1, (fixes f l (left - 1) (fixW (fixK d left k) n)).2)
def tFix : Nat → Tm → Int → Tm × Int
  | 0 => fixT (fun t n => (t, n)) 0
  | d + 1 => fixT (tFix d) (d + 1)
def cost : Nat → Nat
  | 0 => 1
  | d + 1 => 1 + 3 * cost d
theorem fixK_range (d : Nat) (left k : Int) : 0 ≤ fixK d left k ∧ fixK d left k ≤ 3 ∧ (d = 0 → fixK d left k ≤ 1) := by
  have h := u64_nonneg k
  unfold fixK
  split <;> omega
theorem fixW_le (k n : Int) : fixW k n ≤ 3 ∧ (k ≤ 1 → fixW k n = 0) := by
  have h := u64_nonneg n
  unfold fixW
  split
  · omega
  · split <;> omega
theorem fixes_cost {f : Tm → Int → Tm × Int} {C : Nat} (hf : ∀ a n, n - C ≤ (f a n).2 ∧ (f a n).2 ≤ n) (l : List Tm) (left : Int) : ∀ i : Nat, left - i * C ≤ (fixes f l left i).2 ∧ (fixes f l left i).2 ≤ left
  | 0 => by simp [fixes]
  | i + 1 => by
    have h1 := fixes_cost hf l left i
    have h2 := hf (l.getD i tz) (fixes f l left i).2
    rw [fixes]
    have h3 : ((i + 1 : Nat) : Int) * C = i * C + C := by rw [Int.natCast_add, Int.add_mul]; simp
    rw [h3]
    constructor <;> omega
theorem fixT_cost {f : Tm → Int → Tm × Int} {C : Nat} (hf : ∀ a n, n - C ≤ (f a n).2 ∧ (f a n).2 ≤ n) (d : Nat) (t : Tm) (left : Int) : left - (1 + 3 * C : Nat) ≤ (fixT f d t left).2 ∧ (fixT f d t left).2 ≤ left := by
  cases t with
  | mk k n s l =>
    rw [fixT]
    have h1 := fixes_cost hf l (left - 1) (fixW (fixK d left k) n)
    have h2 := (fixW_le (fixK d left k) n).1
    have h3 : ((fixW (fixK d left k) n : Nat) : Int) * C ≤ 3 * C := Int.mul_le_mul_of_nonneg_right (by omega) (by omega)
    simp only
    constructor <;> omega
theorem tFix_cost : ∀ (d : Nat) (t : Tm) (left : Int), left - cost d ≤ (tFix d t left).2 ∧ (tFix d t left).2 ≤ left
  | 0, t, left => fixT_cost (C := 0) (fun a n => by simp) 0 t left
  | d + 1, t, left => fixT_cost (C := cost d) (tFix_cost d) (d + 1) t left
theorem fixes_len (f : Tm → Int → Tm × Int) (l : List Tm) (left : Int) : ∀ i : Nat, (fixes f l left i).1.length = i
  | 0 => rfl
  | i + 1 => by rw [fixes, List.length_append, fixes_len f l left i]; rfl
theorem fixes_mem {f : Tm → Int → Tm × Int} {l : List Tm} {left : Int} : ∀ {i : Nat} {b : Tm}, b ∈ (fixes f l left i).1 → ∃ a n, b = (f a n).1
  | 0, b, h => by simp [fixes] at h
  | i + 1, b, h => by
    rw [fixes, List.mem_append] at h
    rcases h with h | h
    · exact fixes_mem h
    · simp at h
      exact ⟨_, _, h⟩
theorem letter_ok (i : Int) : nameOk (letter i) = true := by
  unfold letter
  split
  · decide
  · split
    · decide
    · split
      · decide
      · split <;> decide
theorem fixT_right {f : Tm → Int → Tm × Int} (hf : ∀ a n, tRight (f a n).1 = true) (d : Nat) (t : Tm) (left : Int) : tRight (fixT f d t left).1 = true := by
  cases t with
  | mk k n s l =>
    rw [fixT]
    have h2 := fixW_le (fixK d left k) n
    have h3 := fixes_len f l (left - 1) (fixW (fixK d left k) n)
    have hk := fixK_range d left k
    have hn := u64_nonneg n
    simp only
    rw [tRight, Bool.and_eq_true]
    refine ⟨(tRights_all _).2 fun b hb => ?_, ?_⟩
    · obtain ⟨a, m, rfl⟩ := fixes_mem hb
      exact hf a m
    · rw [h3]
      generalize fixK d left k = K at *
      by_cases k0 : K = 0
      · subst k0
        have e := h2.2 (by omega)
        rw [if_pos rfl, e, fixN, if_pos rfl, fixS, if_neg (by omega), if_neg (by omega)]
        simp [show (⟨#[]⟩ : ByteArray) = ByteArray.empty from rfl]
        omega
      · rw [if_neg k0, fixN, if_neg k0]
        by_cases k1 : K = 1
        · subst k1
          have e := h2.2 (by omega)
          rw [if_pos rfl, e, fixS, if_pos rfl, letter_ok]
          simp
        · rw [if_neg k1, fixS, if_neg k1]
          by_cases k2 : K = 2
          · subst k2
            rw [if_pos rfl, if_pos rfl, letter_ok, fixW, if_neg (by omega), if_pos rfl]
            simp
            omega
          · obtain rfl : K = 3 := by omega
            rw [if_neg k2, if_pos rfl, if_neg (by omega), fixW, if_pos rfl]
            simp [show (⟨#[]⟩ : ByteArray) = ByteArray.empty from rfl]
theorem tFix_right : ∀ (d : Nat) (t : Tm) (left : Int), tRight (tFix d t left).1 = true
  | 0, .mk k n s l, left => by
    have h : fixW (fixK 0 left k) n = 0 := (fixW_le _ n).2 ((fixK_range 0 left k).2.2 rfl)
    have := fixT_right (f := fun _ n => (tz, n)) (fun a n => by rw [tz, tRight]; simp [tRights, show (⟨#[]⟩ : ByteArray) = ByteArray.empty from rfl]) 0 (.mk k n s l) left
    rw [tFix]
    rw [fixT, h] at this ⊢
    simpa [fixes] using this
  | d + 1, t, left => fixT_right (tFix_right d) (d + 1) t left
theorem tSizes_le_of {C : Nat} : ∀ {l : List Tm}, (∀ a ∈ l, tSize a ≤ C) → tSizes l ≤ l.length * C
  | [], _ => by simp [tSizes]
  | a :: l, h => by
    have h1 := h a (by simp)
    have h2 := tSizes_le_of (l := l) (C := C) fun b hb => h b (by simp [hb])
    rw [tSizes, List.length_cons, Nat.succ_mul]
    omega
theorem fixT_size {f : Tm → Int → Tm × Int} {C : Nat} (hf : ∀ a n, tSize (f a n).1 ≤ C) (d : Nat) (t : Tm) (left : Int) : tSize (fixT f d t left).1 ≤ 1 + 3 * C := by
  cases t with
  | mk k n s l =>
    rw [fixT]
    have h2 := (fixW_le (fixK d left k) n).1
    have h3 := fixes_len f l (left - 1) (fixW (fixK d left k) n)
    have h4 := tSizes_le_of (l := (fixes f l (left - 1) (fixW (fixK d left k) n)).1) (C := C) fun b hb => by
      obtain ⟨a, m, rfl⟩ := fixes_mem hb
      exact hf a m
    rw [h3] at h4
    have h5 : fixW (fixK d left k) n * C ≤ 3 * C := Nat.mul_le_mul_right C h2
    simp only
    rw [tSize]
    omega
theorem tFix_size : ∀ (d : Nat) (t : Tm) (left : Int), tSize (tFix d t left).1 ≤ cost d
  | 0, .mk k n s l, left => by
    have h : fixW (fixK 0 left k) n = 0 := (fixW_le _ n).2 ((fixK_range 0 left k).2.2 rfl)
    rw [tFix, fixT, h]
    simp [fixes, tSize, tSizes, cost]
  | d + 1, t, left => fixT_size (tFix_size d) (d + 1) t left
/-- The law's Fix. -/
def lFix (t : Tm) : Tm := (tFix 4 t 30).1
theorem lFix_right (t : Tm) : tRight (lFix t) = true := tFix_right 4 t 30
theorem lFix_size (t : Tm) : tSize (lFix t) ≤ 121 := tFix_size 4 t 30
end Go.Proofs.YtnonfmaehfmigaaGreatDoor
