/- How the walk spells a register's bits. -/
import Derived.Test.YtdcjiohbnnipdaaBase
import Derived.Test.YtdcjiohbnnipdaaCrcLaw
import Derived.Laws.BitsAllLaws
namespace Go.Proofs.Ytdcjiohbnnipdaa.Crc
open Go.RowKit

/-- A register as a number. -/
def int (r : BitVec 32) : Int := (r.toNat : Int)
theorem int_bd (r : BitVec 32) : 0 ≤ int r ∧ int r < 4294967296 := by
  unfold int
  have := r.isLt
  omega
theorem int_inj {a b : BitVec 32} (h : int a = int b) : a = b := by
  unfold int at h
  exact BitVec.eq_of_toNat_eq (by omega)
theorem ofInt_int (r : BitVec 32) : BitVec.ofInt 32 (int r) = r := by
  unfold int
  rw [BitVec.ofInt_natCast, BitVec.ofNat_toNat, BitVec.setWidth_eq]
theorem wrap_toNat (r : BitVec 32) : IntKind.u32.wrap (r.toNat : Int) = int r := by
  rw [IntKind.wrap_u32']
  unfold int
  have := r.isLt
  omega
theorem xor_int (a b : Int) : bits .xor .u32 a b = int (BitVec.ofInt 32 a ^^^ BitVec.ofInt 32 b) := wrap_toNat _
theorem and_int (a b : Int) : bits .and .u32 a b = int (BitVec.ofInt 32 a &&& BitVec.ofInt 32 b) := wrap_toNat _
theorem spell_byte (q : BitVec 32) (x : Int) : bits .xor .u32 (int q) x = int (q ^^^ BitVec.ofInt 32 x) := by rw [xor_int, ofInt_int]
theorem spell_not (q : BitVec 32) : bits .xor .u32 IntKind.u32.max (int q) = int (~~~ q) := by
  rw [xor_int, ofInt_int]
  congr 1
theorem spell_half (q : BitVec 32) : int q / (2 : Int) = int (q >>> (1 : Nat)) := by
  unfold int
  rw [BitVec.toNat_ushiftRight, Nat.shiftRight_eq_div_pow]
  omega
theorem spell_low (q : BitVec 32) : bits .and .u32 (int q) 1 = if q.getLsbD 0 then 1 else 0 := by
  rw [and_int, ofInt_int]
  unfold int
  have e : (BitVec.ofInt 32 1) = 1#32 := rfl
  rw [e, BitVec.toNat_and]
  have h2 : q.getLsbD 0 = decide (q.toNat % 2 = 1) := by
    simp [BitVec.getLsbD, Nat.testBit_zero]
  have h3 : q.toNat &&& (1#32).toNat = q.toNat % 2 := Nat.and_two_pow_sub_one_eq_mod q.toNat 1
  rw [h2, h3]
  by_cases hq : q.toNat % 2 = 1
  · simp [hq]
  · simp [hq]; omega
theorem spell_bit (q : BitVec 32) : bits .xor .u32 (int q / 2) (3988292384 * bits .and .u32 (int q) 1 % 4294967296) = int (bit1 q) := by
  rw [spell_half, xor_int, ofInt_int, spell_low]
  congr 1
  unfold bit1
  by_cases h : q.getLsbD 0
  · simp only [h, if_true]
    rfl
  · simp only [h, if_false, Bool.false_eq_true]
    rfl
def bitN (n : Nat) (r : BitVec 32) : BitVec 32 := Nat.repeat bit1 n r
theorem bitN_succ (n : Nat) (r : BitVec 32) : bit1 (bitN n r) = bitN (n + 1) r := rfl
theorem bitN_8 (r : BitVec 32) : bitN 8 r = bit8 r := rfl

/-- The document's own forms. -/
theorem spell_sub (q : BitVec 32) : 4294967295 - int q = int (~~~ q) := by
  unfold int
  rw [BitVec.toNat_not]
  have := q.isLt
  omega
theorem lowxor (r n : Nat) (hn : n < 256) : r / 256 * 256 + (r % 256 ^^^ n) = r ^^^ n := by
  have h2 : (r % 256 ^^^ n) < 256 := Nat.xor_lt_two_pow (n := 8) (by omega) (by omega)
  have e1 : (r ^^^ n) / 256 = r / 256 := by
    have := Nat.xor_div_two_pow (a := r) (b := n) (n := 8)
    simp at this
    rw [this, Nat.div_eq_of_lt hn]; simp
  have e2 : (r ^^^ n) % 256 = r % 256 ^^^ n := by
    have := Nat.xor_mod_two_pow (a := r) (b := n) (n := 8)
    simp at this
    rw [this, Nat.mod_eq_of_lt hn]
  omega
theorem spell_mix (q : BitVec 32) (x : Int) (h0 : 0 ≤ x) (h1 : x < 256) : int q / 256 * 256 + bits .xor .u8 (int q % 256) x = int (q ^^^ BitVec.ofInt 32 x) := by
  obtain ⟨n, rfl⟩ := Int.eq_ofNat_of_zero_le h0
  unfold int
  have e : ((q.toNat : Int) % 256) = ((q.toNat % 256 : Nat) : Int) := by omega
  rw [e, u8_xor_nat _ _ (by omega) (by omega), BitVec.toNat_xor, BitVec.ofInt_natCast, BitVec.toNat_ofNat, Nat.mod_eq_of_lt (b := 2 ^ 32) (by omega), ← lowxor q.toNat n (by omega)]
  omega
theorem spell_one (q : BitVec 32) (h : int q % 2 = 1) : bits .xor .u32 (int q / 2) 3988292384 = int (bit1 q) := by
  rw [spell_half, xor_int, ofInt_int]
  congr 1
  unfold bit1
  have h2 : q.getLsbD 0 = true := by
    unfold int at h
    simp only [BitVec.getLsbD, Nat.testBit_zero, decide_eq_true_eq]
    omega
  rw [if_pos h2]
  rfl
theorem spell_none (q : BitVec 32) (h : int q % 2 ≠ 1) : int q / 2 = int (bit1 q) := by
  rw [spell_half]
  congr 1
  unfold bit1
  have h2 : ¬ q.getLsbD 0 = true := by
    unfold int at h
    simp only [BitVec.getLsbD, Nat.testBit_zero, decide_eq_true_eq]
    omega
  rw [if_neg h2]
  simp
end Go.Proofs.Ytdcjiohbnnipdaa.Crc
