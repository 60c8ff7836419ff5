/- The plain law of turned bits. -/
import Derived.Test.YtdcjiohbnnipdaaCrcSpell
namespace Go.Proofs.Ytdcjiohbnnipdaa.Crc
open Go.RowKit

/-- Bit s of a byte is turned, as the walk spells it. -/
def flip (v : Int) (s : Nat) : Int := bits .xor .u8 v (2 ^ s % 256)
def turn (l : List Int) (k : Nat) (x : BitVec 32) : Nat → List Int
  | 0 => l
  | j + 1 => if x.getLsbD j then (turn l k x j).set ((k + j) / 8) (flip ((turn l k x j).getD ((k + j) / 8) 0) ((k + j) % 8)) else turn l k x j

theorem flip_nat (v s : Nat) (hv : v < 256) (hs : s < 8) : flip (v : Int) s = ((v ^^^ 2 ^ s : Nat) : Int) := by
  unfold flip
  have h2 : 2 ^ s < 2 ^ 8 := Nat.pow_lt_pow_right (by omega) hs
  have h3 : 2 ^ s < 256 := h2
  have e : ((2 : Int) ^ s % 256) = ((2 ^ s : Nat) : Int) := by
    have : ((2 : Int) ^ s) = ((2 ^ s : Nat) : Int) := by push_cast; rfl
    rw [this]
    exact Int.emod_eq_of_lt (Int.natCast_nonneg _) (Int.ofNat_lt.2 h3)
  rw [e, u8_xor_nat _ _ hv h3]
theorem flip_bd (v : Int) (s : Nat) (h0 : 0 ≤ v) (h1 : v < 256) (hs : s < 8) : 0 ≤ flip v s ∧ flip v s < 256 := by
  obtain ⟨n, rfl⟩ := Int.eq_ofNat_of_zero_le h0
  have hn : n < 256 := by omega
  rw [flip_nat n s hn hs]
  have h2 : 2 ^ s < 2 ^ 8 := Nat.pow_lt_pow_right (by omega) hs
  have := Nat.xor_lt_two_pow (n := 8) (x := n) (y := 2 ^ s) hn h2
  omega
theorem bit_nat (n i : Nat) (hi : i < 32) : (BitVec.ofInt 32 (n : Int)).getLsbD i = n.testBit i := by
  rw [BitVec.ofInt_natCast]
  rw [BitVec.getLsbD, BitVec.toNat_ofNat, Nat.testBit_mod_two_pow]
  simp [hi]
theorem flip_bit (v : Int) (s i : Nat) (h0 : 0 ≤ v) (h1 : v < 256) (hs : s < 8) (hi : i < 8) :
    (BitVec.ofInt 32 (flip v s)).getLsbD i = ((BitVec.ofInt 32 v).getLsbD i ^^ decide (i = s)) := by
  obtain ⟨n, rfl⟩ := Int.eq_ofNat_of_zero_le h0
  have hn : n < 256 := by omega
  rw [flip_nat n s hn hs, bit_nat _ _ (by omega), bit_nat _ _ (by omega), Nat.testBit_xor, Nat.testBit_two_pow]
  by_cases h : s = i
  · subst h; simp
  · have h' : ¬ i = s := fun e => h e.symm
    simp [h, h']

theorem turn_length (l : List Int) (k : Nat) (x : BitVec 32) : ∀ j, (turn l k x j).length = l.length
  | 0 => rfl
  | j + 1 => by
    unfold turn
    split
    · rw [List.length_set]; exact turn_length l k x j
    · exact turn_length l k x j
theorem getD_byte {l : List Int} (h : ∀ n ∈ l, 0 ≤ n ∧ n < 256) (i : Nat) : 0 ≤ l.getD i 0 ∧ l.getD i 0 < 256 := by
  by_cases hi : i < l.length
  · have e : l.getD i 0 = l[i] := by simp [List.getD, hi]
    rw [e]
    exact h _ (List.getElem_mem hi)
  · have e : l.getD i 0 = 0 := by simp [List.getD, List.getElem?_eq_none (Nat.le_of_not_lt hi)]
    rw [e]; omega
theorem turn_byte (l : List Int) (k : Nat) (x : BitVec 32) (h : ∀ n ∈ l, 0 ≤ n ∧ n < 256) : ∀ j, ∀ n ∈ turn l k x j, 0 ≤ n ∧ n < 256
  | 0 => h
  | j + 1 => by
    have ih := turn_byte l k x h j
    unfold turn
    split
    · intro n hn
      rcases List.mem_or_eq_of_mem_set hn with hn | rfl
      · exact ih n hn
      · have hb := getD_byte ih ((k + j) / 8)
        exact flip_bd _ _ hb.1 hb.2 (Nat.mod_lt _ (by omega))
    · exact ih
theorem turn_bit (l : List Int) (k : Nat) (x : BitVec 32) (h : ∀ n ∈ l, 0 ≤ n ∧ n < 256) (t : Nat) (ht : t < 8 * l.length) : ∀ j,
    (BitVec.ofInt 32 ((turn l k x j).getD (t / 8) 0)).getLsbD (t % 8) = ((BitVec.ofInt 32 (l.getD (t / 8) 0)).getLsbD (t % 8) ^^ (decide (k ≤ t) && decide (t < k + j) && x.getLsbD (t - k)))
  | 0 => by
    have : (decide (k ≤ t) && decide (t < k + 0)) = false := by
      simp only [Nat.add_zero, Bool.and_eq_false_iff, decide_eq_false_iff_not]; omega
    rw [this]
    simp [turn]
  | j + 1 => by
    have ih := turn_bit l k x h t ht j
    have hlen := turn_length l k x j
    have hb := getD_byte (turn_byte l k x h j) (t / 8)
    by_cases hx : x.getLsbD j
    · have e : turn l k x (j + 1) = (turn l k x j).set ((k + j) / 8) (flip ((turn l k x j).getD ((k + j) / 8) 0) ((k + j) % 8)) := by rw [turn, if_pos hx]
      rw [e]
      by_cases hbyte : (k + j) / 8 = t / 8
      · rw [hbyte]
        have e2 : ((turn l k x j).set (t / 8) (flip ((turn l k x j).getD (t / 8) 0) ((k + j) % 8))).getD (t / 8) 0 = flip ((turn l k x j).getD (t / 8) 0) ((k + j) % 8) := by
          have : t / 8 < (turn l k x j).length := by omega
          simp [List.getD, List.getElem?_set_self this]
        rw [e2, flip_bit _ _ _ hb.1 hb.2 (Nat.mod_lt _ (by omega)) (Nat.mod_lt _ (by omega)), ih]
        by_cases hm : t % 8 = (k + j) % 8
        · have ht' : t = k + j := by omega
          subst ht'
          have hk : k ≤ k + j := by omega
          have h1 : decide (k + j < k + j) = false := by simp
          have h2 : decide (k + j < k + (j + 1)) = true := by simp
          rw [h1, h2, Nat.add_sub_cancel_left, hx]
          simp [hk]
        · have e3 : decide (t % 8 = (k + j) % 8) = false := by simpa using hm
          have e4 : decide (t < k + (j + 1)) = decide (t < k + j) := by
            have : t ≠ k + j := fun e => hm (by rw [e])
            rw [decide_eq_decide]; omega
          rw [e3, e4]; simp
      · have e2 : ∀ u, ((turn l k x j).set ((k + j) / 8) u).getD (t / 8) 0 = (turn l k x j).getD (t / 8) 0 := by
          intro u
          simp [List.getD, List.getElem?_set_ne hbyte]
        rw [e2, ih]
        have e4 : decide (t < k + (j + 1)) = decide (t < k + j) := by
          have : t ≠ k + j := fun e => hbyte (by rw [e])
          rw [decide_eq_decide]; omega
        rw [e4]
    · have e : turn l k x (j + 1) = turn l k x j := by rw [turn, if_neg hx]
      rw [e, ih]
      by_cases ht' : t = k + j
      · subst ht'
        have hx' : x.getLsbD j = false := by simpa using hx
        rw [Nat.add_sub_cancel_left, hx']
        simp
      · have e4 : decide (t < k + (j + 1)) = decide (t < k + j) := by rw [decide_eq_decide]; omega
        rw [e4]

theorem turn_ne (l : List Int) (k : Nat) (x : BitVec 32) (h : ∀ n ∈ l, 0 ≤ n ∧ n < 256) (hx : x ≠ 0#32) (hk : k + 32 ≤ 8 * l.length) (s : BitVec 32) : go s l ≠ go s (turn l k x 32) := by
  intro e
  unfold go at e
  have e' : run (~~~ s) l = run (~~~ s) (turn l k x 32) := by
    have := congrArg (fun y : BitVec 32 => ~~~ y) e
    simpa using this
  refine turned l (turn l k x 32) h (turn_byte l k x h 32) (turn_length l k x 32).symm k x hx hk (fun t ht => ?_) _ e'
  rw [turn_bit l k x h t ht 32]
  congr 1
  by_cases hk' : t < k + 32
  · simp [hk']
  · have : x.getLsbD (t - k) = false := BitVec.getLsbD_of_ge _ _ (by omega)
    rw [this]; simp

theorem word_ne (y : Int) (h0 : 0 < y) (h1 : y < 4294967296) : BitVec.ofInt 32 y ≠ 0#32 := by
  obtain ⟨n, rfl⟩ := Int.eq_ofNat_of_zero_le (Int.le_of_lt h0)
  intro h
  rw [BitVec.ofInt_natCast] at h
  have := congrArg BitVec.toNat h
  simp at this
  omega
theorem word_bit (y : Int) (h0 : 0 < y) (j : Nat) (hj : j < 32) : ((y / 2 ^ j).tmod 2 == 1) = (BitVec.ofInt 32 y).getLsbD j := by
  obtain ⟨n, rfl⟩ := Int.eq_ofNat_of_zero_le (Int.le_of_lt h0)
  rw [bit_nat n j hj, Nat.testBit_eq_decide_div_mod_eq]
  have e : ((n : Int) / 2 ^ j) = ((n / 2 ^ j : Nat) : Int) := by push_cast; rfl
  rw [e]
  have e2 : (((n / 2 ^ j : Nat) : Int).tmod 2) = ((n / 2 ^ j % 2 : Nat) : Int) := by
    rw [Int.tmod_eq_emod_of_nonneg (Int.natCast_nonneg _)]; exact (Int.natCast_emod _ _).symm
  rw [e2, Bool.eq_iff_iff]
  simp only [beq_iff_eq, decide_eq_true_eq]
  omega
end Go.Proofs.Ytdcjiohbnnipdaa.Crc
