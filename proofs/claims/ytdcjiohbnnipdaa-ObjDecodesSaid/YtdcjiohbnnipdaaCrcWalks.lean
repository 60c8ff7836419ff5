/- The walks of crc.Go, crc.Sum and of the document's Go and Sum: each answers what the plain law computes. -/
import Derived.Test.YtdcjiohbnnipdaaCrcSpell
namespace Go.Proofs.Ytdcjiohbnnipdaa
open Go.RowKit

def IsByte (l : List Int) : Prop := ∀ x ∈ l, 0 ≤ x ∧ x < 256

set_option maxHeartbeats 400000 in
theorem crcGo_any (s : BitVec 32) (A : Option Addr) (n c : Nat) (l : List Int) (B : Nat) (w : World) (hl : l.length = n) (hn : n ≤ 9223372036854775807)
    (hA : Nums .u8 w B A l) (hB : IsByte l) :
    Calls Try.prog 97 #[.int .u32 (Crc.int s), .slice A n c] w fun e w' => e = .returned (.int .u32 (Crc.int (Crc.go s l))) ∧ w = w' := by
  have HL := Lib.hid hl
  clear hl
  go_enter Try.func97, Try.ntmps97
  go_wp2
  go_loop [5, 7, 12, 20] (fun r x i j => ∃ k : Nat, k ≤ n ∧ i = .int .i64 k ∧ r = .int .u32 (Crc.int (Crc.run (~~~ s) (l.take k)))) (fun _ _ i _ => n - (intOf i).toNat)
  case atStart => exact ⟨0, Nat.zero_le _, rfl, by rw [Crc.spell_not]; rfl⟩
  case round =>
    obtain ⟨k, hk, rfl, rfl⟩ := hrel
    by_cases hlt : k < n
    · obtain ⟨b, off, x, rfl, _, hc, hx⟩ := hA k (by rw [HL.out]; exact hlt)
      have hb := hB x (List.mem_of_getElem? hx)
      obtain ⟨h0, h1⟩ := hb
      have HX := Lib.hid (getElem?_snoc_take hx)
      clear hA hx hB
      obtain ⟨q, hq⟩ : ∃ q, q = Crc.run (~~~ s) (l.take k) := ⟨_, rfl⟩
      rw [← hq]
      have HQ := Lib.hid hq
      clear hq
      go_wp2
      go_loop [5, 20] (fun r j => ∃ m : Nat, m ≤ 8 ∧ j = .int .i64 m ∧ r = .int .u32 (Crc.int (Crc.bitN m (q ^^^ BitVec.ofInt 32 x)))) (fun _ j => 8 - (intOf j).toNat)
      case atStart => exact ⟨0, by omega, rfl, by rw [Crc.spell_byte]; rfl⟩
      case round =>
        obtain ⟨m, hm, rfl, rfl⟩ := hrel
        by_cases hm8 : m < 8
        · go_wp2
          go_round
          case rel => exact ⟨m + 1, by omega, by go_num, by rw [Crc.spell_bit, Crc.bitN_succ]⟩
          case measure => simp [intOf]; omega
        · obtain rfl : m = 8 := by omega
          go_wp2
          go_round
          case rel => exact ⟨k + 1, by omega, by go_num, by rw [HX.out, Crc.run_snoc, ← HQ.out]; rfl⟩
          case measure => simp [intOf]; omega
    · obtain rfl : k = n := by omega
      go_wp2
      go_ret
      exact ⟨by rw [Crc.spell_not, List.take_of_length_le (by rw [HL.out]; exact Nat.le_refl _)]; rfl, rfl⟩

set_option maxHeartbeats 400000 in
theorem refGo_any (s : BitVec 32) (A : Option Addr) (n c : Nat) (l : List Int) (B : Nat) (w : World) (hl : l.length = n) (hn : n ≤ 9223372036854775807)
    (hA : Nums .u8 w B A l) (hB : IsByte l) :
    Calls Try.prog 98 #[.int .u32 (Crc.int s), .slice A n c] w fun e w' => e = .returned (.int .u32 (Crc.int (Crc.go s l))) ∧ w = w' := by
  have HL := Lib.hid hl
  clear hl
  have hs := Crc.int_bd s
  go_enter Try.func98, Try.ntmps98
  go_wp2
  go_loop [5, 6, 7, 8] (fun r i j o => ∃ k : Nat, k ≤ n ∧ i = .int .i64 k ∧ r = .int .u32 (Crc.int (Crc.run (~~~ s) (l.take k)))) (fun _ i _ _ => n - (intOf i).toNat)
  case atStart => exact ⟨0, Nat.zero_le _, rfl, by first | (rw [Crc.spell_sub]; rfl) | trace_state⟩
  case round =>
    obtain ⟨k, hk, rfl, rfl⟩ := hrel
    by_cases hlt : k < n
    · obtain ⟨b, off, x, rfl, _, hc, hx⟩ := hA k (by rw [HL.out]; exact hlt)
      have hb := hB x (List.mem_of_getElem? hx)
      obtain ⟨h0, h1⟩ := hb
      have HX := Lib.hid (getElem?_snoc_take hx)
      clear hA hx hB
      obtain ⟨q, hq⟩ : ∃ q, q = Crc.run (~~~ s) (l.take k) := ⟨_, rfl⟩
      rw [← hq]
      have HQ := Lib.hid hq
      clear hq
      have hqb := Crc.int_bd q
      go_wp2
      go_loop [5, 7, 8] (fun r j o => ∃ m : Nat, m ≤ 8 ∧ j = .int .i64 m ∧ r = .int .u32 (Crc.int (Crc.bitN m (q ^^^ BitVec.ofInt 32 x)))) (fun _ j _ => 8 - (intOf j).toNat)
      case atStart =>
        refine ⟨0, by omega, rfl, ?_⟩
        have hm := Crc.spell_mix q x h0 h1
        have hi := Crc.int_bd (q ^^^ BitVec.ofInt 32 x)
        rw [hm, Int.emod_eq_of_lt hi.1 hi.2]
        rfl
      case round =>
        obtain ⟨m, hm, rfl, rfl⟩ := hrel
        by_cases hm8 : m < 8
        · obtain ⟨y, hy⟩ : ∃ y, y = Crc.bitN m (q ^^^ BitVec.ofInt 32 x) := ⟨_, rfl⟩
          rw [← hy]
          have HY := Lib.hid hy
          clear hy
          have hyb := Crc.int_bd y
          by_cases ho : Crc.int y % 2 = 1
          · have ho' : (Crc.int y % 2 == 1) = true := by simpa using ho
            have HO := Lib.hid ho
            clear ho
            go_wp2
            go_round
            case rel => exact ⟨m + 1, by omega, by go_num, by rw [Crc.spell_one _ HO.out, ← Crc.bitN_succ, ← HY.out]⟩
            case measure => simp [intOf]; omega
          · have ho' : (Crc.int y % 2 == 1) = false := by simpa using ho
            have HO := Lib.hid ho
            clear ho
            go_wp2
            go_round
            case rel => exact ⟨m + 1, by omega, by go_num, by rw [Crc.spell_none _ HO.out, ← Crc.bitN_succ, ← HY.out]⟩
            case measure => simp [intOf]; omega
        · obtain rfl : m = 8 := by omega
          go_wp2
          go_round
          case rel => exact ⟨k + 1, by omega, by go_num, by rw [HX.out, Crc.run_snoc, ← HQ.out]; rfl⟩
          case measure => simp [intOf]; omega
    · obtain rfl : k = n := by omega
      have hqb := Crc.int_bd (Crc.run (~~~ s) (l.take k))
      go_wp2
      go_ret
      exact ⟨by first | (rw [Crc.spell_sub, List.take_of_length_le (by rw [HL.out]; exact Nat.le_refl _)]; rfl) | trace_state, rfl⟩

set_option maxHeartbeats 400000 in
theorem refSum_any (A : Option Addr) (n c : Nat) (l : List Int) (B : Nat) (w : World) (hl : l.length = n) (hn : n ≤ 9223372036854775807)
    (hA : Nums .u8 w B A l) (hB : IsByte l) :
    Calls Try.prog 51 #[.slice A n c] w fun e w' => e = .returned (.int .u32 (Crc.int (Crc.go 0#32 l))) ∧ w = w' := by
  have HA := Lib.hid hA
  have HB := Lib.hid hB
  have HL := Lib.hid hl
  clear hA hB hl
  go_enter Try.func51, Try.ntmps51
  go_wp2_with fail
  refine (refGo_any 0#32 A n c l B _ HL.out hn HA.out HB.out).mono ?_
  rintro e w' ⟨rfl, rfl⟩
  go_wp2_with fail
  go_ret
  exact ⟨rfl, rfl⟩

/-- Some slices of bytes. -/
def Parts (w : World) (B : Nat) (A : Option Addr) (ps : List (List Int)) : Prop :=
  ∀ k, k < ps.length → ∃ b off Ak ck l, A = some ⟨b, off, none⟩ ∧ b < B ∧ w.cell? ⟨b, off + k, none⟩ = some (.slice Ak l.length ck) ∧ ps[k]? = some l ∧
    Nums .u8 w B Ak l ∧ IsByte l ∧ l.length ≤ 9223372036854775807

theorem sum_snoc (r : BitVec 32) (ps : List (List Int)) (k : Nat) (l : List Int) (h : ps[k]? = some l) : (ps.take (k + 1)).foldl Crc.go r = Crc.go ((ps.take k).foldl Crc.go r) l := by
  rw [getElem?_snoc_take h]
  simp

set_option maxHeartbeats 400000 in
theorem crcSum_any (A : Option Addr) (n c : Nat) (ps : List (List Int)) (B : Nat) (w : World) (hl : ps.length = n) (hn : n ≤ 9223372036854775807)
    (hA : Parts w B A ps) :
    Calls Try.prog 46 #[.slice A n c] w fun e w' => e = .returned (.int .u32 (Crc.int (ps.foldl Crc.go 0#32))) ∧ w = w' := by
  have HL := Lib.hid hl
  clear hl
  go_enter Try.func46, Try.ntmps46
  go_wp2
  go_loop [3, 5, 8] (fun r x i => ∃ k : Nat, k ≤ n ∧ i = .int .i64 k ∧ r = .int .u32 (Crc.int ((ps.take k).foldl Crc.go 0#32))) (fun _ _ i => n - (intOf i).toNat)
  case atStart => exact ⟨0, Nat.zero_le _, rfl, rfl⟩
  case round =>
    obtain ⟨k, hk, rfl, rfl⟩ := hrel
    by_cases hlt : k < n
    · obtain ⟨b, off, Ak, ck, l, rfl, _, hc, hx, hN, hB, hlen⟩ := hA k (by rw [HL.out]; exact hlt)
      have HN := Lib.hid hN
      have HB := Lib.hid hB
      have HX := Lib.hid (sum_snoc 0#32 ps k l hx)
      clear hA hN hB hx
      go_wp2_with fail
      refine (crcGo_any _ Ak l.length ck l B _ rfl hlen HN.out HB.out).mono ?_
      rintro e w' ⟨rfl, rfl⟩
      go_wp2_with fail
      go_round
      case rel => exact ⟨k + 1, by omega, by go_num, by rw [HX.out]⟩
      case measure => simp [intOf]; omega
    · obtain rfl : k = n := by omega
      go_wp2_with fail
      go_ret
      exact ⟨by rw [List.take_of_length_le (by rw [HL.out]; exact Nat.le_refl _)]; rfl, rfl⟩
end Go.Proofs.Ytdcjiohbnnipdaa
