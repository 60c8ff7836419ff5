/- The walk of resolventlaw07.CrcTurns. -/
import Derived.Test.YtanabifmeahfdaaCrcTold
import Derived.Test.YtanabifmeahfdaaAppend
import Derived.Test.YtanabifmeahfdaaCrcTurnLaw
import Derived.BigRegion
import Derived.BigQuiet
import Derived.Deep.QuietTactic
namespace Go.Proofs.Ytanabifmeahfdaa
open Go.RowKit

theorem info_u8 : (Try.prog.info? 5).map (fun i => (i.zero, i.size, i.bytes)) = some (some (.int .u8 0), 1, 1) := by kernel_rfl

set_option maxHeartbeats 800000 in
theorem turns_main (A : Option Addr) (n c : Nat) (l : List Int) (at_ by_ : Int) (w : World) (hl : l.length = n) (hn : n ≤ 140737488351232) (h5 : 5 ≤ n) (hc0 : A = none → c = 0)
    (hA : Nums .u8 w w.heap.size A l) (hB : IsByte l) (hy0 : 0 < by_) (hy1 : by_ < 4294967296) (hy : (by_ == 0) = false)
    (U : Int) (hU : IntKind.u64.wrap at_ = U) (hU0 : 0 ≤ U) (k : Nat) (hk : U % (8 * (n : Int) - 32 + 1) = k) (hk1 : k + 32 ≤ 8 * n) :
    Calls Try.prog 4 #[.slice A n c, .int .i64 at_, .int .u32 by_] w fun e w' => e = .returned (.bool true) ∧ Below w.heap.size w w' := by
  have HL := Lib.hid hl
  have HA := Lib.hid hA
  have HB := Lib.hid hB
  have HC := Lib.hid hc0
  clear hl hA hB hc0
  obtain ⟨i0, hi, hz0, hz1, hz2⟩ := info_parts info_u8
  have hd : decide ((n : Int) < 5) = false := by simp; omega
  go_enter Try.func4, Try.ntmps4
  go_wp2_with (at_builtin; refine wpList_append_row _ rfl (.tmp 30) (.tmp 31) _ rfl w.heap.size 5 i0 _ 1 1 Try.underlying23 hi hz0 hz1 hz2 rfl (by omega) (some ⟨w.heap.size, 0, none⟩) 0 0 [] rfl (World.ownsRow_made _ #[] 0 (Nat.le_refl _) (Nat.zero_le _) rfl) w.heap.size A n c (l.map (Value.int .u8)) rfl (HA.out.alloc (Nat.le_refl _) _).toRow (by rw [List.length_map, HL.out, Nat.mul_one]) HC.out (oneCell_ints _ _) (by simp only [maxLen]; omega) (by omega) (by simp) ?_; intro A' c' w1 hown hgrow hat)
  simp only [Nat.zero_add, List.nil_append] at hown hat
  obtain ⟨g, cap, hv, hg0, hglt⟩ := hown.form (by omega)
  obtain ⟨rfl, rfl⟩ : A' = some ⟨g, 0, none⟩ ∧ c' = cap := by simpa using hv
  clear hv hat
  have hb1 : Below w.heap.size w w1 := ((Below.refl _ _).alloc (Nat.le_refl _) _).grown hgrow (by simp) (fun k hk => by simp [Value.ownBlock] at hk; omega)
  clear hgrow
  go_loopw [10] (fun i wr => ∃ j : Nat, j ≤ 32 ∧ i = .int .i64 j ∧ ∃ l2 : List Int, l2.length = n ∧ l2 = Crc.turn l k (BitVec.ofInt 32 by_) j ∧ wr.ownsRow w.heap.size 5 1 (.slice (some ⟨g, 0, none⟩) n c') n (l2.map (Value.int .u8)) ∧ Below w.heap.size w wr) (fun i _ => 32 - (intOf i).toNat)
  case atStart => exact ⟨0, by omega, rfl, l, HL.out, rfl, hown, hb1⟩
  case round =>
    obtain ⟨j, hj, rfl, l2, hl2, ht, hown2, hb2⟩ := hrel
    have HT := Lib.hid ht
    clear ht hown
    by_cases hj32 : j < 32
    · have HL2 := Lib.hid hl2
      clear hl2
      by_cases hbit : ((by_ / 2 ^ j).tmod 2 == 1) = true
      · have hp : (k + j) / 8 < n := by omega
        have hlen2 : (k + j) / 8 < l2.length := by rw [HL2.out]; exact hp
        obtain ⟨v, hv⟩ : ∃ v, l2[(k + j) / 8]? = some v := ⟨_, List.getElem?_eq_getElem hlen2⟩
        have hcell : wr.cell? ⟨g, (k + j) / 8, none⟩ = some (.int .u8 v) := by rw [hown2.cellAt _ (by omega), List.getElem?_map, hv]; rfl
        have hfr : wr.frozen? ⟨g, (k + j) / 8, none⟩ = false := hown2.frozenAt _
        have HV := Lib.hid hv
        have HO := Lib.hid hown2
        have HN : Hid (Crc.turn l k (BitVec.ofInt 32 by_) (j + 1) = l2.set ((k + j) / 8) (Crc.flip v ((k + j) % 8))) := by
          have hx : (BitVec.ofInt 32 by_).getLsbD j = true := by rw [← Crc.word_bit by_ hy0 j hj32]; exact hbit
          show Crc.turn l k (BitVec.ofInt 32 by_) (j + 1) = _
          rw [Crc.turn, if_pos hx, ← HT.out, show l2.getD ((k + j) / 8) 0 = v by simp [List.getD, hv]]
        clear hv hown2 hlen2
        have b1 : (0 : Int) ≤ ((k : Int) + j) / 8 := by omega
        have b2 : ((k : Int) + j) / 8 < n := by omega
        have b3 : (0 : Int) ≤ ((k : Int) + j) % 8 := by omega
        go_wp2_with fail
        go_region
        go_wp2_with fail
        go_roundw
        case rel =>
          have hst := HO.out.stored ((k + j) / 8) (.int .u8 (Crc.flip v ((k + j) % 8)))
          refine ⟨j + 1, by omega, by go_num, l2.set ((k + j) / 8) (Crc.flip v ((k + j) % 8)), by rw [List.length_set]; exact HL2.out, HN.out.symm, ?_, ?_⟩
          · rw [List.map_set]
            exact hst.1.drew
          · exact (hb2.setCell hg0 _).drew
        case measure => simp [intOf]; omega
      · have hbit' : ((by_ / 2 ^ j).tmod 2 == 1) = false := by simpa using hbit
        have HO := Lib.hid hown2
        have HN : Hid (Crc.turn l k (BitVec.ofInt 32 by_) (j + 1) = l2) := by
          have hx : ¬ (BitVec.ofInt 32 by_).getLsbD j = true := by rw [← Crc.word_bit by_ hy0 j hj32]; exact hbit
          show Crc.turn l k (BitVec.ofInt 32 by_) (j + 1) = _
          rw [Crc.turn, if_neg hx, ← HT.out]
        clear hbit hown2
        go_wp2_with fail
        go_roundw
        case rel => exact ⟨j + 1, by omega, by go_num, l2, HL2.out, HN.out.symm, HO.out, hb2⟩
        case measure => simp [intOf]; omega
    · obtain rfl : j = 32 := by omega
      have hne : Crc.int (Crc.go 0#32 l) ≠ Crc.int (Crc.go 0#32 l2) := fun e => by
        have := Crc.turn_ne l k (BitVec.ofInt 32 by_) HB.out (Crc.word_ne by_ hy0 hy1) (by rw [HL.out]; exact hk1) 0#32
        rw [← HT.out] at this
        exact this (Crc.int_inj e)
      have HB2 : Hid (IsByte l2) := by
        show IsByte l2
        rw [HT.out]
        exact Crc.turn_byte l k (BitVec.ofInt 32 by_) HB.out 32
      have HL2 := Lib.hid hl2
      clear hl2
      have hr2 := (Row.of_own hown2).toNums
      have hr1 := HA.out.below hb2
      have hwl : w.heap.size ≤ wr.heap.size := hb2.size
      have HR2 := Lib.hid hr2
      have HR1 := Lib.hid hr1
      clear hown2 hr2 hr1
      obtain ⟨S, hS⟩ : ∃ S, S = Crc.int (Crc.go 0#32 l) := ⟨_, rfl⟩
      obtain ⟨S2, hS2⟩ : ∃ S, S = Crc.int (Crc.go 0#32 l2) := ⟨_, rfl⟩
      have hS3 : (S != S2) = true := by rw [hS, hS2]; simpa using hne
      have HS := Lib.hid hS
      have HS2 := Lib.hid hS2
      clear hS hS2 hne
      go_wp2_with fail
      refine (crcTold_any _).mono ?_
      rintro e w2 ⟨rfl, hb3⟩
      have hw2 := hb3.size
      go_wp2_with fail
      refine (crcSum_any _ 1 _ [l] (w2.heap.size + 1) _ rfl (by omega) ?_).mono ?_
      · intro q hq
        match q, hq with
        | 0, _ => exact ⟨w2.heap.size, 0, A, c, l, rfl, by omega, by rw [HL.out]; simp [go_sem], rfl, (((HR1.out.more hwl).below hb3).alloc hw2 _).more (by omega), HB.out, by rw [HL.out]; omega⟩
      rintro e w3 ⟨rfl, rfl⟩
      rw [show Crc.int ([l].foldl Crc.go 0#32) = S from HS.out.symm]
      go_wp2_with fail
      refine (crcSum_any _ 1 _ [l2] (w2.heap.size + 2) _ rfl (by omega) ?_).mono ?_
      · intro q hq
        match q, hq with
        | 0, _ => exact ⟨w2.heap.size + 1, 0, _, c', l2, rfl, by omega, by rw [HL2.out]; simp [go_sem], rfl, ((((HR2.out.below hb3).alloc hw2 _).alloc (by simp; omega) _).more (by omega)), HB2.out, by rw [HL2.out]; omega⟩
      rintro e w4 ⟨rfl, rfl⟩
      rw [show Crc.int ([l2].foldl Crc.go 0#32) = S2 from HS2.out.symm]
      go_wp2_with fail
      go_ret
      exact ⟨rfl, ((hb2.trans (hb3.mono hwl)).alloc (by omega) _).alloc (by simp; omega) _⟩
end Go.Proofs.Ytanabifmeahfdaa
