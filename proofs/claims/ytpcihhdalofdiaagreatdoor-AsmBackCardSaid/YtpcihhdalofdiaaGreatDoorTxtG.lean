/- Instructions in words: the document's names, Name, Named, Make. -/
import Derived.Test.YtpcihhdalofdiaaGreatDoorTxtF
import Derived.Test.YtpcihhdalofdiaaGreatDoorOpG
namespace Go.Proofs.YtpcihhdalofdiaaGreatDoor
open Go.RowKit

def NamesMade (w : World) (e : Ending) (w' : World) : Prop :=
  ∃ b, e = .returned (.slice (some ⟨b, 0, none⟩) 27 27) ∧ Keeps w w' [] ∧ ∀ k, k < 27 → w'.cell? ⟨b, k, none⟩ = some (.string (opName k))
theorem names_cells : ∀ k, k < 27 → ((opNames.map Value.string).toArray)[k]? = some (.string (opName k)) := by
  intro k hk
  have hl : opNames.length = 27 := rfl
  simp only [List.getElem?_toArray, List.getElem?_map]
  rw [List.getElem?_eq_getElem (by omega), opName, List.getD_eq_getElem?_getD, List.getElem?_eq_getElem (by omega)]
  rfl
set_option maxRecDepth 100000 in
theorem names_any (w : World) : Calls Tryz.prog 86 #[] w (NamesMade w) := by
  go_enter Tryz.func86, Tryz.ntmps86
  go_wp2_with fail
  go_ret
  exact ⟨_, rfl, (Keeps.refl w []).alloc _, fun k hk => ((Blk.new w 9 (opNames.map Value.string).toArray).cell k).trans (names_cells k hk)⟩
set_option maxHeartbeats 800000 in
theorem refName6_any (op : Int) (w : World) : Calls Tryz.prog 71 #[.int .i64 op] w fun e w' => e = .returned (.string (nameOf op)) ∧ Keeps w w' [] := by
  by_cases h0 : op < 0
  · have d0 : decide (op < 0) = true := by simpa using h0
    have HN : Hid (nameOf op = ⟨#[]⟩) := if_neg (by omega)
    clear h0
    go_enter Tryz.func71, Tryz.ntmps71
    go_wp2_with fail
    go_ret
    exact ⟨by rw [HN.out]; rfl, Keeps.refl _ _⟩
  have d0 : decide (op < 0) = false := by simpa using h0
  by_cases h1 : 26 < op
  · have d1 : decide (26 < op) = true := by simpa using h1
    have HN : Hid (nameOf op = ⟨#[]⟩) := if_neg (by omega)
    clear h0 h1
    go_enter Tryz.func71, Tryz.ntmps71
    go_wp2_with fail
    go_ret
    exact ⟨by rw [HN.out]; rfl, Keeps.refl _ _⟩
  have d1 : decide (26 < op) = false := by simpa using h1
  obtain ⟨k, rfl⟩ := Int.eq_ofNat_of_zero_le (show 0 ≤ op by omega)
  have hk : k < 27 := by omega
  have HN : Hid (nameOf (k : Int) = opName k) := nameOf_of rfl hk
  have b1 : (k : Int) < 27 := by omega
  clear h0 h1
  go_enter Tryz.func71, Tryz.ntmps71
  go_wp2_with fail
  refine (names_any _).mono ?_
  rintro e w1 ⟨b, rfl, k1, hc⟩
  have q := hc k hk
  have HK := Lib.hid k1
  clear hc k1
  go_wp2_with fail
  go_ret
  exact ⟨by rw [HN.out]; rfl, HK.out⟩
theorem names_full : ∀ k : Nat, k < 27 → nameT (k : Int) ≠ [] := by decide +kernel
set_option maxHeartbeats 1600000 in
theorem refNamed_any (s : ByteArray) (w : World) : Calls Tryz.prog 56 #[.string s] w fun e w' => e = .returned (.int .i64 (namedT s.data.toList)) ∧ Keeps w w' [] := by
  go_enter Tryz.func56, Tryz.ntmps56
  go_wp2_with fail
  refine (names_any _).mono ?_
  rintro e w1 ⟨b, rfl, k1, hc⟩
  have HC := Lib.hid hc
  have HK := Lib.hid k1
  clear hc k1
  go_wp2_with fail
  go_loopw [4] (fun i4 wr => ∃ j : Nat, j ≤ 27 ∧ i4 = .int .i64 j ∧ wr = w1 ∧ ∀ i : Nat, i < j → nameT (i : Int) ≠ s.data.toList) (fun i4 _ => 27 - (intOf i4).toNat)
  case atStart => exact ⟨0, Nat.zero_le _, rfl, rfl, fun i hi => absurd hi (Nat.not_lt_zero _)⟩
  case round =>
    obtain ⟨j, hj, rfl, rfl, hno⟩ := hrel
    have HN := Lib.hid hno
    clear hno
    by_cases hlj : j < 27
    · have q0 := HC.out j hlj
      have b1 : (j : Int) < 27 := by omega
      cases he : ((opName j).toList == s.toList) with
      | true =>
        have hne := (nameT_at hlj).trans (bytes_eq.1 he)
        have HE : Hid (namedT s.data.toList = j) := named_hit (fun h => names_full j hlj (hne.trans h)) hlj hne HN.out
        clear hne
        go_wp2_with fail
        go_ret
        exact ⟨by rw [HE.out]; rfl, HK.out⟩
      | false =>
        have HE : Hid (nameT (j : Int) ≠ s.data.toList) := by
          intro h
          rw [bytes_eq.2 ((nameT_at hlj).symm.trans h)] at he
          cases he
        go_wp2_with fail
        go_roundw
        case rel =>
          refine ⟨j + 1, by omega, by go_num, by first | rfl | trivial, fun i hi => ?_⟩
          rcases Nat.lt_succ_iff_lt_or_eq.1 hi with h | rfl
          · exact HN.out i h
          · exact HE.out
        case measure => simp [intOf]; omega
    · obtain rfl : j = 27 := by omega
      have HE : Hid (namedT s.data.toList = -1) := by
        by_cases hs : s.data.toList = []
        · exact if_pos hs
        · exact named_miss hs HN.out
      go_wp2_with fail
      go_ret
      exact ⟨by rw [HE.out]; rfl, HK.out⟩
theorem insC6_take4 (op : Int) (l : List Int) : insC6 op (l.take 4) = insC6 op l := by
  match l with
  | [] => rfl
  | [a] => rfl
  | [a, b] => rfl
  | [a, b, c] => rfl
  | a :: b :: c :: d :: l => simp [insC6]
end Go.Proofs.YtpcihhdalofdiaaGreatDoor
