/- Instructions in words: the document's Num. -/
import Derived.Test.YtpcihhdalofdiaaGreatDoorTxtH
namespace Go.Proofs.YtpcihhdalofdiaaGreatDoor
open Go.RowKit

theorem dat_at (s : ByteArray) (j : Nat) (h : j < s.size) : s.data.toList[j]? = some s[j] := by
  rw [Array.getElem?_toList, Array.getElem?_eq_getElem h]
  rfl
theorem valT_lt (l : Txt) (h : ∀ c ∈ l, isDig c = true) : valT l < 10 ^ l.length := by
  have go : ∀ (l : Txt) (a : Nat), (∀ c ∈ l, isDig c = true) → l.foldl (fun n c => 10 * n + (c.toNat - 48)) a < (a + 1) * 10 ^ l.length := by
    intro l
    induction l with
    | nil => intro a _; simp
    | cons c l ih =>
      intro a h
      have h2 := h c (by simp)
      simp only [isDig, Bool.and_eq_true, decide_eq_true_eq] at h2
      have h1 := ih (10 * a + (c.toNat - 48)) (fun x hx => h x (by simp [hx]))
      rw [List.foldl_cons, List.length_cons, Nat.pow_succ]
      refine Nat.lt_of_lt_of_le h1 ?_
      rw [Nat.mul_comm (10 ^ l.length) 10, ← Nat.mul_assoc]
      exact Nat.mul_le_mul_right _ (by omega)
  have := go l 0 h
  rw [valT]
  simpa using this
theorem numT_size {w : Txt} (h : w.length < 1 ∨ 7 < w.length) : numT w = -1 := if_pos h
theorem numT_bad {w : Txt} {j : Nat} {c : UInt8} (hj : w[j]? = some c) (hc : isDig c = false) : numT w = -1 := by
  unfold numT
  split
  · rfl
  · rw [if_pos]
    rw [List.all_eq_false]
    exact ⟨c, List.mem_of_getElem? hj, by simp [hc]⟩
theorem numT_ok {w : Txt} (h1 : ¬ (w.length < 1 ∨ 7 < w.length)) (h : ∀ c ∈ w, isDig c = true) : numT w = if Lib.decDigits (valT w) = w then (valT w : Int) else -1 := by
  unfold numT
  rw [if_neg h1, if_neg]
  rw [List.all_eq_true.2 h]
  simp
theorem isDig_int (c : UInt8) : isDig c = (decide ((48 : Int) ≤ (c.toNat : Int)) && decide ((c.toNat : Int) ≤ 57)) := by
  unfold isDig
  congr 1 <;> simp <;> omega
attribute [local irreducible] numT valT
set_option maxHeartbeats 3200000 in
theorem refNum_any (s : ByteArray) (w : World) : Calls Tryz.prog 55 #[.string s] w fun e w' => e = .returned (.int .i64 (numT s.data.toList)) ∧ ∃ m, w' = w.drewN m := by
  have hsz : s.data.toList.length = s.size := rfl
  by_cases h0 : s.size < 1
  · have d0 : decide ((s.size : Int) < 1) = true := by simp only [decide_eq_true_eq]; omega
    have HE : Hid (numT s.data.toList = -1) := numT_size (.inl (by omega))
    clear h0 hsz
    go_enter Tryz.func55, Tryz.ntmps55
    go_wp2_with fail
    go_ret
    exact ⟨by rw [HE.out]; rfl, 0, rfl⟩
  have d0 : decide ((s.size : Int) < 1) = false := by simp only [decide_eq_false_iff_not]; omega
  by_cases h7 : 7 < s.size
  · have d1 : decide (7 < (s.size : Int)) = true := by simp only [decide_eq_true_eq]; omega
    have HE : Hid (numT s.data.toList = -1) := numT_size (.inr (by omega))
    clear h7 h0 hsz
    go_enter Tryz.func55, Tryz.ntmps55
    go_wp2_with fail
    go_ret
    exact ⟨by rw [HE.out]; rfl, 0, rfl⟩
  have d1 : decide (7 < (s.size : Int)) = false := by simp only [decide_eq_false_iff_not]; omega
  have HOk : Hid ((∀ c ∈ s.data.toList, isDig c = true) → numT s.data.toList = if Lib.decDigits (valT s.data.toList) = s.data.toList then (valT s.data.toList : Int) else -1) := fun h => numT_ok (by omega) h
  go_enter Tryz.func55, Tryz.ntmps55
  go_wp2_with fail
  go_loopw [3, 4] (fun v3 i4 wr => ∃ j : Nat, j ≤ s.size ∧ i4 = .int .i64 j ∧ v3 = .int .i64 (valT (s.data.toList.take j)) ∧ (∀ c ∈ s.data.toList.take j, isDig c = true) ∧ ∃ d, wr = w.drewN d) (fun _ i4 _ => s.size - (intOf i4).toNat)
  case atStart => exact ⟨0, Nat.zero_le _, rfl, by rw [List.take_zero]; unfold valT; rfl, by simp, 0, rfl⟩
  case round =>
    obtain ⟨j, hj, rfl, rfl, hd, d, rfl⟩ := hrel
    have hv := valT_lt _ hd
    have hv2 : (10 : Nat) ^ (s.data.toList.take j).length ≤ 10 ^ 7 := Nat.pow_le_pow_right (by omega) (by rw [List.length_take]; omega)
    have HD := Lib.hid hd
    clear hd
    by_cases hlj : j < s.size
    · have hx := dat_at s j hlj
      have b1 : (j : Int) < (s.size : Int) := by omega
      have hr := s[j].toNat_lt
      have HX := Lib.hid hx
      clear hx
      obtain ⟨x, hxs⟩ : ∃ x, s[j] = x := ⟨_, rfl⟩
      rw [hxs] at HX hr
      by_cases c1 : x.toNat < 48
      · have HE : Hid (numT s.data.toList = -1) := numT_bad HX.out (by simp [isDig]; omega)
        have c2 : (x.toNat : Int) < 48 := by omega
        clear c1
        go_wp2_with fail
        go_ret
        exact ⟨by rw [HE.out]; rfl, d, rfl⟩
      have c2 : ¬ (x.toNat : Int) < 48 := by omega
      by_cases c3 : 57 < x.toNat
      · have HE : Hid (numT s.data.toList = -1) := numT_bad HX.out (by simp [isDig]; omega)
        have c4 : 57 < (x.toNat : Int) := by omega
        clear c3
        go_wp2_with fail
        go_ret
        exact ⟨by rw [HE.out]; rfl, d, rfl⟩
      have c4 : ¬ 57 < (x.toNat : Int) := by omega
      have hdx : isDig x = true := by simp [isDig]; omega
      have HTk : Hid (s.data.toList.take (j + 1) = s.data.toList.take j ++ [x]) := by show _ = _; rw [List.take_add_one, HX.out]; rfl
      have HVx : Hid (valT (s.data.toList.take (j + 1)) = 10 * valT (s.data.toList.take j) + (x.toNat - 48)) := by show _ = _; rw [HTk.out, valT_snoc]
      have HDx := Lib.hid hdx
      have hv3 : valT (s.data.toList.take j) < 10000000 := by omega
      generalize valT (s.data.toList.take j) = vj at *
      clear c1 c3 hv hv2 hdx
      go_wp2_with fail
      go_roundw
      case rel =>
        refine ⟨j + 1, by omega, by go_num, ?_, ?_, d, rfl⟩
        · rw [HVx.out]
          have : ((10 * vj + (x.toNat - 48) : Nat) : Int) = 10 * (vj : Int) + ((x.toNat : Int) - 48) := by omega
          rw [this]
        · rw [HTk.out]
          intro c hc
          rcases List.mem_append.1 hc with h | h
          · exact HD.out c h
          · rw [List.mem_singleton.1 h]; exact HDx.out
      case measure => simp [intOf]; omega
    · obtain rfl : j = s.size := by omega
      have hall : s.data.toList.take s.size = s.data.toList := List.take_of_length_le (by omega)
      rw [hall] at HD hv hv2 ⊢
      have HE := HOk.out HD.out
      have hbig : valT s.data.toList ≤ 9223372036854775807 := by omega
      have HN := Lib.hid (num_any (valT s.data.toList) (w.drewN d) hbig)
      rw [digits_stB] at HN
      by_cases he : Lib.decDigits (valT s.data.toList) = s.data.toList
      · have d3 : ((stB (Lib.decDigits (valT s.data.toList))).toList == s.toList) = true := bytes_eq.2 (by rw [stB_list, he])
        have HE2 : Hid (numT s.data.toList = (valT s.data.toList : Int)) := HE.trans (if_pos he)
        clear HE he hv hv2 hbig
        generalize valT s.data.toList = v at *
        generalize Lib.decDigits v = t at *
        go_wp2_with fail
        refine HN.out.mono ?_
        rintro e w' ⟨rfl, m, rfl⟩
        go_wp2_with fail
        go_ret
        exact ⟨by rw [HE2.out]; rfl, d + m, rfl⟩
      · have d3 : ((stB (Lib.decDigits (valT s.data.toList))).toList == s.toList) = false := by
          cases h : ((stB (Lib.decDigits (valT s.data.toList))).toList == s.toList) with
          | false => rfl
          | true => exact absurd ((stB_list _).symm.trans (bytes_eq.1 h)) he
        have HE2 : Hid (numT s.data.toList = -1) := HE.trans (if_neg he)
        clear HE he hv hv2 hbig
        generalize valT s.data.toList = v at *
        generalize Lib.decDigits v = t at *
        go_wp2_with fail
        refine HN.out.mono ?_
        rintro e w' ⟨rfl, m, rfl⟩
        go_wp2_with fail
        go_ret
        exact ⟨by rw [HE2.out]; rfl, d + m, rfl⟩
end Go.Proofs.YtpcihhdalofdiaaGreatDoor
