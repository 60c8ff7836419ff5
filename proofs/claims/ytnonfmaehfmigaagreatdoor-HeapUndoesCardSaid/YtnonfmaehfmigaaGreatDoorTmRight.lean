/- Terms: may they be? -/
import Derived.Test.YtnonfmaehfmigaaGreatDoorTmLaw
import Derived.Test.YtnonfmaehfmigaaGreatDoorText
namespace Go.Proofs.YtnonfmaehfmigaaGreatDoor
open Go.RowKit

theorem tRights_snoc : ∀ (l : List Tm) (a : Tm), tRights (l ++ [a]) = (tRights l && tRight a)
  | [], a => by simp [tRights]
  | b :: l, a => by rw [List.cons_append, tRights, tRights, tRights_snoc l a, Bool.and_assoc]
theorem tRights_no {l : List Tm} {a : Tm} (ha : a ∈ l) (h : tRight a = false) : tRights l = false := by
  cases hl : tRights l with
  | false => rfl
  | true => rw [(tRights_all l).1 hl a ha] at h; cases h
theorem empty_size (s : ByteArray) : s.toList.isEmpty = decide (s.size = 0) := by
  rw [ByteArray.toList_eq]
  have h : s.data.toList.length = s.size := rfl
  cases hs : s.data.toList with
  | nil => rw [hs] at h; simp at h; simp [← h]
  | cons c l =>
    rw [hs] at h
    simp at h
    have : s.size ≠ 0 := by omega
    simp [this]
def tTop (k n : Int) (s : ByteArray) (m : Nat) : Bool :=
  if k = 0 then decide (0 ≤ n) && decide (n ≤ 999) && s.toList.isEmpty && ((m : Int) == 0) else if k = 1 then (n == 0) && nameOk s && ((m : Int) == 0) else if k = 2 then (n == 0) && nameOk s && decide (1 ≤ (m : Int)) && decide ((m : Int) ≤ 8) else if k = 3 then (n == 0) && s.toList.isEmpty && ((m : Int) == 2) else false
theorem beq_dec (a b : Int) : (a == b) = decide (a = b) := rfl
theorem tRight_top (k n : Int) (s : ByteArray) (l : List Tm) : tRight (.mk k n s l) = (tRights l && tTop k n s l.length) := by
  have h0 : decide ((l.length : Int) = 0) = decide (l.length = 0) := decide_eq_decide.2 (by omega)
  have h1 : decide (1 ≤ (l.length : Int)) = decide (1 ≤ l.length) := decide_eq_decide.2 (by omega)
  have h2 : decide ((l.length : Int) ≤ 8) = decide (l.length ≤ 8) := decide_eq_decide.2 (by omega)
  have h3 : decide ((l.length : Int) = 2) = decide (l.length = 2) := decide_eq_decide.2 (by omega)
  rw [tRight, tTop, empty_size]
  simp only [beq_dec, h0, h1, h2, h3]

set_option maxHeartbeats 3200000 in
theorem refRightT_any (t : Tm) : ∀ (v : TV) (w : World), Tr w (fun _ => True) t v → Calls Tryz.prog 47 #[tvV v] w fun e w' => e = .returned (.bool (tRight t)) ∧ Keeps w w' [] := by
  induction t using Tm.ind_ with
  | h k n s l ih =>
    intro v w ht
    cases ht with
    | mk _ _ _ _ A c vs hl hR hS hc hz hk =>
    have HT : Hid (Trs w (fun _ => True) l vs) := ⟨hl, hk⟩
    have HR := Lib.hid hR
    have HI := Lib.hid ih
    rw [tRight_top]
    obtain ⟨m, hm⟩ : ∃ m, l.length = m := ⟨_, rfl⟩
    have HM := Lib.hid hm
    have hmb : m ≤ 9223372036854775807 := by omega
    clear hl hR hS hc hz hk ih
    unfold tvV
    simp only [hm]
    clear hm
    have HB0 : Hid (Blk (w.alloc (.cells #[.int .i64 k, .int .i64 n, .string s, .slice A m c] 24)) w.heap.size 24 #[.int .i64 k, .int .i64 n, .string s, .slice A m c]) := Blk.new _ _ _
    have HK0 : Hid (Keeps w (w.alloc (.cells #[.int .i64 k, .int .i64 n, .string s, .slice A m c] 24)) []) := (Keeps.refl w []).alloc _
    go_enter Tryz.func47, Tryz.ntmps47
    go_wp2_with fail
    go_loopw [3] (fun i wr => ∃ j : Nat, j ≤ m ∧ i = .int .i64 j ∧ tRights (l.take j) = true ∧ Keeps w wr [] ∧ Blk wr w.heap.size 24 #[.int .i64 k, .int .i64 n, .string s, .slice A m c]) (fun i _ => m - (intOf i).toNat)
    case atStart => exact ⟨0, Nat.zero_le _, rfl, by simp [tRights], HK0.out, HB0.out⟩
    case round =>
      obtain ⟨j, hj, rfl, hpos, hkeep, hblk⟩ := hrel
      have HK := Lib.hid hkeep
      have HB := Lib.hid hblk
      have HP := Lib.hid hpos
      have q0 := hblk.cell 0
      have q1 := hblk.cell 1
      have q2 := hblk.cell 2
      have q3 := hblk.cell 3
      clear hkeep hblk hpos HB0 HK0
      by_cases hlt : j < m
      · obtain ⟨a, hx⟩ := at_of HM.out hlt
        have ha := List.mem_of_getElem? hx
        have htk : l.take (j + 1) = l.take j ++ [a] := by rw [List.take_add_one, hx]; rfl
        have hsn := tRights_snoc (l.take j) a
        rw [← htk, HP.out, Bool.true_and] at hsn
        have HN := Lib.hid hsn
        have hno := tRights_no ha
        obtain ⟨v', b, off, _, htr, rfl, hb, p0, p1, p2, p3⟩ := (HT.out.keep HK.out).get (HR.out.keep HK.out) hx
        have hca := HI.out a ha v' _ htr
        unfold tvV at hca
        clear q0 q1 q2
        have b0 : (0 : Int) ≤ (j : Int) := Int.natCast_nonneg _
        have b1 : (j : Int) < (m : Int) := by omega
        cases hr : tRight a with
        | false =>
          rw [hr] at hca
          have HC := Lib.hid hca
          have HO : Hid (tRights l = false) := hno hr
          clear hca htr hx ha hsn htk hno hr
          go_wp2_with fail
          refine HC.out.mono ?_
          rintro e w2 ⟨rfl, k2⟩
          go_wp2_with fail
          go_ret
          exact ⟨by rw [HO.out, Bool.false_and]; rfl, HK.out.trans k2⟩
        | true =>
          rw [hr] at hca
          have HC := Lib.hid hca
          have HT1 := Lib.hid hr
          clear hca htr hx ha hsn htk hno hr
          go_wp2_with fail
          refine HC.out.mono ?_
          rintro e w2 ⟨rfl, k2⟩
          go_wp2_with fail
          go_roundw
          case rel => exact ⟨j + 1, by omega, by go_num, by rw [HN.out, HT1.out], HK.out.trans k2, HB.out.keep k2 (by simp)⟩
          case measure => simp [intOf]; omega
      · obtain rfl : m = j := by omega
        have hall : tRights l = true := by have := HP.out; rw [← HM.out, List.take_length] at this; exact this
        have HA := Lib.hid hall
        clear hlt hj hall
        have HN := Lib.hid (refName_any s)
        have hF : tTop k n s m = tTop k n s m := rfl
        conv at hF => rhs; unfold tTop
        by_cases h0 : k = 0
        · subst h0
          rw [if_pos rfl] at hF
          have HF := Lib.hid hF
          clear hF
          cases d1 : decide (0 ≤ n)
          · rw [d1] at HF
            go_wp2_with fail
            go_ret
            exact ⟨by rw [HA.out, Bool.true_and, HF.out]; rfl, HK.out⟩
          cases d2 : decide (n ≤ 999)
          · rw [d1, d2] at HF
            go_wp2_with fail
            go_ret
            exact ⟨by rw [HA.out, Bool.true_and, HF.out]; rfl, HK.out⟩
          cases d3 : s.toList.isEmpty
          · rw [d1, d2, d3] at HF
            go_wp2_with fail
            go_ret
            exact ⟨by rw [HA.out, Bool.true_and, HF.out]; rfl, HK.out⟩
          cases d4 : ((m : Int) == 0)
          · rw [d1, d2, d3, d4] at HF
            go_wp2_with fail
            go_ret
            exact ⟨by rw [HA.out, Bool.true_and, HF.out]; rfl, HK.out⟩
          rw [d1, d2, d3, d4] at HF
          go_wp2_with fail
          go_ret
          exact ⟨by rw [HA.out, Bool.true_and, HF.out]; rfl, HK.out⟩
        by_cases h1 : k = 1
        · subst h1
          rw [if_neg (by omega), if_pos rfl] at hF
          have HF := Lib.hid hF
          clear hF HN
          cases d1 : (n == 0)
          · rw [d1] at HF
            go_wp2_with fail
            go_ret
            exact ⟨by rw [HA.out, Bool.true_and, HF.out]; rfl, HK.out⟩
          cases d2 : nameOk s
          · have HN := Lib.hid (refName_any s)
            rw [d2] at HN
            rw [d1, d2] at HF
            go_wp2_with fail
            refine (HN.out _).mono ?_
            rintro e w2 ⟨rfl, rfl⟩
            go_wp2_with fail
            go_ret
            exact ⟨by rw [HA.out, Bool.true_and, HF.out]; rfl, HK.out⟩
          have HN := Lib.hid (refName_any s)
          rw [d2] at HN
          cases d3 : ((m : Int) == 0)
          · rw [d1, d2, d3] at HF
            go_wp2_with fail
            refine (HN.out _).mono ?_
            rintro e w2 ⟨rfl, rfl⟩
            go_wp2_with fail
            go_ret
            exact ⟨by rw [HA.out, Bool.true_and, HF.out]; rfl, HK.out⟩
          rw [d1, d2, d3] at HF
          go_wp2_with fail
          refine (HN.out _).mono ?_
          rintro e w2 ⟨rfl, rfl⟩
          go_wp2_with fail
          go_ret
          exact ⟨by rw [HA.out, Bool.true_and, HF.out]; rfl, HK.out⟩
        by_cases h2 : k = 2
        · subst h2
          rw [if_neg (by omega), if_neg (by omega), if_pos rfl] at hF
          have HF := Lib.hid hF
          clear hF HN
          cases d1 : (n == 0)
          · rw [d1] at HF
            go_wp2_with fail
            go_ret
            exact ⟨by rw [HA.out, Bool.true_and, HF.out]; rfl, HK.out⟩
          cases d2 : nameOk s
          · have HN := Lib.hid (refName_any s)
            rw [d2] at HN
            rw [d1, d2] at HF
            go_wp2_with fail
            refine (HN.out _).mono ?_
            rintro e w2 ⟨rfl, rfl⟩
            go_wp2_with fail
            go_ret
            exact ⟨by rw [HA.out, Bool.true_and, HF.out]; rfl, HK.out⟩
          have HN := Lib.hid (refName_any s)
          rw [d2] at HN
          cases d3 : decide (1 ≤ (m : Int))
          · rw [d1, d2, d3] at HF
            go_wp2_with fail
            refine (HN.out _).mono ?_
            rintro e w2 ⟨rfl, rfl⟩
            go_wp2_with fail
            go_ret
            exact ⟨by rw [HA.out, Bool.true_and, HF.out]; rfl, HK.out⟩
          cases d4 : decide ((m : Int) ≤ 8)
          · rw [d1, d2, d3, d4] at HF
            go_wp2_with fail
            refine (HN.out _).mono ?_
            rintro e w2 ⟨rfl, rfl⟩
            go_wp2_with fail
            go_ret
            exact ⟨by rw [HA.out, Bool.true_and, HF.out]; rfl, HK.out⟩
          rw [d1, d2, d3, d4] at HF
          go_wp2_with fail
          refine (HN.out _).mono ?_
          rintro e w2 ⟨rfl, rfl⟩
          go_wp2_with fail
          go_ret
          exact ⟨by rw [HA.out, Bool.true_and, HF.out]; rfl, HK.out⟩
        by_cases h3 : k = 3
        · subst h3
          rw [if_neg (by omega), if_neg (by omega), if_neg (by omega), if_pos rfl] at hF
          have HF := Lib.hid hF
          clear hF
          cases d1 : (n == 0)
          · rw [d1] at HF
            go_wp2_with fail
            go_ret
            exact ⟨by rw [HA.out, Bool.true_and, HF.out]; rfl, HK.out⟩
          cases d2 : s.toList.isEmpty
          · rw [d1, d2] at HF
            go_wp2_with fail
            go_ret
            exact ⟨by rw [HA.out, Bool.true_and, HF.out]; rfl, HK.out⟩
          cases d3 : ((m : Int) == 2)
          · rw [d1, d2, d3] at HF
            go_wp2_with fail
            go_ret
            exact ⟨by rw [HA.out, Bool.true_and, HF.out]; rfl, HK.out⟩
          rw [d1, d2, d3] at HF
          go_wp2_with fail
          go_ret
          exact ⟨by rw [HA.out, Bool.true_and, HF.out]; rfl, HK.out⟩
        rw [if_neg h0, if_neg h1, if_neg h2, if_neg h3] at hF
        have HF := Lib.hid hF
        have e0 : (k == 0) = false := by simpa using h0
        have e1 : (k == 1) = false := by simpa using h1
        have e2 : (k == 2) = false := by simpa using h2
        have e3 : (k == 3) = false := by simpa using h3
        clear hF
        go_wp2_with fail
        go_ret
        exact ⟨by rw [HA.out, Bool.true_and, HF.out]; rfl, HK.out⟩
end Go.Proofs.YtnonfmaehfmigaaGreatDoor
