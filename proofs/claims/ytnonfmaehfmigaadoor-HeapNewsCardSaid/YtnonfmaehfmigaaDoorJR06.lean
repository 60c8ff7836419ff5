/- Terms: may they be? -/
import Derived.Test.YtnonfmaehfmigaaDoorJR02
import Derived.Test.YtnonfmaehfmigaaDoorJR05
namespace Go.Proofs.YtnonfmaehfmigaaDoor
open Go.RowKit

theorem tRights_snoc : ∀ (l : List Tm) (a : Tm), tRights (l ++ [a]) = (tRights l && tRight a)
  | [], a => by simp [tRights]
  | b :: l, a => by rw [List.cons_append, tRights, tRights, tRights_snoc l a, Bool.and_assoc]
theorem tRights_no {l : List Tm} {a : Tm} (ha : a ∈ l) (h : tRight a = false) : tRights l = false := by
  cases hl : tRights l with
  | false => rfl
  | true => rw [(tRights_all l).1 hl a ha] at h; cases h
theorem empty_size (s : ByteArray) : s.toList.isEmpty = decide (s.size = 0) := by
  rw [ByteArray.toList_eq]
  have h : s.data.toList.length = s.size := rfl
  cases hs : s.data.toList with
  | nil => rw [hs] at h; simp at h; simp [← h]
  | cons c l =>
    rw [hs] at h
    simp at h
    have : s.size ≠ 0 := by omega
    simp [this]
def tTop (k n : Int) (s : ByteArray) (m : Nat) : Bool :=
  if k = 0 then decide (0 ≤ n) && decide (n ≤ 999) && s.toList.isEmpty && ((m : Int) == 0) else if k = 1 then (n == 0) && nameOk s && ((m : Int) == 0) else if k = 2 then (n == 0) && nameOk s && decide (1 ≤ (m : Int)) && decide ((m : Int) ≤ 8) else if k = 3 then (n == 0) && s.toList.isEmpty && ((m : Int) == 2) else false
theorem beq_dec (a b : Int) : (a == b) = decide (a = b) := rfl
theorem tRight_top (k n : Int) (s : ByteArray) (l : List Tm) : tRight (.mk k n s l) = (tRights l && tTop k n s l.length) := by
  have h0 : decide ((l.length : Int) = 0) = decide (l.length = 0) := decide_eq_decide.2 (by omega)
  have h1 : decide (1 ≤ (l.length : Int)) = decide (1 ≤ l.length) := decide_eq_decide.2 (by omega)
  have h2 : decide ((l.length : Int) ≤ 8) = decide (l.length ≤ 8) := decide_eq_decide.2 (by omega)
  have h3 : decide ((l.length : Int) = 2) = decide (l.length = 2) := decide_eq_decide.2 (by omega)
  rw [tRight, tTop, empty_size]
  simp only [beq_dec, h0, h1, h2, h3]

set_option maxHeartbeats 3200000 in
theorem refRightT_any (t : Tm) : ∀ (v : TV) (w : World), Tr w (fun _ => True) t v → Calls Tryd.prog 58 #[tvV v] w fun e w' => e = .returned (.bool (tRight t)) ∧ Keeps w w' [] := by
  induction t using Tm.ind_ with
  | h k n s l ih =>
    intro v w ht
    cases ht with
    | mk _ _ _ _ A c vs hl hR hS hc hz hk =>
    have HT : Hid (Trs w (fun _ => True) l vs) := ⟨hl, hk⟩
    have HR := Lib.hid hR
    have HI := Lib.hid ih
    rw [tRight_top]
    obtain ⟨m, hm⟩ : ∃ m, l.length = m := ⟨_, rfl⟩
    have HM := Lib.hid hm
    have hmb : m ≤ 9223372036854775807 := by omega
    clear hl hR hS hc hz hk ih
    unfold tvV
    simp only [hm]
    clear hm
    have HB0 : Hid (Blk (w.alloc (.cells #[.int .i64 k, .int .i64 n, .string s, .slice A m c] 24)) w.heap.size 24 #[.int .i64 k, .int .i64 n, .string s, .slice A m c]) := Blk.new _ _ _
    have HK0 : Hid (Keeps w (w.alloc (.cells #[.int .i64 k, .int .i64 n, .string s, .slice A m c] 24)) []) := (Keeps.refl w []).alloc _
    go_enter Tryd.func58, Tryd.ntmps58
    go_wp2_with fail
    go_loopw [3] (fun i wr => ∃ j : Nat, j ≤ m ∧ i = .int .i64 j ∧ tRights (l.take j) = true ∧ Keeps w wr [] ∧ Blk wr w.heap.size 24 #[.int .i64 k, .int .i64 n, .string s, .slice A m c]) (fun i _ => m - (intOf i).toNat)
    case atStart => exact ⟨0, Nat.zero_le _, rfl, by simp [tRights], HK0.out, HB0.out⟩
    case round =>
      obtain ⟨j, hj, rfl, hpos, hkeep, hblk⟩ := hrel
      have HK := Lib.hid hkeep
      have HB := Lib.hid hblk
      have HP := Lib.hid hpos
      have q0 := hblk.cell 0
      have q1 := hblk.cell 1
      have q2 := hblk.cell 2
      have q3 := hblk.cell 3
      clear hkeep hblk hpos HB0 HK0
      by_cases hlt : j < m
      · obtain ⟨a, hx⟩ := at_of HM.out hlt
        have ha := List.mem_of_getElem? hx
        have htk : l.take (j + 1) = l.take j ++ [a] := by rw [List.take_add_one, hx]; rfl
        have hsn := tRights_snoc (l.take j) a
        rw [← htk, HP.out, Bool.true_and] at hsn
        have HN := Lib.hid hsn
        have hno := tRights_no ha
        obtain ⟨v', b, off, _, htr, rfl, hb, p0, p1, p2, p3⟩ := (HT.out.keep HK.out).get (HR.out.keep HK.out) hx
        have hca := HI.out a ha v' _ htr
        unfold tvV at hca
        clear q0 q1 q2
        have b0 : (0 : Int) ≤ (j : Int) := Int.natCast_nonneg _
        have b1 : (j : Int) < (m : Int) := by omega
        cases hr : tRight a with
        | false =>
          rw [hr] at hca
          have HC := Lib.hid hca
          have HO : Hid (tRights l = false) := hno hr
          clear hca htr hx ha hsn htk hno hr
          go_wp2_with fail
          refine HC.out.mono ?_
          rintro e w2 ⟨rfl, k2⟩
          go_wp2_with fail
          go_ret
          exact ⟨by rw [HO.out, Bool.false_and]; rfl, HK.out.trans k2⟩
        | true =>
          rw [hr] at hca
          have HC := Lib.hid hca
          have HT1 := Lib.hid hr
          clear hca htr hx ha hsn htk hno hr
          go_wp2_with fail
          refine HC.out.mono ?_
          rintro e w2 ⟨rfl, k2⟩
          go_wp2_with fail
          go_roundw
          case rel => exact ⟨j + 1, by omega, by go_num, by rw [HN.out, HT1.out], HK.out.trans k2, HB.out.keep k2 (by simp)⟩
          case measure => simp [intOf]; omega
      · obtain rfl : m = j := by omega
        have hall : tRights l = true := by have := HP.out; rw [← HM.out, List.take_length] at this; exact this
        have HA := Lib.hid hall
        clear hlt hj hall
        have HN := Lib.hid (refName_any s)
        have hF : tTop k n s m = tTop k n s m := rfl
        conv at hF => rhs; unfold tTop
        by_cases h0 : k = 0
        · subst h0
          rw [if_pos rfl] at hF
          have HF := Lib.hid hF
          clear hF
          cases d1 : decide (0 ≤ n)
          · rw [d1] at HF
            go_wp2_with fail
            go_ret
            exact ⟨by rw [HA.out, Bool.true_and, HF.out]; rfl, HK.out⟩
          cases d2 : decide (n ≤ 999)
          · rw [d1, d2] at HF
            go_wp2_with fail
            go_ret
            exact ⟨by rw [HA.out, Bool.true_and, HF.out]; rfl, HK.out⟩
          cases d3 : s.toList.isEmpty
          · rw [d1, d2, d3] at HF
            go_wp2_with fail
            go_ret
            exact ⟨by rw [HA.out, Bool.true_and, HF.out]; rfl, HK.out⟩
          cases d4 : ((m : Int) == 0)
          · rw [d1, d2, d3, d4] at HF
            go_wp2_with fail
            go_ret
            exact ⟨by rw [HA.out, Bool.true_and, HF.out]; rfl, HK.out⟩
          rw [d1, d2, d3, d4] at HF
          go_wp2_with fail
          go_ret
          exact ⟨by rw [HA.out, Bool.true_and, HF.out]; rfl, HK.out⟩
        by_cases h1 : k = 1
        · subst h1
          rw [if_neg (by omega), if_pos rfl] at hF
          have HF := Lib.hid hF
          clear hF HN
          cases d1 : (n == 0)
          · rw [d1] at HF
            go_wp2_with fail
            go_ret
            exact ⟨by rw [HA.out, Bool.true_and, HF.out]; rfl, HK.out⟩
          cases d2 : nameOk s
          · have HN := Lib.hid (refName_any s)
            rw [d2] at HN
            rw [d1, d2] at HF
            go_wp2_with fail
            refine (HN.out _).mono ?_
            rintro e w2 ⟨rfl, rfl⟩
            go_wp2_with fail
            go_ret
            exact ⟨by rw [HA.out, Bool.true_and, HF.out]; rfl, HK.out⟩
          have HN := Lib.hid (refName_any s)
          rw [d2] at HN
          cases d3 : ((m : Int) == 0)
          · rw [d1, d2, d3] at HF
            go_wp2_with fail
            refine (HN.out _).mono ?_
            rintro e w2 ⟨rfl, rfl⟩
            go_wp2_with fail
            go_ret
            exact ⟨by rw [HA.out, Bool.true_and, HF.out]; rfl, HK.out⟩
          rw [d1, d2, d3] at HF
          go_wp2_with fail
          refine (HN.out _).mono ?_
          rintro e w2 ⟨rfl, rfl⟩
          go_wp2_with fail
          go_ret
          exact ⟨by rw [HA.out, Bool.true_and, HF.out]; rfl, HK.out⟩
        by_cases h2 : k = 2
        · subst h2
          rw [if_neg (by omega), if_neg (by omega), if_pos rfl] at hF
          have HF := Lib.hid hF
          clear hF HN
          cases d1 : (n == 0)
          · rw [d1] at HF
            go_wp2_with fail
            go_ret
            exact ⟨by rw [HA.out, Bool.true_and, HF.out]; rfl, HK.out⟩
          cases d2 : nameOk s
          · have HN := Lib.hid (refName_any s)
            rw [d2] at HN
            rw [d1, d2] at HF
            go_wp2_with fail
            refine (HN.out _).mono ?_
            rintro e w2 ⟨rfl, rfl⟩
            go_wp2_with fail
            go_ret
            exact ⟨by rw [HA.out, Bool.true_and, HF.out]; rfl, HK.out⟩
          have HN := Lib.hid (refName_any s)
          rw [d2] at HN
          cases d3 : decide (1 ≤ (m : Int))
          · rw [d1, d2, d3] at HF
            go_wp2_with fail
            refine (HN.out _).mono ?_
            rintro e w2 ⟨rfl, rfl⟩
            go_wp2_with fail
            go_ret
            exact ⟨by rw [HA.out, Bool.true_and, HF.out]; rfl, HK.out⟩
          cases d4 : decide ((m : Int) ≤ 8)
          · rw [d1, d2, d3, d4] at HF
            go_wp2_with fail
            refine (HN.out _).mono ?_
            rintro e w2 ⟨rfl, rfl⟩
            go_wp2_with fail
            go_ret
            exact ⟨by rw [HA.out, Bool.true_and, HF.out]; rfl, HK.out⟩
          rw [d1, d2, d3, d4] at HF
          go_wp2_with fail
          refine (HN.out _).mono ?_
          rintro e w2 ⟨rfl, rfl⟩
          go_wp2_with fail
          go_ret
          exact ⟨by rw [HA.out, Bool.true_and, HF.out]; rfl, HK.out⟩
        by_cases h3 : k = 3
        · subst h3
          rw [if_neg (by omega), if_neg (by omega), if_neg (by omega), if_pos rfl] at hF
          have HF := Lib.hid hF
          clear hF
          cases d1 : (n == 0)
          · rw [d1] at HF
            go_wp2_with fail
            go_ret
            exact ⟨by rw [HA.out, Bool.true_and, HF.out]; rfl, HK.out⟩
          cases d2 : s.toList.isEmpty
          · rw [d1, d2] at HF
            go_wp2_with fail
            go_ret
            exact ⟨by rw [HA.out, Bool.true_and, HF.out]; rfl, HK.out⟩
          cases d3 : ((m : Int) == 2)
          · rw [d1, d2, d3] at HF
            go_wp2_with fail
            go_ret
            exact ⟨by rw [HA.out, Bool.true_and, HF.out]; rfl, HK.out⟩
          rw [d1, d2, d3] at HF
          go_wp2_with fail
          go_ret
          exact ⟨by rw [HA.out, Bool.true_and, HF.out]; rfl, HK.out⟩
        rw [if_neg h0, if_neg h1, if_neg h2, if_neg h3] at hF
        have HF := Lib.hid hF
        have e0 : (k == 0) = false := by simpa using h0
        have e1 : (k == 1) = false := by simpa using h1
        have e2 : (k == 2) = false := by simpa using h2
        have e3 : (k == 3) = false := by simpa using h3
        clear hF
        go_wp2_with fail
        go_ret
        exact ⟨by rw [HA.out, Bool.true_and, HF.out]; rfl, HK.out⟩
end Go.Proofs.YtnonfmaehfmigaaDoor

/- Terms: the program's Right. -/
namespace Go.Proofs.YtnonfmaehfmigaaDoor
open Go.RowKit

set_option maxHeartbeats 800000 in
theorem rightIdx_any (l : List Tm) (vs : List TV) (A : Option Addr) (m c : Nat) (w : World) (ih : ∀ a ∈ l, ∀ (v : TV) (w : World), Tr w (fun _ => True) a v → Calls Tryd.prog 38 #[tvV v] w fun e w' => e = .returned (.bool (tRight a)) ∧ Keeps w w' [])
    (hT : Trs w (fun _ => True) l vs) (hR : Rd w A (vs.flatMap tvE)) (hm : l.length = m) (hb : m ≤ 9223372036854775807) :
    Calls Tryd.prog 83 #[.slice A m c, .func (.func 69) #[] #[]] w fun e w' => ∃ r : Int, e = .returned (.int .i64 r) ∧ decide (0 ≤ r) = !tRights l ∧ Keeps w w' [] := by
  have HC1 : Hid (∀ a ∈ l, ∀ (v : TV) (w : World), Tr w (fun _ => True) a v → Calls Tryd.prog 69 #[tvV v] w fun e w' => e = .returned (.bool (!tRight a)) ∧ Keeps w w' []) := by
    intro a ha v w ht
    have hcl := ih a ha v _ (ht.keep ((Keeps.refl w []).alloc (.cells #[.int .i64 v.k, .int .i64 v.n, .string v.s, .slice v.A v.len v.c] 34)))
    unfold tvV at hcl ⊢
    have HL := Lib.hid hcl
    have HK0 : Hid (Keeps w (w.alloc (.cells #[.int .i64 v.k, .int .i64 v.n, .string v.s, .slice v.A v.len v.c] 34)) []) := (Keeps.refl w []).alloc _
    clear hcl ih ht ha
    go_enter Tryd.func69, Tryd.ntmps69
    go_wp2_with fail
    refine HL.out.mono ?_
    rintro e w1 ⟨rfl, k1⟩
    go_wp2_with fail
    go_ret
    exact ⟨rfl, HK0.out.trans k1⟩
  have HT := Lib.hid hT
  have HR := Lib.hid hR
  have HM := Lib.hid hm
  clear ih hT hR hm
  go_enter Tryd.func83, Tryd.ntmps83
  go_wp2_with fail
  go_loopw [8] (fun i wr => ∃ j : Nat, j ≤ m ∧ i = .int .i64 j ∧ tRights (l.take j) = true ∧ Keeps w wr []) (fun i _ => m - (intOf i).toNat)
  case atStart => exact ⟨0, Nat.zero_le _, rfl, by simp [tRights], Keeps.refl _ _⟩
  case round =>
    obtain ⟨j, hj, rfl, hpos, hkeep⟩ := hrel
    have HK := Lib.hid hkeep
    have HP := Lib.hid hpos
    clear hkeep hpos
    by_cases hlt : j < m
    · obtain ⟨a, hx⟩ := at_of HM.out hlt
      have ha := List.mem_of_getElem? hx
      have htk : l.take (j + 1) = l.take j ++ [a] := by rw [List.take_add_one, hx]; rfl
      have hsn := tRights_snoc (l.take j) a
      rw [← htk, HP.out, Bool.true_and] at hsn
      have HN := Lib.hid hsn
      have hno := tRights_no ha
      obtain ⟨v', b, off, _, htr, rfl, hb, p0, p1, p2, p3⟩ := (HT.out.keep HK.out).get (HR.out.keep HK.out) hx
      have hca := HC1.out a ha v' _ htr
      unfold tvV at hca
      have b0 : (0 : Int) ≤ (j : Int) := Int.natCast_nonneg _
      have b1 : (j : Int) < (m : Int) := by omega
      cases hr : tRight a with
      | false =>
        rw [hr] at hca
        have HC := Lib.hid hca
        have HO : Hid (tRights l = false) := hno hr
        clear hca htr hx ha hsn htk hno hr
        go_wp2_with fail
        refine HC.out.mono ?_
        rintro e w2 ⟨rfl, k2⟩
        go_wp2_with fail
        go_ret
        exact ⟨(j : Int), rfl, by rw [HO.out]; simp, HK.out.trans k2⟩
      | true =>
        rw [hr] at hca
        have HC := Lib.hid hca
        have HT1 := Lib.hid hr
        clear hca htr hx ha hsn htk hno hr
        go_wp2_with fail
        refine HC.out.mono ?_
        rintro e w2 ⟨rfl, k2⟩
        go_wp2_with fail
        go_roundw
        case rel => exact ⟨j + 1, by omega, by go_num, by rw [HN.out, HT1.out], HK.out.trans k2⟩
        case measure => simp [intOf]; omega
    · obtain rfl : m = j := by omega
      have hall : tRights l = true := by have := HP.out; rw [← HM.out, List.take_length] at this; exact this
      have HA := Lib.hid hall
      clear hlt hj hall
      go_wp2_with fail
      go_ret
      exact ⟨-1, rfl, by rw [HA.out]; rfl, HK.out⟩
set_option maxHeartbeats 3200000 in
theorem tright_any (t : Tm) : ∀ (v : TV) (w : World), Tr w (fun _ => True) t v → Calls Tryd.prog 38 #[tvV v] w fun e w' => e = .returned (.bool (tRight t)) ∧ Keeps w w' [] := by
  induction t using Tm.ind_ with
  | h k n s l ih =>
    intro v w ht
    cases ht with
    | mk _ _ _ _ A c vs hl hR hS hc hz hk =>
    rw [tRight_top]
    obtain ⟨m, hm⟩ : ∃ m, l.length = m := ⟨_, rfl⟩
    unfold tvV
    simp only [hm]
    have K0 : Keeps w (w.alloc (.cells #[.int .i64 k, .int .i64 n, .string s, .slice A m c] 34)) [] := (Keeps.refl w []).alloc _
    have HI : Hid (Calls Tryd.prog 68 #[.slice A m c, .func (.func 69) #[] #[]] (w.alloc (.cells #[.int .i64 k, .int .i64 n, .string s, .slice A m c] 34)) fun e w' => e = .returned (.bool (!tRights l)) ∧ Keeps (w.alloc (.cells #[.int .i64 k, .int .i64 n, .string s, .slice A m c] 34)) w' []) := by
      have HX := Lib.hid (rightIdx_any l vs A m c (w.alloc (.cells #[.int .i64 k, .int .i64 n, .string s, .slice A m c] 34)) ih ((show Trs w (fun _ => True) l vs from ⟨hl, hk⟩).keep K0) (hR.keep K0) hm (by omega))
      clear K0 ih hl hR hS hc hz hk hm
      go_enter Tryd.func68, Tryd.ntmps68
      go_wp2_with fail
      refine HX.out.mono ?_
      rintro e w1 ⟨r, rfl, hr, k1⟩
      go_wp2_with fail
      go_ret
      exact ⟨by rw [← hr]; rfl, k1⟩
    have HB0 : Hid (Blk (w.alloc (.cells #[.int .i64 k, .int .i64 n, .string s, .slice A m c] 34)) w.heap.size 34 #[.int .i64 k, .int .i64 n, .string s, .slice A m c]) := Blk.new _ _ _
    have HK0 := Lib.hid K0
    clear hl hR hS hc hz hk hm ih K0
    go_enter Tryd.func38, Tryd.ntmps38
    cases hall : tRights l with
    | false =>
      rw [hall] at HI
      clear hall
      go_wp2_with fail
      refine HI.out.mono ?_
      rintro e wr ⟨rfl, k1⟩
      go_wp2_with fail
      go_ret
      exact ⟨rfl, HK0.out.trans k1⟩
    | true =>
    rw [hall] at HI
    clear hall
    go_wp2_with fail
    refine HI.out.mono ?_
    rintro e wr ⟨rfl, k1⟩
    have hblk := HB0.out.keep k1 (by simp)
    have HK := Lib.hid (HK0.out.trans k1)
    have q0 := hblk.cell 0
    have q1 := hblk.cell 1
    have q2 := hblk.cell 2
    have q3 := hblk.cell 3
    clear hblk HB0 HK0 HI k1
    have HN := Lib.hid (name_any s)
    have hF : tTop k n s m = tTop k n s m := rfl
    conv at hF => rhs; unfold tTop
    by_cases h0 : k = 0
    · subst h0
      rw [if_pos rfl] at hF
      have HF := Lib.hid hF
      clear hF
      cases d1 : decide (0 ≤ n)
      · rw [d1] at HF
        go_wp2_with fail
        go_ret
        exact ⟨by rw [Bool.true_and, HF.out]; rfl, HK.out⟩
      cases d2 : decide (n ≤ 999)
      · rw [d1, d2] at HF
        go_wp2_with fail
        go_ret
        exact ⟨by rw [Bool.true_and, HF.out]; rfl, HK.out⟩
      cases d3 : s.toList.isEmpty
      · rw [d1, d2, d3] at HF
        go_wp2_with fail
        go_ret
        exact ⟨by rw [Bool.true_and, HF.out]; rfl, HK.out⟩
      cases d4 : ((m : Int) == 0)
      · rw [d1, d2, d3, d4] at HF
        go_wp2_with fail
        go_ret
        exact ⟨by rw [Bool.true_and, HF.out]; rfl, HK.out⟩
      rw [d1, d2, d3, d4] at HF
      go_wp2_with fail
      go_ret
      exact ⟨by rw [Bool.true_and, HF.out]; rfl, HK.out⟩
    by_cases h1 : k = 1
    · subst h1
      rw [if_neg (by omega), if_pos rfl] at hF
      have HF := Lib.hid hF
      clear hF HN
      cases d1 : (n == 0)
      · rw [d1] at HF
        go_wp2_with fail
        go_ret
        exact ⟨by rw [Bool.true_and, HF.out]; rfl, HK.out⟩
      cases d2 : nameOk s
      · have HN := Lib.hid (name_any s)
        rw [d2] at HN
        rw [d1, d2] at HF
        go_wp2_with fail
        refine (HN.out _).mono ?_
        rintro e w2 ⟨rfl, k2⟩
        go_wp2_with fail
        go_ret
        exact ⟨by rw [Bool.true_and, HF.out]; rfl, HK.out.trans k2⟩
      have HN := Lib.hid (name_any s)
      rw [d2] at HN
      cases d3 : ((m : Int) == 0)
      · rw [d1, d2, d3] at HF
        go_wp2_with fail
        refine (HN.out _).mono ?_
        rintro e w2 ⟨rfl, k2⟩
        go_wp2_with fail
        go_ret
        exact ⟨by rw [Bool.true_and, HF.out]; rfl, HK.out.trans k2⟩
      rw [d1, d2, d3] at HF
      go_wp2_with fail
      refine (HN.out _).mono ?_
      rintro e w2 ⟨rfl, k2⟩
      go_wp2_with fail
      go_ret
      exact ⟨by rw [Bool.true_and, HF.out]; rfl, HK.out.trans k2⟩
    by_cases h2 : k = 2
    · subst h2
      rw [if_neg (by omega), if_neg (by omega), if_pos rfl] at hF
      have HF := Lib.hid hF
      clear hF HN
      cases d1 : (n == 0)
      · rw [d1] at HF
        go_wp2_with fail
        go_ret
        exact ⟨by rw [Bool.true_and, HF.out]; rfl, HK.out⟩
      cases d2 : nameOk s
      · have HN := Lib.hid (name_any s)
        rw [d2] at HN
        rw [d1, d2] at HF
        go_wp2_with fail
        refine (HN.out _).mono ?_
        rintro e w2 ⟨rfl, k2⟩
        go_wp2_with fail
        go_ret
        exact ⟨by rw [Bool.true_and, HF.out]; rfl, HK.out.trans k2⟩
      have HN := Lib.hid (name_any s)
      rw [d2] at HN
      cases d3 : decide (1 ≤ (m : Int))
      · rw [d1, d2, d3] at HF
        go_wp2_with fail
        refine (HN.out _).mono ?_
        rintro e w2 ⟨rfl, k2⟩
        go_wp2_with fail
        go_ret
        exact ⟨by rw [Bool.true_and, HF.out]; rfl, HK.out.trans k2⟩
      cases d4 : decide ((m : Int) ≤ 8)
      · rw [d1, d2, d3, d4] at HF
        go_wp2_with fail
        refine (HN.out _).mono ?_
        rintro e w2 ⟨rfl, k2⟩
        go_wp2_with fail
        go_ret
        exact ⟨by rw [Bool.true_and, HF.out]; rfl, HK.out.trans k2⟩
      rw [d1, d2, d3, d4] at HF
      go_wp2_with fail
      refine (HN.out _).mono ?_
      rintro e w2 ⟨rfl, k2⟩
      go_wp2_with fail
      go_ret
      exact ⟨by rw [Bool.true_and, HF.out]; rfl, HK.out.trans k2⟩
    by_cases h3 : k = 3
    · subst h3
      rw [if_neg (by omega), if_neg (by omega), if_neg (by omega), if_pos rfl] at hF
      have HF := Lib.hid hF
      clear hF
      cases d1 : (n == 0)
      · rw [d1] at HF
        go_wp2_with fail
        go_ret
        exact ⟨by rw [Bool.true_and, HF.out]; rfl, HK.out⟩
      cases d2 : s.toList.isEmpty
      · rw [d1, d2] at HF
        go_wp2_with fail
        go_ret
        exact ⟨by rw [Bool.true_and, HF.out]; rfl, HK.out⟩
      cases d3 : ((m : Int) == 2)
      · rw [d1, d2, d3] at HF
        go_wp2_with fail
        go_ret
        exact ⟨by rw [Bool.true_and, HF.out]; rfl, HK.out⟩
      rw [d1, d2, d3] at HF
      go_wp2_with fail
      go_ret
      exact ⟨by rw [Bool.true_and, HF.out]; rfl, HK.out⟩
    rw [if_neg h0, if_neg h1, if_neg h2, if_neg h3] at hF
    have HF := Lib.hid hF
    have e0 : (k == 0) = false := by simpa using h0
    have e1 : (k == 1) = false := by simpa using h1
    have e2 : (k == 2) = false := by simpa using h2
    have e3 : (k == 3) = false := by simpa using h3
    clear hF
    go_wp2_with fail
    go_ret
    exact ⟨by rw [Bool.true_and, HF.out]; rfl, HK.out⟩
end Go.Proofs.YtnonfmaehfmigaaDoor

/- The program's Build: a term is laid. -/
namespace Go.Proofs.YtnonfmaehfmigaaDoor
open Go.RowKit Go.Maps
set_option maxRecDepth 100000 in
set_option maxHeartbeats 3200000 in
theorem build_any (base hb : Nat) (tr : List Int) (mk : List (Int × Int)) (room : Nat) (t : Tm) (v : TV) (w : World) (L : List Nat) (H : PH) (hH : Hp w base hb L H tr mk room) (hv : VB H) (ht : Tr w (fun b => b ∉ L) t v) (hr : tRight t = true) (hf : FitR room (lay H t).1) :
    Calls Tryd.prog 13 #[.pointer (some ⟨hb, 0, none⟩), tvV v] w (LayR w base hb L (lay H t) tr mk room) := by
  obtain ⟨k, n, s, A, m, c⟩ := v
  have hK0 : Keeps w (w.alloc (.cells #[.int .i64 k, .int .i64 n, .string s, .slice A m c] 34)) [] := (Keeps.refl w []).alloc _
  have hB0 : Blk (w.alloc (.cells #[.int .i64 k, .int .i64 n, .string s, .slice A m c] 34)) w.heap.size 34 #[.int .i64 k, .int .i64 n, .string s, .slice A m c] := Blk.new _ _ _
  have HK0 := Lib.hid hK0
  have HR : Hid (∀ W, Keeps w W [] → Calls Tryd.prog 38 #[.agg #[.int .i64 k, .int .i64 n, .string s, .slice A m c]] W fun e w' => e = .returned (.bool true) ∧ Keeps W w' []) := fun W kk => by
    have h1 := tright_any t ⟨k, n, s, A, m, c⟩ W ((ht.mono (fun _ _ => trivial)).keep kk)
    rw [hr] at h1
    exact h1
  have HL : Hid (∀ W, Keeps w W [] → Calls Tryd.prog 40 #[.pointer (some ⟨hb, 0, none⟩), .agg #[.int .i64 k, .int .i64 n, .string s, .slice A m c]] W (LayR W base hb L (lay H t) tr mk room)) := fun W kk =>
    lay_any base hb tr mk room t hr ⟨k, n, s, A, m, c⟩ W L H (hH.keep kk (by simp)) hv (ht.keep kk) hf
  obtain ⟨ag, ah, vb, AA, FA, TA, MA, ca, nt, ct, nm, cm, cf, rfl, hm⟩ := hH
  have HM := Lib.hid hm
  clear ht hf hr hv hm
  unfold tvV
  go_enter Tryd.func13, Tryd.ntmps13
  go_upto_region 1 with fail
  generalize (w.alloc (.cells #[.int .i64 k, .int .i64 n, .string s, .slice A m c] 34)) = w0 at HK0 hK0 hB0 ⊢
  have HB0 := Lib.hid hB0
  have x0 := hB0.cell 0
  have x1 := hB0.cell 1
  have x2 := hB0.cell 2
  have x3 := hB0.cell 3
  clear hB0 hK0
  go_wp2_with fail
  refine (HR.out _ HK0.out).mono ?_
  rintro e w1 ⟨rfl, k1⟩
  have HK1 := Lib.hid (HK0.out.trans k1)
  have HB1 := Lib.hid (HB0.out.keep k1 (by simp))
  have HM1 := Lib.hid (HM.out.keep0 HK1.out)
  clear k1 x0 x1 x2 x3
  go_upto_region 3 with fail
  have hAA : ∀ W', Keeps w1 W' [] → (W'.cell? ⟨hb, 0, none⟩ = some (.pointer (some ⟨ag, 0, none⟩)) ∧ W'.cell? ⟨hb, 3, none⟩ = some (.map (some vb))) := fun W' kk =>
    have kb := HM1.out.blk.keep kk (by simp)
    ⟨kb.cell 0, kb.cell 3⟩
  have HAA := Lib.hid hAA
  clear hAA
  refine wp_region_th (fun W' => W'.cell? ⟨hb, 0, none⟩ = some (.pointer (some ⟨ag, 0, none⟩)) ∧ W'.cell? ⟨hb, 3, none⟩ = some (.map (some vb))) 10 [] [(0, true), (1, true), (2, true), (3, true), (5, true), (6, true), (7, true), (8, true), (4, false), (9, false), (10, false), (11, false)] (by kernel_rfl) (by kernel_rfl) (HAA.out _ (Keeps.refl _ _).drew) (fun hHeld => ?_)
  (repeat (first | (refine wpTh_take (v := ?_) rfl (by rfl) (by assumption) ?_ (by rfl) ?_; rotate_left; (focus (intro w' hSw; (try dsimp only at hSw); go_simp; (try with_reducible rfl); done)); simp only [Act.put, List.setIfInBounds_toArray, List.set_cons_zero, List.set_cons_succ]) | (refine wpTh_pure (v := ?_) rfl (by rfl) (by assumption) ?_ (by rfl) ?_; rotate_left; (focus (intro w'; go_simp; (try with_reducible rfl); done)); simp only [Act.put, List.setIfInBounds_toArray, List.set_cons_zero, List.set_cons_succ])))
  refine wpTh_go rfl (fun K hK => ?_)
  go_simp
  refine (atop_any HM1.out.ar.drew).mono ?_
  rintro e w2 ⟨rfl, rfl⟩
  refine hK.out _ _ ?_ ?_
  · exact HAA.out _ (Keeps.refl _ _).drew
  (clear hHeld; intro hHeld; clear hK K; (try simp only [Act.put, List.setIfInBounds_toArray, List.set_cons_zero, List.set_cons_succ]))
  (repeat (first | (refine wpTh_take (v := ?_) rfl (by rfl) (by assumption) ?_ (by rfl) ?_; rotate_left; (focus (intro w' hSw; (try dsimp only at hSw); go_simp; (try with_reducible rfl); done)); simp only [Act.put, List.setIfInBounds_toArray, List.set_cons_zero, List.set_cons_succ]) | (refine wpTh_pure (v := ?_) rfl (by rfl) (by assumption) ?_ (by rfl) ?_; rotate_left; (focus (intro w'; go_simp; (try with_reducible rfl); done)); simp only [Act.put, List.setIfInBounds_toArray, List.set_cons_zero, List.set_cons_succ])))
  refine wpTh_go rfl (fun K hK => ?_)
  go_simp
  refine (vclone_any (HM1.out.vars.kept (w' := w1.drew) (Keeps.refl _ []).drew (by simp))).mono ?_
  rintro e w3 ⟨rfl, _, k3, _⟩
  have HK3 := Lib.hid ((Keeps.refl w1 []).drew.trans k3)
  clear k3
  refine hK.out _ _ ?_ ?_
  · exact HAA.out _ HK3.out
  (clear hHeld; intro hHeld; clear hK K; (try simp only [Act.put, List.setIfInBounds_toArray, List.set_cons_zero, List.set_cons_succ]))
  (repeat (first | (refine wpTh_take (v := ?_) rfl (by rfl) (by assumption) ?_ (by rfl) ?_; rotate_left; (focus (intro w' hSw; (try dsimp only at hSw); go_simp; (try with_reducible rfl); done)); simp only [Act.put, List.setIfInBounds_toArray, List.set_cons_zero, List.set_cons_succ]) | (refine wpTh_pure (v := ?_) rfl (by rfl) (by assumption) ?_ (by rfl) ?_; rotate_left; (focus (intro w'; go_simp; (try with_reducible rfl); done)); simp only [Act.put, List.setIfInBounds_toArray, List.set_cons_zero, List.set_cons_succ])))
  refine wpTh_tail rfl (by decide) (fun K hK => ?_)
  go_simp
  refine hK.out _ _ ?_; clear hK K; (try simp only [Act.put, List.setIfInBounds_toArray, List.set_cons_zero, List.set_cons_succ])
  refine wpTh_last rfl (by decide) (fun K hK => ?_)
  go_simp
  refine hK.out _ _ (NoPanic.normal ?_)
  clear hK K
  have HK4 := Lib.hid (HK1.out.trans HK3.out)
  have HB4 := HB1.out.keep HK3.out (by simp)
  have x0 := HB4.cell 0
  have x1 := HB4.cell 1
  have x2 := HB4.cell 2
  have x3 := HB4.cell 3
  clear HB4 hHeld
  go_wp2_with fail
  refine (HL.out _ HK4.out).mono ?_
  rintro e w5 ⟨rfl, L2, hp2, st2⟩
  have HP2 := Lib.hid hp2
  have HS2 := Lib.hid st2
  clear hp2 st2 x0 x1 x2 x3
  go_wp2_with fail
  go_ret2
  exact ⟨rfl, L2, HP2.out, HSt.trans ⟨HK4.out.to_ _, fun _ h => .inl h⟩ HS2.out⟩
end Go.Proofs.YtnonfmaehfmigaaDoor

/- What a cell comes to, its parts, and what is read of it: the plain law. No program in sight. -/
namespace Go.Proofs.YtnonfmaehfmigaaDoor
section
variable {w : World} {base hb ag ah vb : Nat} {AA FA TA MA : Option Addr} {ca nt ct nm cm cf : Nat} {H : PH} {tr : List Int} {mk : List (Int × Int)} {room : Nat}
/-- A cell that means a term: its bounds, and that it is its own answer. -/
theorem rp_cell {r : Nat} (hr : r ≤ 65536) (hf : FitR r H) {c : Int} {t : Tm} (h : Rp H c t) : 0 ≤ c ∧ c < 18446744073709551616 ∧ right c = true ∧ (kindOf c ≠ 0 ∨ ∃ p : Nat, c = (p : Int) * 8 ∧ H.cells[p]? = some ((p : Int) * 8)) := by
  have key : ∃ (n : Nat) (k : Int), n ≤ 1000000 ∧ 0 ≤ k ∧ k ≤ 4 ∧ c = (n : Int) * 8 + k ∧ (k ≠ 0 ∨ ∃ p : Nat, c = (p : Int) * 8 ∧ H.cells[p]? = some ((p : Int) * 8)) := by
    have h1 := hf.1
    have h2 := hf.2.1
    cases h with
    | var p h =>
      have := (List.getElem?_eq_some_iff.1 h).1
      exact ⟨p, 0, by omega, by omega, by omega, by omega, .inr ⟨p, rfl, h⟩⟩
    | con i s h =>
      have := (List.getElem?_eq_some_iff.1 h).1
      exact ⟨i, 2, by omega, by omega, by omega, rfl, .inl (by omega)⟩
    | lis p l cs hl hcs ha h =>
      have h3 : 0 < cs.length := by omega
      have := (List.getElem?_eq_some_iff.1 (ha 0 _ (List.getElem?_eq_getElem h3))).1
      exact ⟨p, 3, by omega, by omega, by omega, rfl, .inl (by omega)⟩
    | str p i s l cs hl hg hi hcs ha h =>
      have := (List.getElem?_eq_some_iff.1 hg).1
      exact ⟨p, 1, by omega, by omega, by omega, rfl, .inl (by omega)⟩
  obtain ⟨n, k, g1, g2, g3, g4, g5⟩ := key
  have hrt : right c = true := (right_iff c).2 ⟨by omega, by omega⟩
  refine ⟨by omega, by omega, hrt, ?_⟩
  rcases g5 with g5 | g5
  · left
    unfold kindOf
    rw [if_pos hrt]
    omega
  · exact .inr g5
theorem Hm.fitR (hm : Hm w base hb ag ah vb AA FA TA MA ca nt ct nm cm cf H tr mk room) : FitR room H := ⟨hm.ar.fits, hm.few.1, hm.few.2⟩
end

/-- What a cell comes to (in so many steps). -/
def drf (H : PH) : Nat → Int → Option Int
  | 0, _ => none
  | f + 1, c => if kindOf c = 0 then (match H.cells[(numOf c).toNat]? with
      | none => none
      | some x => if x = c then some c else drf H f x) else some c
def derefP (H : PH) (c : Int) : Option Int := drf H ((numOf c).toNat + 2) c
/-- A heap in which each chain of variables ends. -/
structure HOk (H : PH) : Prop where
  right : ∀ x ∈ H.cells, right x = true
  refs : ∀ (p : Nat) x, H.cells[p]? = some x → kindOf x = 0 → numOf x ≤ p
  vars : ∀ n p, H.vars n = some p → ∃ q : Nat, p = q ∧ q < H.cells.length
  funs : ∀ x ∈ H.funs, 0 ≤ x.2 ∧ x.2 ≤ 1000
  sizes : (∀ s ∈ H.atoms, s.size ≤ 9223372036854775807) ∧ ∀ x ∈ H.funs, x.1.size ≤ 9223372036854775807
theorem num_nn {c : Int} (h0 : 0 ≤ c) (hr : right c = true) : 0 ≤ numOf c := by
  unfold numOf
  rw [if_pos hr]
  omega
theorem ref_eq {c : Int} (hr : right c = true) (hk : kindOf c = 0) : c = numOf c * 8 := by
  unfold kindOf at hk
  unfold numOf
  rw [if_pos hr] at hk ⊢
  omega
/-- How many steps are enough. -/
def needD (c : Int) : Nat := if kindOf c = 0 then (numOf c).toNat + 2 else 1
section
variable {H : PH}
theorem HOk.less (h : HOk H) (hb : ∀ x ∈ H.cells, 0 ≤ x) {c x : Int} (h0 : 0 ≤ c) (hr : Go.Proofs.YtnonfmaehfmigaaDoor.right c = true) (hk : kindOf c = 0) (hx : H.cells[(numOf c).toNat]? = some x) (hne : x ≠ c) : needD x < needD c := by
  have hm := List.mem_of_getElem? hx
  have hrx := h.right x hm
  have hn := num_nn h0 hr
  unfold needD
  rw [if_pos hk]
  split
  · rename_i hkx
    have h1 := h.refs _ x hx hkx
    have h2 := ref_eq hrx hkx
    have h3 := ref_eq hr hk
    have h4 := num_nn (hb x hm) hrx
    have : numOf x ≠ numOf c := fun e => hne (by rw [h2, h3, e])
    omega
  · omega
theorem drf_fuel (h : HOk H) (hb : ∀ x ∈ H.cells, 0 ≤ x) : ∀ (f g : Nat) (c : Int), 0 ≤ c → Go.Proofs.YtnonfmaehfmigaaDoor.right c = true → needD c ≤ f → needD c ≤ g → drf H f c = drf H g c := by
  intro f
  induction f with
  | zero => intro g c _ _ h1 _; unfold needD at h1; split at h1 <;> omega
  | succ f ih =>
    intro g c h0 hr h1 h2
    cases g with
    | zero => unfold needD at h2; split at h2 <;> omega
    | succ g =>
      rw [drf, drf]
      split
      · rename_i hk
        cases hx : H.cells[(numOf c).toNat]? with
        | none => rfl
        | some x =>
          simp only
          split
          · rfl
          · rename_i hne
            have hm := List.mem_of_getElem? hx
            have h3 := h.less hb h0 hr hk hx hne
            exact ih g x (hb x hm) (h.right x hm) (by omega) (by omega)
      · rfl
theorem deref_need (c : Int) : needD c ≤ (numOf c).toNat + 2 := by unfold needD; split <;> omega
theorem deref_of_non {c : Int} (hk : kindOf c ≠ 0) : derefP H c = some c := by unfold derefP; rw [drf, if_neg hk]
theorem deref_of_self {c : Int} (hk : kindOf c = 0) (hx : H.cells[(numOf c).toNat]? = some c) : derefP H c = some c := by unfold derefP; rw [drf, if_pos hk, hx]; simp
theorem deref_of_gone {c : Int} (hk : kindOf c = 0) (hx : H.cells[(numOf c).toNat]? = none) : derefP H c = none := by unfold derefP; rw [drf, if_pos hk, hx]
theorem deref_of_step (h : HOk H) (hb : ∀ x ∈ H.cells, 0 ≤ x) {c x : Int} (h0 : 0 ≤ c) (hr : Go.Proofs.YtnonfmaehfmigaaDoor.right c = true) (hk : kindOf c = 0) (hx : H.cells[(numOf c).toNat]? = some x) (hne : x ≠ c) : derefP H c = derefP H x := by
  have hm := List.mem_of_getElem? hx
  have h3 := h.less hb h0 hr hk hx hne
  have h4 := deref_need c
  show drf H _ c = drf H _ x
  rw [drf, if_pos hk, hx]
  simp only
  rw [if_neg hne]
  refine drf_fuel h hb _ _ x (hb x hm) (h.right x hm) ?_ (deref_need x)
  unfold needD at h3 h4
  rw [if_pos hk] at h3 h4
  unfold needD
  omega
/-- What it comes to: a cell that is its own answer. -/
theorem deref_is (h : HOk H) (hb : ∀ x ∈ H.cells, 0 ≤ x ∧ x < 18446744073709551616) : ∀ (f : Nat) (c d : Int), needD c ≤ f → 0 ≤ c → c < 18446744073709551616 → Go.Proofs.YtnonfmaehfmigaaDoor.right c = true → derefP H c = some d → 0 ≤ d ∧ d < 18446744073709551616 ∧ Go.Proofs.YtnonfmaehfmigaaDoor.right d = true ∧ derefP H d = some d ∧ (kindOf d = 0 → H.cells[(numOf d).toNat]? = some d) := by
  intro f
  induction f with
  | zero => intro c d h1; unfold needD at h1; split at h1 <;> omega
  | succ f ih =>
    intro c d h1 h0 h2 hr hd
    have hb0 : ∀ x ∈ H.cells, 0 ≤ x := fun x hx => (hb x hx).1
    by_cases hk : kindOf c = 0
    · cases hx : H.cells[(numOf c).toNat]? with
      | none => rw [deref_of_gone hk hx] at hd; cases hd
      | some x =>
        by_cases hne : x = c
        · subst hne
          have h5 := deref_of_self hk hx
          rw [h5] at hd
          obtain rfl := Option.some.inj hd
          exact ⟨h0, h2, hr, h5, fun _ => hx⟩
        · rw [deref_of_step h hb0 h0 hr hk hx hne] at hd
          have hm := List.mem_of_getElem? hx
          have h3 := h.less hb0 h0 hr hk hx hne
          exact ih x d (by omega) (hb x hm).1 (hb x hm).2 (h.right x hm) hd
    · rw [deref_of_non hk] at hd
      obtain rfl := Option.some.inj hd
      exact ⟨h0, h2, hr, deref_of_non hk, fun e => absurd e hk⟩
end
/-! ### Its parts -/
def cellP (H : PH) (i : Nat) : Int := (H.cells[i]?).getD 0
def funP (H : PH) (c : Int) : Option (ByteArray × Int) := match H.cells[(numOf c).toNat]? with
  | none => none
  | some f => if kindOf f = 4 then H.funs[(numOf f).toNat]? else none
def partsP (H : PH) (c : Int) : List Int :=
  if kindOf c = 1 then (match funP H c with
    | none => []
    | some x => (List.range x.2.toNat).map fun i => cellP H ((numOf c).toNat + 1 + i))
  else (List.range 2).map fun i => cellP H ((numOf c).toNat + i)
def nameP (H : PH) (c : Int) : ByteArray := match funP H c with
  | none => ⟨#[]⟩
  | some x => x.1
theorem parts_few {H : PH} (h : HOk H) (c : Int) : (partsP H c).length ≤ 1000 := by
  unfold partsP
  split
  · cases hf : funP H c with
    | none => simp
    | some x =>
      simp only [List.length_map, List.length_range]
      have hx : x ∈ H.funs := by
        unfold funP at hf
        cases hc : H.cells[(numOf c).toNat]? with
        | none => rw [hc] at hf; cases hf
        | some f =>
          rw [hc] at hf
          simp only at hf
          split at hf
          · exact List.mem_of_getElem? hf
          · cases hf
      have := h.funs x hx
      omega
  · simp
theorem parts_cell {H : PH} (h : HOk H) (hb : ∀ x ∈ H.cells, 0 ≤ x ∧ x < 18446744073709551616) (c : Int) : ∀ x ∈ partsP H c, 0 ≤ x ∧ x < 18446744073709551616 ∧ right x = true := by
  have key : ∀ i, 0 ≤ cellP H i ∧ cellP H i < 18446744073709551616 ∧ right (cellP H i) = true := fun i => by
    unfold cellP
    cases hc : H.cells[i]? with
    | none => exact ⟨by simp, by simp, by simp [right]⟩
    | some x =>
      have hm := List.mem_of_getElem? hc
      exact ⟨(hb x hm).1, (hb x hm).2, h.right x hm⟩
  intro x hx
  unfold partsP at hx
  split at hx
  · cases hf : funP H c with
    | none => rw [hf] at hx; simp at hx
    | some y =>
      rw [hf] at hx
      simp only [List.mem_map] at hx
      obtain ⟨i, _, rfl⟩ := hx
      exact key _
  · simp only [List.mem_map] at hx
    obtain ⟨i, _, rfl⟩ := hx
    exact key _
/-! ### What is read -/
def tZ : Tm := .mk 0 0 ⟨#[]⟩ []
/-- One behind the other. -/
def rdL (step : Int → Int × Int → Tm × (Int × Int)) (l : List Int) (a : List Tm × (Int × Int)) : List Tm × (Int × Int) :=
  l.foldl (fun a x => (a.1 ++ [(step x a.2).1], (step x a.2).2)) a
theorem rdL_snoc (step : Int → Int × Int → Tm × (Int × Int)) (l : List Int) (x : Int) (a : List Tm × (Int × Int)) :
    rdL step (l ++ [x]) a = ((rdL step l a).1 ++ [(step x (rdL step l a).2).1], (step x (rdL step l a).2).2) := by unfold rdL; rw [List.foldl_append]; rfl
/-- A compound: left, what is wrong. -/
def cpd (H : PH) (step : Int → Int × Int → Tm × (Int × Int)) (d : Int) (k : Int) : Tm × (Int × Int) :=
  if kindOf d = 1 ∧ partsP H d = [] then (tZ, (k, 1))
  else (.mk (if kindOf d = 1 then 2 else 3) 0 (if kindOf d = 1 then nameP H d else ⟨#[]⟩) (rdL step (partsP H d) ([], (k, 0))).1, (rdL step (partsP H d) ([], (k, 0))).2)
/-- Of a cell's answer, as long as nothing is wrong: how many may come yet. -/
def rdC (H : PH) (step : Int → Int × Int → Tm × (Int × Int)) (d : Option Int) (k : Int) : Tm × (Int × Int) :=
  match d with
  | none => (tZ, (k, 1))
  | some d =>
    if k < 0 then (tZ, (k, 2))
    else if kindOf d = 0 then (if 999 < numOf d then (tZ, (k, 2)) else (.mk 0 (numOf d) ⟨#[]⟩ [], (k, 0)))
    else if kindOf d = 2 then (match H.atoms[(numOf d).toNat]? with
      | none => (tZ, (k, 1))
      | some a => (.mk 1 0 a [], (k, 0)))
    else if kindOf d = 4 then (tZ, (k, 1))
    else cpd H step d k
def rd (H : PH) : Nat → Int → Int × Int → Tm × (Int × Int)
  | 0, _, s => (tZ, s)
  | f + 1, c, s => if s.2 = 0 then rdC H (rd H f) (derefP H c) (s.1 - 1) else (tZ, (s.1 - 1, s.2))
/-- How many may come yet: bounds. -/
structure RdB (f : Nat) (s r : Int × Int) : Prop where
  ok : r.2 = 0 → 0 ≤ r.1 ∧ s.2 = 0
  low : min s.1 0 - 1 - 1002 * (f : Int) ≤ r.1
  up : r.1 ≤ s.1
theorem rdL_low {H : PH} {f : Nat} (ih : ∀ (c : Int) (s : Int × Int), (s.2 = 0 → 0 ≤ s.1) → s.1 < f → RdB f s (rd H f c s).2) (k : Int) (hk : 0 ≤ k) (hkf : k < f) :
    ∀ (n : Nat) (l : List Int), l.length = n → (rdL (rd H f) l ([], (k, 0))).1.length = n ∧ ((rdL (rd H f) l ([], (k, 0))).2.2 = 0 → 0 ≤ (rdL (rd H f) l ([], (k, 0))).2.1) ∧ -2 - 1002 * (f : Int) - (n : Int) ≤ (rdL (rd H f) l ([], (k, 0))).2.1 ∧ (rdL (rd H f) l ([], (k, 0))).2.1 ≤ k := by
  intro n
  induction n with
  | zero =>
    intro l hl
    obtain rfl := List.length_eq_zero_iff.1 hl
    exact ⟨rfl, fun _ => hk, by simp [rdL]; omega, by simp [rdL]⟩
  | succ n ihn =>
    intro l hl
    rcases List.eq_nil_or_concat l with rfl | ⟨m, x, rfl⟩
    · simp at hl
    · rw [List.concat_eq_append] at hl ⊢
      obtain ⟨g1, g2, g3, g4⟩ := ihn m (by simpa using hl)
      rw [rdL_snoc]
      generalize rdL (rd H f) m ([], (k, 0)) = r at g1 g2 g3 g4 ⊢
      obtain ⟨ts, left, err⟩ := r
      simp only at g1 g2 g3 g4 ⊢
      have h := ih x (left, err) g2 (by simp only; omega)
      have h1 := h.ok
      have h2 := h.low
      have h3 := h.up
      refine ⟨by simp [g1], fun e => (h1 e).1, ?_, by simp only at h3; omega⟩
      by_cases he : err = 0
      · have := g2 he
        simp only at h2
        omega
      · cases f with
        | zero => simp only [rd]; omega
        | succ f =>
          rw [rd, if_neg (by exact he)]
          simp only
          omega
theorem rd_low {H : PH} (h : HOk H) : ∀ (f : Nat) (c : Int) (s : Int × Int), (s.2 = 0 → 0 ≤ s.1) → s.1 < f → RdB f s (rd H f c s).2 := by
  intro f
  induction f with
  | zero => intro c s h1 h2; exact ⟨fun e => ⟨h1 e, e⟩, by simp only [rd]; omega, by simp only [rd]; omega⟩
  | succ f ih =>
    intro c s h1 h2
    obtain ⟨left, err⟩ := s
    simp only at h1 h2
    rw [rd]
    split
    · rename_i he
      simp only at he ⊢
      have h3 := h1 he
      have hfail : ∀ e : Int, e ≠ 0 → RdB (f + 1) (left, err) (left - 1, e) := fun e hne => ⟨fun e' => absurd e' hne, by simp only; omega, by simp only; omega⟩
      unfold rdC
      cases derefP H c with
      | none => exact hfail 1 (by omega)
      | some d =>
        simp only
        split
        · exact hfail 2 (by omega)
        · rename_i hn
          have hok : RdB (f + 1) (left, err) (left - 1, 0) := ⟨fun _ => ⟨by simp only; omega, he⟩, by simp only; omega, by simp only; omega⟩
          split
          · split
            · exact hfail 2 (by omega)
            · exact hok
          · split
            · cases H.atoms[(numOf d).toNat]? with
              | none => exact hfail 1 (by omega)
              | some a => exact hok
            · split
              · exact hfail 1 (by omega)
              · unfold cpd
                split
                · exact hfail 1 (by omega)
                · have hp := parts_few h d
                  obtain ⟨g1, g2, g3, g4⟩ := rdL_low ih (left - 1) (by omega) (by omega) (partsP H d).length (partsP H d) rfl
                  exact ⟨fun e => ⟨g2 e, he⟩, by simp only at g3 ⊢; omega, by simp only at g4 ⊢; omega⟩
    · rename_i he
      exact ⟨fun e => absurd e he, by simp only; omega, by simp only; omega⟩
/-! ### A cell that means a tree -/
inductive Rg (H : PH) : Int → Tm → Prop
  | var (c d : Int) (hd : derefP H c = some d) (hk : kindOf d = 0) : Rg H c (.mk 0 (numOf d) ⟨#[]⟩ [])
  | con (c d : Int) (s : ByteArray) (hd : derefP H c = some d) (hk : kindOf d = 2) (ha : H.atoms[(numOf d).toNat]? = some s) : Rg H c (.mk 1 0 s [])
  | cmp (c d : Int) (l : List Tm) (hd : derefP H c = some d) (hk : kindOf d = 1 ∨ kindOf d = 3) (hne : kindOf d = 1 → partsP H d ≠ []) (hl : l.length = (partsP H d).length) (h : ∀ (j : Nat) t x, l[j]? = some t → (partsP H d)[j]? = some x → Rg H x t) :
      Rg H c (.mk (if kindOf d = 1 then 2 else 3) 0 (if kindOf d = 1 then nameP H d else ⟨#[]⟩) l)
theorem rdL_ok {step : Int → Int × Int → Tm × (Int × Int)} : ∀ (l : List Tm) (xs : List Int) (acc : List Tm) (k : Int), l.length = xs.length → (tSizes l : Int) ≤ k → (∀ (j : Nat) t x, l[j]? = some t → xs[j]? = some x → ∀ k', (tSize t : Int) ≤ k' → k' ≤ k → step x (k', 0) = (t, (k' - tSize t, 0))) → rdL step xs (acc, (k, 0)) = (acc ++ l, (k - tSizes l, 0))
  | [], [], acc, k, _, _, _ => by simp [rdL, tSizes]
  | [], _ :: _, _, _, h, _, _ => by simp at h
  | _ :: _, [], _, _, h, _, _ => by simp at h
  | t :: l, x :: xs, acc, k, h, hk, hs => by
    rw [tSizes] at hk
    have h1 := hs 0 t x rfl rfl k (by omega) (by omega)
    have h2 := rdL_ok (step := step) l xs (acc ++ [t]) (k - tSize t) (by simpa using h) (by omega) (fun j t' x' a b k' c d => hs (j + 1) t' x' (by simpa using a) (by simpa using b) k' c (by omega))
    unfold rdL at h2 ⊢
    rw [List.foldl_cons]
    simp only
    rw [h1]
    simp only
    rw [h2, tSizes]
    simp
    omega
theorem rd_ok {H : PH} {c : Int} {t : Tm} (h : Rg H c t) : (∀ n ∈ tV t, n ≤ 999) → ∀ (f : Nat) (k : Int), (tSize t : Int) ≤ k → k < f → rd H f c (k, 0) = (t, (k - tSize t, 0)) := by
  induction h with
  | var c d hd hk =>
    intro hv f k h1 h2
    cases f with
    | zero => omega
    | succ f =>
      have h3 := hv (numOf d) (by rw [tV, if_pos rfl]; simp)
      simp only [tSize, tSizes] at h1 ⊢
      rw [rd, if_pos rfl, hd]
      simp only [rdC]
      rw [if_neg (by omega), if_pos hk, if_neg (by omega)]
      simp
  | con c d s hd hk ha =>
    intro hv f k h1 h2
    cases f with
    | zero => omega
    | succ f =>
      simp only [tSize, tSizes] at h1 ⊢
      rw [rd, if_pos rfl, hd]
      simp only [rdC]
      rw [if_neg (by omega), if_neg (by omega), if_pos hk, ha]
      simp
  | cmp c d l hd hk hne hl h ih =>
    intro hv f k h1 h2
    cases f with
    | zero => have := tSize_pos (.mk (if kindOf d = 1 then 2 else 3) 0 (if kindOf d = 1 then nameP H d else ⟨#[]⟩) l); omega
    | succ f =>
      have hk2 : (if kindOf d = 1 then (2 : Int) else 3) ≠ 0 := by split <;> omega
      have hv' : ∀ (j : Nat) t, l[j]? = some t → ∀ n ∈ tV t, n ≤ 999 := fun j t hj n hn => hv n (by rw [tV, if_neg hk2]; exact mem_tVL.2 ⟨t, List.mem_of_getElem? hj, hn⟩)
      simp only [tSize] at h1 ⊢
      rw [rd, if_pos rfl, hd]
      simp only [rdC]
      rw [if_neg (by omega), if_neg (by omega), if_neg (by omega), if_neg (by omega)]
      unfold cpd
      rw [if_neg (fun e => hne e.1 e.2), rdL_ok l (partsP H d) [] (k - 1) hl (by omega) (fun j t x a b k' c1 c2 => ih j t x a b (hv' j t a) f k' c1 (by omega))]
      simp
      omega
end Go.Proofs.YtnonfmaehfmigaaDoor

/- The program's parts, at whatever cell. Printed by gen_hpparts.py. -/
namespace Go.Proofs.YtnonfmaehfmigaaDoor
open Go.RowKit Go.Maps
theorem get_at {w : World} {base g h : Nat} {l : List Int} {room : Nat} (a : Ar w base g h l room) (k : Nat) :
    Calls Tryd.prog 44 #[.pointer (some ⟨g, 0, none⟩), .int .i64 k] w fun e w' => e = .returned (.tuple #[.int .u64 ((l[k]?).getD 0), .bool (l[k]?).isSome]) ∧ w = w' := by
  cases hx : l[k]? with
  | some x => exact get_yes a k x hx
  | none =>
    refine get_no a k ?_
    cases hi : inside (k : Int) l.length with
    | false => rfl
    | true =>
      obtain ⟨k', e, hk⟩ := inside_iff.1 hi
      have := List.getElem?_eq_none_iff.1 hx
      omega
theorem wrapS (p : Nat) (h : (p : Int) < 1099511627776) : IntKind.i64.wrap ((p : Int) + 1) = (p : Int) + 1 := by
  simp only [IntKind.wrap_i64]
  omega
section
variable {w : World} {base hb ag ah vb : Nat} {AA FA TA MA : Option Addr} {ca nt ct nm cm cf : Nat} {H : PH} {tr : List Int} {mk : List (Int × Int)} {room : Nat}
set_option maxRecDepth 100000 in
set_option maxHeartbeats 3200000 in
theorem partsN_any (hm : Hm w base hb ag ah vb AA FA TA MA ca nt ct nm cm cf H tr mk room) (c : Int) (h0 : 0 ≤ c) (h1 : c < 18446744073709551616) (hr : right c = true) (q : Nat) (hq : numOf c = q) (hk : kindOf c ≠ 1) (cs : List Int) (hcs : cs.length = 2) (ha : ∀ (j : Nat) x, cs[j]? = some x → x = (H.cells[q + j]?).getD 0) :
    Calls Tryd.prog 62 #[.pointer (some ⟨hb, 0, none⟩), .int .u64 c] w fun e w' => ∃ A c', e = .returned (.slice A 2 c') ∧ w'.ownsRow w.heap.size 28 1 (.slice A 2 c') 2 (cs.map (Value.int .u64)) ∧ Keeps w w' [] := by
  have HKd := Lib.hid (fun W => kind_any c W h0 h1)
  have HNu := Lib.hid (fun W => number_any c W h0 h1)
  have hn := num_nn h0 hr
  have hn2 : numOf c < 1099511627776 := by unfold numOf; rw [if_pos hr]; have := (right_iff c).1 hr; omega
  rw [hq] at HNu hn2
  have ek : (kindOf c == 1) = false := by simpa using hk
  have HM := Lib.hid hm
  have HA := Lib.hid ha
  have HC := Lib.hid hcs
  have KW : Hid (Keeps w w []) := Keeps.refl _ _
  clear hm hr hk hn ha hcs hq
  go_enter Tryd.func62, Tryd.ntmps62
  go_wp2_with fail
  refine (HNu.out _).mono ?_
  rintro e w1 ⟨rfl, rfl⟩
  go_wp2_with fail
  refine (HKd.out _).mono ?_
  rintro e w1 ⟨rfl, rfl⟩
  go_wp2_with fail
  go_loopw [9, 54] (fun x9 x54 wr => ∃ (j : Nat) (A2 : Option Addr) (c2 : Nat), j ≤ 2 ∧ x54 = .int .i64 j ∧ x9 = .slice A2 j c2 ∧ wr.ownsRow w.heap.size 28 1 (.slice A2 j c2) j ((cs.take j).map (Value.int .u64)) ∧ Keeps w wr []) (fun _ i _ => 2 - (intOf i).toNat)
  case atStart => exact ⟨0, none, 0, by omega, rfl, rfl, by rw [List.take_zero]; exact World.ownsRow_nil _ _ _ _, KW.out⟩
  case round =>
    obtain ⟨j, A2, c2, hj, rfl, rfl, ho, hkk⟩ := hrel
    have HO := Lib.hid ho
    have HKK := Lib.hid hkk
    clear ho hkk
    by_cases hlt : j < 2
    · obtain ⟨x, hx⟩ := at_of HC.out hlt
      have HM1 := Lib.hid (HM.out.keep0 HKK.out)
      have x0 := HM1.out.blk.cell 0
      have hg := get_at HM1.out.ar (q + j)
      rw [← HA.out j x hx, Int.natCast_add] at hg
      generalize (H.cells[q + j]?).isSome = bx at hg
      have HG := Lib.hid hg
      have HX := Lib.hid hx
      have b0 : (0 : Int) ≤ (j : Int) := Int.natCast_nonneg _
      have b1 : (j : Int) < 2 := by omega
      have b2 : (0 : Int) ≤ (q : Int) := Int.natCast_nonneg _
      clear hx hg
      go_wp2_with fail
      refine HG.out.mono ?_
      rintro e w3 ⟨rfl, rfl⟩
      clear x0
      go_wp2_with (at_builtin; have K5 := (Keeps.refl wr []).alloc (.cells #[.int .u64 x] 28); have hz5 := K5.size; have hz6 := HKK.out.size; refine wpList_app _ el_cells rfl (.tmp 68) (.tmp 70) rfl w.heap.size A2 j c2 ((cs.take j).map (Value.int .u64)) rfl (own_keep0 HO.out K5) (some ⟨wr.heap.size, 0, none⟩) 1 1 [.int .u64 x] rfl (Rd.one wr _ [.int .u64 x]) rfl (by simp) (by simp [Value.oneCell']) (by omega) (by omega) ?_; intro A' c' w4 hown hgrow hat; have HN : Hid (Keeps w w4 []) := ((((HKK.out.trans K5).to_ _).trans (Keeps.ofGrown hgrow)).more (fun b hb hm' => by have := (own_lt HO.out hm').1; omega)); have HO4 := Lib.hid hown; clear hown hgrow hat K5 hz5 hz6)
      go_roundw
      case rel => exact ⟨j + 1, A', c', by omega, by go_num, rfl, by rw [List.take_add_one, HX.out, List.map_append]; exact HO4.out, HN.out⟩
      case measure => simp [intOf]; omega
    · obtain rfl : j = 2 := by omega
      have ho2 := HO.out
      rw [List.take_of_length_le (by rw [HC.out]; exact Nat.le_refl _)] at ho2
      have HO2 := Lib.hid ho2
      clear hlt hj ho2
      go_wp2_with fail
      go_ret
      exact ⟨A2, c2, rfl, HO2.out, HKK.out⟩
set_option maxRecDepth 100000 in
set_option maxHeartbeats 3200000 in
theorem partsA_any (hm : Hm w base hb ag ah vb AA FA TA MA ca nt ct nm cm cf H tr mk room) (c : Int) (h0 : 0 ≤ c) (h1 : c < 18446744073709551616) (hr : right c = true) (p : Nat) (hp : numOf c = p) (hk : kindOf c = 1) (F : Int) (hF : (H.cells[p]?).getD 0 = F) (hF0 : 0 ≤ F ∧ F < 18446744073709551616) (hkF : kindOf F ≠ 4) :
    Calls Tryd.prog 62 #[.pointer (some ⟨hb, 0, none⟩), .int .u64 c] w fun e w' => ∃ A c', e = .returned (.slice A 0 c') ∧ w'.ownsRow w.heap.size 28 1 (.slice A 0 c') 0 (([] : List Int).map (Value.int .u64)) ∧ Keeps w w' [] := by
  have HKd := Lib.hid (fun W => kind_any c W h0 h1)
  have HNu := Lib.hid (fun W => number_any c W h0 h1)
  have hn := num_nn h0 hr
  have hn2 : numOf c < 1099511627776 := by unfold numOf; rw [if_pos hr]; have := (right_iff c).1 hr; omega
  rw [hp] at HNu
  rw [hk] at HKd
  have hg := get_at hm.ar p
  rw [hF] at hg
  generalize (H.cells[p]?).isSome = bx at hg
  have HG := Lib.hid hg
  have HKF := Lib.hid (fun W => kind_any F W hF0.1 hF0.2)
  generalize kindOf F = kF at hkF HKF
  have ek : (kF == 4) = false := by simpa using hkF
  have ek' : (kF != 4) = true := by simpa using hkF
  have x0 := hm.blk.cell 0
  have HM := Lib.hid hm
  clear hm hr hk hn hg hkF hF hF0 hp
  go_enter Tryd.func62, Tryd.ntmps62
  go_wp2_with fail
  refine (HNu.out _).mono ?_
  rintro e w1 ⟨rfl, rfl⟩
  go_wp2_with fail
  refine (HKd.out _).mono ?_
  rintro e w1 ⟨rfl, rfl⟩
  go_wp2_with fail
  refine HG.out.mono ?_
  rintro e w1 ⟨rfl, rfl⟩
  clear x0
  go_upto_region 4 with fail
  have hS : w.cell? ⟨hb, 2, none⟩ = some (.slice FA H.funs.length cf) := HM.out.blk.cell 2
  have HS := Lib.hid hS
  clear hS
  refine wp_region_tx (fun W' => W'.cell? ⟨hb, 2, none⟩ = some (.slice FA H.funs.length cf)) [(0, true), (1, false), (2, true), (3, true), (4, true), (5, true), (6, true), (7, true), (8, true), (9, true), (10, true), (11, true), (12, true), (13, false)] (by kernel_rfl) (by kernel_rfl) (by exact HS.out) (fun hHeld => ?_)
  (repeat (first | (refine wpTx_take (v := ?_) rfl (by assumption) ?_ (by rfl) ?_; rotate_left; (focus (intro w' hSw; (try dsimp only at hSw); go_simp; (try with_reducible rfl); done)); simp only [Act.put, List.setIfInBounds_toArray, List.set_cons_zero, List.set_cons_succ]) | (refine wpTx_skip rfl (by assumption) (by rfl) ?_; simp only [Act.put, List.setIfInBounds_toArray, List.set_cons_zero, List.set_cons_succ])))
  refine wpTx_go rfl (fun K hK => ?_)
  go_simp
  refine (HKF.out _).mono ?_
  rintro e w3 ⟨rfl, rfl⟩
  refine hK.out _ _ ?_ ?_
  · exact HS.out
  (clear hHeld; intro hHeld; clear hK K; (try simp only [Act.put, List.setIfInBounds_toArray, List.set_cons_zero, List.set_cons_succ]))
  (repeat (first | (refine wpTx_take (v := ?_) rfl (by assumption) ?_ (by rfl) ?_; rotate_left; (focus (intro w' hSw; (try dsimp only at hSw); go_simp; (try with_reducible rfl); done)); simp only [Act.put, List.setIfInBounds_toArray, List.set_cons_zero, List.set_cons_succ]) | (refine wpTx_skip rfl (by assumption) (by rfl) ?_; simp only [Act.put, List.setIfInBounds_toArray, List.set_cons_zero, List.set_cons_succ])))
  refine wpTx_last rfl (fun K hK => ?_)
  go_simp
  refine hK.out _ _ (NoPanic.normal ?_); clear hK K; (try simp only [Act.put, List.setIfInBounds_toArray, List.set_cons_zero, List.set_cons_succ])
  clear hHeld
  go_wp2_with fail
  go_ret
  exact ⟨none, 0, rfl, World.ownsRow_nil _ _ _ _, (Keeps.refl w []).drew⟩
set_option maxRecDepth 100000 in
set_option maxHeartbeats 3200000 in
theorem partsB_any (hm : Hm w base hb ag ah vb AA FA TA MA ca nt ct nm cm cf H tr mk room) (c : Int) (h0 : 0 ≤ c) (h1 : c < 18446744073709551616) (hr : right c = true) (p : Nat) (hp : numOf c = p) (hk : kindOf c = 1) (F : Int) (hF : (H.cells[p]?).getD 0 = F) (hF0 : 0 ≤ F ∧ F < 18446744073709551616) (hkF : kindOf F = 4) (i : Nat) (hi : numOf F = i) (hil : H.funs.length ≤ i) :
    Calls Tryd.prog 62 #[.pointer (some ⟨hb, 0, none⟩), .int .u64 c] w fun e w' => ∃ A c', e = .returned (.slice A 0 c') ∧ w'.ownsRow w.heap.size 28 1 (.slice A 0 c') 0 (([] : List Int).map (Value.int .u64)) ∧ Keeps w w' [] := by
  have HKd := Lib.hid (fun W => kind_any c W h0 h1)
  have HNu := Lib.hid (fun W => number_any c W h0 h1)
  have hn := num_nn h0 hr
  have hn2 : numOf c < 1099511627776 := by unfold numOf; rw [if_pos hr]; have := (right_iff c).1 hr; omega
  rw [hp] at HNu
  rw [hk] at HKd
  have hg := get_at hm.ar p
  rw [hF] at hg
  generalize (H.cells[p]?).isSome = bx at hg
  have HG := Lib.hid hg
  have HKF := Lib.hid (fun W => kind_any F W hF0.1 hF0.2)
  have HNF := Lib.hid (fun W => number_any F W hF0.1 hF0.2)
  rw [hkF] at HKF
  rw [hi] at HNF
  have dl : decide ((i : Int) ≥ (H.funs.length : Int)) = true := by simp; omega
  have dl' : decide ((H.funs.length : Int) ≤ (i : Int)) = true := by simp; omega
  have dl2 : decide (H.funs.length ≤ i) = true := by simp; omega
  have x0 := hm.blk.cell 0
  have HM := Lib.hid hm
  clear hm hr hk hn hg hkF hF hF0 hp hi
  go_enter Tryd.func62, Tryd.ntmps62
  go_wp2_with fail
  refine (HNu.out _).mono ?_
  rintro e w1 ⟨rfl, rfl⟩
  go_wp2_with fail
  refine (HKd.out _).mono ?_
  rintro e w1 ⟨rfl, rfl⟩
  go_wp2_with fail
  refine HG.out.mono ?_
  rintro e w1 ⟨rfl, rfl⟩
  clear x0
  go_upto_region 4 with fail
  have hS : w.cell? ⟨hb, 2, none⟩ = some (.slice FA H.funs.length cf) := HM.out.blk.cell 2
  have HS := Lib.hid hS
  clear hS
  refine wp_region_tx (fun W' => W'.cell? ⟨hb, 2, none⟩ = some (.slice FA H.funs.length cf)) [(0, true), (1, false), (2, true), (3, true), (4, true), (6, true), (7, true), (8, true), (9, true), (10, true), (11, true), (5, false), (12, true), (13, false)] (by kernel_rfl) (by kernel_rfl) (by exact HS.out) (fun hHeld => ?_)
  (repeat (first | (refine wpTx_take (v := ?_) rfl (by assumption) ?_ (by rfl) ?_; rotate_left; (focus (intro w' hSw; (try dsimp only at hSw); go_simp; (try with_reducible rfl); done)); simp only [Act.put, List.setIfInBounds_toArray, List.set_cons_zero, List.set_cons_succ]) | (refine wpTx_skip rfl (by assumption) (by rfl) ?_; simp only [Act.put, List.setIfInBounds_toArray, List.set_cons_zero, List.set_cons_succ])))
  refine wpTx_go rfl (fun K hK => ?_)
  go_simp
  refine (HKF.out _).mono ?_
  rintro e w3 ⟨rfl, rfl⟩
  refine hK.out _ _ ?_ ?_
  · exact HS.out
  (clear hHeld; intro hHeld; clear hK K; (try simp only [Act.put, List.setIfInBounds_toArray, List.set_cons_zero, List.set_cons_succ]))
  (repeat (first | (refine wpTx_take (v := ?_) rfl (by assumption) ?_ (by rfl) ?_; rotate_left; (focus (intro w' hSw; (try dsimp only at hSw); go_simp; (try with_reducible rfl); done)); simp only [Act.put, List.setIfInBounds_toArray, List.set_cons_zero, List.set_cons_succ]) | (refine wpTx_skip rfl (by assumption) (by rfl) ?_; simp only [Act.put, List.setIfInBounds_toArray, List.set_cons_zero, List.set_cons_succ])))
  refine wpTx_go rfl (fun K hK => ?_)
  go_simp
  refine (HNF.out _).mono ?_
  rintro e w3 ⟨rfl, rfl⟩
  refine hK.out _ _ ?_ ?_
  · exact HS.out
  (clear hHeld; intro hHeld; clear hK K; (try simp only [Act.put, List.setIfInBounds_toArray, List.set_cons_zero, List.set_cons_succ]))
  (repeat (first | (refine wpTx_take (v := ?_) rfl (by assumption) ?_ (by rfl) ?_; rotate_left; (focus (intro w' hSw; (try dsimp only at hSw); go_simp; (try with_reducible rfl); done)); simp only [Act.put, List.setIfInBounds_toArray, List.set_cons_zero, List.set_cons_succ]) | (refine wpTx_skip rfl (by assumption) (by rfl) ?_; simp only [Act.put, List.setIfInBounds_toArray, List.set_cons_zero, List.set_cons_succ])))
  refine wpTx_last rfl (fun K hK => ?_)
  go_simp
  refine hK.out _ _ (NoPanic.normal ?_); clear hK K; (try simp only [Act.put, List.setIfInBounds_toArray, List.set_cons_zero, List.set_cons_succ])
  clear hHeld
  go_wp2_with fail
  go_ret
  exact ⟨none, 0, rfl, World.ownsRow_nil _ _ _ _, (Keeps.refl w []).drew⟩
set_option maxRecDepth 100000 in
set_option maxHeartbeats 3200000 in
theorem partsC_any (hm : Hm w base hb ag ah vb AA FA TA MA ca nt ct nm cm cf H tr mk room) (c : Int) (h0 : 0 ≤ c) (h1 : c < 18446744073709551616) (hr : right c = true) (p : Nat) (hp : numOf c = p) (hk : kindOf c = 1) (F : Int) (hF : (H.cells[p]?).getD 0 = F) (hF0 : 0 ≤ F ∧ F < 18446744073709551616) (hkF : kindOf F = 4) (i : Nat) (hi : numOf F = i) (x : ByteArray × Int) (hx : H.funs[i]? = some x) (n : Nat) (hxn : x.2 = n) (hn9 : n ≤ 1000) (cs : List Int) (hcs : cs.length = n) (ha : ∀ (j : Nat) x, cs[j]? = some x → x = (H.cells[p + 1 + j]?).getD 0) :
    Calls Tryd.prog 62 #[.pointer (some ⟨hb, 0, none⟩), .int .u64 c] w fun e w' => ∃ A c', e = .returned (.slice A n c') ∧ w'.ownsRow w.heap.size 28 1 (.slice A n c') n (cs.map (Value.int .u64)) ∧ Keeps w w' [] := by
  have HKd := Lib.hid (fun W => kind_any c W h0 h1)
  have HNu := Lib.hid (fun W => number_any c W h0 h1)
  have hn := num_nn h0 hr
  have hn2 : numOf c < 1099511627776 := by unfold numOf; rw [if_pos hr]; have := (right_iff c).1 hr; omega
  rw [hp] at HNu
  rw [hk] at HKd
  have hg := get_at hm.ar p
  rw [hF] at hg
  generalize (H.cells[p]?).isSome = bx at hg
  have HG := Lib.hid hg
  have HKF := Lib.hid (fun W => kind_any F W hF0.1 hF0.2)
  have HNF := Lib.hid (fun W => number_any F W hF0.1 hF0.2)
  rw [hkF] at HKF
  rw [hi] at HNF
  rw [hp] at hn2
  have hil := (List.getElem?_eq_some_iff.1 hx).1
  have dl : decide ((i : Int) ≥ (H.funs.length : Int)) = false := by simp; omega
  have dl' : decide ((H.funs.length : Int) ≤ (i : Int)) = false := by simp; omega
  have dl2 : decide (H.funs.length ≤ i) = false := by simp; omega
  have x0 := hm.blk.cell 0
  obtain ⟨fb, foff, rfl, hfb, hff⟩ := (Rd.of_own hm.funs).field funE_len hx (by omega)
  have hS6 : w.cell? ⟨fb, foff + i * 2 + 1, none⟩ = some (.int .i64 n) := by rw [← hxn]; exact hff 1 _ rfl
  obtain ⟨q, hq⟩ : ∃ q : Nat, p + 1 = q := ⟨_, rfl⟩
  rw [hq] at ha
  have HQ : Hid (∀ W : World, True) := fun _ => trivial
  have hq2 : (p : Int) + 1 = (q : Int) := by omega
  have HA := Lib.hid ha
  have HC := Lib.hid hcs
  have HM := Lib.hid hm
  have HS6 := Lib.hid hS6
  have HQ2 := Lib.hid hq2
  have KW : Hid (Keeps w w.drew.drew []) := (Keeps.refl w []).drew.drew
  have hp0 : (0 : Int) ≤ (p : Int) := Int.natCast_nonneg _
  have HIL : Hid ((0 : Int) ≤ (i : Int) ∧ (i : Int) < (H.funs.length : Int)) := ⟨Int.natCast_nonneg _, by omega⟩
  have HIN := Lib.hid hil
  clear hil
  clear hm hr hk hn hg hkF hF hF0 hp hi hx hxn hff hS6 ha hcs hq hq2 HQ
  go_enter Tryd.func62, Tryd.ntmps62
  go_wp2_with fail
  refine (HNu.out _).mono ?_
  rintro e w1 ⟨rfl, rfl⟩
  go_wp2_with fail
  refine (HKd.out _).mono ?_
  rintro e w1 ⟨rfl, rfl⟩
  go_wp2_with fail
  refine HG.out.mono ?_
  rintro e w1 ⟨rfl, rfl⟩
  clear x0
  go_upto_region 4 with fail
  have hS : w.cell? ⟨hb, 2, none⟩ = some (.slice (some ⟨fb, foff, none⟩) H.funs.length cf) := HM.out.blk.cell 2
  have HS := Lib.hid hS
  clear hS
  refine wp_region_tx (fun W' => W'.cell? ⟨hb, 2, none⟩ = some (.slice (some ⟨fb, foff, none⟩) H.funs.length cf)) [(0, true), (1, false), (2, true), (3, true), (4, true), (6, true), (7, true), (8, true), (9, true), (10, true), (11, true), (5, false), (12, true), (13, false)] (by kernel_rfl) (by kernel_rfl) (by exact HS.out) (fun hHeld => ?_)
  (first | (refine wpTx_take (v := ?_) rfl (by assumption) ?_ (by rfl) ?_; rotate_left; (focus (intro w' hSw; (try dsimp only at hSw); go_simp; (try with_reducible rfl); done)); simp only [Act.put, List.setIfInBounds_toArray, List.set_cons_zero, List.set_cons_succ]) | (refine wpTx_skip rfl (by assumption) (by rfl) ?_; simp only [Act.put, List.setIfInBounds_toArray, List.set_cons_zero, List.set_cons_succ]))
  refine wpTx_go rfl (fun K hK => ?_)
  go_simp
  refine (HKF.out _).mono ?_
  rintro e w3 ⟨rfl, rfl⟩
  refine hK.out _ _ ?_ ?_
  · exact HS.out
  (clear hHeld; intro hHeld; clear hK K; (try simp only [Act.put, List.setIfInBounds_toArray, List.set_cons_zero, List.set_cons_succ]))
  (first | (refine wpTx_take (v := ?_) rfl (by assumption) ?_ (by rfl) ?_; rotate_left; (focus (intro w' hSw; (try dsimp only at hSw); go_simp; (try with_reducible rfl); done)); simp only [Act.put, List.setIfInBounds_toArray, List.set_cons_zero, List.set_cons_succ]) | (refine wpTx_skip rfl (by assumption) (by rfl) ?_; simp only [Act.put, List.setIfInBounds_toArray, List.set_cons_zero, List.set_cons_succ]))
  (first | (refine wpTx_take (v := ?_) rfl (by assumption) ?_ (by rfl) ?_; rotate_left; (focus (intro w' hSw; (try dsimp only at hSw); go_simp; (try with_reducible rfl); done)); simp only [Act.put, List.setIfInBounds_toArray, List.set_cons_zero, List.set_cons_succ]) | (refine wpTx_skip rfl (by assumption) (by rfl) ?_; simp only [Act.put, List.setIfInBounds_toArray, List.set_cons_zero, List.set_cons_succ]))
  (first | (refine wpTx_take (v := ?_) rfl (by assumption) ?_ (by rfl) ?_; rotate_left; (focus (intro w' hSw; (try dsimp only at hSw); go_simp; (try with_reducible rfl); done)); simp only [Act.put, List.setIfInBounds_toArray, List.set_cons_zero, List.set_cons_succ]) | (refine wpTx_skip rfl (by assumption) (by rfl) ?_; simp only [Act.put, List.setIfInBounds_toArray, List.set_cons_zero, List.set_cons_succ]))
  (first | (refine wpTx_take (v := ?_) rfl (by assumption) ?_ (by rfl) ?_; rotate_left; (focus (intro w' hSw; (try dsimp only at hSw); go_simp; (try with_reducible rfl); done)); simp only [Act.put, List.setIfInBounds_toArray, List.set_cons_zero, List.set_cons_succ]) | (refine wpTx_skip rfl (by assumption) (by rfl) ?_; simp only [Act.put, List.setIfInBounds_toArray, List.set_cons_zero, List.set_cons_succ]))
  (first | (refine wpTx_take (v := ?_) rfl (by assumption) ?_ (by rfl) ?_; rotate_left; (focus (intro w' hSw; (try dsimp only at hSw); go_simp; (try with_reducible rfl); done)); simp only [Act.put, List.setIfInBounds_toArray, List.set_cons_zero, List.set_cons_succ]) | (refine wpTx_skip rfl (by assumption) (by rfl) ?_; simp only [Act.put, List.setIfInBounds_toArray, List.set_cons_zero, List.set_cons_succ]))
  (first | (refine wpTx_take (v := ?_) rfl (by assumption) ?_ (by rfl) ?_; rotate_left; (focus (intro w' hSw; (try dsimp only at hSw); go_simp; (try with_reducible rfl); done)); simp only [Act.put, List.setIfInBounds_toArray, List.set_cons_zero, List.set_cons_succ]) | (refine wpTx_skip rfl (by assumption) (by rfl) ?_; simp only [Act.put, List.setIfInBounds_toArray, List.set_cons_zero, List.set_cons_succ]))
  (first | (refine wpTx_take (v := ?_) rfl (by assumption) ?_ (by rfl) ?_; rotate_left; (focus (intro w' hSw; (try dsimp only at hSw); go_simp; (try with_reducible rfl); done)); simp only [Act.put, List.setIfInBounds_toArray, List.set_cons_zero, List.set_cons_succ]) | (refine wpTx_skip rfl (by assumption) (by rfl) ?_; simp only [Act.put, List.setIfInBounds_toArray, List.set_cons_zero, List.set_cons_succ]))
  (first | (refine wpTx_take (v := ?_) rfl (by assumption) ?_ (by rfl) ?_; rotate_left; (focus (intro w' hSw; (try dsimp only at hSw); go_simp; (try with_reducible rfl); done)); simp only [Act.put, List.setIfInBounds_toArray, List.set_cons_zero, List.set_cons_succ]) | (refine wpTx_skip rfl (by assumption) (by rfl) ?_; simp only [Act.put, List.setIfInBounds_toArray, List.set_cons_zero, List.set_cons_succ]))
  (first | (refine wpTx_take (v := ?_) rfl (by assumption) ?_ (by rfl) ?_; rotate_left; (focus (intro w' hSw; (try dsimp only at hSw); go_simp; (try with_reducible rfl); done)); simp only [Act.put, List.setIfInBounds_toArray, List.set_cons_zero, List.set_cons_succ]) | (refine wpTx_skip rfl (by assumption) (by rfl) ?_; simp only [Act.put, List.setIfInBounds_toArray, List.set_cons_zero, List.set_cons_succ]))
  refine wpTx_go rfl (fun K hK => ?_)
  go_simp
  refine (HNF.out _).mono ?_
  rintro e w3 ⟨rfl, rfl⟩
  refine hK.out _ _ ?_ ?_
  · exact HS.out
  (clear hHeld; intro hHeld; clear hK K; (try simp only [Act.put, List.setIfInBounds_toArray, List.set_cons_zero, List.set_cons_succ]))
  (first | (refine wpTx_take (v := ?_) rfl (by assumption) ?_ (by rfl) ?_; rotate_left; (focus (intro w' hSw; (try dsimp only at hSw); go_simp; (try with_reducible rfl); done)); simp only [Act.put, List.setIfInBounds_toArray, List.set_cons_zero, List.set_cons_succ]) | (refine wpTx_skip rfl (by assumption) (by rfl) ?_; simp only [Act.put, List.setIfInBounds_toArray, List.set_cons_zero, List.set_cons_succ]))
  refine wpTx_last rfl (fun K hK => ?_)
  go_simp
  refine hK.out _ _ (NoPanic.normal ?_); clear hK K; (try simp only [Act.put, List.setIfInBounds_toArray, List.set_cons_zero, List.set_cons_succ])
  clear hHeld
  go_upto_region 6 with fail
  clear dl dl' dl2
  obtain ⟨hi0, hil2⟩ := HIL.out
  have hil := HIN.out
  refine wp_region_tx (fun W' => W'.cell? ⟨hb, 2, none⟩ = some (.slice (some ⟨fb, foff, none⟩) H.funs.length cf) ∧ W'.cell? ⟨fb, foff + i * 2 + 1, none⟩ = some (.int .i64 n)) [(0, true), (1, true), (2, true), (3, true), (4, true), (5, true), (6, true), (7, true), (8, false), (9, true), (10, true), (11, true), (12, true), (13, false)] (by kernel_rfl) (by kernel_rfl) (by exact ⟨HS.out, HS6.out⟩) (fun hHeld => ?_)
  (first | (refine wpTx_take (v := ?_) rfl (by assumption) ?_ (by rfl) ?_; rotate_left; (focus (intro w' hSw; (try dsimp only at hSw); go_simp; (try with_reducible rfl); done)); simp only [Act.put, List.setIfInBounds_toArray, List.set_cons_zero, List.set_cons_succ]) | (refine wpTx_skip rfl (by assumption) (by rfl) ?_; simp only [Act.put, List.setIfInBounds_toArray, List.set_cons_zero, List.set_cons_succ]))
  (first | (refine wpTx_take (v := ?_) rfl (by assumption) ?_ (by rfl) ?_; rotate_left; (focus (intro w' hSw; (try dsimp only at hSw); go_simp; (try with_reducible rfl); done)); simp only [Act.put, List.setIfInBounds_toArray, List.set_cons_zero, List.set_cons_succ]) | (refine wpTx_skip rfl (by assumption) (by rfl) ?_; simp only [Act.put, List.setIfInBounds_toArray, List.set_cons_zero, List.set_cons_succ]))
  (first | (refine wpTx_take (v := ?_) rfl (by assumption) ?_ (by rfl) ?_; rotate_left; (focus (intro w' hSw; (try dsimp only at hSw); go_simp; (try with_reducible rfl); done)); simp only [Act.put, List.setIfInBounds_toArray, List.set_cons_zero, List.set_cons_succ]) | (refine wpTx_skip rfl (by assumption) (by rfl) ?_; simp only [Act.put, List.setIfInBounds_toArray, List.set_cons_zero, List.set_cons_succ]))
  (first | (refine wpTx_take (v := ?_) rfl (by assumption) ?_ (by rfl) ?_; rotate_left; (focus (intro w' hSw; (try dsimp only at hSw); go_simp; (try with_reducible rfl); done)); simp only [Act.put, List.setIfInBounds_toArray, List.set_cons_zero, List.set_cons_succ]) | (refine wpTx_skip rfl (by assumption) (by rfl) ?_; simp only [Act.put, List.setIfInBounds_toArray, List.set_cons_zero, List.set_cons_succ]))
  (first | (refine wpTx_take (v := ?_) rfl (by assumption) ?_ (by rfl) ?_; rotate_left; (focus (intro w' hSw; (try dsimp only at hSw); go_simp; (try with_reducible rfl); done)); simp only [Act.put, List.setIfInBounds_toArray, List.set_cons_zero, List.set_cons_succ]) | (refine wpTx_skip rfl (by assumption) (by rfl) ?_; simp only [Act.put, List.setIfInBounds_toArray, List.set_cons_zero, List.set_cons_succ]))
  (first | (refine wpTx_take (v := ?_) rfl (by assumption) ?_ (by rfl) ?_; rotate_left; (focus (intro w' hSw; (try dsimp only at hSw); go_simp; (try with_reducible rfl); done)); simp only [Act.put, List.setIfInBounds_toArray, List.set_cons_zero, List.set_cons_succ]) | (refine wpTx_skip rfl (by assumption) (by rfl) ?_; simp only [Act.put, List.setIfInBounds_toArray, List.set_cons_zero, List.set_cons_succ]))
  (first | (refine wpTx_take (v := ?_) rfl (by assumption) ?_ (by rfl) ?_; rotate_left; (focus (intro w' hSw; (try dsimp only at hSw); go_simp; (try with_reducible rfl); done)); simp only [Act.put, List.setIfInBounds_toArray, List.set_cons_zero, List.set_cons_succ]) | (refine wpTx_skip rfl (by assumption) (by rfl) ?_; simp only [Act.put, List.setIfInBounds_toArray, List.set_cons_zero, List.set_cons_succ]))
  (first | (refine wpTx_take (v := ?_) rfl (by assumption) ?_ (by rfl) ?_; rotate_left; (focus (intro w' hSw; (try dsimp only at hSw); go_simp; (try with_reducible rfl); done)); simp only [Act.put, List.setIfInBounds_toArray, List.set_cons_zero, List.set_cons_succ]) | (refine wpTx_skip rfl (by assumption) (by rfl) ?_; simp only [Act.put, List.setIfInBounds_toArray, List.set_cons_zero, List.set_cons_succ]))
  refine wpTx_go rfl (fun K hK => ?_)
  go_simp
  refine (HNF.out _).mono ?_
  rintro e w3 ⟨rfl, rfl⟩
  refine hK.out _ _ ?_ ?_
  · exact ⟨HS.out, HS6.out⟩
  (clear hHeld; intro hHeld; clear hK K; (try simp only [Act.put, List.setIfInBounds_toArray, List.set_cons_zero, List.set_cons_succ]))
  (first | (refine wpTx_take (v := ?_) rfl (by assumption) ?_ (by rfl) ?_; rotate_left; (focus (intro w' hSw; (try dsimp only at hSw); go_simp; (try with_reducible rfl); done)); simp only [Act.put, List.setIfInBounds_toArray, List.set_cons_zero, List.set_cons_succ]) | (refine wpTx_skip rfl (by assumption) (by rfl) ?_; simp only [Act.put, List.setIfInBounds_toArray, List.set_cons_zero, List.set_cons_succ]))
  (first | (refine wpTx_take (v := ?_) rfl (by assumption) ?_ (by rfl) ?_; rotate_left; (focus (intro w' hSw; (try dsimp only at hSw); go_simp; (try with_reducible rfl); done)); simp only [Act.put, List.setIfInBounds_toArray, List.set_cons_zero, List.set_cons_succ]) | (refine wpTx_skip rfl (by assumption) (by rfl) ?_; simp only [Act.put, List.setIfInBounds_toArray, List.set_cons_zero, List.set_cons_succ]))
  (first | (refine wpTx_take (v := ?_) rfl (by assumption) ?_ (by rfl) ?_; rotate_left; (focus (intro w' hSw; (try dsimp only at hSw); go_simp; (try with_reducible rfl); done)); simp only [Act.put, List.setIfInBounds_toArray, List.set_cons_zero, List.set_cons_succ]) | (refine wpTx_skip rfl (by assumption) (by rfl) ?_; simp only [Act.put, List.setIfInBounds_toArray, List.set_cons_zero, List.set_cons_succ]))
  (first | (refine wpTx_take (v := ?_) rfl (by assumption) ?_ (by rfl) ?_; rotate_left; (focus (intro w' hSw; (try dsimp only at hSw); go_simp; (try with_reducible rfl); done)); simp only [Act.put, List.setIfInBounds_toArray, List.set_cons_zero, List.set_cons_succ]) | (refine wpTx_skip rfl (by assumption) (by rfl) ?_; simp only [Act.put, List.setIfInBounds_toArray, List.set_cons_zero, List.set_cons_succ]))
  refine wpTx_last rfl (fun K hK => ?_)
  go_simp
  refine hK.out _ _ (NoPanic.normal ?_); clear hK K; (try simp only [Act.put, List.setIfInBounds_toArray, List.set_cons_zero, List.set_cons_succ])
  clear hHeld
  rw [show IntKind.i64.wrap ((p : Int) + 1) = (q : Int) from (wrapS p (by omega)).trans HQ2.out]
  have b3 : (q : Int) < 1099511627777 := by have := HQ2.out; omega
  have b4 : (n : Int) ≤ 1000 := by omega
  go_wp2_with fail
  go_loopw [9, 54] (fun x9 x54 wr => ∃ (j : Nat) (A2 : Option Addr) (c2 : Nat), j ≤ n ∧ x54 = .int .i64 j ∧ x9 = .slice A2 j c2 ∧ wr.ownsRow w.heap.size 28 1 (.slice A2 j c2) j ((cs.take j).map (Value.int .u64)) ∧ Keeps w wr []) (fun _ i _ => n - (intOf i).toNat)
  case atStart => exact ⟨0, none, 0, by omega, rfl, rfl, by rw [List.take_zero]; exact World.ownsRow_nil _ _ _ _, KW.out⟩
  case round =>
    obtain ⟨j, A2, c2, hj, rfl, rfl, ho, hkk⟩ := hrel
    have HO := Lib.hid ho
    have HKK := Lib.hid hkk
    clear ho hkk
    by_cases hlt : j < n
    · obtain ⟨x, hx⟩ := at_of HC.out hlt
      have HM1 := Lib.hid (HM.out.keep0 HKK.out)
      have x0 := HM1.out.blk.cell 0
      have hg := get_at HM1.out.ar (q + j)
      rw [← HA.out j x hx, Int.natCast_add] at hg
      generalize (H.cells[q + j]?).isSome = bx at hg
      have HG := Lib.hid hg
      have HX := Lib.hid hx
      have b0 : (0 : Int) ≤ (j : Int) := Int.natCast_nonneg _
      have b1 : (j : Int) < n := by omega
      have b2 : (0 : Int) ≤ (q : Int) := Int.natCast_nonneg _
      clear hx hg
      go_wp2_with fail
      refine HG.out.mono ?_
      rintro e w3 ⟨rfl, rfl⟩
      clear x0
      go_wp2_with (at_builtin; have K5 := (Keeps.refl wr []).alloc (.cells #[.int .u64 x] 28); have hz5 := K5.size; have hz6 := HKK.out.size; refine wpList_app _ el_cells rfl (.tmp 68) (.tmp 70) rfl w.heap.size A2 j c2 ((cs.take j).map (Value.int .u64)) rfl (own_keep0 HO.out K5) (some ⟨wr.heap.size, 0, none⟩) 1 1 [.int .u64 x] rfl (Rd.one wr _ [.int .u64 x]) rfl (by simp) (by simp [Value.oneCell']) (by omega) (by omega) ?_; intro A' c' w4 hown hgrow hat; have HN : Hid (Keeps w w4 []) := ((((HKK.out.trans K5).to_ _).trans (Keeps.ofGrown hgrow)).more (fun b hb hm' => by have := (own_lt HO.out hm').1; omega)); have HO4 := Lib.hid hown; clear hown hgrow hat K5 hz5 hz6)
      go_roundw
      case rel => exact ⟨j + 1, A', c', by omega, by go_num, rfl, by rw [List.take_add_one, HX.out, List.map_append]; exact HO4.out, HN.out⟩
      case measure => simp [intOf]; omega
    · obtain rfl : j = n := by omega
      have ho2 := HO.out
      rw [List.take_of_length_le (by rw [HC.out]; exact Nat.le_refl _)] at ho2
      have HO2 := Lib.hid ho2
      clear hlt hj ho2
      go_wp2_with fail
      go_ret
      exact ⟨A2, c2, rfl, HO2.out, HKK.out⟩
theorem kind_zero : kindOf 0 = 0 := by decide
/-- A row of cells that a call hands back. -/
def RowD (w : World) (cs : List Int) (e : Ending) (w' : World) : Prop := ∃ A c', e = .returned (.slice A cs.length c') ∧ w'.ownsRow w.heap.size 28 1 (.slice A cs.length c') cs.length (cs.map (Value.int .u64)) ∧ Keeps w w' []
theorem list_at {p n j : Nat} {H : PH} {y : Int} (hy : ((List.range n).map fun i => cellP H (p + i))[j]? = some y) : y = (H.cells[p + j]?).getD 0 := by
  rw [List.getElem?_map] at hy
  cases hj : (List.range n)[j]? with
  | none => rw [hj] at hy; cases hy
  | some j' =>
    rw [hj] at hy
    have := List.getElem?_eq_some_iff.1 hj
    simp at this
    obtain ⟨_, rfl⟩ := this
    simp at hy
    exact hy.symm
set_option maxRecDepth 10000 in
/-- The program's parts. -/
theorem parts_any (hm : Hm w base hb ag ah vb AA FA TA MA ca nt ct nm cm cf H tr mk room) (ho : HOk H) (c : Int) (h0 : 0 ≤ c) (h1 : c < 18446744073709551616) (hr : right c = true) :
    Calls Tryd.prog 62 #[.pointer (some ⟨hb, 0, none⟩), .int .u64 c] w (RowD w (partsP H c)) := by
  obtain ⟨p, hp⟩ := Int.eq_ofNat_of_zero_le (num_nn h0 hr)
  have hpp : (numOf c).toNat = p := by omega
  obtain ⟨cs, hcs⟩ : ∃ cs, partsP H c = cs := ⟨_, rfl⟩
  rw [hcs]
  unfold partsP at hcs
  by_cases hk : kindOf c = 1
  · rw [if_pos hk] at hcs
    unfold funP at hcs
    rw [hpp] at hcs
    cases hF : H.cells[p]? with
    | none =>
      rw [hF] at hcs
      subst hcs
      exact partsA_any hm c h0 h1 hr p hp hk 0 (by rw [hF]; rfl) ⟨by omega, by omega⟩ (by rw [kind_zero]; omega)
    | some F =>
      have hb := hm.ar.bytes F (List.mem_of_getElem? hF)
      rw [hF] at hcs
      simp only at hcs
      by_cases hkF : kindOf F = 4
      · obtain ⟨i, hi⟩ := Int.eq_ofNat_of_zero_le (num_nn hb.1 (ho.right F (List.mem_of_getElem? hF)))
        have hii : (numOf F).toNat = i := by omega
        rw [if_pos hkF, hii] at hcs
        cases hx : H.funs[i]? with
        | none =>
          rw [hx] at hcs
          subst hcs
          exact partsB_any hm c h0 h1 hr p hp hk F (by rw [hF]; rfl) hb hkF i hi (List.getElem?_eq_none_iff.1 hx)
        | some x =>
          rw [hx] at hcs
          simp only at hcs
          have hfx := ho.funs x (List.mem_of_getElem? hx)
          have hl : cs.length = x.2.toNat := by rw [← hcs]; simp
          have h := partsC_any hm c h0 h1 hr p hp hk F (by rw [hF]; rfl) hb hkF i hi x hx x.2.toNat (by omega) (by omega) cs hl (fun j y hy => by rw [← hcs] at hy; exact list_at hy)
          rw [← hl] at h
          exact h
      · rw [if_neg hkF] at hcs
        subst hcs
        exact partsA_any hm c h0 h1 hr p hp hk F (by rw [hF]; rfl) hb hkF
  · rw [if_neg hk, hpp] at hcs
    have hl : cs.length = 2 := by rw [← hcs]; rfl
    have h := partsN_any hm c h0 h1 hr p hp hk cs hl (fun j y hy => by rw [← hcs] at hy; exact list_at hy)
    rw [← hl] at h
    exact h
end
end Go.Proofs.YtnonfmaehfmigaaDoor

/- The program's Deref, at whatever cell. Printed by gen_hpderefg.py. -/
namespace Go.Proofs.YtnonfmaehfmigaaDoor
open Go.RowKit Go.Maps
section
variable {w : World} {base hb ag ah vb : Nat} {AA FA TA MA : Option Addr} {ca nt ct nm cm cf : Nat} {H : PH} {tr : List Int} {mk : List (Int × Int)} {room : Nat}
def derV (o : Option Int) : Value := .tuple #[.int .u64 (o.getD 0), .bool o.isSome]
set_option maxRecDepth 100000 in
set_option maxHeartbeats 3200000 in
theorem deref_any (hm : Hm w base hb ag ah vb AA FA TA MA ca nt ct nm cm cf H tr mk room) (ho : HOk H) (c : Int) (h0 : 0 ≤ c) (h1 : c < 18446744073709551616) (hr : right c = true) :
    Calls Tryd.prog 15 #[.pointer (some ⟨hb, 0, none⟩), .int .u64 c] w fun e w' => e = .returned (derV (derefP H c)) ∧ Keeps w w' [] := by
  have HR := Lib.hid (fun W => right_any c W h0 h1)
  rw [hr] at HR
  have HHO := Lib.hid ho
  have hbb := hm.ar.bytes
  have HBB := Lib.hid hbb
  have HM := Lib.hid hm
  have HC0 : Hid (derefP H c = derefP H c ∧ 0 ≤ c ∧ c < 18446744073709551616 ∧ right c = true) := ⟨rfl, h0, h1, hr⟩
  clear hm ho hr h0 h1 hbb
  go_enter Tryd.func15, Tryd.ntmps15
  go_wp2_with fail
  refine (HR.out _).mono ?_
  rintro e w1 ⟨rfl, rfl⟩
  go_wp2_with fail
  go_loopw [1] (fun x1 wr => ∃ c1 : Int, x1 = .int .u64 c1 ∧ (derefP H c1 = derefP H c ∧ 0 ≤ c1 ∧ c1 < 18446744073709551616 ∧ right c1 = true) ∧ Keeps w wr []) (fun x _ => needD (intOf x))
  case atStart => exact ⟨c, rfl, ⟨rfl, HC0.out.2⟩, Keeps.refl _ _⟩
  case round =>
    obtain ⟨c1, rfl, ⟨hd, h0, h1, hr⟩, hkk⟩ := hrel
    have HKK := Lib.hid hkk
    have HKd := Lib.hid (fun W => kind_any c1 W h0 h1)
    by_cases hk : kindOf c1 = 0
    · rw [hk] at HKd
      obtain ⟨p, hp⟩ := Int.eq_ofNat_of_zero_le (num_nn h0 hr)
      have HNu := Lib.hid (fun W => number_any c1 W h0 h1)
      rw [hp] at HNu
      have hg := get_at (HM.out.keep0 HKK.out).ar.drew p
      have hpp : (numOf c1).toNat = p := by omega
      clear hkk HC0 HR
      cases hx : H.cells[p]? with
      | none =>
        have HD : Hid (derefP H c = none) := by rw [← hd]; exact deref_of_gone hk (by rw [hpp]; exact hx)
        rw [hx] at hg
        have HG : Hid (_) := Lib.hid hg
        clear hg hx hd h0 h1 hr hk hp hpp
        go_wp2_with fail
        refine (HKd.out _).mono ?_
        rintro e w2 ⟨rfl, rfl⟩
        go_upto_region 4 with fail
        have hM1 := HM.out.keep0 HKK.out
        have HM1 := Lib.hid hM1
        have hS : wr.cell? ⟨hb, 0, none⟩ = some (.pointer (some ⟨ag, 0, none⟩)) := hM1.blk.cell 0
        have HS := Lib.hid hS
        clear hM1 hS
        refine wp_region_th (fun W' => W'.cell? ⟨hb, 0, none⟩ = some (.pointer (some ⟨ag, 0, none⟩))) 10 [9] [(0, true), (1, true), (2, true), (3, true), (4, true), (5, false), (6, false), (7, true), (8, true), (9, true), (10, false), (11, false)] (by kernel_rfl) (by kernel_rfl) (by exact HS.out) (fun hHeld => ?_)
        (repeat (first | (refine wpTh_take (v := ?_) rfl (by rfl) (by assumption) ?_ (by rfl) ?_; rotate_left; (focus (intro w' hSw; (try dsimp only at hSw); go_simp; (try with_reducible rfl); done)); simp only [Act.put, List.setIfInBounds_toArray, List.set_cons_zero, List.set_cons_succ]) | (refine wpTh_pure (v := ?_) rfl (by rfl) (by assumption) ?_ (by rfl) ?_; rotate_left; (focus (intro w'; go_simp; (try with_reducible rfl); done)); simp only [Act.put, List.setIfInBounds_toArray, List.set_cons_zero, List.set_cons_succ])))
        refine wpTh_go rfl (fun K hK => ?_)
        go_simp
        refine (HNu.out _).mono ?_
        rintro e w3 ⟨rfl, rfl⟩
        refine hK.out _ _ ?_ ?_
        · exact HS.out
        (clear hHeld; intro hHeld; clear hK K; (try simp only [Act.put, List.setIfInBounds_toArray, List.set_cons_zero, List.set_cons_succ]))
        (repeat (first | (refine wpTh_take (v := ?_) rfl (by rfl) (by assumption) ?_ (by rfl) ?_; rotate_left; (focus (intro w' hSw; (try dsimp only at hSw); go_simp; (try with_reducible rfl); done)); simp only [Act.put, List.setIfInBounds_toArray, List.set_cons_zero, List.set_cons_succ]) | (refine wpTh_pure (v := ?_) rfl (by rfl) (by assumption) ?_ (by rfl) ?_; rotate_left; (focus (intro w'; go_simp; (try with_reducible rfl); done)); simp only [Act.put, List.setIfInBounds_toArray, List.set_cons_zero, List.set_cons_succ])))
        refine wpTh_go rfl (fun K hK => ?_)
        go_simp
        refine (HG.out).mono ?_
        rintro e w4 ⟨rfl, rfl⟩
        refine hK.out _ _ ?_ ?_
        · exact HS.out
        (clear hHeld; intro hHeld; clear hK K; (try simp only [Act.put, List.setIfInBounds_toArray, List.set_cons_zero, List.set_cons_succ]))
        (repeat (first | (refine wpTh_take (v := ?_) rfl (by rfl) (by assumption) ?_ (by rfl) ?_; rotate_left; (focus (intro w' hSw; (try dsimp only at hSw); go_simp; (try with_reducible rfl); done)); simp only [Act.put, List.setIfInBounds_toArray, List.set_cons_zero, List.set_cons_succ]) | (refine wpTh_pure (v := ?_) rfl (by rfl) (by assumption) ?_ (by rfl) ?_; rotate_left; (focus (intro w'; go_simp; (try with_reducible rfl); done)); simp only [Act.put, List.setIfInBounds_toArray, List.set_cons_zero, List.set_cons_succ])))
        refine wpTh_tail rfl (by decide) (fun K hK => ?_)
        go_simp
        refine hK.out _ _ ?_; clear hK K; (try simp only [Act.put, List.setIfInBounds_toArray, List.set_cons_zero, List.set_cons_succ])
        refine wpTh_last rfl (by decide) (fun K hK => ?_)
        go_simp
        refine hK.out _ _ (NoPanic.normal ?_)
        clear hK K hHeld
        go_wp2_with fail
        go_ret2
        exact ⟨by rw [HD.out]; rfl, HKK.out.drew⟩
      | some x =>
        rw [hx] at hg
        by_cases hxc : x = c1
        · subst hxc
          have HD : Hid (derefP H c = some x) := by rw [← hd]; exact deref_of_self hk (by rw [hpp]; exact hx)
          have HG : Hid (_) := Lib.hid hg
          clear hg hx hd h0 h1 hr hk hp hpp
          go_wp2_with fail
          refine (HKd.out _).mono ?_
          rintro e w2 ⟨rfl, rfl⟩
          go_upto_region 4 with fail
          have hM1 := HM.out.keep0 HKK.out
          have HM1 := Lib.hid hM1
          have hS : wr.cell? ⟨hb, 0, none⟩ = some (.pointer (some ⟨ag, 0, none⟩)) := hM1.blk.cell 0
          have HS := Lib.hid hS
          clear hM1 hS
          refine wp_region_th (fun W' => W'.cell? ⟨hb, 0, none⟩ = some (.pointer (some ⟨ag, 0, none⟩))) 10 [9] [(0, true), (1, true), (2, true), (3, true), (4, true), (5, false), (6, false), (7, true), (8, true), (9, true), (10, false), (11, false)] (by kernel_rfl) (by kernel_rfl) (by exact HS.out) (fun hHeld => ?_)
          (repeat (first | (refine wpTh_take (v := ?_) rfl (by rfl) (by assumption) ?_ (by rfl) ?_; rotate_left; (focus (intro w' hSw; (try dsimp only at hSw); go_simp; (try with_reducible rfl); done)); simp only [Act.put, List.setIfInBounds_toArray, List.set_cons_zero, List.set_cons_succ]) | (refine wpTh_pure (v := ?_) rfl (by rfl) (by assumption) ?_ (by rfl) ?_; rotate_left; (focus (intro w'; go_simp; (try with_reducible rfl); done)); simp only [Act.put, List.setIfInBounds_toArray, List.set_cons_zero, List.set_cons_succ])))
          refine wpTh_go rfl (fun K hK => ?_)
          go_simp
          refine (HNu.out _).mono ?_
          rintro e w3 ⟨rfl, rfl⟩
          refine hK.out _ _ ?_ ?_
          · exact HS.out
          (clear hHeld; intro hHeld; clear hK K; (try simp only [Act.put, List.setIfInBounds_toArray, List.set_cons_zero, List.set_cons_succ]))
          (repeat (first | (refine wpTh_take (v := ?_) rfl (by rfl) (by assumption) ?_ (by rfl) ?_; rotate_left; (focus (intro w' hSw; (try dsimp only at hSw); go_simp; (try with_reducible rfl); done)); simp only [Act.put, List.setIfInBounds_toArray, List.set_cons_zero, List.set_cons_succ]) | (refine wpTh_pure (v := ?_) rfl (by rfl) (by assumption) ?_ (by rfl) ?_; rotate_left; (focus (intro w'; go_simp; (try with_reducible rfl); done)); simp only [Act.put, List.setIfInBounds_toArray, List.set_cons_zero, List.set_cons_succ])))
          refine wpTh_go rfl (fun K hK => ?_)
          go_simp
          refine (HG.out).mono ?_
          rintro e w4 ⟨rfl, rfl⟩
          refine hK.out _ _ ?_ ?_
          · exact HS.out
          (clear hHeld; intro hHeld; clear hK K; (try simp only [Act.put, List.setIfInBounds_toArray, List.set_cons_zero, List.set_cons_succ]))
          (repeat (first | (refine wpTh_take (v := ?_) rfl (by rfl) (by assumption) ?_ (by rfl) ?_; rotate_left; (focus (intro w' hSw; (try dsimp only at hSw); go_simp; (try with_reducible rfl); done)); simp only [Act.put, List.setIfInBounds_toArray, List.set_cons_zero, List.set_cons_succ]) | (refine wpTh_pure (v := ?_) rfl (by rfl) (by assumption) ?_ (by rfl) ?_; rotate_left; (focus (intro w'; go_simp; (try with_reducible rfl); done)); simp only [Act.put, List.setIfInBounds_toArray, List.set_cons_zero, List.set_cons_succ])))
          refine wpTh_tail rfl (by decide) (fun K hK => ?_)
          go_simp
          refine hK.out _ _ ?_; clear hK K; (try simp only [Act.put, List.setIfInBounds_toArray, List.set_cons_zero, List.set_cons_succ])
          refine wpTh_last rfl (by decide) (fun K hK => ?_)
          go_simp
          refine hK.out _ _ (NoPanic.normal ?_)
          clear hK K hHeld
          go_wp2_with fail
          go_ret2
          exact ⟨by rw [HD.out]; rfl, HKK.out.drew⟩
        · have hm := List.mem_of_getElem? hx
          have hb0 : ∀ x ∈ H.cells, 0 ≤ x := fun x hx => (HBB.out x hx).1
          have hN : Hid ((derefP H x = derefP H c ∧ 0 ≤ x ∧ x < 18446744073709551616 ∧ right x = true) ∧ needD x < needD c1) := ⟨⟨(deref_of_step HHO.out hb0 h0 hr hk (by rw [hpp]; exact hx) hxc).symm.trans hd, (HBB.out x hm).1, (HBB.out x hm).2, HHO.out.right x hm⟩, HHO.out.less hb0 h0 hr hk (by rw [hpp]; exact hx) hxc⟩
          have ex : (x == c1) = false := by simpa using hxc
          have HG : Hid (_) := Lib.hid hg
          clear hg hx hd h0 h1 hr hk hp hpp hm hb0 hxc
          go_wp2_with fail
          refine (HKd.out _).mono ?_
          rintro e w2 ⟨rfl, rfl⟩
          go_upto_region 4 with fail
          have hM1 := HM.out.keep0 HKK.out
          have HM1 := Lib.hid hM1
          have hS : wr.cell? ⟨hb, 0, none⟩ = some (.pointer (some ⟨ag, 0, none⟩)) := hM1.blk.cell 0
          have HS := Lib.hid hS
          clear hM1 hS
          refine wp_region_th (fun W' => W'.cell? ⟨hb, 0, none⟩ = some (.pointer (some ⟨ag, 0, none⟩))) 10 [9] [(0, true), (1, true), (2, true), (3, true), (4, true), (5, false), (6, false), (7, true), (8, true), (9, true), (10, false), (11, false)] (by kernel_rfl) (by kernel_rfl) (by exact HS.out) (fun hHeld => ?_)
          (repeat (first | (refine wpTh_take (v := ?_) rfl (by rfl) (by assumption) ?_ (by rfl) ?_; rotate_left; (focus (intro w' hSw; (try dsimp only at hSw); go_simp; (try with_reducible rfl); done)); simp only [Act.put, List.setIfInBounds_toArray, List.set_cons_zero, List.set_cons_succ]) | (refine wpTh_pure (v := ?_) rfl (by rfl) (by assumption) ?_ (by rfl) ?_; rotate_left; (focus (intro w'; go_simp; (try with_reducible rfl); done)); simp only [Act.put, List.setIfInBounds_toArray, List.set_cons_zero, List.set_cons_succ])))
          refine wpTh_go rfl (fun K hK => ?_)
          go_simp
          refine (HNu.out _).mono ?_
          rintro e w3 ⟨rfl, rfl⟩
          refine hK.out _ _ ?_ ?_
          · exact HS.out
          (clear hHeld; intro hHeld; clear hK K; (try simp only [Act.put, List.setIfInBounds_toArray, List.set_cons_zero, List.set_cons_succ]))
          (repeat (first | (refine wpTh_take (v := ?_) rfl (by rfl) (by assumption) ?_ (by rfl) ?_; rotate_left; (focus (intro w' hSw; (try dsimp only at hSw); go_simp; (try with_reducible rfl); done)); simp only [Act.put, List.setIfInBounds_toArray, List.set_cons_zero, List.set_cons_succ]) | (refine wpTh_pure (v := ?_) rfl (by rfl) (by assumption) ?_ (by rfl) ?_; rotate_left; (focus (intro w'; go_simp; (try with_reducible rfl); done)); simp only [Act.put, List.setIfInBounds_toArray, List.set_cons_zero, List.set_cons_succ])))
          refine wpTh_go rfl (fun K hK => ?_)
          go_simp
          refine (HG.out).mono ?_
          rintro e w4 ⟨rfl, rfl⟩
          refine hK.out _ _ ?_ ?_
          · exact HS.out
          (clear hHeld; intro hHeld; clear hK K; (try simp only [Act.put, List.setIfInBounds_toArray, List.set_cons_zero, List.set_cons_succ]))
          (repeat (first | (refine wpTh_take (v := ?_) rfl (by rfl) (by assumption) ?_ (by rfl) ?_; rotate_left; (focus (intro w' hSw; (try dsimp only at hSw); go_simp; (try with_reducible rfl); done)); simp only [Act.put, List.setIfInBounds_toArray, List.set_cons_zero, List.set_cons_succ]) | (refine wpTh_pure (v := ?_) rfl (by rfl) (by assumption) ?_ (by rfl) ?_; rotate_left; (focus (intro w'; go_simp; (try with_reducible rfl); done)); simp only [Act.put, List.setIfInBounds_toArray, List.set_cons_zero, List.set_cons_succ])))
          refine wpTh_tail rfl (by decide) (fun K hK => ?_)
          go_simp
          refine hK.out _ _ ?_; clear hK K; (try simp only [Act.put, List.setIfInBounds_toArray, List.set_cons_zero, List.set_cons_succ])
          refine wpTh_last rfl (by decide) (fun K hK => ?_)
          go_simp
          refine hK.out _ _ (NoPanic.normal ?_)
          clear hK K hHeld
          go_wp2_with fail
          go_roundw
          case rel => exact ⟨x, rfl, hN.out.1, HKK.out.drew⟩
          case measure => simpa [intOf] using hN.out.2
    · have ek : (kindOf c1 == 0) = false := by simpa using hk
      have HD : Hid (derefP H c = some c1) := by rw [← hd]; exact deref_of_non hk
      clear hkk HC0 HR hk hd h0 h1 hr
      go_wp2_with fail
      refine (HKd.out _).mono ?_
      rintro e w2 ⟨rfl, rfl⟩
      go_wp2_with fail
      go_ret2
      exact ⟨by rw [HD.out]; rfl, HKK.out⟩
end
end Go.Proofs.YtnonfmaehfmigaaDoor

/- Which cells were looked at, while a term within itself is looked for: the plain law, and a map of such in memory. -/
namespace Go.Proofs.YtnonfmaehfmigaaDoor
open Go.RowKit Go.Maps

theorem Rg.same {H : PH} {c : Int} {t : Tm} (h : Rg H c t) : ∀ {t' : Tm}, Rg H c t' → t' = t := by
  induction h with
  | var c d hd hk =>
    intro t' h'
    cases h' with
    | var _ d' hd' hk' => rw [hd] at hd'; obtain rfl := Option.some.inj hd'; rfl
    | con _ d' s hd' hk' ha => rw [hd] at hd'; obtain rfl := Option.some.inj hd'; omega
    | cmp _ d' l hd' hk' hne hl h => rw [hd] at hd'; obtain rfl := Option.some.inj hd'; omega
  | con c d s hd hk ha =>
    intro t' h'
    cases h' with
    | var _ d' hd' hk' => rw [hd] at hd'; obtain rfl := Option.some.inj hd'; omega
    | con _ d' s' hd' hk' ha' => rw [hd] at hd'; obtain rfl := Option.some.inj hd'; rw [ha] at ha'; obtain rfl := Option.some.inj ha'; rfl
    | cmp _ d' l hd' hk' hne hl h => rw [hd] at hd'; obtain rfl := Option.some.inj hd'; omega
  | cmp c d l hd hk hne hl h ih =>
    intro t' h'
    cases h' with
    | var _ d' hd' hk' => rw [hd] at hd'; obtain rfl := Option.some.inj hd'; omega
    | con _ d' s hd' hk' ha => rw [hd] at hd'; obtain rfl := Option.some.inj hd'; omega
    | cmp _ d' l' hd' hk' hne' hl' h' =>
      rw [hd] at hd'
      obtain rfl := Option.some.inj hd'
      have : l' = l := by
        apply List.ext_getElem? 
        intro j
        by_cases hj : j < l.length
        · have h1 : l[j]? = some l[j] := List.getElem?_eq_getElem hj
          have h2 : l'[j]? = some (l'[j]'(by omega)) := List.getElem?_eq_getElem (by omega)
          have h3 : (partsP H d)[j]? = some ((partsP H d)[j]'(by omega)) := List.getElem?_eq_getElem (by omega)
          rw [h1, h2, ih j _ _ h1 h3 (h' j _ _ h2 h3)]
        · rw [List.getElem?_eq_none (by omega), List.getElem?_eq_none (by omega)]
      rw [this]
theorem Rg.at_deref {H : PH} {c d : Int} {t : Tm} (h : Rg H c t) (hd : derefP H c = some d) (hdd : derefP H d = some d) : Rg H d t := by
  cases h with
  | var _ d' hd' hk => rw [hd] at hd'; obtain rfl := Option.some.inj hd'; exact .var _ _ hdd hk
  | con _ d' s hd' hk ha => rw [hd] at hd'; obtain rfl := Option.some.inj hd'; exact .con _ _ s hdd hk ha
  | cmp _ d' l hd' hk hne hl h => rw [hd] at hd'; obtain rfl := Option.some.inj hd'; exact .cmp _ _ l hdd hk hne hl h
/-- A part's tree is less. -/
theorem Rg.part {H : PH} {c d x : Int} {t : Tm} (h : Rg H c t) (hd : derefP H c = some d) (hk : kindOf d = 1 ∨ kindOf d = 3) (hx : x ∈ partsP H d) : ∃ u, Rg H x u ∧ tSize u < tSize t := by
  cases h with
  | var _ d' hd' hk' => rw [hd] at hd'; obtain rfl := Option.some.inj hd'; omega
  | con _ d' s hd' hk' ha => rw [hd] at hd'; obtain rfl := Option.some.inj hd'; omega
  | cmp _ d' l hd' hk' hne hl h =>
    rw [hd] at hd'
    obtain rfl := Option.some.inj hd'
    obtain ⟨j, hj⟩ := List.getElem?_of_mem hx
    have hjl : j < l.length := by rw [hl]; exact (List.getElem?_eq_some_iff.1 hj).1
    have h1 : l[j]? = some l[j] := List.getElem?_eq_getElem hjl
    refine ⟨l[j], h j _ x h1 hj, ?_⟩
    have := tSizes_mem (List.mem_of_getElem? h1)
    rw [tSize]
    omega
/-- There is no tree, that is less than each that is above. -/
def NoT (H : PH) (S : Int → Option Bool) (c : Int) : Prop := ∀ t, Rg H c t → ¬ ∀ a, S a = some true → ∀ ta, Rg H a ta → tSize t < tSize ta
def putB (S : Int → Option Bool) (x : Int) (b : Bool) : Int → Option Bool := fun y => if y = x then some b else S y
theorem putB_at (S : Int → Option Bool) (x : Int) (b : Bool) : putB S x b x = some b := by unfold putB; rw [if_pos rfl]
theorem putB_ne (S : Int → Option Bool) {x y : Int} (b : Bool) (h : y ≠ x) : putB S x b y = S y := by unfold putB; rw [if_neg h]
/-- How many weren't looked at. -/
def uns (U : List Int) (S : Int → Option Bool) : Nat := (U.filter fun x => (S x).isNone).length
theorem uns_le {U : List Int} {S S' : Int → Option Bool} (h : ∀ x b, S x = some b → S' x = some b) : uns U S' ≤ uns U S := by
  unfold uns
  induction U with
  | nil => simp
  | cons a U ih =>
    rw [List.filter_cons, List.filter_cons]
    cases hS : S a with
    | none =>
      cases hS' : S' a with
      | none => simp; exact ih
      | some b => simp; omega
    | some b => rw [h a b hS]; simp; exact ih
theorem uns_put {U : List Int} {S : Int → Option Bool} {d : Int} (hd : d ∈ U) (hn : S d = none) (b : Bool) : uns U (putB S d b) + 1 ≤ uns U S := by
  unfold uns
  induction U with
  | nil => simp at hd
  | cons a U ih =>
    rw [List.filter_cons, List.filter_cons]
    by_cases hda : a = d
    · subst hda
      rw [putB_at, hn]
      simp
      have h1 : uns U (putB S a b) ≤ uns U S := uns_le fun x c hx => by
        rw [putB_ne]
        · exact hx
        · rintro rfl; rw [hn] at hx; cases hx
      unfold uns at h1
      exact h1
    · have hd' : d ∈ U := (List.mem_cons.1 hd).resolve_left (Ne.symm hda)
      have h2 := ih hd'
      rw [putB_ne _ _ hda]
      cases hS : S a with
      | none => simp; omega
      | some c => simp; omega
theorem uns_len (U : List Int) (S : Int → Option Bool) : uns U S ≤ U.length := List.length_filter_le _ _
/-- What was looked at, and is done. -/
structure CycS (U : List Int) (S : Int → Option Bool) (n : Nat) (S' : Int → Option Bool) (n' : Nat) : Prop where
  keep : ∀ x b, S x = some b → S' x = some b
  tru : ∀ x, S' x = some true → S x = some true
  bud : n' + 2 * uns U S' ≤ n + 2 * uns U S
theorem CycS.refl (U : List Int) (S : Int → Option Bool) (n : Nat) : CycS U S n S n := ⟨fun _ _ h => h, fun _ h => h, Nat.le_refl _⟩
theorem CycS.trans {U : List Int} {A B C : Int → Option Bool} {a b c : Nat} (h : CycS U A a B b) (k : CycS U B b C c) : CycS U A a C c := ⟨fun x y e => k.keep x y (h.keep x y e), fun x e => h.tru x (k.tru x e), Nat.le_trans k.bud h.bud⟩
theorem CycS.noT {H : PH} {U : List Int} {S S' : Int → Option Bool} {n n' : Nat} (h : CycS U S n S' n') {c : Int} (k : NoT H S' c) : NoT H S c :=
  fun t ht hn => k t ht fun a ha ta hta => hn a (h.tru a ha) ta hta
theorem noT_up {H : PH} {S : Int → Option Bool} {c d x : Int} (hd : derefP H c = some d) (hdd : derefP H d = some d) (hk : kindOf d = 1 ∨ kindOf d = 3) (hx : x ∈ partsP H d) (h : NoT H (putB S d true) x) : NoT H S c := by
  intro t ht hn
  obtain ⟨u, hu, hlt⟩ := ht.part hd hk hx
  refine h u hu fun a ha ta hta => ?_
  by_cases had : a = d
  · subst had
    rw [(ht.at_deref hd hdd).same hta]
    exact hlt
  · rw [putB_ne _ _ had] at ha
    have := hn a ha ta hta
    omega
theorem noT_self {H : PH} {S : Int → Option Bool} {c d : Int} (hd : derefP H c = some d) (hdd : derefP H d = some d) (hS : S d = some true) : NoT H S c := fun t ht hn => by
  have := hn d hS t (ht.at_deref hd hdd)
  omega
theorem cycS_done {U : List Int} {S S2 : Int → Option Bool} {d : Int} {n n2 : Nat} (hd : d ∈ U) (hn : S d = none) (h : CycS U (putB S d true) (n + 1) S2 n2) : CycS U S n (putB S2 d false) (n2 + 1) := by
  have h0 : ∀ x b, S x = some b → x ≠ d := fun x b hx e => by subst e; rw [hn] at hx; cases hx
  refine ⟨fun x b hx => ?_, fun x hx => ?_, ?_⟩
  · have hne := h0 x b hx
    rw [putB_ne _ _ hne]
    exact h.keep x b (by rw [putB_ne _ _ hne]; exact hx)
  · by_cases hxd : x = d
    · subst hxd; rw [putB_at] at hx; cases hx
    · rw [putB_ne _ _ hxd] at hx
      have := h.tru x hx
      rwa [putB_ne _ _ hxd] at this
  · have h1 : uns U (putB S2 d false) ≤ uns U S2 := by
      have h2 : S2 d = some true := h.keep d true (putB_at _ _ _)
      unfold uns
      refine Nat.le_of_eq (congrArg List.length (List.filter_congr fun x _ => ?_))
      by_cases hxd : x = d
      · subst hxd; rw [putB_at, h2]; rfl
      · rw [putB_ne _ _ hxd]
    have h3 := uns_put hd hn true
    have := h.bud
    omega
/-! ### In memory -/
theorem law_cell : Keyed Tryd.prog 28 := int_keyed Tryd.underlying28
theorem zero_bool (w : World) : (zeroValue 4).run Tryd.prog w = .ok (.bool false) w := by kernel_rfl
def U64 (x : Int) : Prop := 0 ≤ x ∧ x < 18446744073709551616
theorem U64.wf {x : Int} (h : U64 x) : (Lit.int .u64 x).wf = true := WalkArith.wf_u64 (by have := h.1; have := h.2; omega)
theorem U64.key {x : Int} (h : U64 x) : keyOf Tryd.prog 28 (.int .u64 x) = some (.int .u64 x) := keyOf_int_mk Tryd.underlying28 h.wf
/-- A map of cells, of at most n entries. -/
def VC (w : World) (b n : Nat) (f : Int → Option Bool) : Prop :=
  ∃ D : DataW Unit, w.ownsMap Tryd.prog 28 (plainElem Tryd.prog 4) b n D ∧ ∀ x, U64 x → Maps.has D (.int .u64 x) = (f x).isSome ∧ D.atKey (.int .u64 x) (.lit (.bool false)) = .lit (.bool ((f x).getD false))
theorem VC.kept {w w' : World} {b n : Nat} {f : Int → Option Bool} (h : VC w b n f) {L : List Nat} (k : Keeps w w' L) (hb : b ∉ L) : VC w' b n f := by
  obtain ⟨D, h1, h2⟩ := h
  obtain ⟨es, clock, e1, r⟩ := h1
  exact ⟨D, ⟨es, clock, (k.block b (Array.getElem?_eq_some_iff.1 e1).1 hb).trans e1, r⟩, h2⟩
theorem VC.lt {w : World} {b n : Nat} {f : Int → Option Bool} (h : VC w b n f) : b < w.heap.size := by
  obtain ⟨D, h1, _⟩ := h
  exact h1.lt
theorem plainElem_bool_inv {P : Program} {e : TypeId} (he : P.underlying e = some .bool) {v : Value} {z : DataW Unit × List MemPlace} (h : plainElem P e v = some z) : ∃ b, v = .bool b ∧ z = (.lit (.bool b), []) := by
  unfold plainElem at h
  rw [he] at h
  cases v <;> simp at h
  subst h
  exact ⟨_, rfl, rfl⟩
set_option maxRecDepth 100000 in
/-- The look-up. -/
theorem VC.look {w : World} {b n : Nat} {f : Int → Option Bool} (h : VC w b n f) {x : Int} (hx : U64 x) : (Instr.lookup 71 (.map (some b)) (.int .u64 x) true).run Tryd.prog w = .ok (.tuple #[.bool ((f x).getD false), .bool (f x).isSome]) w := by
  obtain ⟨D, h1, h2⟩ := h
  obtain ⟨v, ps, hrun, hv⟩ := h1.look_ok law_cell Tryd.underlying71 (zero_bool w) (plainElem_bool Tryd.underlying4 false) hx.key
  obtain ⟨c, rfl, hc⟩ := plainElem_bool_inv Tryd.underlying4 hv
  obtain ⟨h3, h4⟩ := h2 x hx
  have h5 := congrArg Prod.fst hc
  simp only at h5
  rw [h4] at h5
  have h6 : (f x).getD false = c := by injection h5 with h5; injection h5
  rw [hrun, h3, h6]
/-- The store. -/
theorem VC.put {w : World} {b n : Nat} {f : Int → Option Bool} (h : VC w b n f) (hn : n ≤ 1000000) {x : Int} (hx : U64 x) (p : Bool) :
    ∃ w', (Instr.mapUpdate 71 (.map (some b)) (.int .u64 x) (.bool p)).run Tryd.prog w = .ok () w' ∧ VC w' b (n + 1) (putB f x p) ∧ Keeps w w' [b] := by
  obtain ⟨D, h1, h2⟩ := h
  obtain ⟨w', hrun, h3, hg⟩ := h1.update law_cell Tryd.underlying71 (by unfold maxLen; omega) hx.key (plainElem_bool Tryd.underlying4 p)
  refine ⟨w', hrun, ⟨_, h3, fun y hy => ?_⟩, ⟨hg.os, hg.tape, hg.output, hg.size, fun k hk hkb => hg.block k hk (fun e => hkb (by injection e with e; subst e; simp))⟩⟩
  by_cases hyx : y = x
  · subst hyx
    unfold putB
    rw [if_pos rfl]
    exact ⟨has_put_same h1.isMap (by trivial) _, atKey_put_same h1.isMap (by trivial) _ _⟩
  · have hne : (Lit.int .u64 y) ≠ Lit.int .u64 x := fun e => hyx (by injection e)
    unfold putB
    rw [if_neg hyx, has_put_other hne, atKey_put_other hne]
    exact h2 y hy
theorem VC.made (w : World) : VC (w.alloc (.map #[] 0)) w.heap.size 0 (fun _ => none) :=
  ⟨_, World.ownsMap_made w Tryd.prog 28 _, fun _ _ => ⟨rfl, rfl⟩⟩
end Go.Proofs.YtnonfmaehfmigaaDoor

/- The program's look for a term within itself. -/
namespace Go.Proofs.YtnonfmaehfmigaaDoor
open Go.RowKit Go.Maps
theorem drf_mem {H : PH} : ∀ (f : Nat) (c d : Int), drf H f c = some d → d = c ∨ d ∈ H.cells
  | 0, c, d, h => by rw [drf] at h; cases h
  | f + 1, c, d, h => by
    rw [drf] at h
    split at h
    · cases hx : H.cells[(numOf c).toNat]? with
      | none => rw [hx] at h; cases h
      | some x =>
        rw [hx] at h
        simp only at h
        split at h
        · exact .inl (Option.some.inj h).symm
        · rcases drf_mem f x d h with rfl | h1
          · exact .inr (List.mem_of_getElem? hx)
          · exact .inr h1
    · exact .inl (Option.some.inj h).symm
theorem deref_mem {H : PH} {c d : Int} (h : derefP H c = some d) : d = c ∨ d ∈ H.cells := drf_mem _ c d h
theorem parts_mem {H : PH} {c x : Int} (h : x ∈ partsP H c) : x = 0 ∨ x ∈ H.cells := by
  have key : ∀ i, cellP H i = 0 ∨ cellP H i ∈ H.cells := fun i => by
    unfold cellP
    cases hc : H.cells[i]? with
    | none => exact .inl rfl
    | some y => exact .inr (List.mem_of_getElem? hc)
  unfold partsP at h
  split at h
  · cases hf : funP H c with
    | none => rw [hf] at h; simp at h
    | some y =>
      rw [hf] at h
      simp only [List.mem_map] at h
      obtain ⟨i, _, rfl⟩ := h
      exact key _
  · simp only [List.mem_map] at h
    obtain ⟨i, _, rfl⟩ := h
    exact key _
/-- The cells that may be met. -/
structure Uok (H : PH) (U : List Int) : Prop where
  zero : (0 : Int) ∈ U
  cells : ∀ x ∈ H.cells, x ∈ U
/-- A cell that may be met. -/
structure Cok (U : List Int) (c : Int) : Prop where
  mem : c ∈ U
  low : 0 ≤ c
  up : c < 18446744073709551616
  rt : right c = true
def CycD (w : World) (sb : Nat) (H : PH) (U : List Int) (S : Int → Option Bool) (n : Nat) (c : Int) (e : Ending) (w' : World) : Prop :=
  ∃ (r : Bool) (S' : Int → Option Bool) (n' : Nat), e = .returned (.bool r) ∧ Keeps w w' [sb] ∧ (r = true → NoT H S c) ∧ (r = false → VC w' sb n' S' ∧ CycS U S n S' n')
section
variable {base hb ag ah vb : Nat} {AA FA TA MA : Option Addr} {ca nt ct nm cm cf : Nat} {H : PH} {tr : List Int} {mk : List (Int × Int)} {room : Nat} {U : List Int}
/-- What stands ahead of each look. -/
structure CycP (w : World) (sb base hb ag ah vb : Nat) (AA FA TA MA : Option Addr) (ca nt ct nm cm cf : Nat) (H : PH) (tr : List Int) (mk : List (Int × Int)) (room : Nat) (U : List Int) (S : Int → Option Bool) (n : Nat) : Prop where
  hm : Hm w base hb ag ah vb AA FA TA MA ca nt ct nm cm cf H tr mk room
  vc : VC w sb n S
  out : sb ∉ hpL hb ag ah vb AA FA TA MA
  bud : n + 2 * uns U S ≤ 1000000
theorem CycP.keep {w w' : World} {sb : Nat} {S : Int → Option Bool} {n : Nat} (h : CycP w sb base hb ag ah vb AA FA TA MA ca nt ct nm cm cf H tr mk room U S n) (k : Keeps w w' []) : CycP w' sb base hb ag ah vb AA FA TA MA ca nt ct nm cm cf H tr mk room U S n :=
  ⟨h.hm.keep0 k, h.vc.kept k (by simp), h.out, h.bud⟩
theorem CycP.next {w w' : World} {sb : Nat} {S S' : Int → Option Bool} {n n' : Nat} (h : CycP w sb base hb ag ah vb AA FA TA MA ca nt ct nm cm cf H tr mk room U S n) (k : Keeps w w' [sb]) (hv : VC w' sb n' S') (hb' : n' + 2 * uns U S' ≤ n + 2 * uns U S) : CycP w' sb base hb ag ah vb AA FA TA MA ca nt ct nm cm cf H tr mk room U S' n' :=
  ⟨h.hm.keep k (fun b hm => by simp at hm; subst hm; exact h.out), hv, h.out, Nat.le_trans hb' h.bud⟩
def CallCyc (base hb ag ah vb : Nat) (AA FA TA MA : Option Addr) (ca nt ct nm cm cf : Nat) (H : PH) (tr : List Int) (mk : List (Int × Int)) (room : Nat) (U : List Int) (m : Nat) : Prop :=
  ∀ (w : World) (sb n : Nat) (S : Int → Option Bool) (c : Int), CycP w sb base hb ag ah vb AA FA TA MA ca nt ct nm cm cf H tr mk room U S n → uns U S ≤ m → Cok U c →
    Calls Tryd.prog 31 #[.pointer (some ⟨hb, 0, none⟩), .int .u64 c, .map (some sb)] w (CycD w sb H U S n c)
set_option maxRecDepth 100000 in
set_option maxHeartbeats 1600000 in
theorem cycF_any {m : Nat} (hC : CallCyc base hb ag ah vb AA FA TA MA ca nt ct nm cm cf H tr mk room U m) {w : World} {sb n b3 b5 : Nat} {S : Int → Option Bool} {c : Int} (hp : CycP w sb base hb ag ah vb AA FA TA MA ca nt ct nm cm cf H tr mk room U S n) (hm : uns U S ≤ m) (hc : Cok U c)
    (h3 : Blk w b3 26 #[.pointer (some ⟨hb, 0, none⟩)]) (h5 : Blk w b5 71 #[.map (some sb)]) :
    Calls Tryd.prog 63 #[.int .u64 c, .pointer (some ⟨b3, 0, none⟩), .pointer (some ⟨b5, 0, none⟩)] w (CycD w sb H U S n c) := by
  have HC := Lib.hid (hC w sb n S c hp hm hc)
  have x3 := h3.cell 0
  have x5 := h5.cell 0
  clear hC hp hm hc h3 h5
  go_enter Tryd.func63, Tryd.ntmps63
  go_wp2_with fail
  refine HC.out.mono ?_
  rintro e w1 ⟨r, S', n', rfl, k, h1, h2⟩
  have HD : Hid (CycD w sb H U S n c (.returned (.bool r)) w1) := ⟨r, S', n', rfl, k, h1, h2⟩
  clear k h1 h2 x3 x5
  go_wp2_with fail
  go_ret
  exact HD.out
def IdxD (w : World) (sb : Nat) (H : PH) (U : List Int) (S : Int → Option Bool) (n : Nat) (cs : List Int) (e : Ending) (w' : World) : Prop :=
  ∃ i : Int, e = .returned (.int .i64 i) ∧ Keeps w w' [sb] ∧ ((0 ≤ i ∧ ∃ x ∈ cs, NoT H S x) ∨ (i = -1 ∧ ∃ S' n', VC w' sb n' S' ∧ CycS U S n S' n'))
set_option maxRecDepth 100000 in
set_option maxHeartbeats 1600000 in
theorem cycI_any {m : Nat} (hC : CallCyc base hb ag ah vb AA FA TA MA ca nt ct nm cm cf H tr mk room U m) {w : World} {sb n b3 b5 : Nat} {S : Int → Option Bool} (hp : CycP w sb base hb ag ah vb AA FA TA MA ca nt ct nm cm cf H tr mk room U S n) (hm : uns U S ≤ m)
    (h3 : Blk w b3 26 #[.pointer (some ⟨hb, 0, none⟩)]) (h5 : Blk w b5 71 #[.map (some sb)]) (h35 : b3 ≠ sb ∧ b5 ≠ sb) (cs : List Int) (hcs : ∀ x ∈ cs, Cok U x) (A : Option Addr) (N c : Nat) (hN : cs.length = N) (hN9 : N ≤ 1000000) (hR : Rd w A (cs.map (Value.int .u64))) (hA : ∀ b off, A = some ⟨b, off, none⟩ → b ≠ sb) :
    Calls Tryd.prog 81 #[.slice A N c, .func (.func 63) #[] #[.pointer (some ⟨b3, 0, none⟩), .pointer (some ⟨b5, 0, none⟩)]] w (IdxD w sb H U S n cs) := by
  have HP := Lib.hid hp
  have H3 := Lib.hid h3
  have H5 := Lib.hid h5
  have H35 := Lib.hid h35
  have HCS := Lib.hid hcs
  have HR := Lib.hid hR
  have HA := Lib.hid hA
  have HN := Lib.hid hN
  have HC := Lib.hid hC
  have HM := Lib.hid hm
  clear hC hp hm h3 h5 h35 hcs hN hR hA
  have eg : ∀ args w, (callFunc 63 args).run Tryd.prog w = .ok (.enter 63 args) w := enters_of Tryd.func63 (by kernel_rfl) rfl
  go_enter Tryd.func81, Tryd.ntmps81
  go_wp2_with fail
  go_loopw [5, 8] (fun x5 x8 wr => ∃ (k : Nat) (S' : Int → Option Bool) (n' : Nat), k ≤ N ∧ x8 = .int .i64 k ∧ Keeps w wr [sb] ∧ VC wr sb n' S' ∧ CycS U S n S' n') (fun _ i _ => N - (intOf i).toNat)
  case atStart => exact ⟨0, S, n, Nat.zero_le _, rfl, Keeps.refl _ _, HP.out.vc, CycS.refl _ _ _⟩
  case round =>
    obtain ⟨k, S', n', hk, rfl, kk, hv, hs⟩ := hrel
    have HK := Lib.hid kk
    have HS := Lib.hid hs
    have HP1 := Lib.hid (HP.out.next kk hv hs.bud)
    clear kk hv hs
    by_cases hlt : k < N
    · obtain ⟨x, hx⟩ := at_of HN.out hlt
      have hxm := List.mem_of_getElem? hx
      have hR1 := HR.out.keepL HK.out (fun b off e _ hm => by simp at hm; exact HA.out b off e hm)
      obtain ⟨b, off, v, rfl, hb, hc, hv⟩ := hR1 k (by simp [HN.out]; exact hlt)
      have hvx : v = .int .u64 x := by simp [List.getElem?_map, hx] at hv; exact hv.symm
      subst hvx
      have hcall := cycF_any HC.out HP1.out (Nat.le_trans (uns_le HS.out.keep) HM.out) (HCS.out x hxm) (H3.out.keep HK.out (by simp; exact H35.out.1)) (H5.out.keep HK.out (by simp; exact H35.out.2))
      have HCall := Lib.hid hcall
      have HX := Lib.hid hxm
      clear hR1 hv hcall hxm hx hb
      go_wp2_with fail
      refine HCall.out.mono ?_
      rintro e w3 ⟨r, S2, n2, rfl, k2, g1, g2⟩
      have HK2 := Lib.hid (HK.out.trans k2)
      cases r with
      | true =>
        have HD : Hid (NoT H S x) := HS.out.noT (g1 rfl)
        clear k2 g1 g2 hc
        go_wp2_with fail
        go_ret
        exact ⟨k, rfl, HK2.out, .inl ⟨by omega, x, HX.out, HD.out⟩⟩
      | false =>
        have HG := Lib.hid (g2 rfl)
        clear k2 g1 g2 hc
        go_wp2_with fail
        go_roundw
        case rel => exact ⟨k + 1, S2, n2, by omega, by go_num, HK2.out, HG.out.1, HS.out.trans HG.out.2⟩
        case measure => simp [intOf]; omega
    · obtain rfl : k = N := by omega
      clear hlt hk
      go_wp2_with fail
      go_ret
      exact ⟨-1, rfl, HK.out, .inr ⟨rfl, S', n', HP1.out.vc, HS.out⟩⟩
set_option maxRecDepth 100000 in
set_option maxHeartbeats 1600000 in
theorem cycK_any {m : Nat} (hC : CallCyc base hb ag ah vb AA FA TA MA ca nt ct nm cm cf H tr mk room U m) {w : World} {sb n b3 b5 : Nat} {S : Int → Option Bool} (hp : CycP w sb base hb ag ah vb AA FA TA MA ca nt ct nm cm cf H tr mk room U S n) (hm : uns U S ≤ m)
    (h3 : Blk w b3 26 #[.pointer (some ⟨hb, 0, none⟩)]) (h5 : Blk w b5 71 #[.map (some sb)]) (h35 : b3 ≠ sb ∧ b5 ≠ sb) (cs : List Int) (hcs : ∀ x ∈ cs, Cok U x) (A : Option Addr) (N c : Nat) (hN : cs.length = N) (hN9 : N ≤ 1000000) (hR : Rd w A (cs.map (Value.int .u64))) (hA : ∀ b off, A = some ⟨b, off, none⟩ → b ≠ sb) :
    Calls Tryd.prog 61 #[.slice A N c, .func (.func 63) #[] #[.pointer (some ⟨b3, 0, none⟩), .pointer (some ⟨b5, 0, none⟩)]] w fun e w' => ∃ r : Bool, e = .returned (.bool r) ∧ Keeps w w' [sb] ∧ (r = true → ∃ x ∈ cs, NoT H S x) ∧ (r = false → ∃ S' n', VC w' sb n' S' ∧ CycS U S n S' n') := by
  have HI := Lib.hid (cycI_any hC hp hm h3 h5 h35 cs hcs A N c hN hN9 hR hA)
  clear hC hp hm h3 h5 h35 hcs hN hR hA
  go_enter Tryd.func61, Tryd.ntmps61
  go_wp2_with fail
  refine HI.out.mono ?_
  rintro e w1 ⟨i, rfl, k, hd⟩
  have HK := Lib.hid k
  rcases hd with ⟨h0, hx⟩ | ⟨rfl, hs⟩
  · have HX := Lib.hid hx
    have d0 : decide (i ≥ 0) = true := by simpa using h0
    have d1 : decide (0 ≤ i) = true := by simpa using h0
    clear k hx HI
    go_wp2_with fail
    go_ret
    exact ⟨true, rfl, HK.out, fun _ => HX.out, fun e => by cases e⟩
  · have HX := Lib.hid hs
    clear k hs HI
    go_wp2_with fail
    go_ret
    exact ⟨false, rfl, HK.out, (fun e => by cases e), fun _ => HX.out⟩
end
end Go.Proofs.YtnonfmaehfmigaaDoor
