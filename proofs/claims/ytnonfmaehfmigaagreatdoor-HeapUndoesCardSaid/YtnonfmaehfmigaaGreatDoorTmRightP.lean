/- Terms: the program's Right. -/
import Derived.Test.YtnonfmaehfmigaaGreatDoorTmRight
namespace Go.Proofs.YtnonfmaehfmigaaGreatDoor
open Go.RowKit

set_option maxHeartbeats 800000 in
theorem rightIdx_any (l : List Tm) (vs : List TV) (A : Option Addr) (m c : Nat) (w : World) (ih : ∀ a ∈ l, ∀ (v : TV) (w : World), Tr w (fun _ => True) a v → Calls Tryz.prog 29 #[tvV v] w fun e w' => e = .returned (.bool (tRight a)) ∧ Keeps w w' [])
    (hT : Trs w (fun _ => True) l vs) (hR : Rd w A (vs.flatMap tvE)) (hm : l.length = m) (hb : m ≤ 9223372036854775807) :
    Calls Tryz.prog 77 #[.slice A m c, .func (.func 57) #[] #[]] w fun e w' => ∃ r : Int, e = .returned (.int .i64 r) ∧ decide (0 ≤ r) = !tRights l ∧ Keeps w w' [] := by
  have HC1 : Hid (∀ a ∈ l, ∀ (v : TV) (w : World), Tr w (fun _ => True) a v → Calls Tryz.prog 57 #[tvV v] w fun e w' => e = .returned (.bool (!tRight a)) ∧ Keeps w w' []) := by
    intro a ha v w ht
    have hcl := ih a ha v _ (ht.keep ((Keeps.refl w []).alloc (.cells #[.int .i64 v.k, .int .i64 v.n, .string v.s, .slice v.A v.len v.c] 40)))
    unfold tvV at hcl ⊢
    have HL := Lib.hid hcl
    have HK0 : Hid (Keeps w (w.alloc (.cells #[.int .i64 v.k, .int .i64 v.n, .string v.s, .slice v.A v.len v.c] 40)) []) := (Keeps.refl w []).alloc _
    clear hcl ih ht ha
    go_enter Tryz.func57, Tryz.ntmps57
    go_wp2_with fail
    refine HL.out.mono ?_
    rintro e w1 ⟨rfl, k1⟩
    go_wp2_with fail
    go_ret
    exact ⟨rfl, HK0.out.trans k1⟩
  have HT := Lib.hid hT
  have HR := Lib.hid hR
  have HM := Lib.hid hm
  clear ih hT hR hm
  go_enter Tryz.func77, Tryz.ntmps77
  go_wp2_with fail
  go_loopw [8] (fun i wr => ∃ j : Nat, j ≤ m ∧ i = .int .i64 j ∧ tRights (l.take j) = true ∧ Keeps w wr []) (fun i _ => m - (intOf i).toNat)
  case atStart => exact ⟨0, Nat.zero_le _, rfl, by simp [tRights], Keeps.refl _ _⟩
  case round =>
    obtain ⟨j, hj, rfl, hpos, hkeep⟩ := hrel
    have HK := Lib.hid hkeep
    have HP := Lib.hid hpos
    clear hkeep hpos
    by_cases hlt : j < m
    · obtain ⟨a, hx⟩ := at_of HM.out hlt
      have ha := List.mem_of_getElem? hx
      have htk : l.take (j + 1) = l.take j ++ [a] := by rw [List.take_add_one, hx]; rfl
      have hsn := tRights_snoc (l.take j) a
      rw [← htk, HP.out, Bool.true_and] at hsn
      have HN := Lib.hid hsn
      have hno := tRights_no ha
      obtain ⟨v', b, off, _, htr, rfl, hb, p0, p1, p2, p3⟩ := (HT.out.keep HK.out).get (HR.out.keep HK.out) hx
      have hca := HC1.out a ha v' _ htr
      unfold tvV at hca
      have b0 : (0 : Int) ≤ (j : Int) := Int.natCast_nonneg _
      have b1 : (j : Int) < (m : Int) := by omega
      cases hr : tRight a with
      | false =>
        rw [hr] at hca
        have HC := Lib.hid hca
        have HO : Hid (tRights l = false) := hno hr
        clear hca htr hx ha hsn htk hno hr
        go_wp2_with fail
        refine HC.out.mono ?_
        rintro e w2 ⟨rfl, k2⟩
        go_wp2_with fail
        go_ret
        exact ⟨(j : Int), rfl, by rw [HO.out]; simp, HK.out.trans k2⟩
      | true =>
        rw [hr] at hca
        have HC := Lib.hid hca
        have HT1 := Lib.hid hr
        clear hca htr hx ha hsn htk hno hr
        go_wp2_with fail
        refine HC.out.mono ?_
        rintro e w2 ⟨rfl, k2⟩
        go_wp2_with fail
        go_roundw
        case rel => exact ⟨j + 1, by omega, by go_num, by rw [HN.out, HT1.out], HK.out.trans k2⟩
        case measure => simp [intOf]; omega
    · obtain rfl : m = j := by omega
      have hall : tRights l = true := by have := HP.out; rw [← HM.out, List.take_length] at this; exact this
      have HA := Lib.hid hall
      clear hlt hj hall
      go_wp2_with fail
      go_ret
      exact ⟨-1, rfl, by rw [HA.out]; rfl, HK.out⟩
set_option maxHeartbeats 3200000 in
theorem tright_any (t : Tm) : ∀ (v : TV) (w : World), Tr w (fun _ => True) t v → Calls Tryz.prog 29 #[tvV v] w fun e w' => e = .returned (.bool (tRight t)) ∧ Keeps w w' [] := by
  induction t using Tm.ind_ with
  | h k n s l ih =>
    intro v w ht
    cases ht with
    | mk _ _ _ _ A c vs hl hR hS hc hz hk =>
    rw [tRight_top]
    obtain ⟨m, hm⟩ : ∃ m, l.length = m := ⟨_, rfl⟩
    unfold tvV
    simp only [hm]
    have K0 : Keeps w (w.alloc (.cells #[.int .i64 k, .int .i64 n, .string s, .slice A m c] 40)) [] := (Keeps.refl w []).alloc _
    have HI : Hid (Calls Tryz.prog 56 #[.slice A m c, .func (.func 57) #[] #[]] (w.alloc (.cells #[.int .i64 k, .int .i64 n, .string s, .slice A m c] 40)) fun e w' => e = .returned (.bool (!tRights l)) ∧ Keeps (w.alloc (.cells #[.int .i64 k, .int .i64 n, .string s, .slice A m c] 40)) w' []) := by
      have HX := Lib.hid (rightIdx_any l vs A m c (w.alloc (.cells #[.int .i64 k, .int .i64 n, .string s, .slice A m c] 40)) ih ((show Trs w (fun _ => True) l vs from ⟨hl, hk⟩).keep K0) (hR.keep K0) hm (by omega))
      clear K0 ih hl hR hS hc hz hk hm
      go_enter Tryz.func56, Tryz.ntmps56
      go_wp2_with fail
      refine HX.out.mono ?_
      rintro e w1 ⟨r, rfl, hr, k1⟩
      go_wp2_with fail
      go_ret
      exact ⟨by rw [← hr]; rfl, k1⟩
    have HB0 : Hid (Blk (w.alloc (.cells #[.int .i64 k, .int .i64 n, .string s, .slice A m c] 40)) w.heap.size 40 #[.int .i64 k, .int .i64 n, .string s, .slice A m c]) := Blk.new _ _ _
    have HK0 := Lib.hid K0
    clear hl hR hS hc hz hk hm ih K0
    go_enter Tryz.func29, Tryz.ntmps29
    cases hall : tRights l with
    | false =>
      rw [hall] at HI
      clear hall
      go_wp2_with fail
      refine HI.out.mono ?_
      rintro e wr ⟨rfl, k1⟩
      go_wp2_with fail
      go_ret
      exact ⟨rfl, HK0.out.trans k1⟩
    | true =>
    rw [hall] at HI
    clear hall
    go_wp2_with fail
    refine HI.out.mono ?_
    rintro e wr ⟨rfl, k1⟩
    have hblk := HB0.out.keep k1 (by simp)
    have HK := Lib.hid (HK0.out.trans k1)
    have q0 := hblk.cell 0
    have q1 := hblk.cell 1
    have q2 := hblk.cell 2
    have q3 := hblk.cell 3
    clear hblk HB0 HK0 HI k1
    have HN := Lib.hid (name_any s)
    have hF : tTop k n s m = tTop k n s m := rfl
    conv at hF => rhs; unfold tTop
    by_cases h0 : k = 0
    · subst h0
      rw [if_pos rfl] at hF
      have HF := Lib.hid hF
      clear hF
      cases d1 : decide (0 ≤ n)
      · rw [d1] at HF
        go_wp2_with fail
        go_ret
        exact ⟨by rw [Bool.true_and, HF.out]; rfl, HK.out⟩
      cases d2 : decide (n ≤ 999)
      · rw [d1, d2] at HF
        go_wp2_with fail
        go_ret
        exact ⟨by rw [Bool.true_and, HF.out]; rfl, HK.out⟩
      cases d3 : s.toList.isEmpty
      · rw [d1, d2, d3] at HF
        go_wp2_with fail
        go_ret
        exact ⟨by rw [Bool.true_and, HF.out]; rfl, HK.out⟩
      cases d4 : ((m : Int) == 0)
      · rw [d1, d2, d3, d4] at HF
        go_wp2_with fail
        go_ret
        exact ⟨by rw [Bool.true_and, HF.out]; rfl, HK.out⟩
      rw [d1, d2, d3, d4] at HF
      go_wp2_with fail
      go_ret
      exact ⟨by rw [Bool.true_and, HF.out]; rfl, HK.out⟩
    by_cases h1 : k = 1
    · subst h1
      rw [if_neg (by omega), if_pos rfl] at hF
      have HF := Lib.hid hF
      clear hF HN
      cases d1 : (n == 0)
      · rw [d1] at HF
        go_wp2_with fail
        go_ret
        exact ⟨by rw [Bool.true_and, HF.out]; rfl, HK.out⟩
      cases d2 : nameOk s
      · have HN := Lib.hid (name_any s)
        rw [d2] at HN
        rw [d1, d2] at HF
        go_wp2_with fail
        refine (HN.out _).mono ?_
        rintro e w2 ⟨rfl, k2⟩
        go_wp2_with fail
        go_ret
        exact ⟨by rw [Bool.true_and, HF.out]; rfl, HK.out.trans k2⟩
      have HN := Lib.hid (name_any s)
      rw [d2] at HN
      cases d3 : ((m : Int) == 0)
      · rw [d1, d2, d3] at HF
        go_wp2_with fail
        refine (HN.out _).mono ?_
        rintro e w2 ⟨rfl, k2⟩
        go_wp2_with fail
        go_ret
        exact ⟨by rw [Bool.true_and, HF.out]; rfl, HK.out.trans k2⟩
      rw [d1, d2, d3] at HF
      go_wp2_with fail
      refine (HN.out _).mono ?_
      rintro e w2 ⟨rfl, k2⟩
      go_wp2_with fail
      go_ret
      exact ⟨by rw [Bool.true_and, HF.out]; rfl, HK.out.trans k2⟩
    by_cases h2 : k = 2
    · subst h2
      rw [if_neg (by omega), if_neg (by omega), if_pos rfl] at hF
      have HF := Lib.hid hF
      clear hF HN
      cases d1 : (n == 0)
      · rw [d1] at HF
        go_wp2_with fail
        go_ret
        exact ⟨by rw [Bool.true_and, HF.out]; rfl, HK.out⟩
      cases d2 : nameOk s
      · have HN := Lib.hid (name_any s)
        rw [d2] at HN
        rw [d1, d2] at HF
        go_wp2_with fail
        refine (HN.out _).mono ?_
        rintro e w2 ⟨rfl, k2⟩
        go_wp2_with fail
        go_ret
        exact ⟨by rw [Bool.true_and, HF.out]; rfl, HK.out.trans k2⟩
      have HN := Lib.hid (name_any s)
      rw [d2] at HN
      cases d3 : decide (1 ≤ (m : Int))
      · rw [d1, d2, d3] at HF
        go_wp2_with fail
        refine (HN.out _).mono ?_
        rintro e w2 ⟨rfl, k2⟩
        go_wp2_with fail
        go_ret
        exact ⟨by rw [Bool.true_and, HF.out]; rfl, HK.out.trans k2⟩
      cases d4 : decide ((m : Int) ≤ 8)
      · rw [d1, d2, d3, d4] at HF
        go_wp2_with fail
        refine (HN.out _).mono ?_
        rintro e w2 ⟨rfl, k2⟩
        go_wp2_with fail
        go_ret
        exact ⟨by rw [Bool.true_and, HF.out]; rfl, HK.out.trans k2⟩
      rw [d1, d2, d3, d4] at HF
      go_wp2_with fail
      refine (HN.out _).mono ?_
      rintro e w2 ⟨rfl, k2⟩
      go_wp2_with fail
      go_ret
      exact ⟨by rw [Bool.true_and, HF.out]; rfl, HK.out.trans k2⟩
    by_cases h3 : k = 3
    · subst h3
      rw [if_neg (by omega), if_neg (by omega), if_neg (by omega), if_pos rfl] at hF
      have HF := Lib.hid hF
      clear hF
      cases d1 : (n == 0)
      · rw [d1] at HF
        go_wp2_with fail
        go_ret
        exact ⟨by rw [Bool.true_and, HF.out]; rfl, HK.out⟩
      cases d2 : s.toList.isEmpty
      · rw [d1, d2] at HF
        go_wp2_with fail
        go_ret
        exact ⟨by rw [Bool.true_and, HF.out]; rfl, HK.out⟩
      cases d3 : ((m : Int) == 2)
      · rw [d1, d2, d3] at HF
        go_wp2_with fail
        go_ret
        exact ⟨by rw [Bool.true_and, HF.out]; rfl, HK.out⟩
      rw [d1, d2, d3] at HF
      go_wp2_with fail
      go_ret
      exact ⟨by rw [Bool.true_and, HF.out]; rfl, HK.out⟩
    rw [if_neg h0, if_neg h1, if_neg h2, if_neg h3] at hF
    have HF := Lib.hid hF
    have e0 : (k == 0) = false := by simpa using h0
    have e1 : (k == 1) = false := by simpa using h1
    have e2 : (k == 2) = false := by simpa using h2
    have e3 : (k == 3) = false := by simpa using h3
    clear hF
    go_wp2_with fail
    go_ret
    exact ⟨by rw [Bool.true_and, HF.out]; rfl, HK.out⟩
end Go.Proofs.YtnonfmaehfmigaaGreatDoor
