/- Terms: the document's Vars, whole. -/
import Derived.Test.YtjbomjnkjcafcaaDoorTmRVars
namespace Go.Proofs.YtjbomjnkjcafcaaDoor
open Go.RowKit

set_option maxHeartbeats 1600000 in
theorem refVars_any (l : List Tm) (vs : List TV) (A : Option Addr) (m c : Nat) (w : World) (hT : Trs w (fun _ => True) l vs) (hR : Rd w A (vs.flatMap tvE)) (hm : l.length = m) (hsz : tSizes l ≤ 1000000) (hrt : ∀ a ∈ l, tRight a = true) :
    Calls Tryd.prog 24 #[.slice A m c] w fun e w' => ∃ A' c', e = .returned (.slice A' (tVars l).length c') ∧ Nums .i64 w' w'.heap.size A' (tVars l) ∧ Keeps w w' [] := by
  have HT := Lib.hid hT
  have HR := Lib.hid hR
  have HM := Lib.hid hm
  have HZ := Lib.hid hsz
  have HRt := Lib.hid hrt
  have hmb : m ≤ 1000000 := by have := tSizes_len l; omega
  clear hT hR hm hsz hrt
  go_enter Tryd.func24, Tryd.ntmps24
  go_wp2_with fail
  go_loopw [3, 4] (fun x i wr => ∃ (j : Nat) (A1 : Option Addr) (c1 : Nat), j ≤ m ∧ i = .int .i64 j ∧ x = .slice A1 (tWalks [] (l.take j)).length c1 ∧ Nums .i64 wr wr.heap.size A1 (tWalks [] (l.take j)) ∧ (A1 = none → c1 = 0) ∧ Keeps w wr []) (fun _ i _ => m - (intOf i).toNat)
  case atStart => exact ⟨0, none, 0, Nat.zero_le _, rfl, by simp [tWalks], by simpa [tWalks] using Nums.nil, fun _ => rfl, Keeps.refl _ _⟩
  case round =>
    obtain ⟨j, A1, c1, hj, rfl, rfl, hn1, hz1, hk⟩ := hrel
    have HN1 := Lib.hid hn1
    have HZ1 := Lib.hid hz1
    have HK := Lib.hid hk
    clear hn1 hz1 hk
    by_cases hlt : j < m
    · obtain ⟨a, hx⟩ := at_of HM.out hlt
      have ha := List.mem_of_getElem? hx
      have htk : l.take (j + 1) = l.take j ++ [a] := by rw [List.take_add_one, hx]; rfl
      have HN2 : Hid (tWalks [] (l.take (j + 1)) = tWalk (tWalks [] (l.take j)) a) := by show _ = _; rw [htk, tWalks_snoc]
      have hlen : (tWalks [] (l.take j)).length + tSize a ≤ 1000000 := by
        have h2 := tWalks_len [] (l.take j)
        have h3 := tSizes_le l (j + 1)
        have h4 : tSizes (l.take (j + 1)) = tSizes (l.take j) + tSize a := by rw [htk, tSizes_snoc]
        have := HZ.out
        simp at h2
        omega
      obtain ⟨v', b, off, _, htr, rfl, hb, p0, p1, p2, p3⟩ := (HT.out.keep HK.out).get (HR.out.keep HK.out) hx
      have hca := refVars1_any a v' wr A1 c1 _ _ htr (HRt.out a ha) HN1.out HZ1.out rfl hlen
      unfold tvV IntsDone at hca
      rw [← HN2.out] at hca
      have HC := Lib.hid hca
      clear hca htr hx ha htk hlen
      have b0 : (0 : Int) ≤ (j : Int) := Int.natCast_nonneg _
      have b1 : (j : Int) < (m : Int) := by omega
      go_wp2_with fail
      refine HC.out.mono ?_
      rintro e w2 ⟨A2, c2, rfl, hn2, hz2, k2⟩
      have HN3 := Lib.hid hn2
      clear hn2
      go_wp2_with fail
      go_roundw
      case rel => exact ⟨j + 1, A2, c2, by omega, by go_num, rfl, HN3.out, hz2, HK.out.trans k2⟩
      case measure => simp [intOf]; omega
    · obtain rfl : m = j := by omega
      have htk : l.take m = l := by rw [← HM.out, List.take_length]
      rw [htk] at HN1 ⊢
      clear hlt hj
      go_wp2_with fail
      go_ret
      exact ⟨A1, c1, rfl, HN1.out, HK.out⟩
end Go.Proofs.YtjbomjnkjcafcaaDoor
