/- Terms: the document's Fix walked. -/
import Derived.Test.YtnonfmaehfmigaaDoorJR03
import Derived.Test.YtnonfmaehfmigaaDoorJR02
import Derived.Test.YtnonfmaehfmigaaDoorJR05
import Derived.Test.YtnonfmaehfmigaaDoorJR01
import Derived.Test.YtnonfmaehfmigaaDoorJR15
import Derived.ProofKit
import Derived.OpenShut
import Derived.SizedLaws
import Derived.JoinedCond
import Derived.Deep.Matrix
import Derived.Test.YtnonfmaehfmigaaDoorJR09
import Derived.Lib.SmallJoins
import Derived.Deep.Slices
import Derived.Deep.Fields
namespace Go.Proofs.YtnonfmaehfmigaaDoor
open Go.RowKit

/-- What Fix tells. -/
def FDone (w : World) (r : Tm × Int) (e : Ending) (w' : World) : Prop := ∃ v, e = .returned (.tuple #[tvV v, .int .i64 r.2]) ∧ Tr w' (fun b => w.heap.size ≤ b) r.1 v ∧ Keeps w w' []
theorem letter_at (i : Nat) (h : i < 5) : (#[.string ⟨#[97]⟩, .string ⟨#[98]⟩, .string ⟨#[99]⟩, .string ⟨#[102]⟩, .string ⟨#[103]⟩] : Array Value)[i]? = some (.string (letter i)) := by
  match i, h with
  | 0, _ => rfl
  | 1, _ => rfl
  | 2, _ => rfl
  | 3, _ => rfl
  | 4, _ => rfl

theorem u64_lt (n : Int) : IntKind.u64.wrap n < 18446744073709551616 := by simp only [IntKind.wrap, IntKind.bits, IntKind.signed, Bool.false_and, Bool.false_eq_true, if_false]; omega
theorem quo_is {V : Int} (h0 : 0 ≤ V) (h1 : V < 18446744073709551616) : wrap64 (1 + wrap64 ((IntKind.u64.wrap (V.tdiv 2)).tmod 3)) = 1 + V / 2 % 3 := by
  have e1 : IntKind.u64.wrap (V.tdiv 2) = V / 2 := by
    rw [Int.tdiv_eq_ediv_of_nonneg h0]
    simp only [IntKind.wrap, IntKind.bits, IntKind.signed, Bool.false_and, Bool.false_eq_true, if_false]
    omega
  rw [e1, Int.tmod_eq_emod_of_nonneg (by omega)]
  unfold wrap64
  omega
set_option maxRecDepth 100000 in
set_option maxHeartbeats 3200000 in
theorem fixT_any (d : Nat) (hd : d ≤ 4) (f : Tm → Int → Tm × Int) (C : Nat) (hC : C ≤ 1000) (hf : ∀ a n, n - C ≤ (f a n).2 ∧ (f a n).2 ≤ n)
    (IH : d ≠ 0 → ∀ (a : Tm) (v : TV) (w : World) (left : Int), Tr w (fun _ => True) a v → -1000000 ≤ left - C → left ≤ 1000 → Calls Tryd.prog 26 #[tvV v, .int .i64 ((d : Int) - 1), .int .i64 left] w (FDone w (f a left))) :
    ∀ (t : Tm) (v : TV) (w : World) (left : Int), Tr w (fun _ => True) t v → -1000000 ≤ left - (1 + 3 * C : Nat) → left ≤ 1000 → Calls Tryd.prog 26 #[tvV v, .int .i64 d, .int .i64 left] w (FDone w (fixT f d t left)) := by
  intro t v w left ht hl1 hl2
  cases ht with
  | mk k n s l A c vs hl hR hS hc hz hk =>
  have HT : Hid (Trs w (fun _ => True) l vs) := ⟨hl, hk⟩
  have HR := Lib.hid hR
  have HI := Lib.hid IH
  have HF := Lib.hid (fixes_cost hf l (left - 1))
  have HZ := Lib.hid hz.2
  obtain ⟨m, hm⟩ : ∃ m, l.length = m := ⟨_, rfl⟩
  have HM := Lib.hid hm
  have hmb : m ≤ 9223372036854775807 := by omega
  clear hl hR hS hc hz hk IH hf
  unfold tvV
  simp only [hm]
  clear hm
  obtain ⟨D, hD⟩ : ∃ D : Int, (d : Int) = D := ⟨_, rfl⟩
  rw [hD]
  have hD0 : 0 ≤ D := by omega
  have hD4 : D ≤ 4 := by omega
  have HD := Lib.hid hD
  clear hD
  rw [fixT]
  have hkr := fixK_range d left k
  obtain ⟨K, hK⟩ : ∃ K, fixK d left k = K := ⟨_, rfl⟩
  rw [hK] at hkr ⊢
  have HK := Lib.hid hK
  obtain ⟨U, hU⟩ : ∃ U, IntKind.u64.wrap k = U := ⟨_, rfl⟩
  have hU0 : 0 ≤ U := by rw [← hU]; exact u64_nonneg k
  obtain ⟨V, hV⟩ : ∃ V, IntKind.u64.wrap n = V := ⟨_, rfl⟩
  have hV0 : 0 ≤ V := by rw [← hV]; exact u64_nonneg n
  have HV9 : Hid (V < 18446744073709551616) := by show _ < _; rw [← hV]; exact u64_lt n
  have HV0 := Lib.hid hV0
  have HKU : Hid (K = if 2 ≤ U % 4 ∧ (d = 0 ∨ left < 4) then U % 4 - 2 else U % 4) := by show _ = _; rw [← hK, fixK, u64, hU]
  have hN : u64 n = V := hV
  obtain ⟨W, hW⟩ : ∃ W, fixW K n = W := ⟨_, rfl⟩
  have HWd := Lib.hid hW
  obtain ⟨N, hNN⟩ : ∃ N, fixN K n = N := ⟨_, rfl⟩
  obtain ⟨S, hSS⟩ : ∃ S, fixS K n = S := ⟨_, rfl⟩
  rw [hW, hNN, hSS]
  have hsz : S.size ≤ 9223372036854775807 := by
    rw [← hSS, fixS]
    have : ∀ i, (letter i).size = 1 := fun i => by unfold letter; split <;> (try rfl); split <;> (try rfl); split <;> (try rfl); split <;> rfl
    split
    · rw [this]; omega
    · split
      · rw [this]; omega
      · exact Nat.zero_le _
  rw [fixN, hN] at hNN
  rw [fixS, hN] at hSS
  rw [fixW, hN] at hW
  have HNN := Lib.hid hNN
  have HSS := Lib.hid hSS
  have HWW := Lib.hid hW
  have HSZ := Lib.hid hsz
  have HKR := Lib.hid hkr
  clear hNN hSS hW hsz hN hK hkr
  have hB0 : Blk (w.alloc (.cells #[.int .i64 k, .int .i64 n, .string s, .slice A m c] 24)) w.heap.size 24 #[.int .i64 k, .int .i64 n, .string s, .slice A m c] := Blk.new _ _ _
  go_enter Tryd.func26, Tryd.ntmps26
  go_upto_region 3 with fail
  have HS0 : Hid (Blk (((w.alloc (.cells #[.int .i64 k, .int .i64 n, .string s, .slice A m c] 24)).alloc (.cells #[.int .i64 0, .int .i64 0, .string ⟨#[]⟩, .slice none 0 0] 24)).alloc (.cells #[.string ⟨#[97]⟩, .string ⟨#[98]⟩, .string ⟨#[99]⟩, .string ⟨#[102]⟩, .string ⟨#[103]⟩] 9)) w.heap.size 24 #[.int .i64 k, .int .i64 n, .string s, .slice A m c] ∧ Blk (((w.alloc (.cells #[.int .i64 k, .int .i64 n, .string s, .slice A m c] 24)).alloc (.cells #[.int .i64 0, .int .i64 0, .string ⟨#[]⟩, .slice none 0 0] 24)).alloc (.cells #[.string ⟨#[97]⟩, .string ⟨#[98]⟩, .string ⟨#[99]⟩, .string ⟨#[102]⟩, .string ⟨#[103]⟩] 9)) (w.heap.size + 1) 24 #[.int .i64 0, .int .i64 0, .string ⟨#[]⟩, .slice none 0 0] ∧ Blk (((w.alloc (.cells #[.int .i64 k, .int .i64 n, .string s, .slice A m c] 24)).alloc (.cells #[.int .i64 0, .int .i64 0, .string ⟨#[]⟩, .slice none 0 0] 24)).alloc (.cells #[.string ⟨#[97]⟩, .string ⟨#[98]⟩, .string ⟨#[99]⟩, .string ⟨#[102]⟩, .string ⟨#[103]⟩] 9)) (w.heap.size + 1 + 1) 9 #[.string ⟨#[97]⟩, .string ⟨#[98]⟩, .string ⟨#[99]⟩, .string ⟨#[102]⟩, .string ⟨#[103]⟩] ∧ Keeps w (((w.alloc (.cells #[.int .i64 k, .int .i64 n, .string s, .slice A m c] 24)).alloc (.cells #[.int .i64 0, .int .i64 0, .string ⟨#[]⟩, .slice none 0 0] 24)).alloc (.cells #[.string ⟨#[97]⟩, .string ⟨#[98]⟩, .string ⟨#[99]⟩, .string ⟨#[102]⟩, .string ⟨#[103]⟩] 9)) [] ∧ (((w.alloc (.cells #[.int .i64 k, .int .i64 n, .string s, .slice A m c] 24)).alloc (.cells #[.int .i64 0, .int .i64 0, .string ⟨#[]⟩, .slice none 0 0] 24)).alloc (.cells #[.string ⟨#[97]⟩, .string ⟨#[98]⟩, .string ⟨#[99]⟩, .string ⟨#[102]⟩, .string ⟨#[103]⟩] 9)).heap.size = w.heap.size + 3) :=
    ⟨(hB0.alloc _).alloc _, (Blk.newAt _ _ (by simp)).alloc _, Blk.newAt _ _ (by simp), (((Keeps.refl w []).alloc _).alloc _).alloc _, by simp⟩
  clear hB0
  generalize (((w.alloc (.cells #[.int .i64 k, .int .i64 n, .string s, .slice A m c] 24)).alloc (.cells #[.int .i64 0, .int .i64 0, .string ⟨#[]⟩, .slice none 0 0] 24)).alloc (.cells #[.string ⟨#[97]⟩, .string ⟨#[98]⟩, .string ⟨#[99]⟩, .string ⟨#[102]⟩, .string ⟨#[103]⟩] 9)) = w0 at HS0 ⊢
  obtain ⟨bb, hbb⟩ : ∃ bb : Bool, decide (2 ≤ U % 4 ∧ (d = 0 ∨ left < 4)) = bb := ⟨_, rfl⟩
  have HBB := Lib.hid hbb
  clear hbb
  go_cut [31] (fun s31 wx => s31 = .bool bb ∧ wx = w0)
  case first =>
    by_cases h2 : 2 ≤ U % 4
    · by_cases hd0 : d = 0
      · have HE : Hid (bb = true) := by show _ = _; rw [← HBB.out]; exact decide_eq_true ⟨h2, Or.inl hd0⟩
        have hd1 : D ≤ 0 := by have := HD.out; omega
        clear hd0
        go_wp2_with fail
        go_meet
        exact ⟨by rw [HE.out], rfl⟩
      · have hd1 : ¬ D ≤ 0 := by have := HD.out; omega
        by_cases h4 : left < 4
        · have HE : Hid (bb = true) := by show _ = _; rw [← HBB.out]; exact decide_eq_true ⟨h2, Or.inr h4⟩
          clear hd0
          go_wp2_with fail
          go_meet
          exact ⟨by rw [HE.out], rfl⟩
        · have HE : Hid (bb = false) := by show _ = _; rw [← HBB.out]; exact decide_eq_false (fun h => h.2.elim hd0 h4)
          clear hd0
          go_wp2_with fail
          go_meet
          exact ⟨by rw [HE.out], rfl⟩
    · have HE : Hid (bb = false) := by show _ = _; rw [← HBB.out]; exact decide_eq_false (fun h => h2 h.1)
      go_wp2_with fail
      go_meet
      exact ⟨by rw [HE.out], rfl⟩
  case rest =>
    obtain ⟨rfl, rfl⟩ := hcut
    have HKB : Hid (K = if bb = true then U % 4 - 2 else U % 4) := by
      show _ = _
      rw [HKU.out, ← HBB.out]
      by_cases h9 : 2 ≤ U % 4 ∧ (d = 0 ∨ left < 4)
      · rw [if_pos h9, if_pos (decide_eq_true h9)]
      · rw [if_neg h9, if_neg (by simpa using h9)]
    clear HKU HBB
    go_upto_if 31 with fail
    go_cut [9] (fun s9 wx => s9 = .int .i64 K ∧ wx = wc)
    case first =>
      cases bb with
      | true =>
        have HE : Hid (K = U % 4 - 2) := HKB.out
        go_wp2_with fail
        go_meet
        exact ⟨by rw [HE.out], rfl⟩
      | false =>
        have HE : Hid (K = U % 4) := HKB.out
        go_wp2_with fail
        go_meet
        exact ⟨by rw [HE.out], rfl⟩
    case rest =>
      obtain ⟨rfl, rfl⟩ := hcut
      clear HKB hU hU0
      go_upto_block 0 with fail
      obtain ⟨hb0, hbr, hbn, hk0, hs0⟩ := HS0.out
      have HO : Hid (Blk (wc.alloc (.cells #[.int .i64 K, .int .i64 0, .string ⟨#[]⟩, .slice none 0 0] 24)) wc.heap.size 24 #[.int .i64 K, .int .i64 0, .string ⟨#[]⟩, .slice none 0 0]) := Blk.new _ _ _
      have HB0 := Lib.hid (hb0.alloc (.cells #[.int .i64 K, .int .i64 0, .string ⟨#[]⟩, .slice none 0 0] 24))
      have HBr := Lib.hid (hbr.alloc (.cells #[.int .i64 K, .int .i64 0, .string ⟨#[]⟩, .slice none 0 0] 24))
      have HBn := Lib.hid (hbn.alloc (.cells #[.int .i64 K, .int .i64 0, .string ⟨#[]⟩, .slice none 0 0] 24))
      have HKw := Lib.hid (hk0.alloc (.cells #[.int .i64 K, .int .i64 0, .string ⟨#[]⟩, .slice none 0 0] 24))
      clear hb0 hbr hbn hk0 HS0
      generalize wc.alloc (.cells #[.int .i64 K, .int .i64 0, .string ⟨#[]⟩, .slice none 0 0] 24) = w1 at HO HB0 HBr HBn HKw ⊢
      obtain ⟨g, hg⟩ : ∃ g, wc.heap.size = g := ⟨_, rfl⟩
      rw [hg] at HO hs0 ⊢
      clear hg
      have HG := Lib.hid hs0
      clear hs0
      go_cut [] (fun wx => Blk wx g 24 #[.int .i64 K, .int .i64 N, .string S, .slice none 0 0] ∧ Blk wx w.heap.size 24 #[.int .i64 k, .int .i64 n, .string s, .slice A m c] ∧ Blk wx (w.heap.size + 1) 24 #[.int .i64 0, .int .i64 0, .string ⟨#[]⟩, .slice none 0 0] ∧ Keeps w wx [])
      case first =>
        have q1 := HB0.out.cell 1
        have o0 := HO.out.cell 1
        have o1 := HO.out.frozen 1
        have o2 := HO.out.cell 2
        have o3 := HO.out.frozen 2
        have HFar : Hid (∀ i v, i = 1 ∨ i = 2 → Blk (w1.setCell ⟨g, i, none⟩ v) w.heap.size 24 #[.int .i64 k, .int .i64 n, .string s, .slice A m c] ∧ Blk (w1.setCell ⟨g, i, none⟩ v) (w.heap.size + 1) 24 #[.int .i64 0, .int .i64 0, .string ⟨#[]⟩, .slice none 0 0] ∧ Keeps w (w1.setCell ⟨g, i, none⟩ v) []) := fun i v _ =>
          ⟨HB0.out.far (by have := HG.out; dsimp only; omega) _, HBr.out.far (by have := HG.out; dsimp only; omega) _, HKw.out.setCell (.inr (by have := HG.out; show w.heap.size ≤ g; omega)) _⟩
        by_cases h0 : K = 0
        · have HE1 : Hid (N = V % 6) := by show _ = _; rw [← HNN.out, if_pos h0]
          have HE2 : Hid (S = ⟨#[]⟩) := by show _ = _; rw [← HSS.out, if_neg (show ¬ K = 1 by omega), if_neg (show ¬ K = 2 by omega)]
          go_wp2_with fail
          go_meet
          refine ⟨?_, HFar.out 1 _ (Or.inl rfl)⟩
          have := HO.out.set_ 1 (.int .i64 (V % 6))
          rw [HE1.out, HE2.out]
          simpa using this
        have e0 : (K == 0) = false := by simpa using h0
        have HE1 : Hid (N = 0) := by show _ = _; rw [← HNN.out, if_neg h0]
        by_cases h1 : K = 1
        · have HE2 : Hid (S = letter (V % 3)) := by show _ = _; rw [← HSS.out, if_pos h1]
          obtain ⟨q, hq, hq3⟩ : ∃ q : Nat, V % 3 = q ∧ q < 3 := ⟨(V % 3).toNat, by omega, by omega⟩
          have hn := (HBn.out.cell q).trans (letter_at q (by omega))
          have b0 : (0 : Int) ≤ (q : Int) := Int.natCast_nonneg _
          have b1 : (q : Int) < 5 := by omega
          go_wp2_with fail
          go_meet
          refine ⟨?_, HFar.out 2 _ (Or.inr rfl)⟩
          have := HO.out.set_ 2 (.string (letter q))
          rw [HE1.out, HE2.out, hq]
          simpa using this
        have e1 : (K == 1) = false := by simpa using h1
        by_cases h2 : K = 2
        · have HE2 : Hid (S = letter (3 + V % 2)) := by show _ = _; rw [← HSS.out, if_neg h1, if_pos h2]
          obtain ⟨q, hq, hq3⟩ : ∃ q : Nat, V % 2 = q ∧ q < 2 := ⟨(V % 2).toNat, by omega, by omega⟩
          obtain ⟨q2, hq2, hq5⟩ : ∃ q2 : Nat, (3 : Int) + (q : Int) = q2 ∧ q2 < 5 := ⟨3 + q, by omega, by omega⟩
          have hn := (HBn.out.cell q2).trans (letter_at q2 hq5)
          have b0 : (0 : Int) ≤ (q2 : Int) := Int.natCast_nonneg _
          have b1 : (q2 : Int) < 5 := by omega
          go_wp2_with fail
          go_meet
          refine ⟨?_, HFar.out 2 _ (Or.inr rfl)⟩
          have := HO.out.set_ 2 (.string (letter q2))
          rw [HE1.out, HE2.out, hq, hq2]
          simpa using this
        · have e2 : (K == 2) = false := by simpa using h2
          have HE2 : Hid (S = ⟨#[]⟩) := by show _ = _; rw [← HSS.out, if_neg h1, if_neg h2]
          go_wp2_with fail
          go_meet
          refine ⟨?_, HB0.out, HBr.out, HKw.out⟩
          rw [HE1.out, HE2.out]
          exact HO.out
      case rest =>
        clear HO HB0 HBr HBn HKw HNN HSS
        obtain ⟨ho, hb0, hbr, hkw⟩ := hcut
        have HO := Lib.hid ho
        have HB0 := Lib.hid hb0
        have HBr := Lib.hid hbr
        have HKw := Lib.hid hkw
        have q1 := hb0.cell 1
        clear ho hb0 hbr hkw
        go_upto_if 71 with fail
        go_cut [11] (fun s11 wx => s11 = .int .i64 (if K = 3 then 2 else 0) ∧ wx = wc)
        case first =>
          by_cases h3 : K = 3
          · have HE : Hid ((if K = 3 then 2 else 0 : Int) = 2) := if_pos h3
            go_wp2_with fail
            go_meet
            exact ⟨by rw [HE.out], rfl⟩
          · have e3 : (K == 3) = false := by simpa using h3
            have HE : Hid ((if K = 3 then 2 else 0 : Int) = 0) := if_neg h3
            go_wp2_with fail
            go_meet
            exact ⟨by rw [HE.out], rfl⟩
        case rest =>
        obtain ⟨rfl, rfl⟩ := hcut
        obtain ⟨W3, hW3⟩ : ∃ W3, (if K = 3 then 2 else 0 : Int) = W3 := ⟨_, rfl⟩
        rw [hW3]
        have HW3 := Lib.hid hW3
        clear hW3
        go_upto_if 73 with fail
        go_cut [11] (fun s11 wx => s11 = .int .i64 W ∧ wx = wc)
        case first =>
          by_cases h2 : K = 2
          · have HE : Hid ((W : Int) = 1 + V / 2 % 3) := by show _ = _; rw [← HWW.out, if_neg (show ¬ K = 3 by omega), if_pos h2]; omega
            go_wp2_with fail
            go_meet
            exact ⟨by rw [HE.out, quo_is HV0.out HV9.out], rfl⟩
          · have e2 : (K == 2) = false := by simpa using h2
            have HE : Hid (W3 = (W : Int)) := by
              show _ = _
              rw [← HW3.out, ← HWW.out]
              by_cases h3 : K = 3
              · rw [if_pos h3, if_pos h3]; rfl
              · rw [if_neg h3, if_neg h3, if_neg h2]; rfl
            go_wp2_with fail
            go_meet
            exact ⟨by rw [HE.out], rfl⟩
        case rest =>
        obtain ⟨rfl, rfl⟩ := hcut
        clear HW3 HWW hV hV0 q1
        have HWb : Hid (W ≤ 3 ∧ (0 < W → d ≠ 0)) := by
          have h1 := fixW_le K n
          rw [HWd.out] at h1
          refine ⟨h1.1, fun h2 h3 => ?_⟩
          have := h1.2 (HKR.out.2.2 h3)
          omega
        have hW3 : W ≤ 3 := HWb.out.1
        clear HWd HKR
        have HST : Hid (TSt 24 (fun b => w.heap.size ≤ b) w wc [] [(w.heap.size, 24, #[.int .i64 k, .int .i64 n, .string s, .slice A m c]), (w.heap.size + 1, 24, #[.int .i64 0, .int .i64 0, .string ⟨#[]⟩, .slice none 0 0])] g K N S [] [] none 0 0) :=
          TSt.start (by
            intro x hx
            simp only [List.mem_cons, List.not_mem_nil, or_false] at hx
            have := HG.out
            rcases hx with rfl | rfl
            · exact ⟨HB0.out, by simp; omega⟩
            · exact ⟨HBr.out, by simp; omega⟩) HO.out HKw.out (by have := HG.out; omega) (fun b h => h) HSZ.out
        clear HO HB0 HBr HKw
        go_wp2_with fail
        go_loopg [2, 12] W (fun gk x i wr => ∃ j : Nat, j ≤ W ∧ gk = W - j ∧ i = .int .i64 j ∧ x = .int .i64 (fixes f l (left - 1) j).2 ∧ ∃ A2 c2 us, TSt 24 (fun b => w.heap.size ≤ b) w wr [] [(w.heap.size, 24, #[.int .i64 k, .int .i64 n, .string s, .slice A m c]), (w.heap.size + 1, 24, #[.int .i64 0, .int .i64 0, .string ⟨#[]⟩, .slice none 0 0])] g K N S (fixes f l (left - 1) j).1 us A2 j c2)
        case atStart => exact ⟨0, Nat.zero_le _, rfl, rfl, rfl, none, 0, [], HST.out⟩
        case round =>
          obtain ⟨j, hj, rfl, rfl, rfl, A2, c2, us, st⟩ := hrel
          have HS := Lib.hid st
          clear st HST
          obtain ⟨lf, hlf⟩ : ∃ lf, (fixes f l (left - 1) j).2 = lf := ⟨_, rfl⟩
          have hlr := HF.out j
          rw [hlf] at hlr ⊢
          have HLF := Lib.hid hlf
          clear hlf
          by_cases hlt : j < W
          · have hr1 : -1000000 ≤ lf - C ∧ lf ≤ 1000 := by
              have h3 : (j : Int) * C ≤ 2 * C := Int.mul_le_mul_of_nonneg_right (by omega) (by omega)
              have := hlr.1
              have := hlr.2
              omega
            clear hlr
            have b0 : (0 : Int) ≤ (j : Int) := Int.natCast_nonneg _
            have b1 : (j : Int) < (W : Int) := by omega
            go_upto_region 23 with fail
            have hbz : Blk (wr.alloc (.cells #[.int .i64 0, .int .i64 0, .string ⟨#[]⟩, .slice none 0 0] 24)) wr.heap.size 24 #[.int .i64 0, .int .i64 0, .string ⟨#[]⟩, .slice none 0 0] := Blk.new _ _ _
            have hka : Keeps wr (wr.alloc (.cells #[.int .i64 0, .int .i64 0, .string ⟨#[]⟩, .slice none 0 0] 24)) [] := (Keeps.refl wr []).alloc _
            generalize wr.alloc (.cells #[.int .i64 0, .int .i64 0, .string ⟨#[]⟩, .slice none 0 0] 24) = wa at hbz hka ⊢
            have HBz := Lib.hid hbz
            have HKa := Lib.hid hka
            have e1 := ((HS.out.fix _ (List.mem_cons_self ..)).1.keep hka (by simp)).cell 3
            clear hbz hka
            go_upto_if 90 with fail
            go_cut [] (fun wx => ∃ va : TV, Blk wx wr.heap.size 24 #[.int .i64 va.k, .int .i64 va.n, .string va.s, .slice va.A va.len va.c] ∧ Tr wx (fun _ => True) (l.getD j tz) va ∧ Keeps wr wx [])
            case first =>
              by_cases hjm : j < m
              · obtain ⟨a, hx⟩ := at_of HM.out hjm
                have hgd : l.getD j tz = a := by rw [List.getD_eq_getElem?_getD, hx]; rfl
                obtain ⟨v', b, off, _, htr, rfl, hb, p0, p1, p2, p3⟩ := (HT.out.keep HS.out.keep).get (HR.out.keep HS.out.keep) hx
                have HTR := Lib.hid htr
                have HGD := Lib.hid hgd
                have b2 : (j : Int) < (m : Int) := by omega
                have z0 := HBz.out.frozen 0
                have z1 := HBz.out.frozen 1
                have z2 := HBz.out.frozen 2
                have z3 := HBz.out.frozen 3
                have y0 := HBz.out.cell 0
                have y1 := HBz.out.cell 1
                have y2 := HBz.out.cell 2
                have y3 := HBz.out.cell 3
                replace p0 := (HKa.out.cell (p := ⟨b, off + j * 4, none⟩) hb (by simp)).trans p0
                replace p1 := (HKa.out.cell (p := ⟨b, off + j * 4 + 1, none⟩) hb (by simp)).trans p1
                replace p2 := (HKa.out.cell (p := ⟨b, off + j * 4 + 2, none⟩) hb (by simp)).trans p2
                replace p3 := (HKa.out.cell (p := ⟨b, off + j * 4 + 3, none⟩) hb (by simp)).trans p3
                clear htr hgd hx hb
                go_wp2_with fail
                go_meet
                have kk := (((HKa.out.setCell (p := ⟨wr.heap.size, 0, none⟩) (.inr (Nat.le_refl _)) (.int .i64 v'.k)).setCell (p := ⟨wr.heap.size, 1, none⟩) (.inr (Nat.le_refl _)) (.int .i64 v'.n)).setCell (p := ⟨wr.heap.size, 2, none⟩) (.inr (Nat.le_refl _)) (.string v'.s)).setCell (p := ⟨wr.heap.size, 3, none⟩) (.inr (Nat.le_refl _)) (.slice v'.A v'.len v'.c)
                refine ⟨v', ?_, by rw [HGD.out]; exact HTR.out.keep kk, kk⟩
                have := (((HBz.out.set_ 0 (.int .i64 v'.k)).set_ 1 (.int .i64 v'.n)).set_ 2 (.string v'.s)).set_ 3 (.slice v'.A v'.len v'.c)
                simpa using this
              · have b2 : ¬ (j : Int) < (m : Int) := by omega
                have hgd : l.getD j tz = tz := by rw [List.getD_eq_getElem?_getD, List.getElem?_eq_none (by have := HM.out; omega)]; rfl
                have HGD := Lib.hid hgd
                clear hgd
                go_wp2_with fail
                go_meet
                exact ⟨⟨0, 0, ⟨#[]⟩, none, 0, 0⟩, HBz.out, by rw [HGD.out]; exact .mk 0 0 ⟨#[]⟩ [] none 0 [] rfl (by simp; exact Rd.nil) (by simp) (fun _ => rfl) ⟨by decide, by simp⟩ (fun j t v h => by simp at h), HKa.out⟩
            case rest =>
              clear HBz HKa e1
              obtain ⟨va, hbz, hta, hka⟩ := hcut
              have y0 := hbz.cell 0
              have y1 := hbz.cell 1
              have y2 := hbz.cell 2
              have y3 := hbz.cell 3
              have hca := HI.out (HWb.out.2 (by omega)) (l.getD j tz) va wc lf hta hr1.1 hr1.2
              rw [HD.out] at hca
              unfold tvV at hca
              have HC := Lib.hid hca
              have HKa := Lib.hid hka
              clear hbz hta hka hca hr1
              go_wp2_with fail
              refine HC.out.mono ?_
              rintro e w3 ⟨u, rfl, hu, k3⟩
              have HU := Lib.hid hu
              have HK3 := Lib.hid (HKa.out.trans k3)
              unfold tvV
              clear hu k3 HC
              go_upto_region 26 with fail
              have hb4 : Blk (w3.alloc (.cells #[.int .i64 u.k, .int .i64 u.n, .string u.s, .slice u.A u.len u.c] 24)) w3.heap.size 24 #[.int .i64 u.k, .int .i64 u.n, .string u.s, .slice u.A u.len u.c] := Blk.new _ _ _
              have HK4 := Lib.hid (HK3.out.alloc (.cells #[.int .i64 u.k, .int .i64 u.n, .string u.s, .slice u.A u.len u.c] 24))
              have HU4 := Lib.hid (HU.out.keep ((Keeps.refl w3 []).alloc (.cells #[.int .i64 u.k, .int .i64 u.n, .string u.s, .slice u.A u.len u.c] 24)))
              generalize w3.alloc (.cells #[.int .i64 u.k, .int .i64 u.n, .string u.s, .slice u.A u.len u.c] 24) = w4 at hb4 HK4 HU4 ⊢
              have r0 := hb4.cell 0
              have r1 := hb4.cell 1
              have r2 := hb4.cell 2
              have r3 := hb4.cell 3
              have e2 := (HS.out.keep0 HK4.out).out.cell 3
              have hw4 : w.heap.size ≤ w4.heap.size := Nat.le_trans HS.out.keep.size HK4.out.size
              have HW4 := Lib.hid hw4
              clear hb4 y0 y1 y2 y3 HU HK3 hw4
              go_wp2_with (at_builtin; have K5 := HK4.out.alloc (.cells #[.int .i64 u.k, .int .i64 u.n, .string u.s, .slice u.A u.len u.c] 24); refine wpList_app _ el_rterm rfl (.tmp 105) (.tmp 107) rfl w.heap.size A2 j c2 (us.flatMap tvE) rfl (own_keep0 HS.out.row K5) (some ⟨w4.heap.size, 0, none⟩) 1 1 (tvE u) rfl (Rd.one w4 _ (tvE u)) rfl (by simp) (by simp [tvE, Value.oneCell']) (by omega) (by simp; have := HW4.out; omega) ?_; intro A' c' w9 hown hgrow hat; have og := (HS.out.keep0 K5).out.grown hgrow (fun e => HS.out.low.2.1 (by unfold ownL; rw [← e]; simp)); have g3 := og.cell 3; have f3 := og.frozen 3; have HST2 := Lib.hid (HS.out.step K5 (HS.out.fresh ((HU4.out.keep ((Keeps.refl w4 []).alloc _)).mono (fun b hb => Nat.le_trans HKa.out.size hb))) hown hgrow hat); clear og hown hgrow hat K5)
              go_roundg (W - (j + 1))
              case measure => omega
              case rel =>
                refine ⟨j + 1, by omega, rfl, by go_num, ?_, A', c', us ++ [u], ?_⟩
                · rw [fixes, HLF.out]; rfl
                · rw [fixes, HLF.out]; exact HST2.out
          · obtain rfl : W = j := by omega
            have hd := HS.out.done (by omega)
            have hr := (HS.out.fix (w.heap.size + 1, 24, #[.int .i64 0, .int .i64 0, .string ⟨#[]⟩, .slice none 0 0]) (by simp)).1
            have d0 := HS.out.out.cell 0
            have d1 := HS.out.out.cell 1
            have d2 := HS.out.out.cell 2
            have d3 := HS.out.out.cell 3
            have r0 := hr.cell 0
            have r1 := hr.cell 1
            have r2 := hr.cell 2
            have r3 := hr.cell 3
            have f0 := hr.frozen 0
            have f1 := hr.frozen 1
            have f2 := hr.frozen 2
            have f3 := hr.frozen 3
            have HD : Hid (FDone w (.mk K N S (fixes f l (left - 1) W).1, (fixes f l (left - 1) W).2) (.returned (.tuple #[.agg #[.int .i64 K, .int .i64 N, .string S, .slice A2 W c2], .int .i64 lf])) ((((wr.setCell ⟨w.heap.size + 1, 0, none⟩ (.int .i64 K)).setCell ⟨w.heap.size + 1, 1, none⟩ (.int .i64 N)).setCell ⟨w.heap.size + 1, 2, none⟩ (.string S)).setCell ⟨w.heap.size + 1, 3, none⟩ (.slice A2 W c2))) := by
              obtain ⟨v9, e9, t9, k9⟩ := (hd.mono (S' := fun b => w.heap.size ≤ b ∧ b ≠ w.heap.size + 1) fun b hb => ⟨hb.1, hb.2.2 (w.heap.size + 1, 24, #[.int .i64 0, .int .i64 0, .string ⟨#[]⟩, .slice none 0 0]) (by simp)⟩).end4 (.int .i64 K) (.int .i64 N) (.string S) (.slice A2 W c2) HS.out.keep (by omega)
              injection e9 with e9
              refine ⟨v9, ?_, t9, k9⟩
              rw [← e9, HLF.out]
              rfl
            clear hd hr hlt hj
            go_wp2_with fail
            exact bodyPost_ret (v := .tuple #[.agg #[.int .i64 K, .int .i64 N, .string S, .slice A2 W c2], .int .i64 lf]) (by simp [results, Tryd.results26, go_sem, *]) rfl HD.out
/-- Fix, of all trees. -/
theorem fix_any : ∀ (d : Nat), d ≤ 4 → ∀ (t : Tm) (v : TV) (w : World) (left : Int), Tr w (fun _ => True) t v → -1000000 ≤ left - cost d → left ≤ 1000 → Calls Tryd.prog 26 #[tvV v, .int .i64 d, .int .i64 left] w (FDone w (tFix d t left))
  | 0, hd, t, v, w, left, ht, h1, h2 => fixT_any 0 hd (fun t n => (t, n)) 0 (by omega) (fun a n => by simp) (fun h => absurd rfl h) t v w left ht (by simp only [cost] at h1; omega) h2
  | d + 1, hd, t, v, w, left, ht, h1, h2 => fixT_any (d + 1) hd (tFix d) (cost d) (by
      match d, hd with
      | 0, _ => decide
      | 1, _ => decide
      | 2, _ => decide
      | 3, _ => decide) (tFix_cost d) (fun _ a v w left ha b1 b2 => by
        have e : (((d + 1 : Nat) : Int) - 1) = (d : Int) := by omega
        rw [e]
        exact fix_any d (by omega) a v w left ha b1 b2) t v w left ht h1 h2
end Go.Proofs.YtnonfmaehfmigaaDoor

/- Terms: the law's Fix and Ints. -/
namespace Go.Proofs.YtnonfmaehfmigaaDoor
open Go.RowKit

set_option maxHeartbeats 800000 in
theorem lFix_any (t : Tm) (v : TV) (w : World) (ht : Tr w (fun _ => True) t v) : Calls Tryd.prog 5 #[tvV v] w (TDone [] (fun b => w.heap.size ≤ b) w (lFix t)) := by
  have HT := Lib.hid ht
  clear ht
  unfold tvV
  obtain ⟨k, n, s, A, m, c⟩ := v
  go_enter Tryd.func5, Tryd.ntmps5
  go_upto_region 1 with fail
  have hB0 : Blk ((w.alloc (.cells #[.int .i64 k, .int .i64 n, .string s, .slice A m c] 24)).alloc (.cells #[.int .i64 0, .int .i64 0, .string ⟨#[]⟩, .slice none 0 0] 24)) w.heap.size 24 #[.int .i64 k, .int .i64 n, .string s, .slice A m c] := (Blk.new _ _ _).alloc _
  have hBr : Blk ((w.alloc (.cells #[.int .i64 k, .int .i64 n, .string s, .slice A m c] 24)).alloc (.cells #[.int .i64 0, .int .i64 0, .string ⟨#[]⟩, .slice none 0 0] 24)) (w.heap.size + 1) 24 #[.int .i64 0, .int .i64 0, .string ⟨#[]⟩, .slice none 0 0] := Blk.newAt _ _ (by simp)
  have hK0 : Keeps w ((w.alloc (.cells #[.int .i64 k, .int .i64 n, .string s, .slice A m c] 24)).alloc (.cells #[.int .i64 0, .int .i64 0, .string ⟨#[]⟩, .slice none 0 0] 24)) [] := ((Keeps.refl w []).alloc _).alloc _
  generalize (w.alloc (.cells #[.int .i64 k, .int .i64 n, .string s, .slice A m c] 24)).alloc (.cells #[.int .i64 0, .int .i64 0, .string ⟨#[]⟩, .slice none 0 0] 24) = w0 at hB0 hBr hK0 ⊢
  have q0 := hB0.cell 0
  have q1 := hB0.cell 1
  have q2 := hB0.cell 2
  have q3 := hB0.cell 3
  have HC := Lib.hid (fix_any 4 (by omega) t ⟨k, n, s, A, m, c⟩ w0 30 (HT.out.keep hK0) (by decide) (by omega))
  have HBr := Lib.hid hBr
  have HK0 := Lib.hid hK0
  clear hB0 hBr hK0
  unfold tvV at HC
  go_wp2_with fail
  refine HC.out.mono ?_
  rintro e w1 ⟨u, rfl, hu, k1⟩
  have HU : Hid (Tr w1 (fun b => w0.heap.size ≤ b) (lFix t) u) := hu
  have HK1 := Lib.hid k1
  unfold tvV
  clear hu k1 HC
  have hb4 : Blk (w1.alloc (.cells #[.int .i64 u.k, .int .i64 u.n, .string u.s, .slice u.A u.len u.c] 24)) w1.heap.size 24 #[.int .i64 u.k, .int .i64 u.n, .string u.s, .slice u.A u.len u.c] := Blk.new _ _ _
  have hbr := (HBr.out.keep HK1.out (by simp)).alloc (.cells #[.int .i64 u.k, .int .i64 u.n, .string u.s, .slice u.A u.len u.c] 24)
  have HK2 := Lib.hid ((HK0.out.trans HK1.out).alloc (.cells #[.int .i64 u.k, .int .i64 u.n, .string u.s, .slice u.A u.len u.c] 24))
  have HU2 := Lib.hid (HU.out.keep ((Keeps.refl w1 []).alloc (.cells #[.int .i64 u.k, .int .i64 u.n, .string u.s, .slice u.A u.len u.c] 24)))
  go_upto_region 2 with fail
  generalize w1.alloc (.cells #[.int .i64 u.k, .int .i64 u.n, .string u.s, .slice u.A u.len u.c] 24) = w2 at hb4 hbr HK2 HU2 ⊢
  have y0 := hb4.cell 0
  have y1 := hb4.cell 1
  have y2 := hb4.cell 2
  have y3 := hb4.cell 3
  have r0 := hbr.cell 0
  have r1 := hbr.cell 1
  have r2 := hbr.cell 2
  have r3 := hbr.cell 3
  have f0 := hbr.frozen 0
  have f1 := hbr.frozen 1
  have f2 := hbr.frozen 2
  have f3 := hbr.frozen 3
  have hlt := HBr.out.lt
  have HD := Lib.hid ((HU2.out.mono (S' := fun b => w.heap.size ≤ b ∧ b ≠ w.heap.size + 1) fun b hb => ⟨by omega, by omega⟩).end4 (.int .i64 u.k) (.int .i64 u.n) (.string u.s) (.slice u.A u.len u.c) HK2.out (by omega))
  clear hb4 hbr hlt q0 q1 q2 q3
  go_wp2_with fail
  exact bodyPost_ret (v := .agg #[.int .i64 u.k, .int .i64 u.n, .string u.s, .slice u.A u.len u.c]) (by simp [results, Tryd.results5, go_sem, *]) rfl HD.out

end Go.Proofs.YtnonfmaehfmigaaDoor

/- A region that draws its order, with operations that make a new block and may come up at several places: what reads is taken first, what calls comes up alone but for these, and these are held to come up late, at whatever addresses. Over any program. -/
namespace Go.Proofs.YtnonfmaehfmigaaDoor
open Go Go.RowKit

/-- An operation that makes a block: its number, where its value goes, its value, the block's type and cells. -/
structure Lt where
  k : Nat
  d : Tmp
  v : Nat → Value
  t : TypeId
  z : Array Value
def putL : List (Lt × Option Nat) → Act → Act
  | [], a => a
  | (_, none) :: L, a => putL L a
  | (x, some b) :: L, a => putL L (a.put (some x.d) (x.v b))
def setL : List (Lt × Option Nat) → Array Bool → Array Bool
  | [], s => s
  | (_, none) :: L, s => setL L s
  | (x, some _) :: L, s => setL L (s.setIfInBounds x.k true)
def undone : List (Lt × Option Nat) → Nat
  | [] => 0
  | (_, none) :: L => undone L + 1
  | (_, some _) :: L => undone L
theorem putL_app : ∀ (L M : List (Lt × Option Nat)) (a : Act), putL (L ++ M) a = putL M (putL L a)
  | [], _, _ => rfl
  | (_, none) :: L, M, a => by simp only [List.cons_append, putL]; exact putL_app L M a
  | (x, some b) :: L, M, a => by simp only [List.cons_append, putL]; exact putL_app L M _
theorem setL_app : ∀ (L M : List (Lt × Option Nat)) (s : Array Bool), setL (L ++ M) s = setL M (setL L s)
  | [], _, _ => rfl
  | (_, none) :: L, M, s => by simp only [List.cons_append, setL]; exact setL_app L M s
  | (x, some b) :: L, M, s => by simp only [List.cons_append, setL]; exact setL_app L M _
theorem undone_app : ∀ (L M : List (Lt × Option Nat)), undone (L ++ M) = undone L + undone M
  | [], M => by simp [undone]
  | (_, none) :: L, M => by simp only [List.cons_append, undone, undone_app L M]; omega
  | (x, some b) :: L, M => by simp only [List.cons_append, undone]; exact undone_app L M
theorem putL_put : ∀ (L : List (Lt × Option Nat)) (a : Act) (d : Option Tmp) (v : Value), (∀ x ∈ L, d ≠ some x.1.d) → putL L (a.put d v) = (putL L a).put d v
  | [], _, _, _, _ => rfl
  | (x, none) :: L, a, d, v, h => by simp only [putL]; exact putL_put L a d v fun y hy => h y (List.mem_cons_of_mem _ hy)
  | (x, some b) :: L, a, d, v, h => by
    simp only [putL]
    rw [Act.put_comm a v (x.v b) (x := d) (y := some x.d) (fun e he he' => h (x, some b) (by simp) (by rw [he]; exact he'.symm))]
    exact putL_put L _ d v fun y hy => h y (List.mem_cons_of_mem _ hy)
theorem setL_set : ∀ (L : List (Lt × Option Nat)) (s : Array Bool) (k : Nat), (∀ x ∈ L, k ≠ x.1.k) → setL L (s.setIfInBounds k true) = (setL L s).setIfInBounds k true
  | [], _, _, _ => rfl
  | (x, none) :: L, s, k, h => by simp only [setL]; exact setL_set L s k fun y hy => h y (List.mem_cons_of_mem _ hy)
  | (x, some b) :: L, s, k, h => by
    simp only [setL]
    rw [Array.setIfInBounds_comm _ _ (h (x, some b) (by simp))]
    exact setL_set L _ k fun y hy => h y (List.mem_cons_of_mem _ hy)
theorem setL_far : ∀ (L : List (Lt × Option Nat)) (s : Array Bool) (k : Nat) (d : Bool), (∀ x ∈ L, k ≠ x.1.k) → (setL L s).getD k d = s.getD k d
  | [], _, _, _, _ => rfl
  | (x, none) :: L, s, k, d, h => by simp only [setL]; exact setL_far L s k d fun y hy => h y (List.mem_cons_of_mem _ hy)
  | (x, some b) :: L, s, k, d, h => by
    simp only [setL]
    rw [setL_far L _ k d fun y hy => h y (List.mem_cons_of_mem _ hy), getD_set_ne d (Ne.symm (h (x, some b) (by simp)))]
theorem setL_mono : ∀ (L : List (Lt × Option Nat)) (s : Array Bool) (k : Nat), s.getD k true = true → (setL L s).getD k true = true
  | [], _, _, h => h
  | (x, none) :: L, s, k, h => by simp only [setL]; exact setL_mono L s k h
  | (x, some b) :: L, s, k, h => by
    simp only [setL]
    refine setL_mono L _ k ?_
    by_cases hk : x.k = k
    · subst hk
      rcases Nat.lt_or_ge x.k s.size with hs | hs
      · simp [hs]
      · simp [Array.getD]
    · rw [getD_set_ne true hk]; exact h

section
variable {P : Program} {ops : Array Oper} {Q : Exit → Act → World → Prop} {md : Region.Mode} {S : World → Prop}

/-- One operation apart from another: its value may be there beforehand. -/
theorem wpOp_after {j : Nat} {oi oj : Oper} {v : Value} (hj : ops[j]? = some oj) (hap : oi.apart ops oj = true) (hsj : ∀ cs b, oj.op ≠ .select cs b)
    (hQ : ∀ c a w, Q (.panic c) a w → Q (.panic c) (a.put oi.dst v) w) {K : Act → World → Prop} {a : Act} {w : World} (h : wpOp P ops Q j K a w) :
    wpOp P ops Q j (fun a' w' => ∃ a'', a' = a''.put oi.dst v ∧ K a'' w') (a.put oi.dst v) w := by
  obtain ⟨h1, h2, h3⟩ := Oper.apart_spec hap
  unfold wpOp at *
  simp only [hj] at *
  rw [wanted_put oj a oi.dst v h1]
  split
  · rename_i hw
    simp only [hw, if_true] at h
    rcases h with h | ⟨hasks, hlets⟩
    case inr => exact .inr ⟨by unfold Oper.asks at *; rw [execOp_put oj hsj a oi.dst v h1]; exact hasks, hlets⟩
    refine .inl ?_
    unfold Oper.wp at *
    rw [execOp_put oj hsj a oi.dst v h1]
    generalize (execOp a.eval oj).run P w = r at *
    cases r with
    | ok n w' =>
      cases n <;> simp only [Oper.upon] at h ⊢
      case value u => exact ⟨a.put oj.dst u, Act.put_comm a v u h2, h⟩
      case skip => exact ⟨a.put oj.dst undef, Act.put_comm a v undef h2, h⟩
      case defer d =>
        refine ⟨_, ?_, h⟩
        rw [Act.put_defers]
        exact Act.put_comm _ v undef h2
      case enter f args =>
        refine Calls.mono h fun e w'' he => ?_
        cases e with
        | returned u => exact ⟨a.put oj.dst u, Act.put_comm a v u h2, he⟩
        | panicked c => exact hQ _ _ _ he
        | outgrown => exact he
      case row row args => exact Rows.mono h fun u w'' he => ⟨a.put oj.dst u, Act.put_comm a v u h2, he⟩
    | halt x w' =>
      cases x <;> simp only [Oper.upon] at h ⊢
      case panic u => exact hQ _ _ _ h
  · rename_i hw
    simp only [hw] at h
    exact ⟨a.put oj.dst undef, Act.put_comm a v undef h2, h⟩

def farB (l : List Oper) (o : Oper) (x : Lt) : Bool :=
  match nthO l x.k with
  | some ox => decide (ox.dst = some x.d) && ox.apart l.toArray o
  | none => false
theorem farB_spec {l : List Oper} {o : Oper} {x : Lt} (h : farB l o x = true) : ∃ ox, nthO l x.k = some ox ∧ ox.dst = some x.d ∧ ox.apart l.toArray o = true := by
  unfold farB at h
  split at h
  · rename_i ox hx
    simp only [Bool.and_eq_true, decide_eq_true_eq] at h
    exact ⟨ox, hx, h.1, h.2⟩
  · cases h
theorem wpOp_afterL {l : List Oper} {j : Nat} {oj : Oper} (hj : l.toArray[j]? = some oj) (hsj : ∀ cs b, oj.op ≠ .select cs b) (hQ : ∀ c a d v w, Q (.panic c) a w → Q (.panic c) (Act.put a d v) w) :
    ∀ (L : List (Lt × Option Nat)), (∀ x ∈ L, farB l oj x.1 = true) → ∀ {K : Act → World → Prop} {a : Act} {w : World}, wpOp P l.toArray Q j K a w →
      wpOp P l.toArray Q j (fun a' w' => ∃ a'', a' = putL L a'' ∧ K a'' w') (putL L a) w
  | [], _, K, a, w, h => wpOp_mono (fun a' w' h => ⟨a', rfl, h⟩) h
  | (x, none) :: L, hf, K, a, w, h => by
    simp only [putL]
    exact wpOp_afterL hj hsj hQ L (fun y hy => hf y (List.mem_cons_of_mem _ hy)) h
  | (x, some b) :: L, hf, K, a, w, h => by
    obtain ⟨ox, _, hd, hap⟩ := farB_spec (hf (x, some b) (by simp))
    have h1 := wpOp_after (v := x.v b) hj hap hsj (fun c a w => hQ c a _ _ w) h
    rw [hd] at h1
    have h2 := wpOp_afterL hj hsj hQ L (fun y hy => hf y (List.mem_cons_of_mem _ hy)) h1
    simp only [putL]
    refine wpOp_mono (fun a' w' h3 => ?_) h2
    obtain ⟨a1, e1, a2, e2, hK⟩ := h3
    exact ⟨a2, by rw [e1, e2], hK⟩
theorem yields_putL {l : List Oper} {o : Oper} {v : Value} (hs : ∀ cs b, o.op ≠ .select cs b) : ∀ (L : List (Lt × Option Nat)), (∀ x ∈ L, farB l o x.1 = true) → ∀ {a : Act}, YieldsIf P l.toArray S o v a → YieldsIf P l.toArray S o v (putL L a)
  | [], _, _, h => h
  | (x, none) :: L, hf, a, h => by simp only [putL]; exact yields_putL hs L (fun y hy => hf y (List.mem_cons_of_mem _ hy)) h
  | (x, some b) :: L, hf, a, h => by
    obtain ⟨ox, _, hd, hap⟩ := farB_spec (hf (x, some b) (by simp))
    obtain ⟨h1, _, _⟩ := Oper.apart_spec hap
    rw [hd] at h1
    simp only [putL]
    exact yields_putL hs L (fun y hy => hf y (List.mem_cons_of_mem _ hy)) (h.of_same (execOp_put o hs a _ _ h1) (wanted_put o a _ _ h1))
theorem far_dst {l : List Oper} {o : Oper} {L : List (Lt × Option Nat)} (hf : ∀ x ∈ L, farB l o x.1 = true) : ∀ x ∈ L, o.dst ≠ some x.1.d := fun x hx e => by
  obtain ⟨ox, _, hd, hap⟩ := farB_spec (hf x hx)
  exact (Oper.apart_spec hap).2.1 _ hd e

/-- In state a, in every world that meets S, number x.k makes its block. -/
def AllocIf (P : Program) (l : List Oper) (S : World → Prop) (x : Lt) (a : Act) : Prop :=
  ∃ o, nthO l x.k = some o ∧ o.dst = some x.d ∧ Region.wanted o (yielded l.toArray a.tmps) = true ∧ ∀ w, S w → (execOp a.eval o).run P w = .ok (.value (x.v w.heap.size)) (w.alloc (.cells x.z x.t))
theorem AllocIf.wpOp {l : List Oper} {x : Lt} {a : Act} (h : AllocIf P l S x a) {K : Act → World → Prop} {w : World} (hS : S w) (hK : K (a.put (some x.d) (x.v w.heap.size)) (w.alloc (.cells x.z x.t))) : wpOp P l.toArray Q x.k K a w := by
  obtain ⟨o, ho, hd, hw, hv⟩ := h
  unfold Go.wpOp
  simp only [(nthO_eq l x.k).trans ho, hw, if_true, Oper.wp, hv w hS, Oper.upon, hd]
  exact .inl hK
theorem AllocIf.of_same {l : List Oper} {x : Lt} {a a' : Act} (h : AllocIf P l S x a) (hs : ∀ o, nthO l x.k = some o → execOp a'.eval o = execOp a.eval o ∧ Region.wanted o (yielded l.toArray a'.tmps) = Region.wanted o (yielded l.toArray a.tmps)) : AllocIf P l S x a' := by
  obtain ⟨o, ho, hd, hw, hv⟩ := h
  obtain ⟨h1, h2⟩ := hs o ho
  exact ⟨o, ho, hd, h2.trans hw, fun w hS => by rw [h1]; exact hv w hS⟩
theorem AllocIf.put {l : List Oper} {x : Lt} {a : Act} (h : AllocIf P l S x a) (hsel : Region.noSelect l.toArray = true) {o : Oper} (hf : farB l o x = true) (v : Value) : AllocIf P l S x (a.put o.dst v) := by
  refine h.of_same fun ox hox => ?_
  obtain ⟨ox', hx', _, hap⟩ := farB_spec hf
  obtain rfl : ox' = ox := Option.some.inj (hx'.symm.trans hox)
  obtain ⟨_, _, h3⟩ := Oper.apart_spec hap
  exact ⟨execOp_put ox' (fun cs b => Region.noSelect_spec hsel x.k ox' cs b ((nthO_eq l x.k).trans hox)) a o.dst v h3, wanted_put ox' a o.dst v h3⟩
theorem AllocIf.putL {l : List Oper} {x : Lt} (hsel : Region.noSelect l.toArray = true) : ∀ (L : List (Lt × Option Nat)), (∀ y ∈ L, (∃ o, nthO l y.1.k = some o ∧ o.dst = some y.1.d ∧ farB l o x = true)) → ∀ {a : Act}, AllocIf P l S x a → AllocIf P l S x (putL L a)
  | [], _, _, h => h
  | (y, none) :: L, hf, a, h => by simp only [Proofs.YtnonfmaehfmigaaDoor.putL]; exact AllocIf.putL hsel L (fun z hz => hf z (List.mem_cons_of_mem _ hz)) h
  | (y, some b) :: L, hf, a, h => by
    obtain ⟨o, ho, hd, hfar⟩ := hf (y, some b) (by simp)
    simp only [Proofs.YtnonfmaehfmigaaDoor.putL]
    refine AllocIf.putL hsel L (fun z hz => hf z (List.mem_cons_of_mem _ hz)) ?_
    rw [← hd]
    exact h.put hsel hfar _
/-- .. another operation behind it. -/
theorem wpOp_allocs {l : List Oper} (hsel : Region.noSelect l.toArray = true) {j : Nat} {oj : Oper} (hj : l.toArray[j]? = some oj) {L : List Lt} (hf : ∀ x ∈ L, farB l oj x = true) {K : Act → World → Prop} {a : Act} {w : World} (hA : ∀ x ∈ L, AllocIf P l S x a) (h : wpOp P l.toArray Q j K a w) :
    wpOp P l.toArray Q j (fun a' w' => (∀ x ∈ L, AllocIf P l S x a') ∧ K a' w') a w := by
  have keep : ∀ u, ∀ x ∈ L, AllocIf P l S x (a.put oj.dst u) := fun u x hx => (hA x hx).put hsel (hf x hx) u
  unfold Go.wpOp at *
  simp only [hj] at *
  split
  · rename_i hw
    simp only [hw, if_true] at h
    rcases h with h | h
    case inr => exact .inr h
    refine .inl ?_
    unfold Oper.wp at *
    generalize (execOp a.eval oj).run P w = r at *
    cases r with
    | ok n w' =>
      cases n <;> simp only [Oper.upon] at h ⊢
      case value u => exact ⟨keep u, h⟩
      case skip => exact ⟨keep _, h⟩
      case defer d =>
        refine ⟨fun x hx => ?_, h⟩
        exact ((hA x hx).of_same (a' := { a with defers := d :: a.defers }) fun o ho => ⟨rfl, rfl⟩).put hsel (hf x hx) _
      case enter f args =>
        refine Calls.mono h fun e w'' he => ?_
        cases e with
        | returned u => exact ⟨keep u, he⟩
        | panicked c => exact he
        | outgrown => exact he
      case row row args => exact Rows.mono h fun u w'' he => ⟨keep u, he⟩
    | halt x w' => cases x <;> simp only [Oper.upon] at h ⊢ <;> exact h
  · rename_i hw
    simp only [hw] at h
    exact ⟨keep _, h⟩

/-- take: number k is taken first; go: it comes up alone, but for what is open; op: from here on a block may be made; cl: all that are open have been. -/
inductive It where
  | take (k : Nat)
  | go (k : Nat)
  | op (x : Lt)
  | cl
def It.isOne : It → Nat
  | .cl => 0
  | _ => 1
def Its (r : List It) : Nat := (r.map It.isOne).sum

/-- The blocks, at whatever addresses. -/
def lates (base : Nat) (ex : List (Nat × Nat)) (K : Act → World → Prop) : List Lt → List Nat → Act → World → Prop
  | [], _, a, w => K a w
  | x :: L, used, a, w => ∀ b, base ≤ b → b ∉ used → (∀ p ∈ ex, b < p.1 ∨ p.2 ≤ b) → Blk w b x.t x.z → lates base ex K L (b :: used) (a.put (some x.d) (x.v b)) w
def wpTw (P : Program) (l : List Oper) (Q : Exit → Act → World → Prop) (S : World → Prop) (n base : Nat) (tail : List (Nat × Bool)) : List It → List (Nat × Nat) → List Lt → Act → World → Prop
  | [], _, _, a, w => wpTy P l Q S n tail a w
  | .take k :: r, ex, L, a, w => ∃ o v, nthO l k = some o ∧ YieldsIf P l.toArray S o v a ∧ wpTw P l Q S n base tail r ex L (a.put o.dst v) w
  | .go k :: r, ex, L, a, w => ∀ w', Keeps w w' [] → S w' → wpOp P l.toArray Q k (fun a' w'' => (Keeps w' w'' [] ∧ S w'') ∧ wpTw P l Q S n base tail r ((w'.heap.size, w''.heap.size) :: ex) L a' w'') a w'
  | .op x :: r, ex, L, a, w => AllocIf P l S x a ∧ wpTw P l Q S n base tail r ex (L ++ [x]) a w
  | .cl :: r, ex, L, a, w => ∀ w', Keeps w w' [] → S w' → lates base ex (wpTw P l Q S n base tail r ex []) L [] a w'

def allD : List Lt → Array Bool → Bool → (Array Bool → Bool → Bool) → Bool
  | [], s, full, f => f s full
  | x :: L, s, full, f => allD L s false f && allD L (s.setIfInBounds x.k true) full f
theorem allD_spec {f : Array Bool → Bool → Bool} : ∀ (L : List (Lt × Option Nat)) (s : Array Bool) (full : Bool), allD (L.map (·.1)) s full f = true → f (setL L s) (decide (undone L = 0) && full) = true
  | [], s, full, h => by simpa [allD, setL, undone] using h
  | (x, none) :: L, s, full, h => by
    simp only [List.map_cons, allD, Bool.and_eq_true] at h
    have := allD_spec L s false h.1
    simpa [setL, undone] using this
  | (x, some b) :: L, s, full, h => by
    simp only [List.map_cons, allD, Bool.and_eq_true] at h
    have := allD_spec L _ full h.2
    exact this
def fullS : List Lt → Array Bool → Array Bool
  | [], s => s
  | x :: L, s => fullS L (s.setIfInBounds x.k true)
theorem setL_full : ∀ (L : List (Lt × Option Nat)) (s : Array Bool), undone L = 0 → setL L s = fullS (L.map (·.1)) s
  | [], _, _ => rfl
  | (x, none) :: L, s, h => by simp [undone] at h
  | (x, some b) :: L, s, h => by simp only [setL, List.map_cons, fullS]; exact setL_full L _ (by simpa [undone] using h)

def opFar (l : List Oper) (L : List Lt) (k : Nat) : Bool :=
  match nthO l k with
  | some o => L.all fun x => farB l o x && decide (x.k ≠ k)
  | none => false
theorem opFar_spec {l : List Oper} {L : List Lt} {k : Nat} {o : Oper} (ho : nthO l k = some o) (h : opFar l L k = true) : ∀ x ∈ L, farB l o x = true ∧ k ≠ x.k := by
  unfold opFar at h
  rw [ho] at h
  simp only [List.all_eq_true, Bool.and_eq_true, decide_eq_true_eq] at h
  exact fun x hx => ⟨(h x hx).1, Ne.symm (h x hx).2⟩
/-- An operation that is opened: ready, apart from those that are open. -/
def opB (md : Region.Mode) (l : List Oper) (n : Nat) (L : List Lt) (x : Lt) (s : Array Bool) : Bool :=
  decide (x.k < n) && (Region.ready md l.toArray s).contains x.k &&
  match nthO l x.k with
  | some o => decide (o.dst = some x.d) && L.all fun y => decide (y.k ≠ x.k) && decide (y.d ≠ x.d) && farB l o y && (match nthO l y.k with | some oy => farB l oy x | none => false)
  | none => false
def twB (md : Region.Mode) (l : List Oper) (n : Nat) (tail : List (Nat × Bool)) : List It → List Lt → Array Bool → Bool
  | [], L, s => L.isEmpty && tyB md l.toArray n tail s
  | .take k :: r, L, s => decide (k < n) && (Region.ready md l.toArray s).contains k && Region.free md l.toArray s k && opFar l L k && twB md l n tail r L (s.setIfInBounds k true)
  | .go k :: r, L, s => decide (k < n) && (Region.ready md l.toArray s).contains k && opFar l L k && allD L s true (fun s' _ => (Region.ready md l.toArray s').all fun j => j == k || L.any fun x => x.k == j) && twB md l n tail r L (s.setIfInBounds k true)
  | .op x :: r, L, s => opB md l n L x s && twB md l n tail r (L ++ [x]) s
  | .cl :: r, L, s => allD L s true (fun s' full => full || (Region.ready md l.toArray s').all fun j => L.any fun x => x.k == j) && twB md l n tail r [] (fullS L s)

/-- What is known of those that are open. -/
structure Opens (md : Region.Mode) (l : List Oper) (n : Nat) (L : List Lt) (s : Array Bool) : Prop where
  ready : ∀ x ∈ L, x.k ∈ Region.ready md l.toArray s ∧ x.k < n
  ne : L.Pairwise fun x y => x.k ≠ y.k ∧ x.d ≠ y.d
  far : ∀ x ∈ L, ∀ y ∈ L, x.k ≠ y.k → ∃ o, nthO l y.k = some o ∧ o.dst = some y.d ∧ farB l o x = true
theorem Opens.nil (md : Region.Mode) (l : List Oper) (n : Nat) (s : Array Bool) : Opens md l n [] s := ⟨by simp, .nil, by simp⟩
theorem Opens.set {l : List Oper} {n : Nat} {L : List Lt} {s : Array Bool} (h : Opens md l n L s) {k : Nat} (hk : ∀ x ∈ L, k ≠ x.k) : Opens md l n L (s.setIfInBounds k true) :=
  ⟨fun x hx => ⟨ready_mono (h.ready x hx).1 (Ne.symm (hk x hx)), (h.ready x hx).2⟩, h.ne, h.far⟩
theorem Opens.snoc {l : List Oper} {n : Nat} {L : List Lt} {s : Array Bool} (h : Opens md l n L s) {x : Lt} (hB : opB md l n L x s = true) (hL : ∀ y ∈ L, ∃ o, nthO l y.k = some o ∧ o.dst = some y.d) : Opens md l n (L ++ [x]) s := by
  simp only [opB, Bool.and_eq_true, decide_eq_true_eq] at hB
  obtain ⟨⟨h1, h2⟩, h3⟩ := hB
  cases ho : nthO l x.k with
  | none => rw [ho] at h3; cases h3
  | some o =>
    rw [ho] at h3
    simp only [Bool.and_eq_true, decide_eq_true_eq, List.all_eq_true] at h3
    obtain ⟨hd, h3⟩ := h3
    refine ⟨fun y hy => ?_, ?_, fun y hy z hz hne => ?_⟩
    · rcases List.mem_append.1 hy with hy | hy
      · exact h.ready y hy
      · obtain rfl := List.mem_singleton.1 hy
        exact ⟨by simpa using h2, h1⟩
    · refine List.pairwise_append.2 ⟨h.ne, List.pairwise_singleton _ _, fun y hy z hz => ?_⟩
      obtain rfl := List.mem_singleton.1 hz
      exact (h3 y hy).1.1
    · rcases List.mem_append.1 hy with hy1 | hy1
      · rcases List.mem_append.1 hz with hz1 | hz1
        · exact h.far y hy1 z hz1 hne
        · have e := List.mem_singleton.1 hz1
          subst e
          exact ⟨o, ho, hd, (h3 y hy1).1.2⟩
      · have e := List.mem_singleton.1 hy1
        subst e
        rcases List.mem_append.1 hz with hz1 | hz1
        · obtain ⟨oz, hoz, hdz⟩ := hL z hz1
          have := (h3 z hz1).2
          rw [hoz] at this
          exact ⟨oz, hoz, hdz, this⟩
        · have e := List.mem_singleton.1 hz1
          subst e
          exact absurd rfl hne

def blocksOf : List (Lt × Option Nat) → List Nat
  | [] => []
  | (_, none) :: L => blocksOf L
  | (_, some b) :: L => b :: blocksOf L
theorem blocksOf_app : ∀ (L M : List (Lt × Option Nat)), blocksOf (L ++ M) = blocksOf L ++ blocksOf M
  | [], _ => rfl
  | (_, none) :: L, M => by simp only [List.cons_append, blocksOf]; exact blocksOf_app L M
  | (_, some b) :: L, M => by simp only [List.cons_append, blocksOf]; rw [blocksOf_app L M]
theorem blocksOf_mem : ∀ {L : List (Lt × Option Nat)} {b : Nat}, b ∈ blocksOf L → ∃ x, (x, some b) ∈ L
  | [], _, h => absurd h (by simp [blocksOf])
  | (x, none) :: L, b, h => by
    obtain ⟨y, hy⟩ := blocksOf_mem (L := L) (by simpa [blocksOf] using h)
    exact ⟨y, List.mem_cons_of_mem _ hy⟩
  | (x, some c) :: L, b, h => by
    simp only [blocksOf, List.mem_cons] at h
    rcases h with rfl | h
    · exact ⟨x, by simp⟩
    · obtain ⟨y, hy⟩ := blocksOf_mem h
      exact ⟨y, List.mem_cons_of_mem _ hy⟩
theorem lates_in {base : Nat} {ex : List (Nat × Nat)} {K : Act → World → Prop} {w : World} : ∀ (L : List (Lt × Option Nat)) (used : List Nat) (a : Act), undone L = 0 → (∀ x b, (x, some b) ∈ L → base ≤ b ∧ Blk w b x.t x.z ∧ ∀ p ∈ ex, b < p.1 ∨ p.2 ≤ b) → (∀ b ∈ blocksOf L, b ∉ used) → (blocksOf L).Nodup →
    lates base ex K (L.map (·.1)) used a w → K (putL L a) w
  | [], _, _, _, _, _, _, h => h
  | (x, none) :: L, _, _, h0, _, _, _, _ => by simp [undone] at h0
  | (x, some b) :: L, used, a, h0, hB, hu, hn, h => by
    simp only [List.map_cons, lates] at h
    simp only [blocksOf, List.nodup_cons, List.mem_cons] at hn hu
    have h1 := hB x b (by simp)
    simp only [putL]
    refine lates_in L (b :: used) _ (by simpa [undone] using h0) (fun y c hy => hB y c (List.mem_cons_of_mem _ hy)) (fun c hc hm => ?_) hn.2 (h b h1.1 (hu b (.inl rfl)) h1.2.2 h1.2.1)
    rcases List.mem_cons.1 hm with rfl | hm
    · exact hn.1 hc
    · exact hu c (.inr hc) hm
theorem setL_size : ∀ (L : List (Lt × Option Nat)) (s : Array Bool), (setL L s).size = s.size
  | [], _ => rfl
  | (_, none) :: L, s => by simp only [setL]; exact setL_size L s
  | (_, some b) :: L, s => by simp only [setL]; rw [setL_size L]; simp
theorem ready_in {l : List Oper} : ∀ (L : List (Lt × Option Nat)) (s : Array Bool) (k : Nat), (∀ x ∈ L, k ≠ x.1.k) → k ∈ Region.ready md l.toArray s → k ∈ Region.ready md l.toArray (setL L s)
  | [], _, _, _, h => h
  | (y, none) :: L, s, k, hne, h => by simp only [setL]; exact ready_in L s k (fun z hz => hne z (List.mem_cons_of_mem _ hz)) h
  | (y, some b) :: L, s, k, hne, h => by simp only [setL]; exact ready_in L _ k (fun z hz => hne z (List.mem_cons_of_mem _ hz)) (ready_mono h (hne (y, some b) (by simp)))
/-- One that has not come up: its place. -/
theorem undone_at : ∀ {L : List (Lt × Option Nat)}, undone L ≠ 0 → ∃ M x N, L = M ++ (x, none) :: N
  | [], h => absurd rfl h
  | (y, none) :: L, _ => ⟨[], y, L, rfl⟩
  | (y, some b) :: L, h => by
    obtain ⟨M, x, N, e⟩ := undone_at (L := L) (by simpa [undone] using h)
    exact ⟨(y, some b) :: M, x, N, by rw [e]; rfl⟩
theorem Opens.split {l : List Oper} {n : Nat} {s : Array Bool} {M : List (Lt × Option Nat)} {x : Lt} {o : Option Nat} {N : List (Lt × Option Nat)} (h : Opens md l n ((M ++ (x, o) :: N).map (·.1)) s) :
    (∀ y ∈ M, x.k ≠ y.1.k ∧ x.d ≠ y.1.d) ∧ (∀ y ∈ N, x.k ≠ y.1.k ∧ x.d ≠ y.1.d) := by
  have h1 := h.ne
  rw [List.map_append, List.map_cons, List.pairwise_append, List.pairwise_cons] at h1
  exact ⟨fun y hy => ⟨Ne.symm (h1.2.2 y.1 (List.mem_map_of_mem hy) x (by simp)).1, Ne.symm (h1.2.2 y.1 (List.mem_map_of_mem hy) x (by simp)).2⟩, fun y hy => h1.2.1.1 y.1 (List.mem_map_of_mem hy)⟩

theorem wpAnyF_of_tw {l : List Oper} {n base : Nat} {tail : List (Nat × Bool)} (hsel : Region.noSelect l.toArray = true) (hQ : ∀ c a d v w, Q (.panic c) (Act.put a d v) w → Q (.panic c) a w) (hQ' : ∀ c a d v w, Q (.panic c) a w → Q (.panic c) (Act.put a d v) w)
    (hs : Region.sinkB md l.toArray n = true) (hc : Region.chainB md l.toArray n = true) (hn : n < l.toArray.size) (hSk : ∀ w w', Keeps w w' [] → S w → S w') :
    ∀ (m fuel : Nat) (r : List It) (ex : List (Nat × Nat)) (L : List (Lt × Option Nat)) (s : Array Bool) (a : Act) (w wr : World), (L = [] → wr = w) → 2 * r.length + undone L ≤ m → fuel = Its r + undone L + tail.length → HeadInv md l.toArray n (setL L s) → twB md l n tail r (L.map (·.1)) s = true →
      wpTw P l Q S n base tail r ex (L.map (·.1)) a w → (∀ x ∈ L.map (·.1), AllocIf P l S x a) → Opens md l n (L.map (·.1)) s → Keeps w wr [] → S wr → base ≤ wr.heap.size → (∀ p ∈ ex, p.2 ≤ wr.heap.size) → (∀ x b, (x, some b) ∈ L → base ≤ b ∧ Blk wr b x.t x.z ∧ ∀ p ∈ ex, b < p.1 ∨ p.2 ≤ b) → (blocksOf L).Nodup → wpAnyF P md l.toArray Q S n fuel (setL L s) (putL L a) wr := by
  -- a block is made
  have alloc_step : ∀ (m fuel : Nat) (r : List It) (ex : List (Nat × Nat)) (L : List (Lt × Option Nat)) (s : Array Bool) (a : Act) (w wr : World) (i : Nat), 2 * r.length + undone L ≤ m + 1 → fuel + 1 = Its r + undone L + tail.length → HeadInv md l.toArray n (setL L s) →
      (∀ x ∈ L.map (·.1), AllocIf P l S x a) → Opens md l n (L.map (·.1)) s → Keeps w wr [] → S wr → base ≤ wr.heap.size → (∀ p ∈ ex, p.2 ≤ wr.heap.size) → (∀ x b, (x, some b) ∈ L → base ≤ b ∧ Blk wr b x.t x.z ∧ ∀ p ∈ ex, b < p.1 ∨ p.2 ≤ b) → (blocksOf L).Nodup →
      (∀ (L' : List (Lt × Option Nat)) (wr : World), L'.map (·.1) = L.map (·.1) → (L' = [] → False) → 2 * r.length + undone L' ≤ m → fuel = Its r + undone L' + tail.length → HeadInv md l.toArray n (setL L' s) → Keeps w wr [] → S wr → base ≤ wr.heap.size → (∀ p ∈ ex, p.2 ≤ wr.heap.size) → (∀ x b, (x, some b) ∈ L' → base ≤ b ∧ Blk wr b x.t x.z ∧ ∀ p ∈ ex, b < p.1 ∨ p.2 ≤ b) → (blocksOf L').Nodup → wpAnyF P md l.toArray Q S n fuel (setL L' s) (putL L' a) wr) →
      i ∈ Region.ready md l.toArray (setL L s) → ((L.map (·.1)).any fun x => x.k == i) = true →
      wpOp P l.toArray Q i (fun a' w' => (i < n → S w') ∧ wpAnyF P md l.toArray Q S n fuel ((setL L s).setIfInBounds i true) a' w') (putL L a) wr := by
    intro m fuel r ex L s a w wr i hm hf inv hA hO hk hS hb hex hblk hnd ih hi hany
    obtain ⟨x, hx0, hxi⟩ := List.any_eq_true.1 hany
    have hxi : x.k = i := by simpa using hxi
    subst hxi
    obtain ⟨⟨x', o⟩, hxL, hxe⟩ := List.mem_map.1 hx0
    have hxe : x' = x := hxe
    subst hxe
    obtain ⟨M, N, hMN⟩ := List.append_of_mem hxL
    obtain ⟨hM, hN⟩ := (hMN ▸ hO : Opens md l n ((M ++ (x', o) :: N).map (·.1)) s).split
    have hN' : ∀ y ∈ N, x'.k ≠ y.1.k := fun y hy => (hN y hy).1
    have hNd : ∀ y ∈ N, (some x'.d : Option Tmp) ≠ some y.1.d := fun y hy e => (hN y hy).2 (Option.some.inj e)
    have hri := (mem_ready.1 hi).1
    have hkn := (hO.ready x' hx0).2
    cases o with
    | some b =>
      exfalso
      rw [hMN, setL_app] at hri
      simp only [setL] at hri
      have hlt : x'.k < (setL M s).size := by
        have h1 := inv.size
        rw [setL_size] at h1 ⊢
        omega
      have := setL_mono N ((setL M s).setIfInBounds x'.k true) x'.k (by simp [hlt])
      rw [this] at hri
      cases hri
    | none =>
      have hAx : AllocIf P l S x' (putL L a) := by
        have h0 := hA x' hx0
        rw [hMN, putL_app]
        simp only [putL]
        refine AllocIf.putL hsel N (fun y hy => ?_) (AllocIf.putL hsel M (fun y hy => ?_) h0)
        · exact hO.far x' hx0 y.1 (List.mem_map_of_mem (by rw [hMN]; simp [hy])) (hN y hy).1
        · exact hO.far x' hx0 y.1 (List.mem_map_of_mem (by rw [hMN]; simp [hy])) (hM y hy).1
      refine hAx.wpOp hS ?_
      have e1 : (setL L s).setIfInBounds x'.k true = setL (M ++ (x', some wr.heap.size) :: N) s := by
        rw [hMN, setL_app, setL_app]
        simp only [setL]
        rw [setL_set N _ _ hN']
      have e2 : (putL L a).put (some x'.d) (x'.v wr.heap.size) = putL (M ++ (x', some wr.heap.size) :: N) a := by
        rw [hMN, putL_app, putL_app]
        simp only [putL]
        rw [putL_put N _ _ _ hNd]
      have kk := hk.alloc (.cells x'.z x'.t)
      have k1 : Keeps wr (wr.alloc (.cells x'.z x'.t)) [] := (Keeps.refl wr []).alloc _
      have hS' := hSk _ _ k1 hS
      have hud : undone L = undone (M ++ (x', some wr.heap.size) :: N) + 1 := by
        rw [hMN, undone_app, undone_app]
        simp only [undone]
        omega
      refine ⟨fun _ => hS', ?_⟩
      rw [e1, e2]
      refine ih (M ++ (x', some wr.heap.size) :: N) _ (by rw [hMN]; simp) (by simp) (by omega) (by omega) (by rw [← e1]; exact inv.set hi hkn) kk hS' (Nat.le_trans hb k1.size) (fun p hp => Nat.le_trans (hex p hp) k1.size) (fun y b hy => ?_) ?_
      · rw [List.mem_append, List.mem_cons] at hy
        have old : (y, some b) ∈ L → base ≤ b ∧ Blk (wr.alloc (.cells x'.z x'.t)) b y.t y.z ∧ ∀ p ∈ ex, b < p.1 ∨ p.2 ≤ b := fun hm => ⟨(hblk y b hm).1, (hblk y b hm).2.1.alloc _, (hblk y b hm).2.2⟩
        rcases hy with hy | hy | hy
        · exact old (by rw [hMN]; simp [hy])
        · injection hy with e3 e4
          injection e4 with e4
          subst e3 e4
          exact ⟨hb, Blk.new _ _ _, fun p hp => .inr (hex p hp)⟩
        · exact old (by rw [hMN]; simp [hy])
      · rw [hMN, blocksOf_app] at hnd
        rw [blocksOf_app]
        simp only [blocksOf] at hnd ⊢
        have hlow : ∀ b ∈ blocksOf M ++ blocksOf N, b < wr.heap.size := fun b hbm => by
          rw [List.mem_append] at hbm
          rcases hbm with hbm | hbm
          · obtain ⟨y, hy⟩ := blocksOf_mem hbm
            exact (hblk y b (by rw [hMN]; simp [hy])).2.1.lt
          · obtain ⟨y, hy⟩ := blocksOf_mem hbm
            exact (hblk y b (by rw [hMN]; simp [hy])).2.1.lt
        rw [List.nodup_append] at hnd ⊢
        refine ⟨hnd.1, List.nodup_cons.2 ⟨fun hm => ?_, hnd.2.1⟩, fun p hp q hq e => ?_⟩
        · have := hlow _ (List.mem_append_right _ hm); omega
        · rcases List.mem_cons.1 hq with rfl | hq
          · have := hlow p (List.mem_append_left _ hp); omega
          · exact hnd.2.2 p hp q hq e
  -- one that has not come up is ready
  have late_ready : ∀ (L : List (Lt × Option Nat)) (s : Array Bool), Opens md l n (L.map (·.1)) s → undone L ≠ 0 → Region.ready md l.toArray (setL L s) ≠ [] := by
    intro L s hO hu he
    obtain ⟨M, x, N, hMN⟩ := undone_at hu
    subst hMN
    obtain ⟨hM, hN⟩ := hO.split
    have h1 := (hO.ready x (by simp)).1
    have : x.k ∈ Region.ready md l.toArray (setL (M ++ (x, none) :: N) s) := by
      rw [setL_app]
      simp only [setL]
      exact ready_in N _ _ (fun y hy => (hN y hy).1) (ready_in M _ _ (fun y hy => (hM y hy).1) h1)
    rw [he] at this
    cases this
  intro m
  induction m with
  | zero =>
    intro fuel r ex L s a w wr hw hm hf inv hB h hA hO hk hS hb hex hblk hnd
    have hr : r = [] := List.length_eq_zero_iff.1 (by omega)
    subst hr
    simp only [twB, Bool.and_eq_true, List.isEmpty_iff, List.map_eq_nil_iff] at hB
    obtain ⟨hL, hB⟩ := hB
    subst hL
    obtain rfl : fuel = tail.length := by simpa [Its, undone] using hf
    obtain rfl := hw rfl
    exact wpAnyF_of_ty (md := md) hsel hQ hs hc hn tail s a wr (.inl inv) hB h
  | succ m ih =>
    intro fuel r ex L s a w wr hw hm hf inv hB h hA hO hk hS hb hex hblk hnd
    have step := fun (fuel : Nat) (hf : fuel + 1 = Its r + undone L + tail.length) i => alloc_step m fuel r ex L s a w wr i hm hf inv hA hO hk hS hb hex hblk hnd (fun L' wr' e1 e2 e3 e4 e5 e6 e7 e8 e9 e10 e11 => ih fuel r ex L' s a w wr' (fun e => (e2 e).elim) e3 e4 e5 (by rw [e1]; exact hB) (by rw [e1]; exact h) (by rw [e1]; exact hA) (by rw [e1]; exact hO) e6 e7 e8 e9 e10 e11)
    cases r with
    | nil =>
      simp only [twB, Bool.and_eq_true, List.isEmpty_iff, List.map_eq_nil_iff] at hB
      obtain ⟨hL, hB⟩ := hB
      subst hL
      obtain rfl : fuel = tail.length := by simpa [Its, undone] using hf
      obtain rfl := hw rfl
      exact wpAnyF_of_ty (md := md) hsel hQ hs hc hn tail s a wr (.inl inv) hB h
    | cons x r =>
      simp only [List.length_cons] at hm
      cases x with
      | take k =>
        simp only [twB, Bool.and_eq_true, decide_eq_true_eq] at hB
        obtain ⟨⟨⟨⟨hkn, hr⟩, hfr⟩, hop⟩, hB'⟩ := hB
        obtain ⟨o, v, ho, hy, h'⟩ := h
        have h0 : l.toArray[k]? = some o := (nthO_eq l k).trans ho
        have hfar := opFar_spec ho hop
        have hfarL : ∀ x ∈ L, farB l o x.1 = true := fun x hx => (hfar x.1 (List.mem_map_of_mem hx)).1
        have hneL : ∀ x ∈ L, k ≠ x.1.k := fun x hx => (hfar x.1 (List.mem_map_of_mem hx)).2
        have hr' := ready_in L s k hneL (by simpa using hr)
        have hso := Region.noSelect_spec hsel k o
        obtain ⟨fuel, rfl⟩ : ∃ f, fuel = f + 1 := ⟨Its r + undone L + tail.length, by simp only [Its, List.map_cons, List.sum_cons, It.isOne] at hf ⊢; omega⟩
        refine wpAnyF_first h0 (Region.noSelect_spec hsel) (fun c a w => hQ c a _ _ w) hs hc hn hkn fuel _ _ _ inv (fun j oj hj hne hunj hno => ?_) hr' (yields_putL (fun cs b => hso cs b h0) L hfarL hy) hS ?_
        · refine Region.free_spec h0 hfr j oj hj hne ?_ hno
          cases hg : s.getD j true with
          | false => rfl
          | true => rw [setL_mono L s j hg] at hunj; cases hunj
        · rw [← setL_set L s k hneL, ← putL_put L a o.dst v (far_dst hfarL)]
          refine ih fuel r ex L _ _ w wr hw (by omega) (by simp only [Its, List.map_cons, List.sum_cons, It.isOne] at hf ⊢; omega) ?_ hB' h' (fun x hx => (hA x hx).put hsel (hfar x hx).1 v) (hO.set fun x hx => (hfar x hx).2) hk hS hb hex hblk hnd
          rw [setL_set L s k hneL]; exact inv.set hr' hkn
      | go k =>
        simp only [twB, Bool.and_eq_true, decide_eq_true_eq] at hB
        obtain ⟨⟨⟨⟨hkn, hr⟩, hop⟩, hall⟩, hB'⟩ := hB
        have hmem : k ∈ Region.ready md l.toArray s := by simpa using hr
        obtain ⟨_, o, h0, _⟩ := mem_ready.1 hmem
        have ho : nthO l k = some o := (nthO_eq l k).symm.trans h0
        have hfar := opFar_spec ho hop
        have hfarL : ∀ x ∈ L, farB l o x.1 = true := fun x hx => (hfar x.1 (List.mem_map_of_mem hx)).1
        have hneL : ∀ x ∈ L, k ≠ x.1.k := fun x hx => (hfar x.1 (List.mem_map_of_mem hx)).2
        have hr' := ready_in L s k hneL hmem
        have hso := Region.noSelect_spec hsel k o
        obtain ⟨fuel, rfl⟩ : ∃ f, fuel = f + 1 := ⟨Its r + undone L + tail.length, by simp only [Its, List.map_cons, List.sum_cons, It.isOne] at hf ⊢; omega⟩
        refine ⟨fun he => (by rw [he] at hr'; cases hr'), fun i hi => ?_⟩
        have h1 := allD_spec L s true hall
        simp only [List.all_eq_true, Bool.or_eq_true, beq_iff_eq] at h1
        rcases h1 i hi with rfl | h1
        · have h2 := wpOp_afterL h0 (fun cs b => hso cs b h0) hQ' L hfarL (wpOp_allocs hsel h0 (fun x hx => (hfar x hx).1) hA (h wr hk hS))
          refine wpOp_mono (fun a' w' h3 => ?_) h2
          obtain ⟨a'', rfl, hA3, ⟨k3, hS3⟩, h4⟩ := h3
          refine ⟨fun _ => hS3, ?_⟩
          rw [← setL_set L s i hneL]
          refine ih fuel r ((wr.heap.size, w'.heap.size) :: ex) L _ a'' w' w' (fun _ => rfl) (by omega) (by simp only [Its, List.map_cons, List.sum_cons, It.isOne] at hf ⊢; omega) ?_ hB' h4 hA3 (hO.set fun x hx => (hfar x hx).2) (Keeps.refl _ _) hS3 (Nat.le_trans hb k3.size) (fun p hp => ?_) (fun x b hx => ⟨(hblk x b hx).1, (hblk x b hx).2.1.keep k3 (by simp), fun p hp => ?_⟩) hnd
          rotate_left
          · rcases List.mem_cons.1 hp with rfl | hp
            · exact Nat.le_refl _
            · exact Nat.le_trans (hex p hp) k3.size
          · rcases List.mem_cons.1 hp with rfl | hp
            · exact .inl (hblk x b hx).2.1.lt
            · exact (hblk x b hx).2.2 p hp
          rw [setL_set L s i hneL]; exact inv.set hi hkn
        · exact step fuel hf i hi h1
      | op x =>
        simp only [twB, Bool.and_eq_true] at hB
        obtain ⟨hAx, h'⟩ := h
        have e1 : setL L s = setL (L ++ [(x, none)]) s := by rw [setL_app]; rfl
        have e2 : putL L a = putL (L ++ [(x, none)]) a := by rw [putL_app]; rfl
        have e3 : (L ++ [(x, none)]).map (fun y : Lt × Option Nat => y.1) = L.map (fun y : Lt × Option Nat => y.1) ++ [x] := by simp
        have e4 : undone (L ++ [(x, none)]) = undone L + 1 := by rw [undone_app]; rfl
        rw [e1, e2]
        refine ih fuel r ex (L ++ [(x, none)]) s a w wr (by simp) (by omega) (by simp only [Its, List.map_cons, List.sum_cons, It.isOne] at hf ⊢; omega) (by rw [← e1]; exact inv) (by rw [e3]; exact hB.2) (by rw [e3]; exact h') (fun y hy => ?_) ?_ hk hS hb hex (fun y b hy => ?_) ?_
        · rw [e3] at hy
          rcases List.mem_append.1 hy with hy | hy
          · exact hA y hy
          · rw [List.mem_singleton.1 hy]; exact hAx
        · rw [e3]
          exact hO.snoc hB.1 fun y hy => by obtain ⟨o, ho, hd, _⟩ := hA y hy; exact ⟨o, ho, hd⟩
        · rcases List.mem_append.1 hy with hy | hy
          · exact hblk y b hy
          · simp at hy
        · rw [blocksOf_app]
          simpa [blocksOf] using hnd
      | cl =>
        simp only [twB, Bool.and_eq_true] at hB
        by_cases hu : undone L = 0
        · have h1 := lates_in L [] a hu hblk (by simp) hnd (h wr hk hS)
          refine ih fuel r ex [] (setL L s) (putL L a) wr wr (fun _ => rfl) (by simp only [undone]; omega) (by simp only [Its, List.map_cons, List.sum_cons, It.isOne, undone] at hf ⊢; omega) inv (by rw [setL_full L s hu]; exact hB.2) h1 (by simp) (Opens.nil _ _ _ _) (Keeps.refl _ _) hS hb hex (by simp) (by simp [blocksOf])
        · obtain ⟨fuel, rfl⟩ : ∃ f, fuel = f + 1 := ⟨Its r + undone L - 1 + tail.length, by simp only [Its, List.map_cons, List.sum_cons, It.isOne] at hf ⊢; omega⟩
          refine ⟨fun he => absurd he (late_ready L s hO hu), fun i hi => step fuel hf i hi ?_⟩
          have h1 := allD_spec L s true hB.1
          simp only [decide_eq_false hu, Bool.false_and, Bool.false_or, List.all_eq_true] at h1
          exact h1 i hi

def twAllB (md : Region.Mode) (l : List Oper) (n : Nat) (sched : List It) (tail : List (Nat × Bool)) : Bool :=
  Region.noSelect l.toArray && decide (n < l.length) && Region.sinkB md l.toArray n && Region.chainB md l.toArray n && decide (Its sched + tail.length = l.length) && twB md l n tail sched [] (Array.replicate l.length false)

theorem wp_region_tw {id : Nat} {l : List Oper} {a : Act} {w : World} (S : World → Prop) (n : Nat) (sched : List It) (tail : List (Nat × Bool)) (hm : P.follows .mixedOrders = true) (hB : twAllB .any l n sched tail = true)
    (hSk : ∀ w w', Keeps w w' [] → S w → S w') (hS : S w.drew) (h : S w.drew → wpTw P l (NoPanic Q) S n w.heap.size tail sched [] [] a w.drew) : (Code.region id l.toArray true).wp P Q a w := by
  refine wp_region_noPanic ?_
  have hQ : ∀ c a d v w, NoPanic Q (.panic c) (Act.put a d v) w → NoPanic Q (.panic c) a w := fun _ _ _ _ _ h => h
  have hQ' : ∀ c a d v w, NoPanic Q (.panic c) a w → NoPanic Q (.panic c) (Act.put a d v) w := fun _ _ _ _ _ h => h
  simp only [twAllB, Bool.and_eq_true, decide_eq_true_eq] at hB
  obtain ⟨⟨⟨⟨⟨hsel, hl⟩, hs⟩, hc⟩, hlen⟩, hB⟩ := hB
  have hn : n < l.toArray.size := by simpa using hl
  have inv0 : HeadInv .any l.toArray n (Array.replicate l.length false) :=
    ⟨by simp, fun j oj _ hl => (by rw [getD_replicate_false] at hl; cases hl), fun t _ ht => getD_in (by simpa using ht) (getD_replicate_false _ _)⟩
  have H := wpAnyF_of_tw (base := w.heap.size) hsel hQ hQ' hs hc hn hSk _ l.length sched [] [] (Array.replicate l.length false) a w.drew w.drew (fun _ => rfl) (Nat.le_refl _) (by simp only [undone]; omega) inv0 hB (h hS) (by simp) (Opens.nil _ _ _ _) (Keeps.refl _ _) hS (Nat.le_refl _) (by simp) (by simp) (by simp [blocksOf])
  refine wp_region_any hm (wpAny_of_F (S := S) (n := n) _ _ _ _ ?_)
  rw [show l.toArray.size = l.length by simp]
  exact H

theorem wpTw_take {l : List Oper} {n base k : Nat} {tail : List (Nat × Bool)} {r : List It} {ex : List (Nat × Nat)} {L : List Lt} {o : Oper} {v : Value} {a : Act} {w : World} (ho : nthO l k = some o)
    (hy : ∀ w, S w → (execOp a.eval o).run P w = .ok (.value v) w) (hw : Region.wanted o (yielded l.toArray a.tmps) = true) (h : wpTw P l Q S n base tail r ex L (a.put o.dst v) w) : wpTw P l Q S n base tail (.take k :: r) ex L a w :=
  ⟨o, v, ho, .inl ⟨hw, hy⟩, h⟩
theorem wpTw_skip {l : List Oper} {n base k : Nat} {tail : List (Nat × Bool)} {r : List It} {ex : List (Nat × Nat)} {L : List Lt} {o : Oper} {a : Act} {w : World} (ho : nthO l k = some o)
    (hw : Region.wanted o (yielded l.toArray a.tmps) = false) (h : wpTw P l Q S n base tail r ex L (a.put o.dst undef) w) : wpTw P l Q S n base tail (.take k :: r) ex L a w :=
  ⟨o, undef, ho, .inr ⟨hw, rfl⟩, h⟩
theorem wpTw_go {l : List Oper} {n base k : Nat} {tail : List (Nat × Bool)} {r : List It} {ex : List (Nat × Nat)} {L : List Lt} {o : Oper} {a : Act} {w : World} (ho : nthO l k = some o)
    (h : ∀ w', Keeps w w' [] → S w' → ∀ K : Act → World → Prop, Shut (∀ a w'', Keeps w' w'' [] → S w'' → (S w'' → wpTw P l Q S n base tail r ((w'.heap.size, w''.heap.size) :: ex) L a w'') → K a w'') → if Region.wanted o (yielded l.toArray a.tmps) = true then Oper.wp P o a w' K Q else K (a.put o.dst undef) w') : wpTw P l Q S n base tail (.go k :: r) ex L a w :=
  fun w' hk hS => wpOp_step ((nthO_eq l k).trans ho) (fun K hK => h w' hk hS K (fun a w'' hk2 hS2 hW => hK a w'' ⟨⟨hk2, hS2⟩, hW hS2⟩))
theorem wpTw_op {l : List Oper} {n base : Nat} {tail : List (Nat × Bool)} {r : List It} {ex : List (Nat × Nat)} {L : List Lt} {x : Lt} {o : Oper} {a : Act} {w : World} (ho : nthO l x.k = some o) (hd : o.dst = some x.d)
    (hy : ∀ w, S w → (execOp a.eval o).run P w = .ok (.value (x.v w.heap.size)) (w.alloc (.cells x.z x.t))) (hw : Region.wanted o (yielded l.toArray a.tmps) = true) (h : wpTw P l Q S n base tail r ex (L ++ [x]) a w) : wpTw P l Q S n base tail (.op x :: r) ex L a w :=
  ⟨⟨o, ho, hd, hw, hy⟩, h⟩
theorem wpTw_cl {l : List Oper} {n base : Nat} {tail : List (Nat × Bool)} {r : List It} {ex : List (Nat × Nat)} {L : List Lt} {a : Act} {w : World} (h : ∀ w', Keeps w w' [] → S w' → lates base ex (wpTw P l Q S n base tail r ex []) L [] a w') : wpTw P l Q S n base tail (.cl :: r) ex L a w := h
end
end Go.Proofs.YtnonfmaehfmigaaDoor

/- Layer 5's pair; HeapReads: the walk. Printed by gen_hpreads.py. -/
namespace Go.Proofs.YtnonfmaehfmigaaDoor
open Go.RowKit Go.Maps
theorem Rd.twoH {w : World} {b : Nat} {t : TypeId} {u v : TV} (h : Blk w b t ((tvE u ++ tvE v).toArray)) : Rd w (some ⟨b, 0, none⟩) ([u, v].flatMap tvE) := by
  intro i hi
  have hi' : i < 8 := by simpa [tvE] using hi
  refine ⟨b, 0, ([u, v].flatMap tvE)[i], rfl, h.lt, ?_, List.getElem?_eq_getElem hi⟩
  rw [h.cell (0 + i)]
  simp [List.flatMap_cons]
theorem Nums.at0 {K : IntKind} {w w' : World} {A : Option Addr} {l : List Int} (h : Nums K w w.heap.size A l) (k : Keeps w w' []) : Nums K w' w'.heap.size A l := (h.below k.toBelow).more k.size
theorem Trs.twoH {w : World} {S : Nat → Prop} {a b : Tm} {u v : TV} (h1 : Tr w S a u) (h2 : Tr w S b v) : Trs w S [a, b] [u, v] := (Trs.nil.snoc h1).snoc h2
def PairD (w : World) (a b : Tm) (e : Ending) (w' : World) : Prop :=
  ∃ base hb L, e = .returned (.tuple #[.pointer (some ⟨hb, 0, none⟩), .int .u64 (lay PH0 a).2, .int .u64 (lay (lay PH0 a).1 b).2, .bool true]) ∧ Hp w' base hb L (lay (lay PH0 a).1 b).1 [] [] 900 ∧ (∀ b ∈ L, w.heap.size ≤ b) ∧ Keeps w w' []
set_option maxRecDepth 100000 in
set_option maxHeartbeats 3200000 in
theorem pair_any (a b : Tm) (x0 x1 : TV) (w : World) (h0 : Tr w (fun _ => True) a x0) (h1 : Tr w (fun _ => True) b x1) (ha : tRight a = true) (hb : tRight b = true) (hT : HpTwo a b 900) :
    Calls Tryd.prog 6 #[.agg #[.int .i64 x0.k, .int .i64 x0.n, .string x0.s, .slice x0.A x0.len x0.c], .agg #[.int .i64 x1.k, .int .i64 x1.n, .string x1.s, .slice x1.A x1.len x1.c]] w (PairD w a b) := by
  have HTo : Hid (∀ (t : Tm) (v : TV) (w : World), tRight t = true → Tr w (fun _ => True) t v → Calls Tryd.prog 14 #[.agg #[.int .i64 v.k, .int .i64 v.n, .string v.s, .slice v.A v.len v.c]] w (TDone [] (fun b => w.heap.size ≤ b) w t)) := fun t v w h1 h2 => tmToW_any t v w h2 (tWid_of_right h1)
  have RA := Lib.hid ha
  have RB := Lib.hid hb
  have HTT := Lib.hid hT
  have hB0 : Blk ((w.alloc (.cells #[.int .i64 x0.k, .int .i64 x0.n, .string x0.s, .slice x0.A x0.len x0.c] 24)).alloc (.cells #[.int .i64 x1.k, .int .i64 x1.n, .string x1.s, .slice x1.A x1.len x1.c] 24)) w.heap.size 24 #[.int .i64 x0.k, .int .i64 x0.n, .string x0.s, .slice x0.A x0.len x0.c] := (Blk.new _ _ _).alloc _
  have hB1 : Blk ((w.alloc (.cells #[.int .i64 x0.k, .int .i64 x0.n, .string x0.s, .slice x0.A x0.len x0.c] 24)).alloc (.cells #[.int .i64 x1.k, .int .i64 x1.n, .string x1.s, .slice x1.A x1.len x1.c] 24)) (w.heap.size + 1) 24 #[.int .i64 x1.k, .int .i64 x1.n, .string x1.s, .slice x1.A x1.len x1.c] := Blk.newAt _ _ (by simp)
  have hK0 : Keeps w ((w.alloc (.cells #[.int .i64 x0.k, .int .i64 x0.n, .string x0.s, .slice x0.A x0.len x0.c] 24)).alloc (.cells #[.int .i64 x1.k, .int .i64 x1.n, .string x1.s, .slice x1.A x1.len x1.c] 24)) [] := ((Keeps.refl w []).alloc _).alloc _
  have HQ0 := Lib.hid hB0
  have HQ1 := Lib.hid hB1
  have HK0 := Lib.hid hK0
  have HA0 := Lib.hid (h0.keep hK0)
  have HB0 := Lib.hid (h1.keep hK0)
  clear hB0 hB1 hK0 h0 h1 ha hb hT
  go_enter Tryd.func6, Tryd.ntmps6
  go_upto_region 1 with fail
  generalize ((w.alloc (.cells #[.int .i64 x0.k, .int .i64 x0.n, .string x0.s, .slice x0.A x0.len x0.c] 24)).alloc (.cells #[.int .i64 x1.k, .int .i64 x1.n, .string x1.s, .slice x1.A x1.len x1.c] 24)) = w0 at HQ0 HQ1 HK0 HA0 HB0 ⊢
  go_wp2_with fail
  refine (hnew_yes 900 _ (by omega)).mono ?_
  rintro e w1 ⟨hb, L, rfl, hp, hL, k1⟩
  have HP1 := Lib.hid hp
  have HL := Lib.hid hL
  have HK1 := Lib.hid k1
  have HZ0 := Lib.hid HQ1.out.lt
  have q := HQ0.out.keep k1 (by simp)
  have q0 := q.cell 0
  have q1 := q.cell 1
  have q2 := q.cell 2
  have q3 := q.cell 3
  clear hp hL k1 q
  go_wp2_with fail
  refine (HTo.out a x0 _ RA.out (HA0.out.keep HK1.out)).mono ?_
  rintro e w2 ⟨u, rfl, hu, k2⟩
  have hp2 := HP1.out.keep k2 (by simp)
  have hlt := HP1.out.lt
  have HBd := Lib.hid (build_any _ hb [] [] 900 a u w2 L PH0 hp2 PH0.vi.vb (hu.mono (fun b hb' hm => by have := hlt b hm; omega)) RA.out HTT.out.fit1)
  have HK2 := Lib.hid (HK1.out.trans k2)
  unfold tvV at HBd ⊢
  clear hu k2 hp2 hlt q0 q1 q2 q3
  go_wp2_with fail
  refine HBd.out.mono ?_
  rintro e w3 ⟨rfl, L3, hp3, st3⟩
  have HP3 := Lib.hid hp3
  have hz0 := HZ0.out
  have hk23 := HK2.out.size
  have HK3 : Hid (Keeps w0 w3 []) := by
    have h := (HK2.out.to_ L).trans st3.keep
    exact Lib.hid (h.more fun b hb' hm => absurd (HL.out b hm) (by omega))
  have HL3 : Hid (∀ b ∈ L3, w0.heap.size ≤ b) := fun b hm => (st3.own b hm).elim (HL.out b) (fun h => by omega)
  have p := HQ1.out.keep HK3.out (by simp)
  have q0 := p.cell 0
  have q1 := p.cell 1
  have q2 := p.cell 2
  have q3 := p.cell 3
  clear hp3 st3 p hz0 hk23 HBd HP1 HL
  go_wp2_with fail
  refine (HTo.out b x1 _ RB.out (HB0.out.keep HK3.out)).mono ?_
  rintro e w4 ⟨u4, rfl, hu4, k4⟩
  have hp4 := HP3.out.keep k4 (by simp)
  have hlt := HP3.out.lt
  have HBd := Lib.hid (build_any _ hb [] [] 900 b u4 w4 L3 _ hp4 HTT.out.vi1.vb (hu4.mono (fun b hb' hm => by have := hlt b hm; omega)) RB.out HTT.out.fit2)
  have HK4 := Lib.hid (HK3.out.trans k4)
  unfold tvV at HBd ⊢
  clear hu4 k4 hp4 hlt q0 q1 q2 q3
  go_wp2_with fail
  refine HBd.out.mono ?_
  rintro e w5 ⟨rfl, L5, hp5, st5⟩
  have HP5 := Lib.hid hp5
  have hk23 := HK4.out.size
  have HK5 : Hid (Keeps w w5 []) := by
    have h := (HK4.out.to_ L3).trans st5.keep
    exact Lib.hid (HK0.out.trans (h.more fun b hb' hm => absurd (HL3.out b hm) (by omega)))
  have hk0 := HK0.out.size
  have HL5 : Hid (∀ b ∈ L5, w.heap.size ≤ b) := fun b hm => (st5.own b hm).elim (fun h => by have := HL3.out b h; omega) (fun h => by omega)
  clear hp5 st5 hk23 hk0 HBd
  go_wp2_with fail
  exact bodyPost_ret (v := .tuple #[.pointer (some ⟨hb, 0, none⟩), .int .u64 (lay PH0 a).2, .int .u64 (lay (lay PH0 a).1 b).2, .bool true]) (by simp [results, Tryd.results6, go_sem, *]) rfl ⟨_, hb, L5, rfl, HP5.out, HL5.out, HK5.out⟩
set_option maxRecDepth 100000 in
set_option maxHeartbeats 6400000 in
theorem heapReads_any (t0 : Tm) (x0 : TV) (t1 : Tm) (x1 : TV) (w : World) (h0 : Tr w (fun _ => True) t0 x0) (h1 : Tr w (fun _ => True) t1 x1) (hS : Tab w) : Calls Tryd.prog 3 #[tvV x0, tvV x1] w fun e w' => e = .returned (.bool true) ∧ Keeps w w' [] := by
  have HA0 := Lib.hid h0
  have HB0 := Lib.hid h1
  have HSt := Lib.hid hS
  have HFx : Hid (∀ (t : Tm) (v : TV) (w : World), Tr w (fun _ => True) t v → Calls Tryd.prog 5 #[.agg #[.int .i64 v.k, .int .i64 v.n, .string v.s, .slice v.A v.len v.c]] w (TDone [] (fun b => w.heap.size ≤ b) w (lFix t))) := fun t v w h => lFix_any t v w h
  have HFr : Hid (∀ (t : Tm) (v : TV) (w : World), tRight t = true → Tr w (fun _ => True) t v → Calls Tryd.prog 10 #[.agg #[.int .i64 v.k, .int .i64 v.n, .string v.s, .slice v.A v.len v.c]] w (TDone [] (fun b => w.heap.size ≤ b) w t)) := fun t v w h1 h2 => tmFromW_any t v w h2 (tWid_of_right h1)
  obtain ⟨a, ha⟩ : ∃ a, lFix t0 = a := ⟨_, rfl⟩
  obtain ⟨b, hb⟩ : ∃ b, lFix t1 = b := ⟨_, rfl⟩
  have HF0 : Hid (∀ w, Tr w (fun _ => True) t0 x0 → Calls Tryd.prog 5 #[.agg #[.int .i64 x0.k, .int .i64 x0.n, .string x0.s, .slice x0.A x0.len x0.c]] w (TDone [] (fun b => w.heap.size ≤ b) w a)) := fun w h => by rw [← ha]; exact HFx.out t0 x0 w h
  have HF1 : Hid (∀ w, Tr w (fun _ => True) t1 x1 → Calls Tryd.prog 5 #[.agg #[.int .i64 x1.k, .int .i64 x1.n, .string x1.s, .slice x1.A x1.len x1.c]] w (TDone [] (fun b => w.heap.size ≤ b) w b)) := fun w h => by rw [← hb]; exact HFx.out t1 x1 w h
  have rA : tRight a = true := by rw [← ha]; exact lFix_right t0
  have rB : tRight b = true := by rw [← hb]; exact lFix_right t1
  have sA : tSize a ≤ 121 := by rw [← ha]; exact lFix_size t0
  have sB : tSize b ≤ 121 := by rw [← hb]; exact lFix_size t1
  have hT := two_of rA rB (room := 900) (by omega) (by omega)
  have HPr : Hid (∀ u v w, Tr w (fun _ => True) a u → Tr w (fun _ => True) b v → Calls Tryd.prog 6 #[.agg #[.int .i64 u.k, .int .i64 u.n, .string u.s, .slice u.A u.len u.c], .agg #[.int .i64 v.k, .int .i64 v.n, .string v.s, .slice v.A v.len v.c]] w (PairD w a b)) := fun u v w k0 k1 => pair_any a b u v w k0 k1 rA rB hT
  obtain ⟨f, hg1, hg2, hfb, hfi⟩ := hT.rg
  have hok := hT.ok2
  have hc1 := hT.c1
  have hc2 := hT.c2
  have hfit := hT.fit2
  have bnd : ∀ c t, Rg (lay (lay PH0 a).1 b).1 c t → True := fun _ _ _ => trivial
  have rfA : tRight (tRn f a) = true := tRn_right a rA fun n hn => hfb n (.inl hn)
  have rfB : tRight (tRn f b) = true := tRn_right b rB fun n hn => hfb n (.inr hn)
  have HRA := Lib.hid rfA
  have HRB := Lib.hid rfB
  have H9A : Hid (∀ n ∈ tV (tRn f a), n ≤ 999) := fun n hn => by obtain ⟨m, hm, rfl⟩ := tRn_vars a n hn; exact (hfb m (.inl hm)).2
  have H9B : Hid (∀ n ∈ tV (tRn f b), n ≤ 999) := fun n hn => by obtain ⟨m, hm, rfl⟩ := tRn_vars b n hn; exact (hfb m (.inr hm)).2
  have hrt : ∀ t ∈ [a, b], tRight t = true := fun t ht => by simp at ht; rcases ht with rfl | rfl <;> assumption
  have HAl : Hid (tSames (rn 0 [tRn f a, tRn f b]) (rn 0 [a, b]) = true) := (tSames_iff _ _).2 (rn_inj (l := [a, b]) hrt hfi)
  have z1 := tRn_size f a
  have z2 := tRn_size f b
  have HAk : Hid (∀ (us vs : List TV) (B C : Option Addr) w, Trs w (fun _ => True) [tRn f a, tRn f b] us → Rd w B (us.flatMap tvE) → Trs w (fun _ => True) [a, b] vs → Rd w C (vs.flatMap tvE) → Calls Tryd.prog 9 #[.slice B 2 2, .slice C 2 2] w fun e w' => e = .returned (.bool true) ∧ Keeps w w' []) := fun us vs B C w k1 k2 k3 k4 => by
    have hv1 := tVars_sizes [tRn f a, tRn f b]
    have hv2 := tVars_sizes [a, b]
    simp only [tSizes] at hv1 hv2
    have h := refAlikeL_any [tRn f a, tRn f b] [a, b] us vs B C 2 2 2 2 w k1 k2 rfl (by omega) (fun t ht => by simp at ht; rcases ht with rfl | rfl <;> assumption) (by omega) k3 k4 rfl (by omega) hrt (by omega)
    rw [HAl.out] at h
    exact h
  have HG1 := Lib.hid hg1
  have HG2 := Lib.hid hg2
  have HZ : Hid ((tSize (tRn f a) : Int) ≤ 10000 ∧ (tSize (tRn f b) : Int) ≤ 10000) := ⟨by omega, by omega⟩
  have HOK := Lib.hid hok
  have HC1 := Lib.hid (And.intro hc1 hc2)
  have HFt := Lib.hid hfit
  have HVt := Lib.hid (And.intro hT.vi1 (And.intro rA rB))
  have HF1t := Lib.hid hT.fit1
  clear h0 h1 hS ha hb HFx rA rB sA sB hT hg1 hg2 hfb hfi hok hc1 hc2 hfit bnd rfA rfB hrt z1 z2
  unfold tvV
  go_enter Tryd.func3, Tryd.ntmps3
  go_upto_region 1 with fail
  have hB0 : Blk ((w.alloc (.cells #[.int .i64 x0.k, .int .i64 x0.n, .string x0.s, .slice x0.A x0.len x0.c] 24)).alloc (.cells #[.int .i64 x1.k, .int .i64 x1.n, .string x1.s, .slice x1.A x1.len x1.c] 24)) w.heap.size 24 #[.int .i64 x0.k, .int .i64 x0.n, .string x0.s, .slice x0.A x0.len x0.c] := (Blk.new _ _ _).alloc _
  have hB1 : Blk ((w.alloc (.cells #[.int .i64 x0.k, .int .i64 x0.n, .string x0.s, .slice x0.A x0.len x0.c] 24)).alloc (.cells #[.int .i64 x1.k, .int .i64 x1.n, .string x1.s, .slice x1.A x1.len x1.c] 24)) (w.heap.size + 1) 24 #[.int .i64 x1.k, .int .i64 x1.n, .string x1.s, .slice x1.A x1.len x1.c] := Blk.newAt _ _ (by simp)
  have hK0 : Keeps w ((w.alloc (.cells #[.int .i64 x0.k, .int .i64 x0.n, .string x0.s, .slice x0.A x0.len x0.c] 24)).alloc (.cells #[.int .i64 x1.k, .int .i64 x1.n, .string x1.s, .slice x1.A x1.len x1.c] 24)) [] := ((Keeps.refl w []).alloc _).alloc _
  generalize ((w.alloc (.cells #[.int .i64 x0.k, .int .i64 x0.n, .string x0.s, .slice x0.A x0.len x0.c] 24)).alloc (.cells #[.int .i64 x1.k, .int .i64 x1.n, .string x1.s, .slice x1.A x1.len x1.c] 24)) = w6 at hB0 hB1 hK0 ⊢
  have HQ0 := Lib.hid hB0
  have HQ1 := Lib.hid hB1
  have HK0 := Lib.hid hK0
  have HA1 := Lib.hid (HA0.out.keep hK0)
  have HB1 := Lib.hid (HB0.out.keep hK0)
  clear hB0 hB1 hK0 HA0 HB0
  have HP : Hid (∀ W', Keeps w6 W' [] → (Keeps w6 W' [] ∧ W'.cell? ⟨w.heap.size, 0, none⟩ = some (.int .i64 x0.k) ∧ W'.cell? ⟨w.heap.size, 1, none⟩ = some (.int .i64 x0.n) ∧ W'.cell? ⟨w.heap.size, 2, none⟩ = some (.string x0.s) ∧ W'.cell? ⟨w.heap.size, 3, none⟩ = some (.slice x0.A x0.len x0.c) ∧ W'.cell? ⟨(w.heap.size + 1), 0, none⟩ = some (.int .i64 x1.k) ∧ W'.cell? ⟨(w.heap.size + 1), 1, none⟩ = some (.int .i64 x1.n) ∧ W'.cell? ⟨(w.heap.size + 1), 2, none⟩ = some (.string x1.s) ∧ W'.cell? ⟨(w.heap.size + 1), 3, none⟩ = some (.slice x1.A x1.len x1.c))) := fun W' k => by
    have b0 := HQ0.out.keep k (by simp)
    have b1 := HQ1.out.keep k (by simp)
    exact ⟨k, b0.cell 0, b0.cell 1, b0.cell 2, b0.cell 3, b1.cell 0, b1.cell 1, b1.cell 2, b1.cell 3⟩
  refine wp_region_tw (fun W' => Keeps w6 W' [] ∧ W'.cell? ⟨w.heap.size, 0, none⟩ = some (.int .i64 x0.k) ∧ W'.cell? ⟨w.heap.size, 1, none⟩ = some (.int .i64 x0.n) ∧ W'.cell? ⟨w.heap.size, 2, none⟩ = some (.string x0.s) ∧ W'.cell? ⟨w.heap.size, 3, none⟩ = some (.slice x0.A x0.len x0.c) ∧ W'.cell? ⟨(w.heap.size + 1), 0, none⟩ = some (.int .i64 x1.k) ∧ W'.cell? ⟨(w.heap.size + 1), 1, none⟩ = some (.int .i64 x1.n) ∧ W'.cell? ⟨(w.heap.size + 1), 2, none⟩ = some (.string x1.s) ∧ W'.cell? ⟨(w.heap.size + 1), 3, none⟩ = some (.slice x1.A x1.len x1.c)) 4 [.take 0, .take 2, .go 1, .go 3] [(4, false), (5, false)] (by kernel_rfl) (by kernel_rfl) (fun w1 w2 k h => HP.out _ (h.1.trans k)) (by exact HP.out _ (Keeps.refl _ []).drew) (fun _ => ?_)
  (repeat (first | (refine wpTw_take (v := ?_) rfl ?_ (by rfl) ?_; rotate_left; (focus (intro w' hSw; (try dsimp only at hSw); go_simp; (try with_reducible rfl); done)); simp only [Act.put, List.setIfInBounds_toArray, List.set_cons_zero, List.set_cons_succ]) | (refine wpTw_skip rfl (by rfl) ?_; simp only [Act.put, List.setIfInBounds_toArray, List.set_cons_zero, List.set_cons_succ])))
  refine wpTw_go rfl (fun W1 hk1 hS1 K hK => ?_)
  have J1 := Lib.hid hS1.1
  have L1 := Lib.hid hk1
  clear hS1 hk1
  go_simp
  refine (HF0.out _ (HA1.out.keep J1.out)).mono ?_
  rintro e w1 ⟨a1, rfl, ha1, k1⟩
  have K1 := Lib.hid (J1.out.trans k1)
  have N1 := Lib.hid (L1.out.trans k1)
  have HA2 := Lib.hid ha1
  unfold tvV
  clear ha1
  refine hK.out _ _ k1 (HP.out _ K1.out) (fun _ => ?_)
  clear hK K
  (try simp only [Act.put, List.setIfInBounds_toArray, List.set_cons_zero, List.set_cons_succ])
  refine wpTw_go rfl (fun W2 hk2 hS2 K hK => ?_)
  have J2 := Lib.hid hS2.1
  have L2 := Lib.hid hk2
  clear hS2 hk2
  go_simp
  refine (HF1.out _ (HB1.out.keep J2.out)).mono ?_
  rintro e w2 ⟨b1, rfl, hb1, k2⟩
  have K2 := Lib.hid (J2.out.trans k2)
  have N2 := Lib.hid (L2.out.trans k2)
  have HB2 := Lib.hid hb1
  unfold tvV
  clear hb1
  refine hK.out _ _ k2 (HP.out _ K2.out) (fun _ => ?_)
  clear hK K
  (try simp only [Act.put, List.setIfInBounds_toArray, List.set_cons_zero, List.set_cons_succ])
  have q := HQ0.out.keep K2.out (by simp)
  have p := HQ1.out.keep K2.out (by simp)
  have qc0 := q.cell 0
  have qf0 := q.frozen 0
  have qc1 := q.cell 1
  have qf1 := q.frozen 1
  have qc2 := q.cell 2
  have qf2 := q.frozen 2
  have qc3 := q.cell 3
  have qf3 := q.frozen 3
  have pc0 := p.cell 0
  have pf0 := p.frozen 0
  have pc1 := p.cell 1
  have pf1 := p.frozen 1
  have pc2 := p.cell 2
  have pf2 := p.frozen 2
  have pc3 := p.cell 3
  have pf3 := p.frozen 3
  change wpTy _ _ _ _ _ _ _ _
  refine wpTy_tail rfl (by decide) (fun K hK => ?_)
  go_simp
  refine hK.out _ _ ?_; clear hK K; (try simp only [Act.put, List.setIfInBounds_toArray, List.set_cons_zero, List.set_cons_succ])
  refine wpTy_last rfl (by decide) (fun K hK => ?_)
  go_simp
  refine hK.out _ _ (NoPanic.normal ?_)
  clear hK K
  (try simp only [Act.put, List.setIfInBounds_toArray, List.set_cons_zero, List.set_cons_succ])
  change Exit.then _ _ _ _ (set4 (set4 w2 w.heap.size (.int .i64 a1.k) (.int .i64 a1.n) (.string a1.s) (.slice a1.A a1.len a1.c)) (w.heap.size + 1) (.int .i64 b1.k) (.int .i64 b1.n) (.string b1.s) (.slice b1.A b1.len b1.c))
  have hlt := HQ1.out.lt
  have hw1 := J1.out.size
  have hw2 := J2.out.size
  have HQ2 := Lib.hid ((q.put4 (.int .i64 a1.k) (.int .i64 a1.n) (.string a1.s) (.slice a1.A a1.len a1.c)).far4 (g' := w.heap.size + 1) (by omega) (.int .i64 b1.k) (.int .i64 b1.n) (.string b1.s) (.slice b1.A b1.len b1.c))
  have HQ3 := Lib.hid ((p.far4 (g' := w.heap.size) (by omega) (.int .i64 a1.k) (.int .i64 a1.n) (.string a1.s) (.slice a1.A a1.len a1.c)).put4 (.int .i64 b1.k) (.int .i64 b1.n) (.string b1.s) (.slice b1.A b1.len b1.c))
  have HK3 := Lib.hid (((HK0.out.trans K2.out).put4 (.inr (Nat.le_refl _)) (.int .i64 a1.k) (.int .i64 a1.n) (.string a1.s) (.slice a1.A a1.len a1.c)).put4 (g := w.heap.size + 1) (.inr (by omega)) (.int .i64 b1.k) (.int .i64 b1.n) (.string b1.s) (.slice b1.A b1.len b1.c))
  have HA3 := Lib.hid (((((HA2.out.keep N2.out).far4 (g := w.heap.size) (by omega) (.int .i64 a1.k) (.int .i64 a1.n) (.string a1.s) (.slice a1.A a1.len a1.c)).far4 (g := w.heap.size + 1) (by omega) (.int .i64 b1.k) (.int .i64 b1.n) (.string b1.s) (.slice b1.A b1.len b1.c))).mono (S' := fun _ => True) (fun _ _ => trivial))
  have HB3 := Lib.hid (((HB2.out.far4 (g := w.heap.size) (by omega) (.int .i64 a1.k) (.int .i64 a1.n) (.string a1.s) (.slice a1.A a1.len a1.c)).far4 (g := w.heap.size + 1) (by omega) (.int .i64 b1.k) (.int .i64 b1.n) (.string b1.s) (.slice b1.A b1.len b1.c)).mono (S' := fun _ => True) (fun _ _ => trivial))
  generalize set4 (set4 w2 w.heap.size (.int .i64 a1.k) (.int .i64 a1.n) (.string a1.s) (.slice a1.A a1.len a1.c)) (w.heap.size + 1) (.int .i64 b1.k) (.int .i64 b1.n) (.string b1.s) (.slice b1.A b1.len b1.c) = w3 at HQ2 HQ3 HK3 HA3 HB3 ⊢
  clear HQ0 HQ1 HK0 HA1 HB1 HA2 HB2 HP HF0 HF1 J1 J2 K1 K2 L1 L2 N1 N2 hlt hw1 hw2 q p k1 k2
  clear qc0 qf0 qc1 qf1 qc2 qf2 qc3 qf3 pc0 pf0 pc1 pf1 pc2 pf2 pc3 pf3
  have q0 := HQ2.out.cell 0
  have q1 := HQ2.out.cell 1
  have q2 := HQ2.out.cell 2
  have q3 := HQ2.out.cell 3
  have p0 := HQ3.out.cell 0
  have p1 := HQ3.out.cell 1
  have p2 := HQ3.out.cell 2
  have p3 := HQ3.out.cell 3
  go_wp2_with fail
  refine (HPr.out a1 b1 _ HA3.out HB3.out).mono ?_
  rintro e w4 ⟨base, hb, L, rfl, hp, _, k4⟩
  obtain ⟨ag, ah, vb, AA, FA, TA, MA, ca, nt, ct, nm, cm, cf, _, hm⟩ := hp
  have hcb1 : 0 ≤ (lay PH0 a).2 ∧ (lay PH0 a).2 < 18446744073709551616 := by have := lay_cell (by omega : 900 ≤ 65536) PH0 PH0.vi.vb a HF1t.out; exact ⟨this.1, this.2.1⟩
  have hcb2 : 0 ≤ (lay (lay PH0 a).1 b).2 ∧ (lay (lay PH0 a).1 b).2 < 18446744073709551616 := by have := lay_cell (by omega : 900 ≤ 65536) _ HVt.out.1.vb b HFt.out; exact ⟨this.1, this.2.1⟩
  have HM4 := Lib.hid hm
  have HK4 := Lib.hid k4
  generalize (lay PH0 a).2 = c1 at hcb1 HC1 HG1 ⊢
  generalize (lay (lay PH0 a).1 b).2 = c2 at hcb2 HC1 HG2 ⊢
  have HR1 : Hid (∀ W, Keeps w4 W [] → Calls Tryd.prog 8 #[.pointer (some ⟨hb, 0, none⟩), .int .u64 c1] W fun e w' => ∃ v, e = .returned (.tuple #[.agg #[.int .i64 v.k, .int .i64 v.n, .string v.s, .slice v.A v.len v.c], .int .i64 0]) ∧ Tr w' (fun _ => True) (tRn f a) v ∧ Keeps W w' []) := fun W kk => by
    refine (hread_any HOK.out (HM4.out.keep0 kk) c1 hcb1.1 hcb1.2 HC1.out.1.rt).mono ?_
    rintro e w' ⟨v, er, rfl, k, _, h⟩
    obtain ⟨rfl, ht⟩ := h _ HG1.out HZ.out.1 H9A.out
    exact ⟨v, rfl, ht.mono fun _ _ => trivial, k⟩
  have HR2 : Hid (∀ W, Keeps w4 W [] → Calls Tryd.prog 8 #[.pointer (some ⟨hb, 0, none⟩), .int .u64 c2] W fun e w' => ∃ v, e = .returned (.tuple #[.agg #[.int .i64 v.k, .int .i64 v.n, .string v.s, .slice v.A v.len v.c], .int .i64 0]) ∧ Tr w' (fun _ => True) (tRn f b) v ∧ Keeps W w' []) := fun W kk => by
    refine (hread_any HOK.out (HM4.out.keep0 kk) c2 hcb2.1 hcb2.2 HC1.out.2.rt).mono ?_
    rintro e w' ⟨v, er, rfl, k, _, h⟩
    obtain ⟨rfl, ht⟩ := h _ HG2.out HZ.out.2 H9B.out
    exact ⟨v, rfl, ht.mono fun _ _ => trivial, k⟩
  clear hm k4 hcb1 hcb2 q0 q1 q2 q3 p0 p1 p2 p3 HG1 HG2 HC1 H9A H9B HZ HOK HFt HVt HF1t HM4
  go_wp2_with fail
  refine (told5_any _ (HSt.out.keep (HK3.out.trans HK4.out))).mono ?_
  rintro e w5 ⟨rfl, k5⟩
  have HK5 := Lib.hid k5
  clear k5
  go_wp2_with fail
  refine (HR1.out _ HK5.out).mono ?_
  rintro e w6 ⟨y0, rfl, hy0, k6⟩
  have kk6 := k6.alloc (.cells #[.int .i64 y0.k, .int .i64 y0.n, .string y0.s, .slice y0.A y0.len y0.c] 34)
  have HY0 : Hid (Blk (w6.alloc (.cells #[.int .i64 y0.k, .int .i64 y0.n, .string y0.s, .slice y0.A y0.len y0.c] 34)) w6.heap.size 34 #[.int .i64 y0.k, .int .i64 y0.n, .string y0.s, .slice y0.A y0.len y0.c]) := Blk.new _ _ _
  have HYT0 := Lib.hid (hy0.keep ((Keeps.refl w6 []).alloc (.cells #[.int .i64 y0.k, .int .i64 y0.n, .string y0.s, .slice y0.A y0.len y0.c] 34)))
  have HK6 := Lib.hid (HK5.out.trans kk6)
  clear hy0 k6 kk6 HK5
  go_wp2_with fail
  refine (HR2.out _ HK6.out).mono ?_
  rintro e w7 ⟨y1, rfl, hy1, k7⟩
  have kk7 := k7.alloc (.cells #[.int .i64 y1.k, .int .i64 y1.n, .string y1.s, .slice y1.A y1.len y1.c] 34)
  have HY1 : Hid (Blk (w7.alloc (.cells #[.int .i64 y1.k, .int .i64 y1.n, .string y1.s, .slice y1.A y1.len y1.c] 34)) w7.heap.size 34 #[.int .i64 y1.k, .int .i64 y1.n, .string y1.s, .slice y1.A y1.len y1.c]) := Blk.new _ _ _
  have HYT1 := Lib.hid (hy1.keep ((Keeps.refl w7 []).alloc (.cells #[.int .i64 y1.k, .int .i64 y1.n, .string y1.s, .slice y1.A y1.len y1.c] 34)))
  have HYA := Lib.hid (HYT0.out.keep kk7)
  have HY2 := Lib.hid (HY0.out.keep kk7 (by simp))
  have HK7 := Lib.hid (HK4.out.trans (HK6.out.trans kk7))
  have HQ4 := Lib.hid (HQ2.out.keep HK7.out (by simp))
  have HQ5 := Lib.hid (HQ3.out.keep HK7.out (by simp))
  have HA7 := Lib.hid (HA3.out.keep HK7.out)
  have HB7 := Lib.hid (HB3.out.keep HK7.out)
  have HK8 := Lib.hid (HK3.out.trans HK7.out)
  clear hy1 k7 kk7 HY0 HYT0 HQ2 HQ3 HK7 HK6 HK4 HA3 HB3 HR1 HR2 HPr HK3
  go_upto_region 7 with fail
  generalize w7.alloc (.cells #[.int .i64 y1.k, .int .i64 y1.n, .string y1.s, .slice y1.A y1.len y1.c] 34) = w8 at *
  generalize w6.heap.size = yb0 at *
  generalize w7.heap.size = yb1 at *
  have HP : Hid (∀ W', Keeps w8 W' [] → (Keeps w8 W' [] ∧ W'.cell? ⟨w.heap.size, 0, none⟩ = some (.int .i64 a1.k) ∧ W'.cell? ⟨w.heap.size, 1, none⟩ = some (.int .i64 a1.n) ∧ W'.cell? ⟨w.heap.size, 2, none⟩ = some (.string a1.s) ∧ W'.cell? ⟨w.heap.size, 3, none⟩ = some (.slice a1.A a1.len a1.c) ∧ W'.cell? ⟨(w.heap.size + 1), 0, none⟩ = some (.int .i64 b1.k) ∧ W'.cell? ⟨(w.heap.size + 1), 1, none⟩ = some (.int .i64 b1.n) ∧ W'.cell? ⟨(w.heap.size + 1), 2, none⟩ = some (.string b1.s) ∧ W'.cell? ⟨(w.heap.size + 1), 3, none⟩ = some (.slice b1.A b1.len b1.c) ∧ W'.cell? ⟨yb0, 0, none⟩ = some (.int .i64 y0.k) ∧ W'.cell? ⟨yb0, 1, none⟩ = some (.int .i64 y0.n) ∧ W'.cell? ⟨yb0, 2, none⟩ = some (.string y0.s) ∧ W'.cell? ⟨yb0, 3, none⟩ = some (.slice y0.A y0.len y0.c) ∧ W'.cell? ⟨yb1, 0, none⟩ = some (.int .i64 y1.k) ∧ W'.cell? ⟨yb1, 1, none⟩ = some (.int .i64 y1.n) ∧ W'.cell? ⟨yb1, 2, none⟩ = some (.string y1.s) ∧ W'.cell? ⟨yb1, 3, none⟩ = some (.slice y1.A y1.len y1.c))) := fun W' k => by
    have b0 := HQ4.out.keep k (by simp)
    have b1 := HQ5.out.keep k (by simp)
    have b2 := HY2.out.keep k (by simp)
    have b3 := HY1.out.keep k (by simp)
    exact ⟨k, b0.cell 0, b0.cell 1, b0.cell 2, b0.cell 3, b1.cell 0, b1.cell 1, b1.cell 2, b1.cell 3, b2.cell 0, b2.cell 1, b2.cell 2, b2.cell 3, b3.cell 0, b3.cell 1, b3.cell 2, b3.cell 3⟩
  refine wp_region_tw (fun W' => Keeps w8 W' [] ∧ W'.cell? ⟨w.heap.size, 0, none⟩ = some (.int .i64 a1.k) ∧ W'.cell? ⟨w.heap.size, 1, none⟩ = some (.int .i64 a1.n) ∧ W'.cell? ⟨w.heap.size, 2, none⟩ = some (.string a1.s) ∧ W'.cell? ⟨w.heap.size, 3, none⟩ = some (.slice a1.A a1.len a1.c) ∧ W'.cell? ⟨(w.heap.size + 1), 0, none⟩ = some (.int .i64 b1.k) ∧ W'.cell? ⟨(w.heap.size + 1), 1, none⟩ = some (.int .i64 b1.n) ∧ W'.cell? ⟨(w.heap.size + 1), 2, none⟩ = some (.string b1.s) ∧ W'.cell? ⟨(w.heap.size + 1), 3, none⟩ = some (.slice b1.A b1.len b1.c) ∧ W'.cell? ⟨yb0, 0, none⟩ = some (.int .i64 y0.k) ∧ W'.cell? ⟨yb0, 1, none⟩ = some (.int .i64 y0.n) ∧ W'.cell? ⟨yb0, 2, none⟩ = some (.string y0.s) ∧ W'.cell? ⟨yb0, 3, none⟩ = some (.slice y0.A y0.len y0.c) ∧ W'.cell? ⟨yb1, 0, none⟩ = some (.int .i64 y1.k) ∧ W'.cell? ⟨yb1, 1, none⟩ = some (.int .i64 y1.n) ∧ W'.cell? ⟨yb1, 2, none⟩ = some (.string y1.s) ∧ W'.cell? ⟨yb1, 3, none⟩ = some (.slice y1.A y1.len y1.c)) 17 [.take 0, .take 1, .take 2, .take 3, .take 4, .take 5, .take 6, .take 12, .take 13, .take 7, .take 9, .op ⟨14, 57, fun b => .slice (some ⟨b, 0, none⟩) 2 2, 24, #[.int .i64 a1.k, .int .i64 a1.n, .string a1.s, .slice a1.A a1.len a1.c, .int .i64 b1.k, .int .i64 b1.n, .string b1.s, .slice b1.A b1.len b1.c]⟩, .go 8, .go 10, .go 11, .cl, .go 15, .take 16] [(17, false)] (by kernel_rfl) (by kernel_rfl) (fun w1 w2 k h => HP.out _ (h.1.trans k)) (by exact HP.out _ (Keeps.refl _ []).drew) (fun _ => ?_)
  (repeat (first | (refine wpTw_take (v := ?_) rfl ?_ (by rfl) ?_; rotate_left; (focus (intro w' hSw; (try dsimp only at hSw); go_simp; (try with_reducible rfl); done)); simp only [Act.put, List.setIfInBounds_toArray, List.set_cons_zero, List.set_cons_succ]) | (refine wpTw_skip rfl (by rfl) ?_; simp only [Act.put, List.setIfInBounds_toArray, List.set_cons_zero, List.set_cons_succ])))
  (refine wpTw_op rfl rfl (by intro w' hSw; (try dsimp only at hSw); go_simp; (try with_reducible rfl); done) (by rfl) ?_; simp only [List.nil_append])
  refine wpTw_go rfl (fun W11 hk11 hS11 K hK => ?_)
  have J11 := Lib.hid hS11.1
  have L11 := Lib.hid hk11
  clear hS11 hk11
  go_simp
  refine (HFr.out (tRn f a) y0 _ HRA.out (HYA.out.keep J11.out)).mono ?_
  rintro e w11 ⟨z0, rfl, hz0, k11⟩
  have K11 := Lib.hid (J11.out.trans k11)
  have N11 := Lib.hid (L11.out.trans k11)
  have HZ0 := Lib.hid (hz0.mono (S' := fun _ => True) fun _ _ => trivial)
  unfold tvV
  clear hz0
  refine hK.out _ _ k11 (HP.out _ K11.out) (fun _ => ?_)
  clear hK K
  (try simp only [Act.put, List.setIfInBounds_toArray, List.set_cons_zero, List.set_cons_succ])
  refine wpTw_go rfl (fun W12 hk12 hS12 K hK => ?_)
  have J12 := Lib.hid hS12.1
  have L12 := Lib.hid hk12
  clear hS12 hk12
  go_simp
  refine (HFr.out (tRn f b) y1 _ HRB.out (HYT1.out.keep J12.out)).mono ?_
  rintro e w12 ⟨z1, rfl, hz1, k12⟩
  have K12 := Lib.hid (J12.out.trans k12)
  have N12 := Lib.hid (L12.out.trans k12)
  have HZ1 := Lib.hid (hz1.mono (S' := fun _ => True) fun _ _ => trivial)
  unfold tvV
  clear hz1
  refine hK.out _ _ k12 (HP.out _ K12.out) (fun _ => ?_)
  clear hK K
  (try simp only [Act.put, List.setIfInBounds_toArray, List.set_cons_zero, List.set_cons_succ])
  refine wpTw_go rfl (fun W13 hk13 hS13 K hK => ?_)
  have J13 := Lib.hid hS13.1
  have L13 := Lib.hid hk13
  clear hS13 hk13
  go_simp
  have k13 : Keeps W13 (W13.alloc (.cells #[.int .i64 z0.k, .int .i64 z0.n, .string z0.s, .slice z0.A z0.len z0.c, .int .i64 z1.k, .int .i64 z1.n, .string z1.s, .slice z1.A z1.len z1.c] 24)) [] := (Keeps.refl _ []).alloc _
  have HG := Lib.hid (Blk.new W13 24 #[.int .i64 z0.k, .int .i64 z0.n, .string z0.s, .slice z0.A z0.len z0.c, .int .i64 z1.k, .int .i64 z1.n, .string z1.s, .slice z1.A z1.len z1.c])
  have K13 := Lib.hid (J13.out.trans k13)
  have N13 := Lib.hid (L13.out.trans k13)
  refine hK.out _ _ k13 (HP.out _ K13.out) (fun _ => ?_)
  clear hK K
  (try simp only [Act.put, List.setIfInBounds_toArray, List.set_cons_zero, List.set_cons_succ])
  generalize W13.alloc (.cells #[.int .i64 z0.k, .int .i64 z0.n, .string z0.s, .slice z0.A z0.len z0.c, .int .i64 z1.k, .int .i64 z1.n, .string z1.s, .slice z1.A z1.len z1.c] 24) = w13 at *
  generalize W13.heap.size = gb at *
  refine wpTw_cl (fun W14 hk14 hS14 => ?_)
  intro hc hc_b hc_u hc_x hc_B
  dsimp only at hc_B
  have J14 := Lib.hid hS14.1
  have L14 := Lib.hid hk14
  clear hS14 hk14
  have hc_11 := hc_x (W11.heap.size, w11.heap.size) (by simp)
  dsimp only at hc_11
  have hc_12 := hc_x (W12.heap.size, w12.heap.size) (by simp)
  dsimp only at hc_12
  have hc_H := Lib.hid hc_B
  clear hc_x hc_B
  clear hc_u
  (try simp only [Act.put, List.setIfInBounds_toArray, List.set_cons_zero, List.set_cons_succ])
  refine wpTw_go rfl (fun W15 hk15 hS15 K hK => ?_)
  have J15 := Lib.hid hS15.1
  have L15 := Lib.hid hk15
  clear hS15 hk15
  go_simp
  refine (HAk.out [z0, z1] [a1, b1] (some ⟨gb, 0, none⟩) (some ⟨hc, 0, none⟩) _ (Trs.twoH (HZ0.out.keep (N12.out.trans (N13.out.trans (L14.out.trans L15.out)))) (HZ1.out.keep (N13.out.trans (L14.out.trans L15.out)))) (Rd.twoH (HG.out.keep (L14.out.trans L15.out) (by simp))) (Trs.twoH (HA7.out.keep J15.out) (HB7.out.keep J15.out)) (Rd.twoH (hc_H.out.keep L15.out (by simp)))).mono ?_
  rintro e w15 ⟨rfl, k15⟩
  have K15 := Lib.hid (J15.out.trans k15)
  have N15 := Lib.hid (L15.out.trans k15)
  refine hK.out _ _ k15 (HP.out _ K15.out) (fun _ => ?_)
  clear hK K
  (try simp only [Act.put, List.setIfInBounds_toArray, List.set_cons_zero, List.set_cons_succ])
  (repeat (first | (refine wpTw_take (v := ?_) rfl ?_ (by rfl) ?_; rotate_left; (focus (intro w' hSw; (try dsimp only at hSw); go_simp; (try with_reducible rfl); done)); simp only [Act.put, List.setIfInBounds_toArray, List.set_cons_zero, List.set_cons_succ]) | (refine wpTw_skip rfl (by rfl) ?_; simp only [Act.put, List.setIfInBounds_toArray, List.set_cons_zero, List.set_cons_succ])))
  change wpTy _ _ _ _ _ _ _ _
  refine wpTy_last rfl (by decide) (fun K hK => ?_)
  go_simp
  refine hK.out _ _ (NoPanic.normal ?_)
  clear hK K
  (try simp only [Act.put, List.setIfInBounds_toArray, List.set_cons_zero, List.set_cons_succ])
  go_wp2_with fail
  go_ret
  exact ⟨rfl, HK8.out.trans K15.out⟩
end Go.Proofs.YtnonfmaehfmigaaDoor

/- What arguments that came in give: slices of numbers, slices of slices of numbers. -/
namespace Go.Proofs.YtnonfmaehfmigaaDoor
open Go.ChangeShapes Go.WideShapes Go.ChangeAt Go.RowKit

theorem own : ownKnob Tryd.prog.godebug = none := by kernel_rfl
theorem laidOut : laidOutB Tryd.prog = true := by kernel_rfl

theorem wf_u8 {x : Int} (h : (Lit.int .u8 x).wf = true) : 0 ≤ x ∧ x < 256 := by
  simp [Lit.wf, IntKind.min, IntKind.max, IntKind.signed, IntKind.bits] at h
  omega
theorem wf_u32 {x : Int} (h : (Lit.int .u32 x).wf = true) : 0 ≤ x ∧ x < 4294967296 := by
  simp [Lit.wf, IntKind.min, IntKind.max, IntKind.signed, IntKind.bits] at h
  omega
theorem wf_i64 {x : Int} (h : (Lit.int .i64 x).wf = true) : -9223372036854775808 ≤ x ∧ x ≤ 9223372036854775807 := by
  simp [Lit.wf, IntKind.min, IntKind.max, IntKind.signed, IntKind.bits] at h
  omega
theorem wf_u64 {x : Int} (h : (Lit.int .u64 x).wf = true) : 0 ≤ x ∧ x < 18446744073709551616 := by
  simp [Lit.wf, IntKind.min, IntKind.max, IntKind.signed, IntKind.bits] at h
  omega

/-- What a slice of numbers that came in gives. -/
theorem nums_of_cells {K : IntKind} {w : World} {x : Addr} {zs : List Int} {len cap : Nat} (hl : len ≤ cap) (hz : zs.length = cap)
    (hcell : ∀ i, i < cap → w.cell? (x.add i) = some (.int K (zs.getD i 0))) : Nums K w w.heap.size (some x) (zs.take len) := by
  intro k hk
  rw [List.length_take] at hk
  have hc := hcell k (by omega)
  obtain ⟨b, off, spot⟩ := x
  have hspot : spot = none := by
    have h0 := World.cell?_spot (hcell 0 (by omega))
    simpa [Addr.add] using h0
  subst hspot
  rw [add_lit] at hc
  have hlt : b < w.heap.size := World.block_lt_of_cell? w _ hc
  refine ⟨b, off, zs[k], rfl, hlt, ?_, ?_⟩
  · rw [hc]
    simp [List.getD, List.getElem?_eq_getElem (show k < zs.length by omega)]
  · rw [List.getElem?_take, if_pos (by omega)]
    exact List.getElem?_eq_getElem (by omega)
end Go.Proofs.YtnonfmaehfmigaaDoor

/- A term that came in, read off memory. -/
namespace Go.Proofs.YtnonfmaehfmigaaDoor
open Go.Joins Go.ChangeShapes Go.WideShapes Go.ChangeAt Go.RowKit Go.Deep

theorem Tr.leaf' (w : World) (k n : Int) (s : ByteArray) (hs : s.size ≤ 9223372036854775807) : Tr w (fun _ => True) (.mk k n s []) ⟨k, n, s, none, 0, 0⟩ :=
  .mk k n s [] none 0 [] rfl Rd.nil (fun b off e => by cases e) (fun _ => rfl) ⟨hs, by simp⟩ (fun j t v h => by simp at h)
/-- The elements of a row of trees. -/
theorem trees_of {w : World} {a : Addr} {len : Nat} (hi : ∀ i, i < len → ∃ cs', w.cells? 0 (a.add (i * 4)) 4 = some cs' ∧ ∃ t v, cs' = tvE v ∧ Tr w (fun _ => True) t v) :
    ∃ (l : List Tm) (vs : List TV), l.length = len ∧ Trs w (fun _ => True) l vs ∧ Rd w (some a) (vs.flatMap tvE) := by
  have hall : ∀ i, ∃ o : Tm × TV, i < len → Tr w (fun _ => True) o.1 o.2 ∧ ∀ j, j < 4 → w.cell? ((a.add (i * 4)).add j) = (tvE o.2)[j]? := fun i => by
    by_cases hlt : i < len
    · obtain ⟨cs', hc, t, v, rfl, ht⟩ := hi i hlt
      obtain ⟨_, _, hat⟩ := World.cells?_some hc
      exact ⟨(t, v), fun _ => ⟨ht, hat⟩⟩
    · exact ⟨(.mk 0 0 ⟨#[]⟩ [], ⟨0, 0, ⟨#[]⟩, none, 0, 0⟩), fun h => absurd h hlt⟩
  obtain ⟨f, hf⟩ := Classical.axiomOfChoice hall
  refine ⟨(List.range len).map fun i => (f i).1, (List.range len).map fun i => (f i).2, by simp, ⟨by simp, fun j t v h1 h2 => ?_⟩, ?_⟩
  · have hj : j < len := by have := (List.getElem?_eq_some_iff.1 h1).1; simpa using this
    have := (hf j hj).1
    simp [hj] at h1 h2
    rw [← h1, ← h2]
    exact this
  · intro k hk
    rw [length_flat tvE_len, List.length_map, List.length_range] at hk
    have hq : k / 4 < len := (Nat.div_lt_iff_lt_mul (by omega)).2 hk
    have hr : k % 4 < 4 := Nat.mod_lt _ (by omega)
    have hspot : a.spot = none := by
      have h1 := (hf 0 (Nat.lt_of_le_of_lt (Nat.zero_le _) hq)).2 0 (by omega)
      have : ∃ v, w.cell? ((a.add (0 * 4)).add 0) = some v := ⟨_, h1.trans (List.getElem?_eq_getElem (by rw [tvE_len]; omega))⟩
      obtain ⟨v, hv⟩ := this
      have h0 := World.cell?_spot hv
      simpa [Addr.add] using h0
    obtain ⟨bk, off, spot⟩ := a
    simp only at hspot
    subst hspot
    have hcell := (hf (k / 4) hq).2 (k % 4) hr
    have hv : (tvE (f (k / 4)).2)[k % 4]? = some ((tvE (f (k / 4)).2)[k % 4]'(by rw [tvE_len]; exact hr)) := List.getElem?_eq_getElem (by rw [tvE_len]; exact hr)
    have hk2 : k / 4 * 4 + k % 4 = k := by rw [Nat.mul_comm]; exact Nat.div_add_mod k 4
    rw [hv] at hcell
    simp only [add_lit] at hcell
    rw [Nat.add_assoc, hk2] at hcell
    refine ⟨bk, off, _, rfl, World.block_lt_of_cell? w _ hcell, hcell, ?_⟩
    have hlen : k / 4 < ((List.range len).map fun i => (f i).2).length := by simpa using hq
    have := getElem?_flat tvE_len ((List.range len).map fun i => (f i).2) (k / 4) hlen (k % 4) hr
    rw [hk2] at this
    rw [this]
    simp only [List.getElem_map, List.getElem_range]
    exact hv
section
variable {H : Type} {enc : TypeId × Value → H} {w : World}
/-- A struct of four fields, and how much fuel is left. -/
theorem four_fields {P : Program} {t : TypeId} {a b c d : Field} {fuel : Nat} {cs : List Value} {y : DataW H × List MemPlace} (ht : P.underlying t = some (.struct #[a, b, c, d])) (h : DataW.trod enc P w 0 (fun _ => true) true fuel t cs = some y) :
    ∃ n y0 y1 y2 y3, fuel = n + 1 ∧ cs.length = P.cellsOf t ∧ DataW.trod enc P w 0 (fun _ => true) true n a.type ((cs.drop a.offset).take (P.cellsOf a.type)) = some y0 ∧ DataW.trod enc P w 0 (fun _ => true) true n b.type ((cs.drop b.offset).take (P.cellsOf b.type)) = some y1 ∧
      DataW.trod enc P w 0 (fun _ => true) true n c.type ((cs.drop c.offset).take (P.cellsOf c.type)) = some y2 ∧ DataW.trod enc P w 0 (fun _ => true) true n d.type ((cs.drop d.offset).take (P.cellsOf d.type)) = some y3 := by
  obtain ⟨xs, n, rfl, _, hl, hlen, hf⟩ := DataW.trod_struct ht h
  match xs, hlen, hf with
  | [y0, y1, y2, y3], _, hf => exact ⟨n, y0, y1, y2, y3, rfl, hl, by simpa using hf 0 a rfl, by simpa using hf 1 b rfl, by simpa using hf 2 c rfl, by simpa using hf 3 d rfl⟩
set_option maxRecDepth 100000 in
theorem tree_of : ∀ (fuel : Nat) (cs : List Value) (y : DataW H × List MemPlace), DataW.trod enc Tryd.prog w 0 (fun _ => true) true fuel 24 cs = some y → ∃ t v, cs = tvE v ∧ Tr w (fun _ => True) t v := by
  intro fuel
  induction fuel using Nat.strongRecOn with
  | _ fuel ih =>
    intro cs y h
    obtain ⟨n, y0, y1, y2, y3, rfl, hl, h0, h1, h2, h3⟩ := four_fields Tryd.underlying24 h
    have e : Tryd.prog.cellsOf 24 = 4 := by kernel_rfl
    have e0 : Tryd.prog.cellsOf 3 = 1 := by kernel_rfl
    have e1 : Tryd.prog.cellsOf 9 = 1 := by kernel_rfl
    have e2 : Tryd.prog.cellsOf 22 = 1 := by kernel_rfl
    replace hl := hl.trans e
    match cs, hl, h0, h1, h2, h3 with
    | [c0, c1, c2, c3], _, h0, h1, h2, h3 =>
      simp only [e0, e1, e2, List.drop, List.take] at h0 h1 h2 h3
      obtain ⟨x0, q0, _, _⟩ := DataW.trod_int Tryd.underlying3 h0
      obtain ⟨x1, q1, _, _⟩ := DataW.trod_int Tryd.underlying3 h1
      obtain ⟨x2, q2, _, z2⟩ := DataW.trod_string Tryd.underlying9 h2
      simp only [List.cons.injEq, and_true] at q0 q1 q2
      subst q0 q1 q2
      have z2' : x2.size ≤ 9223372036854775807 := by unfold maxLen at z2; omega
      rcases DataW.trod_slice Tryd.underlying22 h3 with ⟨hcs, _⟩ | ⟨a, len, cap, elems, rest, n2, rfl, hcs, _, _, hlc, hcm, hel, hi, _, _⟩
      · simp only [List.cons.injEq, and_true] at hcs
        subst hcs
        exact ⟨.mk x0 x1 x2 [], ⟨x0, x1, x2, none, 0, 0⟩, rfl, Tr.leaf' w x0 x1 x2 z2'⟩
      · simp only [List.cons.injEq, and_true] at hcs
        subst hcs
        obtain ⟨l, vs, hll, hT, hR⟩ := trees_of (w := w) (a := a) (len := len) (fun i hlt => by
          have hb := hi i hlt
          rw [List.getElem?_eq_getElem (by omega : i < elems.length), e] at hb
          obtain ⟨cs', hc, ht⟩ := Option.bind_eq_some_iff.1 hb
          obtain ⟨t, v, hv, htr⟩ := ih n2 (by omega) cs' _ ht
          exact ⟨cs', hc, t, v, hv, htr⟩)
        subst hll
        have hlm : l.length ≤ 9223372036854775807 := by unfold maxLen at hcm; omega
        exact ⟨.mk x0 x1 x2 l, ⟨x0, x1, x2, some a, l.length, cap⟩, rfl, .mk x0 x1 x2 l (some a) cap vs hT.len hR (fun _ _ _ _ => trivial) (fun h => by cases h) ⟨z2', hlm⟩ hT.at_⟩
theorem tree_arg {v : Value} {d : DataW H} {p : List MemPlace} (h : DataW.Trod enc Tryd.prog w 0 (fun _ => true) true 24 v d p) : ∃ t x, v = tvV x ∧ Tr w (fun _ => True) t x := by
  obtain ⟨fuel, h⟩ := h
  obtain ⟨t, x, hv, ht⟩ := tree_of fuel _ _ h
  refine ⟨t, x, ?_, ht⟩
  cases v with
  | agg c =>
    obtain ⟨l⟩ := c
    simp only [Value.cells] at hv
    subst hv
    rfl
  | _ => have := congrArg List.length hv; simp [Value.cells, tvE] at this
end
end Go.Proofs.YtnonfmaehfmigaaDoor
