/- Terms: the document's Fix walked. -/
import Derived.Test.YtnonfmaehfmigaaGreatDoorTmFix
namespace Go.Proofs.YtnonfmaehfmigaaGreatDoor
open Go.RowKit

/-- What Fix tells. -/
def FDone (w : World) (r : Tm × Int) (e : Ending) (w' : World) : Prop := ∃ v, e = .returned (.tuple #[tvV v, .int .i64 r.2]) ∧ Tr w' (fun b => w.heap.size ≤ b) r.1 v ∧ Keeps w w' []
theorem letter_at (i : Nat) (h : i < 5) : (#[.string ⟨#[97]⟩, .string ⟨#[98]⟩, .string ⟨#[99]⟩, .string ⟨#[102]⟩, .string ⟨#[103]⟩] : Array Value)[i]? = some (.string (letter i)) := by
  match i, h with
  | 0, _ => rfl
  | 1, _ => rfl
  | 2, _ => rfl
  | 3, _ => rfl
  | 4, _ => rfl

theorem u64_lt (n : Int) : IntKind.u64.wrap n < 18446744073709551616 := by simp only [IntKind.wrap, IntKind.bits, IntKind.signed, Bool.false_and, Bool.false_eq_true, if_false]; omega
theorem quo_is {V : Int} (h0 : 0 ≤ V) (h1 : V < 18446744073709551616) : wrap64 (1 + wrap64 ((IntKind.u64.wrap (V.tdiv 2)).tmod 3)) = 1 + V / 2 % 3 := by
  have e1 : IntKind.u64.wrap (V.tdiv 2) = V / 2 := by
    rw [Int.tdiv_eq_ediv_of_nonneg h0]
    simp only [IntKind.wrap, IntKind.bits, IntKind.signed, Bool.false_and, Bool.false_eq_true, if_false]
    omega
  rw [e1, Int.tmod_eq_emod_of_nonneg (by omega)]
  unfold wrap64
  omega
set_option maxRecDepth 100000 in
set_option maxHeartbeats 3200000 in
theorem fixT_any (d : Nat) (hd : d ≤ 4) (f : Tm → Int → Tm × Int) (C : Nat) (hC : C ≤ 1000) (hf : ∀ a n, n - C ≤ (f a n).2 ∧ (f a n).2 ≤ n)
    (IH : d ≠ 0 → ∀ (a : Tm) (v : TV) (w : World) (left : Int), Tr w (fun _ => True) a v → -1000000 ≤ left - C → left ≤ 1000 → Calls Tryz.prog 21 #[tvV v, .int .i64 ((d : Int) - 1), .int .i64 left] w (FDone w (f a left))) :
    ∀ (t : Tm) (v : TV) (w : World) (left : Int), Tr w (fun _ => True) t v → -1000000 ≤ left - (1 + 3 * C : Nat) → left ≤ 1000 → Calls Tryz.prog 21 #[tvV v, .int .i64 d, .int .i64 left] w (FDone w (fixT f d t left)) := by
  intro t v w left ht hl1 hl2
  cases ht with
  | mk k n s l A c vs hl hR hS hc hz hk =>
  have HT : Hid (Trs w (fun _ => True) l vs) := ⟨hl, hk⟩
  have HR := Lib.hid hR
  have HI := Lib.hid IH
  have HF := Lib.hid (fixes_cost hf l (left - 1))
  have HZ := Lib.hid hz.2
  obtain ⟨m, hm⟩ : ∃ m, l.length = m := ⟨_, rfl⟩
  have HM := Lib.hid hm
  have hmb : m ≤ 9223372036854775807 := by omega
  clear hl hR hS hc hz hk IH hf
  unfold tvV
  simp only [hm]
  clear hm
  obtain ⟨D, hD⟩ : ∃ D : Int, (d : Int) = D := ⟨_, rfl⟩
  rw [hD]
  have hD0 : 0 ≤ D := by omega
  have hD4 : D ≤ 4 := by omega
  have HD := Lib.hid hD
  clear hD
  rw [fixT]
  have hkr := fixK_range d left k
  obtain ⟨K, hK⟩ : ∃ K, fixK d left k = K := ⟨_, rfl⟩
  rw [hK] at hkr ⊢
  have HK := Lib.hid hK
  obtain ⟨U, hU⟩ : ∃ U, IntKind.u64.wrap k = U := ⟨_, rfl⟩
  have hU0 : 0 ≤ U := by rw [← hU]; exact u64_nonneg k
  obtain ⟨V, hV⟩ : ∃ V, IntKind.u64.wrap n = V := ⟨_, rfl⟩
  have hV0 : 0 ≤ V := by rw [← hV]; exact u64_nonneg n
  have HV9 : Hid (V < 18446744073709551616) := by show _ < _; rw [← hV]; exact u64_lt n
  have HV0 := Lib.hid hV0
  have HKU : Hid (K = if 2 ≤ U % 4 ∧ (d = 0 ∨ left < 4) then U % 4 - 2 else U % 4) := by show _ = _; rw [← hK, fixK, u64, hU]
  have hN : u64 n = V := hV
  obtain ⟨W, hW⟩ : ∃ W, fixW K n = W := ⟨_, rfl⟩
  have HWd := Lib.hid hW
  obtain ⟨N, hNN⟩ : ∃ N, fixN K n = N := ⟨_, rfl⟩
  obtain ⟨S, hSS⟩ : ∃ S, fixS K n = S := ⟨_, rfl⟩
  rw [hW, hNN, hSS]
  have hsz : S.size ≤ 9223372036854775807 := by
    rw [← hSS, fixS]
    have : ∀ i, (letter i).size = 1 := fun i => by unfold letter; split <;> (try rfl); split <;> (try rfl); split <;> (try rfl); split <;> rfl
    split
    · rw [this]; omega
    · split
      · rw [this]; omega
      · exact Nat.zero_le _
  rw [fixN, hN] at hNN
  rw [fixS, hN] at hSS
  rw [fixW, hN] at hW
  have HNN := Lib.hid hNN
  have HSS := Lib.hid hSS
  have HWW := Lib.hid hW
  have HSZ := Lib.hid hsz
  have HKR := Lib.hid hkr
  clear hNN hSS hW hsz hN hK hkr
  have hB0 : Blk (w.alloc (.cells #[.int .i64 k, .int .i64 n, .string s, .slice A m c] 24)) w.heap.size 24 #[.int .i64 k, .int .i64 n, .string s, .slice A m c] := Blk.new _ _ _
  go_enter Tryz.func21, Tryz.ntmps21
  go_upto_region 3 with fail
  have HS0 : Hid (Blk (((w.alloc (.cells #[.int .i64 k, .int .i64 n, .string s, .slice A m c] 24)).alloc (.cells #[.int .i64 0, .int .i64 0, .string ⟨#[]⟩, .slice none 0 0] 24)).alloc (.cells #[.string ⟨#[97]⟩, .string ⟨#[98]⟩, .string ⟨#[99]⟩, .string ⟨#[102]⟩, .string ⟨#[103]⟩] 9)) w.heap.size 24 #[.int .i64 k, .int .i64 n, .string s, .slice A m c] ∧ Blk (((w.alloc (.cells #[.int .i64 k, .int .i64 n, .string s, .slice A m c] 24)).alloc (.cells #[.int .i64 0, .int .i64 0, .string ⟨#[]⟩, .slice none 0 0] 24)).alloc (.cells #[.string ⟨#[97]⟩, .string ⟨#[98]⟩, .string ⟨#[99]⟩, .string ⟨#[102]⟩, .string ⟨#[103]⟩] 9)) (w.heap.size + 1) 24 #[.int .i64 0, .int .i64 0, .string ⟨#[]⟩, .slice none 0 0] ∧ Blk (((w.alloc (.cells #[.int .i64 k, .int .i64 n, .string s, .slice A m c] 24)).alloc (.cells #[.int .i64 0, .int .i64 0, .string ⟨#[]⟩, .slice none 0 0] 24)).alloc (.cells #[.string ⟨#[97]⟩, .string ⟨#[98]⟩, .string ⟨#[99]⟩, .string ⟨#[102]⟩, .string ⟨#[103]⟩] 9)) (w.heap.size + 1 + 1) 9 #[.string ⟨#[97]⟩, .string ⟨#[98]⟩, .string ⟨#[99]⟩, .string ⟨#[102]⟩, .string ⟨#[103]⟩] ∧ Keeps w (((w.alloc (.cells #[.int .i64 k, .int .i64 n, .string s, .slice A m c] 24)).alloc (.cells #[.int .i64 0, .int .i64 0, .string ⟨#[]⟩, .slice none 0 0] 24)).alloc (.cells #[.string ⟨#[97]⟩, .string ⟨#[98]⟩, .string ⟨#[99]⟩, .string ⟨#[102]⟩, .string ⟨#[103]⟩] 9)) [] ∧ (((w.alloc (.cells #[.int .i64 k, .int .i64 n, .string s, .slice A m c] 24)).alloc (.cells #[.int .i64 0, .int .i64 0, .string ⟨#[]⟩, .slice none 0 0] 24)).alloc (.cells #[.string ⟨#[97]⟩, .string ⟨#[98]⟩, .string ⟨#[99]⟩, .string ⟨#[102]⟩, .string ⟨#[103]⟩] 9)).heap.size = w.heap.size + 3) :=
    ⟨(hB0.alloc _).alloc _, (Blk.newAt _ _ (by simp)).alloc _, Blk.newAt _ _ (by simp), (((Keeps.refl w []).alloc _).alloc _).alloc _, by simp⟩
  clear hB0
  generalize (((w.alloc (.cells #[.int .i64 k, .int .i64 n, .string s, .slice A m c] 24)).alloc (.cells #[.int .i64 0, .int .i64 0, .string ⟨#[]⟩, .slice none 0 0] 24)).alloc (.cells #[.string ⟨#[97]⟩, .string ⟨#[98]⟩, .string ⟨#[99]⟩, .string ⟨#[102]⟩, .string ⟨#[103]⟩] 9)) = w0 at HS0 ⊢
  obtain ⟨bb, hbb⟩ : ∃ bb : Bool, decide (2 ≤ U % 4 ∧ (d = 0 ∨ left < 4)) = bb := ⟨_, rfl⟩
  have HBB := Lib.hid hbb
  clear hbb
  go_cut [31] (fun s31 wx => s31 = .bool bb ∧ wx = w0)
  case first =>
    by_cases h2 : 2 ≤ U % 4
    · by_cases hd0 : d = 0
      · have HE : Hid (bb = true) := by show _ = _; rw [← HBB.out]; exact decide_eq_true ⟨h2, Or.inl hd0⟩
        have hd1 : D ≤ 0 := by have := HD.out; omega
        clear hd0
        go_wp2_with fail
        go_meet
        exact ⟨by rw [HE.out], rfl⟩
      · have hd1 : ¬ D ≤ 0 := by have := HD.out; omega
        by_cases h4 : left < 4
        · have HE : Hid (bb = true) := by show _ = _; rw [← HBB.out]; exact decide_eq_true ⟨h2, Or.inr h4⟩
          clear hd0
          go_wp2_with fail
          go_meet
          exact ⟨by rw [HE.out], rfl⟩
        · have HE : Hid (bb = false) := by show _ = _; rw [← HBB.out]; exact decide_eq_false (fun h => h.2.elim hd0 h4)
          clear hd0
          go_wp2_with fail
          go_meet
          exact ⟨by rw [HE.out], rfl⟩
    · have HE : Hid (bb = false) := by show _ = _; rw [← HBB.out]; exact decide_eq_false (fun h => h2 h.1)
      go_wp2_with fail
      go_meet
      exact ⟨by rw [HE.out], rfl⟩
  case rest =>
    obtain ⟨rfl, rfl⟩ := hcut
    have HKB : Hid (K = if bb = true then U % 4 - 2 else U % 4) := by
      show _ = _
      rw [HKU.out, ← HBB.out]
      by_cases h9 : 2 ≤ U % 4 ∧ (d = 0 ∨ left < 4)
      · rw [if_pos h9, if_pos (decide_eq_true h9)]
      · rw [if_neg h9, if_neg (by simpa using h9)]
    clear HKU HBB
    go_upto_if 31 with fail
    go_cut [9] (fun s9 wx => s9 = .int .i64 K ∧ wx = wc)
    case first =>
      cases bb with
      | true =>
        have HE : Hid (K = U % 4 - 2) := HKB.out
        go_wp2_with fail
        go_meet
        exact ⟨by rw [HE.out], rfl⟩
      | false =>
        have HE : Hid (K = U % 4) := HKB.out
        go_wp2_with fail
        go_meet
        exact ⟨by rw [HE.out], rfl⟩
    case rest =>
      obtain ⟨rfl, rfl⟩ := hcut
      clear HKB hU hU0
      go_upto_block 0 with fail
      obtain ⟨hb0, hbr, hbn, hk0, hs0⟩ := HS0.out
      have HO : Hid (Blk (wc.alloc (.cells #[.int .i64 K, .int .i64 0, .string ⟨#[]⟩, .slice none 0 0] 24)) wc.heap.size 24 #[.int .i64 K, .int .i64 0, .string ⟨#[]⟩, .slice none 0 0]) := Blk.new _ _ _
      have HB0 := Lib.hid (hb0.alloc (.cells #[.int .i64 K, .int .i64 0, .string ⟨#[]⟩, .slice none 0 0] 24))
      have HBr := Lib.hid (hbr.alloc (.cells #[.int .i64 K, .int .i64 0, .string ⟨#[]⟩, .slice none 0 0] 24))
      have HBn := Lib.hid (hbn.alloc (.cells #[.int .i64 K, .int .i64 0, .string ⟨#[]⟩, .slice none 0 0] 24))
      have HKw := Lib.hid (hk0.alloc (.cells #[.int .i64 K, .int .i64 0, .string ⟨#[]⟩, .slice none 0 0] 24))
      clear hb0 hbr hbn hk0 HS0
      generalize wc.alloc (.cells #[.int .i64 K, .int .i64 0, .string ⟨#[]⟩, .slice none 0 0] 24) = w1 at HO HB0 HBr HBn HKw ⊢
      obtain ⟨g, hg⟩ : ∃ g, wc.heap.size = g := ⟨_, rfl⟩
      rw [hg] at HO hs0 ⊢
      clear hg
      have HG := Lib.hid hs0
      clear hs0
      go_cut [] (fun wx => Blk wx g 24 #[.int .i64 K, .int .i64 N, .string S, .slice none 0 0] ∧ Blk wx w.heap.size 24 #[.int .i64 k, .int .i64 n, .string s, .slice A m c] ∧ Blk wx (w.heap.size + 1) 24 #[.int .i64 0, .int .i64 0, .string ⟨#[]⟩, .slice none 0 0] ∧ Keeps w wx [])
      case first =>
        have q1 := HB0.out.cell 1
        have o0 := HO.out.cell 1
        have o1 := HO.out.frozen 1
        have o2 := HO.out.cell 2
        have o3 := HO.out.frozen 2
        have HFar : Hid (∀ i v, i = 1 ∨ i = 2 → Blk (w1.setCell ⟨g, i, none⟩ v) w.heap.size 24 #[.int .i64 k, .int .i64 n, .string s, .slice A m c] ∧ Blk (w1.setCell ⟨g, i, none⟩ v) (w.heap.size + 1) 24 #[.int .i64 0, .int .i64 0, .string ⟨#[]⟩, .slice none 0 0] ∧ Keeps w (w1.setCell ⟨g, i, none⟩ v) []) := fun i v _ =>
          ⟨HB0.out.far (by have := HG.out; dsimp only; omega) _, HBr.out.far (by have := HG.out; dsimp only; omega) _, HKw.out.setCell (.inr (by have := HG.out; show w.heap.size ≤ g; omega)) _⟩
        by_cases h0 : K = 0
        · have HE1 : Hid (N = V % 6) := by show _ = _; rw [← HNN.out, if_pos h0]
          have HE2 : Hid (S = ⟨#[]⟩) := by show _ = _; rw [← HSS.out, if_neg (show ¬ K = 1 by omega), if_neg (show ¬ K = 2 by omega)]
          go_wp2_with fail
          go_meet
          refine ⟨?_, HFar.out 1 _ (Or.inl rfl)⟩
          have := HO.out.set_ 1 (.int .i64 (V % 6))
          rw [HE1.out, HE2.out]
          simpa using this
        have e0 : (K == 0) = false := by simpa using h0
        have HE1 : Hid (N = 0) := by show _ = _; rw [← HNN.out, if_neg h0]
        by_cases h1 : K = 1
        · have HE2 : Hid (S = letter (V % 3)) := by show _ = _; rw [← HSS.out, if_pos h1]
          obtain ⟨q, hq, hq3⟩ : ∃ q : Nat, V % 3 = q ∧ q < 3 := ⟨(V % 3).toNat, by omega, by omega⟩
          have hn := (HBn.out.cell q).trans (letter_at q (by omega))
          have b0 : (0 : Int) ≤ (q : Int) := Int.natCast_nonneg _
          have b1 : (q : Int) < 5 := by omega
          go_wp2_with fail
          go_meet
          refine ⟨?_, HFar.out 2 _ (Or.inr rfl)⟩
          have := HO.out.set_ 2 (.string (letter q))
          rw [HE1.out, HE2.out, hq]
          simpa using this
        have e1 : (K == 1) = false := by simpa using h1
        by_cases h2 : K = 2
        · have HE2 : Hid (S = letter (3 + V % 2)) := by show _ = _; rw [← HSS.out, if_neg h1, if_pos h2]
          obtain ⟨q, hq, hq3⟩ : ∃ q : Nat, V % 2 = q ∧ q < 2 := ⟨(V % 2).toNat, by omega, by omega⟩
          obtain ⟨q2, hq2, hq5⟩ : ∃ q2 : Nat, (3 : Int) + (q : Int) = q2 ∧ q2 < 5 := ⟨3 + q, by omega, by omega⟩
          have hn := (HBn.out.cell q2).trans (letter_at q2 hq5)
          have b0 : (0 : Int) ≤ (q2 : Int) := Int.natCast_nonneg _
          have b1 : (q2 : Int) < 5 := by omega
          go_wp2_with fail
          go_meet
          refine ⟨?_, HFar.out 2 _ (Or.inr rfl)⟩
          have := HO.out.set_ 2 (.string (letter q2))
          rw [HE1.out, HE2.out, hq, hq2]
          simpa using this
        · have e2 : (K == 2) = false := by simpa using h2
          have HE2 : Hid (S = ⟨#[]⟩) := by show _ = _; rw [← HSS.out, if_neg h1, if_neg h2]
          go_wp2_with fail
          go_meet
          refine ⟨?_, HB0.out, HBr.out, HKw.out⟩
          rw [HE1.out, HE2.out]
          exact HO.out
      case rest =>
        clear HO HB0 HBr HBn HKw HNN HSS
        obtain ⟨ho, hb0, hbr, hkw⟩ := hcut
        have HO := Lib.hid ho
        have HB0 := Lib.hid hb0
        have HBr := Lib.hid hbr
        have HKw := Lib.hid hkw
        have q1 := hb0.cell 1
        clear ho hb0 hbr hkw
        go_upto_if 71 with fail
        go_cut [11] (fun s11 wx => s11 = .int .i64 (if K = 3 then 2 else 0) ∧ wx = wc)
        case first =>
          by_cases h3 : K = 3
          · have HE : Hid ((if K = 3 then 2 else 0 : Int) = 2) := if_pos h3
            go_wp2_with fail
            go_meet
            exact ⟨by rw [HE.out], rfl⟩
          · have e3 : (K == 3) = false := by simpa using h3
            have HE : Hid ((if K = 3 then 2 else 0 : Int) = 0) := if_neg h3
            go_wp2_with fail
            go_meet
            exact ⟨by rw [HE.out], rfl⟩
        case rest =>
        obtain ⟨rfl, rfl⟩ := hcut
        obtain ⟨W3, hW3⟩ : ∃ W3, (if K = 3 then 2 else 0 : Int) = W3 := ⟨_, rfl⟩
        rw [hW3]
        have HW3 := Lib.hid hW3
        clear hW3
        go_upto_if 73 with fail
        go_cut [11] (fun s11 wx => s11 = .int .i64 W ∧ wx = wc)
        case first =>
          by_cases h2 : K = 2
          · have HE : Hid ((W : Int) = 1 + V / 2 % 3) := by show _ = _; rw [← HWW.out, if_neg (show ¬ K = 3 by omega), if_pos h2]; omega
            go_wp2_with fail
            go_meet
            exact ⟨by rw [HE.out, quo_is HV0.out HV9.out], rfl⟩
          · have e2 : (K == 2) = false := by simpa using h2
            have HE : Hid (W3 = (W : Int)) := by
              show _ = _
              rw [← HW3.out, ← HWW.out]
              by_cases h3 : K = 3
              · rw [if_pos h3, if_pos h3]; rfl
              · rw [if_neg h3, if_neg h3, if_neg h2]; rfl
            go_wp2_with fail
            go_meet
            exact ⟨by rw [HE.out], rfl⟩
        case rest =>
        obtain ⟨rfl, rfl⟩ := hcut
        clear HW3 HWW hV hV0 q1
        have HWb : Hid (W ≤ 3 ∧ (0 < W → d ≠ 0)) := by
          have h1 := fixW_le K n
          rw [HWd.out] at h1
          refine ⟨h1.1, fun h2 h3 => ?_⟩
          have := h1.2 (HKR.out.2.2 h3)
          omega
        have hW3 : W ≤ 3 := HWb.out.1
        clear HWd HKR
        have HST : Hid (TSt 24 (fun b => w.heap.size ≤ b) w wc [] [(w.heap.size, 24, #[.int .i64 k, .int .i64 n, .string s, .slice A m c]), (w.heap.size + 1, 24, #[.int .i64 0, .int .i64 0, .string ⟨#[]⟩, .slice none 0 0])] g K N S [] [] none 0 0) :=
          TSt.start (by
            intro x hx
            simp only [List.mem_cons, List.not_mem_nil, or_false] at hx
            have := HG.out
            rcases hx with rfl | rfl
            · exact ⟨HB0.out, by simp; omega⟩
            · exact ⟨HBr.out, by simp; omega⟩) HO.out HKw.out (by have := HG.out; omega) (fun b h => h) HSZ.out
        clear HO HB0 HBr HKw
        go_wp2_with fail
        go_loopg [2, 12] W (fun gk x i wr => ∃ j : Nat, j ≤ W ∧ gk = W - j ∧ i = .int .i64 j ∧ x = .int .i64 (fixes f l (left - 1) j).2 ∧ ∃ A2 c2 us, TSt 24 (fun b => w.heap.size ≤ b) w wr [] [(w.heap.size, 24, #[.int .i64 k, .int .i64 n, .string s, .slice A m c]), (w.heap.size + 1, 24, #[.int .i64 0, .int .i64 0, .string ⟨#[]⟩, .slice none 0 0])] g K N S (fixes f l (left - 1) j).1 us A2 j c2)
        case atStart => exact ⟨0, Nat.zero_le _, rfl, rfl, rfl, none, 0, [], HST.out⟩
        case round =>
          obtain ⟨j, hj, rfl, rfl, rfl, A2, c2, us, st⟩ := hrel
          have HS := Lib.hid st
          clear st HST
          obtain ⟨lf, hlf⟩ : ∃ lf, (fixes f l (left - 1) j).2 = lf := ⟨_, rfl⟩
          have hlr := HF.out j
          rw [hlf] at hlr ⊢
          have HLF := Lib.hid hlf
          clear hlf
          by_cases hlt : j < W
          · have hr1 : -1000000 ≤ lf - C ∧ lf ≤ 1000 := by
              have h3 : (j : Int) * C ≤ 2 * C := Int.mul_le_mul_of_nonneg_right (by omega) (by omega)
              have := hlr.1
              have := hlr.2
              omega
            clear hlr
            have b0 : (0 : Int) ≤ (j : Int) := Int.natCast_nonneg _
            have b1 : (j : Int) < (W : Int) := by omega
            go_upto_region 23 with fail
            have hbz : Blk (wr.alloc (.cells #[.int .i64 0, .int .i64 0, .string ⟨#[]⟩, .slice none 0 0] 24)) wr.heap.size 24 #[.int .i64 0, .int .i64 0, .string ⟨#[]⟩, .slice none 0 0] := Blk.new _ _ _
            have hka : Keeps wr (wr.alloc (.cells #[.int .i64 0, .int .i64 0, .string ⟨#[]⟩, .slice none 0 0] 24)) [] := (Keeps.refl wr []).alloc _
            generalize wr.alloc (.cells #[.int .i64 0, .int .i64 0, .string ⟨#[]⟩, .slice none 0 0] 24) = wa at hbz hka ⊢
            have HBz := Lib.hid hbz
            have HKa := Lib.hid hka
            have e1 := ((HS.out.fix _ (List.mem_cons_self ..)).1.keep hka (by simp)).cell 3
            clear hbz hka
            go_upto_if 90 with fail
            go_cut [] (fun wx => ∃ va : TV, Blk wx wr.heap.size 24 #[.int .i64 va.k, .int .i64 va.n, .string va.s, .slice va.A va.len va.c] ∧ Tr wx (fun _ => True) (l.getD j tz) va ∧ Keeps wr wx [])
            case first =>
              by_cases hjm : j < m
              · obtain ⟨a, hx⟩ := at_of HM.out hjm
                have hgd : l.getD j tz = a := by rw [List.getD_eq_getElem?_getD, hx]; rfl
                obtain ⟨v', b, off, _, htr, rfl, hb, p0, p1, p2, p3⟩ := (HT.out.keep HS.out.keep).get (HR.out.keep HS.out.keep) hx
                have HTR := Lib.hid htr
                have HGD := Lib.hid hgd
                have b2 : (j : Int) < (m : Int) := by omega
                have z0 := HBz.out.frozen 0
                have z1 := HBz.out.frozen 1
                have z2 := HBz.out.frozen 2
                have z3 := HBz.out.frozen 3
                have y0 := HBz.out.cell 0
                have y1 := HBz.out.cell 1
                have y2 := HBz.out.cell 2
                have y3 := HBz.out.cell 3
                replace p0 := (HKa.out.cell (p := ⟨b, off + j * 4, none⟩) hb (by simp)).trans p0
                replace p1 := (HKa.out.cell (p := ⟨b, off + j * 4 + 1, none⟩) hb (by simp)).trans p1
                replace p2 := (HKa.out.cell (p := ⟨b, off + j * 4 + 2, none⟩) hb (by simp)).trans p2
                replace p3 := (HKa.out.cell (p := ⟨b, off + j * 4 + 3, none⟩) hb (by simp)).trans p3
                clear htr hgd hx hb
                go_wp2_with fail
                go_meet
                have kk := (((HKa.out.setCell (p := ⟨wr.heap.size, 0, none⟩) (.inr (Nat.le_refl _)) (.int .i64 v'.k)).setCell (p := ⟨wr.heap.size, 1, none⟩) (.inr (Nat.le_refl _)) (.int .i64 v'.n)).setCell (p := ⟨wr.heap.size, 2, none⟩) (.inr (Nat.le_refl _)) (.string v'.s)).setCell (p := ⟨wr.heap.size, 3, none⟩) (.inr (Nat.le_refl _)) (.slice v'.A v'.len v'.c)
                refine ⟨v', ?_, by rw [HGD.out]; exact HTR.out.keep kk, kk⟩
                have := (((HBz.out.set_ 0 (.int .i64 v'.k)).set_ 1 (.int .i64 v'.n)).set_ 2 (.string v'.s)).set_ 3 (.slice v'.A v'.len v'.c)
                simpa using this
              · have b2 : ¬ (j : Int) < (m : Int) := by omega
                have hgd : l.getD j tz = tz := by rw [List.getD_eq_getElem?_getD, List.getElem?_eq_none (by have := HM.out; omega)]; rfl
                have HGD := Lib.hid hgd
                clear hgd
                go_wp2_with fail
                go_meet
                exact ⟨⟨0, 0, ⟨#[]⟩, none, 0, 0⟩, HBz.out, by rw [HGD.out]; exact .mk 0 0 ⟨#[]⟩ [] none 0 [] rfl (by simp; exact Rd.nil) (by simp) (fun _ => rfl) ⟨by decide, by simp⟩ (fun j t v h => by simp at h), HKa.out⟩
            case rest =>
              clear HBz HKa e1
              obtain ⟨va, hbz, hta, hka⟩ := hcut
              have y0 := hbz.cell 0
              have y1 := hbz.cell 1
              have y2 := hbz.cell 2
              have y3 := hbz.cell 3
              have hca := HI.out (HWb.out.2 (by omega)) (l.getD j tz) va wc lf hta hr1.1 hr1.2
              rw [HD.out] at hca
              unfold tvV at hca
              have HC := Lib.hid hca
              have HKa := Lib.hid hka
              clear hbz hta hka hca hr1
              go_wp2_with fail
              refine HC.out.mono ?_
              rintro e w3 ⟨u, rfl, hu, k3⟩
              have HU := Lib.hid hu
              have HK3 := Lib.hid (HKa.out.trans k3)
              unfold tvV
              clear hu k3 HC
              go_upto_region 26 with fail
              have hb4 : Blk (w3.alloc (.cells #[.int .i64 u.k, .int .i64 u.n, .string u.s, .slice u.A u.len u.c] 24)) w3.heap.size 24 #[.int .i64 u.k, .int .i64 u.n, .string u.s, .slice u.A u.len u.c] := Blk.new _ _ _
              have HK4 := Lib.hid (HK3.out.alloc (.cells #[.int .i64 u.k, .int .i64 u.n, .string u.s, .slice u.A u.len u.c] 24))
              have HU4 := Lib.hid (HU.out.keep ((Keeps.refl w3 []).alloc (.cells #[.int .i64 u.k, .int .i64 u.n, .string u.s, .slice u.A u.len u.c] 24)))
              generalize w3.alloc (.cells #[.int .i64 u.k, .int .i64 u.n, .string u.s, .slice u.A u.len u.c] 24) = w4 at hb4 HK4 HU4 ⊢
              have r0 := hb4.cell 0
              have r1 := hb4.cell 1
              have r2 := hb4.cell 2
              have r3 := hb4.cell 3
              have e2 := (HS.out.keep0 HK4.out).out.cell 3
              have hw4 : w.heap.size ≤ w4.heap.size := Nat.le_trans HS.out.keep.size HK4.out.size
              have HW4 := Lib.hid hw4
              clear hb4 y0 y1 y2 y3 HU HK3 hw4
              go_wp2_with (at_builtin; have K5 := HK4.out.alloc (.cells #[.int .i64 u.k, .int .i64 u.n, .string u.s, .slice u.A u.len u.c] 24); refine wpList_app _ el_rterm rfl (.tmp 105) (.tmp 107) rfl w.heap.size A2 j c2 (us.flatMap tvE) rfl (own_keep0 HS.out.row K5) (some ⟨w4.heap.size, 0, none⟩) 1 1 (tvE u) rfl (Rd.one w4 _ (tvE u)) rfl (by simp) (by simp [tvE, Value.oneCell']) (by omega) (by simp; have := HW4.out; omega) ?_; intro A' c' w9 hown hgrow hat; have og := (HS.out.keep0 K5).out.grown hgrow (fun e => HS.out.low.2.1 (by unfold ownL; rw [← e]; simp)); have g3 := og.cell 3; have f3 := og.frozen 3; have HST2 := Lib.hid (HS.out.step K5 (HS.out.fresh ((HU4.out.keep ((Keeps.refl w4 []).alloc _)).mono (fun b hb => Nat.le_trans HKa.out.size hb))) hown hgrow hat); clear og hown hgrow hat K5)
              go_roundg (W - (j + 1))
              case measure => omega
              case rel =>
                refine ⟨j + 1, by omega, rfl, by go_num, ?_, A', c', us ++ [u], ?_⟩
                · rw [fixes, HLF.out]; rfl
                · rw [fixes, HLF.out]; exact HST2.out
          · obtain rfl : W = j := by omega
            have hd := HS.out.done (by omega)
            have hr := (HS.out.fix (w.heap.size + 1, 24, #[.int .i64 0, .int .i64 0, .string ⟨#[]⟩, .slice none 0 0]) (by simp)).1
            have d0 := HS.out.out.cell 0
            have d1 := HS.out.out.cell 1
            have d2 := HS.out.out.cell 2
            have d3 := HS.out.out.cell 3
            have r0 := hr.cell 0
            have r1 := hr.cell 1
            have r2 := hr.cell 2
            have r3 := hr.cell 3
            have f0 := hr.frozen 0
            have f1 := hr.frozen 1
            have f2 := hr.frozen 2
            have f3 := hr.frozen 3
            have HD : Hid (FDone w (.mk K N S (fixes f l (left - 1) W).1, (fixes f l (left - 1) W).2) (.returned (.tuple #[.agg #[.int .i64 K, .int .i64 N, .string S, .slice A2 W c2], .int .i64 lf])) ((((wr.setCell ⟨w.heap.size + 1, 0, none⟩ (.int .i64 K)).setCell ⟨w.heap.size + 1, 1, none⟩ (.int .i64 N)).setCell ⟨w.heap.size + 1, 2, none⟩ (.string S)).setCell ⟨w.heap.size + 1, 3, none⟩ (.slice A2 W c2))) := by
              obtain ⟨v9, e9, t9, k9⟩ := (hd.mono (S' := fun b => w.heap.size ≤ b ∧ b ≠ w.heap.size + 1) fun b hb => ⟨hb.1, hb.2.2 (w.heap.size + 1, 24, #[.int .i64 0, .int .i64 0, .string ⟨#[]⟩, .slice none 0 0]) (by simp)⟩).end4 (.int .i64 K) (.int .i64 N) (.string S) (.slice A2 W c2) HS.out.keep (by omega)
              injection e9 with e9
              refine ⟨v9, ?_, t9, k9⟩
              rw [← e9, HLF.out]
              rfl
            clear hd hr hlt hj
            go_wp2_with fail
            exact bodyPost_ret (v := .tuple #[.agg #[.int .i64 K, .int .i64 N, .string S, .slice A2 W c2], .int .i64 lf]) (by simp [results, Tryz.results21, go_sem, *]) rfl HD.out
/-- Fix, of all trees. -/
theorem fix_any : ∀ (d : Nat), d ≤ 4 → ∀ (t : Tm) (v : TV) (w : World) (left : Int), Tr w (fun _ => True) t v → -1000000 ≤ left - cost d → left ≤ 1000 → Calls Tryz.prog 21 #[tvV v, .int .i64 d, .int .i64 left] w (FDone w (tFix d t left))
  | 0, hd, t, v, w, left, ht, h1, h2 => fixT_any 0 hd (fun t n => (t, n)) 0 (by omega) (fun a n => by simp) (fun h => absurd rfl h) t v w left ht (by simp only [cost] at h1; omega) h2
  | d + 1, hd, t, v, w, left, ht, h1, h2 => fixT_any (d + 1) hd (tFix d) (cost d) (by
      match d, hd with
      | 0, _ => decide
      | 1, _ => decide
      | 2, _ => decide
      | 3, _ => decide) (tFix_cost d) (fun _ a v w left ha b1 b2 => by
        have e : (((d + 1 : Nat) : Int) - 1) = (d : Int) := by omega
        rw [e]
        exact fix_any d (by omega) a v w left ha b1 b2) t v w left ht h1 h2
end Go.Proofs.YtnonfmaehfmigaaGreatDoor
