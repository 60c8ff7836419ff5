/- Instructions in words: the program's Named. -/
import Derived.Test.YtpcihhdalofdiaaGreatDoorTxtB
namespace Go.Proofs.YtpcihhdalofdiaaGreatDoor
open Go.RowKit

theorem named_hit {s : Txt} (hs : s ≠ []) {k : Nat} (hk : k < 27) (he : nameT (k : Int) = s) (hn : ∀ i : Nat, i < k → nameT (i : Int) ≠ s) : namedT s = k := by
  have h : (List.range 27).find? (fun k : Nat => nameT (k : Int) == s) = some k := List.find?_range_eq_some.2 ⟨by simp [he], by simp [hk], fun j hj => by simpa using hn j hj⟩
  rw [namedT, if_neg hs, h]
theorem named_miss {s : Txt} (hs : s ≠ []) (hn : ∀ i : Nat, i < 27 → nameT (i : Int) ≠ s) : namedT s = -1 := by
  rw [namedT, if_neg hs, List.find?_eq_none.2 (fun x hx => by simpa using hn x (by simpa using hx))]
theorem bytes_eq {a b : ByteArray} : (a.toList == b.toList) = true ↔ a.data.toList = b.data.toList := by
  rw [ByteArray.toList_eq, ByteArray.toList_eq, beq_iff_eq]
theorem lt_cell6 {w : World} {a : Addr} {v : Value} (h : w.cell? a = some v) : a.block < w.heap.size := by
  unfold World.cell? at h
  cases hb : w.heap[a.block]? with
  | none => rw [hb] at h; simp at h
  | some o => exact (Array.getElem?_eq_some_iff.1 hb).1
theorem nameT_at {k : Nat} (hk : k < 27) : nameT (k : Int) = (opName k).data.toList := by rw [nameT, nameOf_of rfl hk]
set_option maxHeartbeats 800000 in
theorem lit_any (t s : ByteArray) (A : Option Addr) (n c p : Nat) (w : World) (hp : w.cell? ⟨p, 0, none⟩ = some (.string s)) :
    Calls Tryz.prog 112 #[.agg #[.string t, .slice A n c], .pointer (some ⟨p, 0, none⟩)] w fun e w' => e = .returned (.bool (t.toList == s.toList)) ∧ Keeps w w' [] := by
  have hp2 : (w.alloc (.cells #[.string t, .slice A n c] 140)).cell? ⟨p, 0, none⟩ = some (.string s) := (((Keeps.refl w []).alloc _).cell (p := ⟨p, 0, none⟩) (lt_cell6 hp) (by simp)).trans hp
  go_enter Tryz.func112, Tryz.ntmps112
  go_wp2_with fail
  go_ret
  exact ⟨rfl, (Keeps.refl _ _).alloc _⟩
set_option maxHeartbeats 1600000 in
theorem index_any (s : ByteArray) (b p : Nat) (w : World) (hp : w.cell? ⟨p, 0, none⟩ = some (.string s)) (hs : s.data.toList ≠ [])
    (hrows : ∀ k, k < 27 → ∃ A, w.cell? ⟨b, k * 2, none⟩ = some (.string (opName k)) ∧ w.cell? ⟨b, k * 2 + 1, none⟩ = some (.slice A (opList k).length (opList k).length)) :
    Calls Tryz.prog 110 #[.slice (some ⟨b, 0, none⟩) 27 27, .func (.func 112) #[] #[.pointer (some ⟨p, 0, none⟩)]] w fun e w' => e = .returned (.int .i64 (namedT s.data.toList)) ∧ Keeps w w' [] := by
  have HS := Lib.hid hs
  have HR := Lib.hid hrows
  have HP := Lib.hid hp
  clear hs hrows hp
  go_enter Tryz.func110, Tryz.ntmps110
  go_wp2_with fail
  go_loopw [8] (fun i8 wr => ∃ j : Nat, j ≤ 27 ∧ i8 = .int .i64 j ∧ Keeps w wr [] ∧ ∀ i : Nat, i < j → nameT (i : Int) ≠ s.data.toList) (fun i8 _ => 27 - (intOf i8).toNat)
  case atStart => exact ⟨0, Nat.zero_le _, rfl, Keeps.refl _ _, fun i hi => absurd hi (Nat.not_lt_zero _)⟩
  case round =>
    obtain ⟨j, hj, rfl, hk, hno⟩ := hrel
    have HK := Lib.hid hk
    have HN := Lib.hid hno
    clear hk hno
    by_cases hlj : j < 27
    · obtain ⟨A, c0, c1⟩ := HR.out j hlj
      have q0 := (HK.out.cell (p := ⟨b, j * 2, none⟩) (lt_cell6 c0) (by simp)).trans c0
      have q1 := (HK.out.cell (p := ⟨b, j * 2 + 1, none⟩) (lt_cell6 c1) (by simp)).trans c1
      have HL := Lib.hid (lit_any (opName j) s A (opList j).length (opList j).length p wr ((HK.out.cell (p := ⟨p, 0, none⟩) (lt_cell6 HP.out) (by simp)).trans HP.out))
      clear c0 c1
      cases he : ((opName j).toList == s.toList) with
      | true =>
        rw [he] at HL
        have HE : Hid (namedT s.data.toList = j) := named_hit HS.out hlj ((nameT_at hlj).trans (bytes_eq.1 he)) HN.out
        clear he
        go_wp2_with (go_at_call 112; refine HL.out.mono ?_; rintro e w4 ⟨rfl, k4⟩)
        go_ret
        exact ⟨by rw [HE.out]; rfl, HK.out.trans k4⟩
      | false =>
        rw [he] at HL
        have HE : Hid (nameT (j : Int) ≠ s.data.toList) := by
          intro h
          rw [bytes_eq.2 ((nameT_at hlj).symm.trans h)] at he
          cases he
        clear he
        go_wp2_with (go_at_call 112; refine HL.out.mono ?_; rintro e w4 ⟨rfl, k4⟩)
        go_roundw
        case rel =>
          refine ⟨j + 1, by omega, by go_num, HK.out.trans k4, fun i hi => ?_⟩
          rcases Nat.lt_succ_iff_lt_or_eq.1 hi with h | rfl
          · exact HN.out i h
          · exact HE.out
        case measure => simp [intOf]; omega
    · obtain rfl : j = 27 := by omega
      have HE : Hid (namedT s.data.toList = -1) := named_miss HS.out HN.out
      go_wp2_with fail
      go_ret
      exact ⟨by rw [HE.out]; rfl, HK.out⟩
set_option maxHeartbeats 1600000 in
theorem named6_any (s : ByteArray) (w : World) : Calls Tryz.prog 80 #[.string s] w fun e w' => e = .returned (.int .i64 (namedT s.data.toList)) ∧ Keeps w w' [] := by
  have HB0 : Hid (Blk (w.alloc (.cells #[.string s] 9)) w.heap.size 9 #[.string s]) := Blk.new _ _ _
  have HK0 : Hid (Keeps w (w.alloc (.cells #[.string s] 9)) []) := (Keeps.refl _ []).alloc _
  by_cases hs : s.data.toList = []
  · have hd : s.toList.isEmpty = true := by rw [ByteArray.toList_eq, hs]; rfl
    have HE : Hid (namedT s.data.toList = -1) := if_pos hs
    clear hs
    go_enter Tryz.func80, Tryz.ntmps80
    go_wp2_with fail
    go_ret
    exact ⟨by rw [HE.out]; rfl, HK0.out⟩
  · have hd : s.toList.isEmpty = false := by rw [ByteArray.toList_eq]; simpa using hs
    have HS := Lib.hid hs
    clear hs
    go_enter Tryz.func80, Tryz.ntmps80
    go_wp2_with fail
    refine (rows_any _).mono ?_
    rintro e w2 ⟨b, rfl, kk, _, hrows⟩
    have HI := Lib.hid (index_any s b w.heap.size w2 ((HB0.out.keep kk (by simp)).cell 0) HS.out (fun k hk => by
      obtain ⟨A, c0, c1, _⟩ := hrows k hk
      exact ⟨A, c0, c1⟩))
    have HK := Lib.hid (HK0.out.trans kk)
    clear hrows kk
    go_wp2_with fail
    refine HI.out.mono ?_
    rintro e w3 ⟨rfl, k3⟩
    go_wp2_with fail
    go_ret
    exact ⟨rfl, HK.out.trans k3⟩
end Go.Proofs.YtpcihhdalofdiaaGreatDoor
