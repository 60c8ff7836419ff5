/- The laws' helpers: To, From, Ints; is an instruction told? -/
import Derived.Test.YtiimlajhofikeaaDoorTxtK
import Derived.Test.YtiimlajhofikeaaDoorText
import Derived.Test.YtiimlajhofikeaaDoorEqArr
namespace Go.Proofs.YtiimlajhofikeaaDoor
open Go.RowKit

set_option maxHeartbeats 400000 in
theorem insTo6_any (i : LIns) (w : World) : Calls Tryd.prog 8 #[insV i] w fun e w' => e = .returned (insV i) ∧ Keeps w w' [] := by
  unfold insV
  go_enter Tryd.func8, Tryd.ntmps8
  go_wp2_with fail
  exact bodyPost_ret (v := .agg #[.int .i64 i.op, .int .i64 i.a0, .int .i64 i.a1, .int .i64 i.a2, .int .i64 i.a3]) (by simp [results, Tryd.results8, go_sem]) rfl ⟨rfl, ((Keeps.refl _ _).alloc _).alloc _⟩
set_option maxHeartbeats 400000 in
theorem insFrom6_any (i : LIns) (w : World) : Calls Tryd.prog 18 #[insV i] w fun e w' => e = .returned (insV i) ∧ Keeps w w' [] := by
  unfold insV
  go_enter Tryd.func18, Tryd.ntmps18
  go_wp2_with fail
  exact bodyPost_ret (v := .agg #[.int .i64 i.op, .int .i64 i.a0, .int .i64 i.a1, .int .i64 i.a2, .int .i64 i.a3]) (by simp [results, Tryd.results18, go_sem]) rfl ⟨rfl, ((Keeps.refl _ _).alloc _).alloc _⟩
set_option maxHeartbeats 800000 in
theorem ints_same (l : List Int) (A B : Option Addr) (n c d : Nat) (w : World) (hl : l.length = n) (hn : n ≤ 65536) (hA : Nums .i64 w w.heap.size A l) (hB : Nums .i64 w w.heap.size B l) :
    Calls Tryd.prog 10 #[.slice A n c, .slice B n d] w fun e w' => e = .returned (.bool true) ∧ ∃ m, w' = w.drewN m := by
  have HL := Lib.hid hl
  have HA := Lib.hid hA
  have HB := Lib.hid hB
  clear hl hA hB
  go_enter Tryd.func10, Tryd.ntmps10
  go_wp2_with fail
  go_loopw [5] (fun i wr => ∃ j : Nat, j ≤ n ∧ i = .int .i64 j ∧ ∃ m, wr = w.drewN m) (fun i _ => n - (intOf i).toNat)
  case atStart => exact ⟨0, Nat.zero_le _, rfl, 0, rfl⟩
  case round =>
    obtain ⟨j, hj, rfl, hd⟩ := hrel
    have hkd : Keeps w wr [] := by
      obtain ⟨d, rfl⟩ := hd
      exact Keeps.ofDrewN _ _
    have HK := Lib.hid hkd
    have HD := Lib.hid hd
    clear hkd hd
    by_cases hlj : j < n
    · obtain ⟨b1, o1, x, rfl, hb1, hc1, hx1⟩ := HA.out j (by rw [HL.out]; exact hlj)
      obtain ⟨b2, o2, y, rfl, hb2, hc2, hx2⟩ := HB.out j (by rw [HL.out]; exact hlj)
      obtain rfl : x = y := Option.some.inj (hx1.symm.trans hx2)
      have q1 := (HK.out.cell (p := ⟨b1, o1 + j, none⟩) hb1 (by simp)).trans hc1
      have q2 := (HK.out.cell (p := ⟨b2, o2 + j, none⟩) hb2 (by simp)).trans hc2
      have i0 : (0 : Int) ≤ (j : Int) := Int.natCast_nonneg _
      have i1 : (j : Int) < (n : Int) := by omega
      clear hc1 hc2 hx1 hx2
      go_wp2_with fail
      go_quiet (fail)
      go_wp2_with fail
      go_roundw
      case rel =>
        obtain ⟨d, rfl⟩ := HD.out
        exact ⟨j + 1, by omega, by go_num, d + _, by rw [World.drewN_drewN]⟩
      case measure => simp [intOf]; omega
    · obtain rfl : n = j := by omega
      go_wp2_with fail
      go_ret
      exact ⟨rfl, HD.out⟩
theorem one_digit {n : Nat} (h : n < 10) : Lib.decDigits n = [UInt8.ofNat (48 + n)] := Lib.decDigits_one h
theorem txt_getvar : insTxt ⟨1, 17, 2, 0, 0⟩ = [103, 101, 116, 118, 97, 114, 32, 89, 49, 32, 88, 50] := by
  have hok : insOk ⟨1, 17, 2, 0, 0⟩ = true := by decide +kernel
  have hw : wordsOf ⟨1, 17, 2, 0, 0⟩ = [nameT 1, opTxt 1 17, opTxt 2 2] := rfl
  have h1 : opTxt 1 17 = [89, 49] := by
    show 89 :: Lib.decDigits 1 = _
    rw [one_digit (by omega)]; rfl
  have h2 : opTxt 2 2 = [88, 50] := by
    show 88 :: Lib.decDigits 2 = _
    rw [one_digit (by omega)]; rfl
  rw [insTxt, if_pos hok, hw, h1, h2]
  rfl
theorem ok_switch : insOk ⟨26, 3, 65535, 4, 5⟩ = true := by decide +kernel
theorem txt_switch : insTxt ⟨26, 3, 65535, 4, 5⟩ = [115, 119, 105, 116, 99, 104, 32, 51, 32, 45, 32, 52, 32, 53] := by
  have hw : wordsOf ⟨26, 3, 65535, 4, 5⟩ = [nameT 26, opTxt 8 3, opTxt 8 65535, opTxt 8 4, opTxt 8 5] := rfl
  have h (n : Nat) (hn : n < 10) : opTxt 8 n = [UInt8.ofNat (48 + n)] := by
    rw [opTxt, if_neg (by omega), if_neg (by omega), if_neg (by omega), if_neg (by omega), one_digit hn]
  have hd : opTxt 8 65535 = [45] := rfl
  rw [insTxt, if_pos ok_switch, hw, h 3 (by omega), h 4 (by omega), h 5 (by omega), hd]
  rfl
theorem named_trust : namedT [116, 114, 117, 115, 116] = 22 := by decide +kernel
theorem kinds_switch : (kindsOf 26).length = 4 := by decide +kernel
theorem ok_getvar : insOk ⟨1, 17, 2, 0, 0⟩ = true := by decide +kernel
attribute [local irreducible] kindsOf nameOf insTxt namedT opP
set_option maxRecDepth 100000 in
set_option maxHeartbeats 3200000 in
theorem told6_any (w : World) (h : St w) : Calls Tryd.prog 6 #[] w fun e w' => e = .returned (.bool true) ∧ Keeps w w' [] := by
  have HSt := Lib.hid h
  clear h
  have HK0 : Hid (Keeps w (w.alloc (.cells #[.int .i64 17, .int .i64 2] 3)) []) := (Keeps.refl w []).alloc _
  have HM : Hid (Calls Tryd.prog 17 #[.int .i64 1, .slice (some ⟨w.heap.size, 0, none⟩) 2 2] (w.alloc (.cells #[.int .i64 17, .int .i64 2] 3)) fun e w' => e = .returned (.agg #[.int .i64 1, .int .i64 17, .int .i64 2, .int .i64 0, .int .i64 0]) ∧ Keeps (w.alloc (.cells #[.int .i64 17, .int .i64 2] 3)) w' []) := Lib.hid (make6_any 1 (some ⟨w.heap.size, 0, none⟩) 2 [17, 2] (w.alloc (.cells #[.int .i64 17, .int .i64 2] 3)) (by
    have hb : Blk (w.alloc (.cells #[.int .i64 17, .int .i64 2] 3)) w.heap.size 3 #[.int .i64 17, .int .i64 2] := Blk.new _ _ _
    exact Nums.of_blk [17, 2] hb rfl))
  have hp : parseT opP (⟨#[115, 119, 105, 116, 99, 104, 32, 51, 32, 45, 32, 52, 32, 53]⟩ : ByteArray).data.toList = (⟨26, 3, 65535, 4, 5⟩, 0) := by
    have := parse_of (f := opP) opP_txt ok_switch (by rw [txt_switch]; simp)
    rw [txt_switch] at this
    exact this
  have HP : Hid (∀ w, St w → Calls Tryd.prog 20 #[.string ⟨#[115, 119, 105, 116, 99, 104, 32, 51, 32, 45, 32, 52, 32, 53]⟩] w fun e w' => e = .returned (.tuple #[.agg #[.int .i64 26, .int .i64 3, .int .i64 65535, .int .i64 4, .int .i64 5], .int .i64 0]) ∧ Keeps w w' []) := fun w hw => by
    have := parse6_any ⟨#[115, 119, 105, 116, 99, 104, 32, 51, 32, 45, 32, 52, 32, 53]⟩ (by decide) w hw
    rw [hp] at this
    exact this
  have HT : Hid (∀ w, St w → Calls Tryd.prog 15 #[.agg #[.int .i64 1, .int .i64 17, .int .i64 2, .int .i64 0, .int .i64 0]] w fun e w' => e = .returned (.string ⟨#[103, 101, 116, 118, 97, 114, 32, 89, 49, 32, 88, 50]⟩) ∧ Keeps w w' []) := fun w hw => by
    have := ptext_any ⟨1, 17, 2, 0, 0⟩ w hw.tab
    rw [txt_getvar] at this
    exact this
  have HR : Hid (∀ w, Calls Tryd.prog 7 #[.agg #[.int .i64 1, .int .i64 17, .int .i64 2, .int .i64 0, .int .i64 0]] w fun e w' => e = .returned (.bool true) ∧ Keeps w w' []) := fun w => by
    have := right6_any ⟨1, 17, 2, 0, 0⟩ w
    rw [ok_getvar] at this
    exact this
  have HN : Hid (∀ w, Calls Tryd.prog 22 #[.string ⟨#[116, 114, 117, 115, 116]⟩] w fun e w' => e = .returned (.int .i64 22) ∧ Keeps w w' []) := fun w => by
    have := named6_any ⟨#[116, 114, 117, 115, 116]⟩ w
    rw [named_trust] at this
    exact this
  have HO : Hid (∀ w, Calls Tryd.prog 11 #[.int .i64 26] w fun e w' => (∃ A c, e = .returned (.slice A 4 c)) ∧ Keeps w w' []) := fun w => (kindsF_any 26 w).mono (by
    rintro e w' ⟨A, c, rfl, _, k, _⟩
    exact ⟨⟨A, c, by rw [kinds_switch]⟩, k⟩)
  clear hp
  go_enter Tryd.func6, Tryd.ntmps6
  go_wp2_with fail
  refine HM.out.mono ?_
  rintro e w1 ⟨rfl, k1⟩
  have K1 := HK0.out.trans k1
  have HB1 : Hid (Blk (w1.alloc (.cells #[.int .i64 1, .int .i64 17, .int .i64 2, .int .i64 0, .int .i64 0] 27)) w1.heap.size 27 #[.int .i64 1, .int .i64 17, .int .i64 2, .int .i64 0, .int .i64 0]) := Blk.new _ _ _
  have HK1 := Lib.hid (K1.alloc (.cells #[.int .i64 1, .int .i64 17, .int .i64 2, .int .i64 0, .int .i64 0] 27))
  clear k1 K1
  go_wp2_with fail
  refine (HP.out _ (HSt.out.keep HK1.out)).mono ?_
  rintro e w2 ⟨rfl, k2⟩
  have HB2 : Hid (Blk (w2.alloc (.cells #[.int .i64 26, .int .i64 3, .int .i64 65535, .int .i64 4, .int .i64 5] 27)) w2.heap.size 27 #[.int .i64 26, .int .i64 3, .int .i64 65535, .int .i64 4, .int .i64 5]) := Blk.new _ _ _
  have HA2 := Lib.hid ((HB1.out.keep k2 (by simp)).alloc (.cells #[.int .i64 26, .int .i64 3, .int .i64 65535, .int .i64 4, .int .i64 5] 27))
  have HK2 := Lib.hid ((HK1.out.trans k2).alloc (.cells #[.int .i64 26, .int .i64 3, .int .i64 65535, .int .i64 4, .int .i64 5] 27))
  have p0 := HA2.out.cell 0
  have p1 := HA2.out.cell 1
  have p2 := HA2.out.cell 2
  have p3 := HA2.out.cell 3
  have p4 := HA2.out.cell 4
  clear k2
  go_wp2_with fail
  refine (HT.out _ (HSt.out.keep HK2.out)).mono ?_
  rintro e w3 ⟨rfl, k3⟩
  have q0 := (HA2.out.keep k3 (by simp)).cell 0
  have q1 := (HA2.out.keep k3 (by simp)).cell 1
  have q2 := (HA2.out.keep k3 (by simp)).cell 2
  have q3 := (HA2.out.keep k3 (by simp)).cell 3
  have q4 := (HA2.out.keep k3 (by simp)).cell 4
  have HB3 := Lib.hid (HB2.out.keep k3 (by simp))
  have HK3 := Lib.hid (HK2.out.trans k3)
  clear k3 p0 p1 p2 p3 p4
  go_wp2_with fail
  refine (HR.out _).mono ?_
  rintro e w4 ⟨rfl, k4⟩
  have r0 := (HB3.out.keep k4 (by simp)).cell 0
  have r2 := (HB3.out.keep k4 (by simp)).cell 2
  have HK4 := Lib.hid (HK3.out.trans k4)
  clear k4 q0 q1 q2 q3 q4
  go_wp2_with fail
  refine (HN.out _).mono ?_
  rintro e w5 ⟨rfl, k5⟩
  go_wp2_with fail
  refine (HO.out _).mono ?_
  rintro e w6 ⟨⟨A, c, rfl⟩, k6⟩
  go_wp2_with fail
  go_ret
  exact ⟨rfl, (HK4.out.trans k5).trans k6⟩
end Go.Proofs.YtiimlajhofikeaaDoor
