/- Is a term told? -/
import Derived.Test.YtjbomjnkjcafcaaDoorTmParse
import Derived.Test.YtjbomjnkjcafcaaDoorTmVars
import Derived.Test.YtjbomjnkjcafcaaDoorTmSize
namespace Go.Proofs.YtjbomjnkjcafcaaDoor
open Go.RowKit

theorem Keeps.ofDrewN (w : World) (k : Nat) : Keeps w (w.drewN k) [] := ⟨rfl, rfl, rfl, Nat.le_refl _, fun _ _ _ => rfl⟩
set_option maxHeartbeats 800000 in
theorem ints_same (l : List Int) (A B : Option Addr) (n c d : Nat) (w : World) (hl : l.length = n) (hn : n ≤ 65536) (hA : Nums .i64 w w.heap.size A l) (hB : Nums .i64 w w.heap.size B l) :
    Calls Tryd.prog 22 #[.slice A n c, .slice B n d] w fun e w' => e = .returned (.bool true) ∧ ∃ m, w' = w.drewN m := by
  have HL := Lib.hid hl
  have HA := Lib.hid hA
  have HB := Lib.hid hB
  clear hl hA hB
  go_enter Tryd.func22, Tryd.ntmps22
  go_wp2_with fail
  go_loopw [5] (fun i wr => ∃ j : Nat, j ≤ n ∧ i = .int .i64 j ∧ ∃ m, wr = w.drewN m) (fun i _ => n - (intOf i).toNat)
  case atStart => exact ⟨0, Nat.zero_le _, rfl, 0, rfl⟩
  case round =>
    obtain ⟨j, hj, rfl, hd⟩ := hrel
    have hkd : Keeps w wr [] := by
      obtain ⟨d, rfl⟩ := hd
      exact Keeps.ofDrewN _ _
    have HK := Lib.hid hkd
    have HD := Lib.hid hd
    clear hkd hd
    by_cases hlj : j < n
    · obtain ⟨b1, o1, x, rfl, hb1, hc1, hx1⟩ := HA.out j (by rw [HL.out]; exact hlj)
      obtain ⟨b2, o2, y, rfl, hb2, hc2, hx2⟩ := HB.out j (by rw [HL.out]; exact hlj)
      obtain rfl : x = y := Option.some.inj (hx1.symm.trans hx2)
      have q1 := (HK.out.cell (p := ⟨b1, o1 + j, none⟩) hb1 (by simp)).trans hc1
      have q2 := (HK.out.cell (p := ⟨b2, o2 + j, none⟩) hb2 (by simp)).trans hc2
      have i0 : (0 : Int) ≤ (j : Int) := Int.natCast_nonneg _
      have i1 : (j : Int) < (n : Int) := by omega
      clear hc1 hc2 hx1 hx2
      go_wp2_with fail
      go_quiet (fail)
      go_wp2_with fail
      go_roundw
      case rel =>
        obtain ⟨d, rfl⟩ := HD.out
        exact ⟨j + 1, by omega, by go_num, d + _, by rw [World.drewN_drewN]⟩
      case measure => simp [intOf]; omega
    · obtain rfl : n = j := by omega
      go_wp2_with fail
      go_ret
      exact ⟨rfl, HD.out⟩
def toldT : Tm := .mk 2 0 ⟨#[102]⟩ [.mk 0 1 ⟨#[]⟩ [], .mk 3 0 ⟨#[]⟩ [.mk 1 0 ⟨#[97]⟩ [], .mk 0 0 ⟨#[]⟩ []]]
theorem toldT_right : tRight toldT = true := by decide +kernel
theorem toldT_size : tSize toldT = 5 := rfl
theorem toldT_vars : tVars [toldT] = [1, 0] := by decide +kernel
theorem toldT_text : tText toldT = [102, 40, 88, 49, 44, 91, 97, 124, 88, 48, 93, 41] := by
  have h0 : tText (.mk 0 0 ⟨#[]⟩ []) = [88, 48] := by rw [tText, if_pos rfl]; show 88 :: Lib.decDigits 0 = _; rw [Lib.decDigits_one (by omega)]; rfl
  have h1 : tText (.mk 0 1 ⟨#[]⟩ []) = [88, 49] := by rw [tText, if_pos rfl]; show 88 :: Lib.decDigits 1 = _; rw [Lib.decDigits_one (by omega)]; rfl
  have h2 : tText (.mk 1 0 ⟨#[97]⟩ []) = [97] := by rw [tText, if_neg (by omega), if_pos rfl]
  have h3 : tText (.mk 3 0 ⟨#[]⟩ [.mk 1 0 ⟨#[97]⟩ [], .mk 0 0 ⟨#[]⟩ []]) = [91, 97, 124, 88, 48, 93] := by rw [tText, if_neg (by omega), if_neg (by omega), if_pos rfl, tTexts, tTexts, tTexts, h2, h0]; rfl
  rw [toldT, tText, if_neg (by omega), if_neg (by omega), if_neg (by omega), tTexts, tTexts, tTexts, h1, h3]
  rfl
theorem toldT_parse : parseP (ByteArray.mk #[102, 40, 88, 49, 44, 91, 97, 124, 88, 48, 93, 41]).data.toList = some toldT := by
  have h := parse_cmp numP_ok toldT_right
  rw [toldT_text] at h
  rw [parseP, if_neg (by decide)]
  exact h
theorem toldB_num : numP [48, 49, 41] = none := by
  rw [numP_some (v := 1) (by rfl), Lib.decDigits_one (by omega), if_neg (by decide)]
theorem toldB_parse : parseP (ByteArray.mk #[102, 40, 88, 48, 49, 41]).data.toList = none := by
  have e1 : (([102, 40, 88, 48, 49, 41] : Txt).dropWhile isAl).tail = [88, 48, 49, 41] := by decide
  have h1 : pTerm numP 6 [88, 48, 49, 41] = none := by
    rw [pTerm, if_pos (show ([88, 48, 49, 41] : Txt).head? = some 88 from rfl)]
    show (numP [48, 49, 41]).bind _ = none
    rw [toldB_num]
    rfl
  have h2 : pTerm numP 7 [102, 40, 88, 48, 49, 41] = none := by
    rw [pTerm, if_neg (by decide), if_neg (by decide), if_neg (by decide), if_pos (by decide), e1, h1]
    rfl
  rw [parseP, if_neg (by decide)]
  show parseTm numP [102, 40, 88, 48, 49, 41] = none
  rw [parseTm]
  show (match pTerm numP 7 [102, 40, 88, 48, 49, 41] with | some (t, []) => if tRight t then some t else none | _ => none) = none
  rw [h2]

attribute [local irreducible] toldT parseP
set_option maxRecDepth 100000 in
set_option maxHeartbeats 3200000 in
theorem told3_any (w : World) (h : St w) : Calls Tryd.prog 7 #[] w fun e w' => e = .returned (.bool true) ∧ Keeps w w' [] := by
  have HSt := Lib.hid h
  have hp1 := parse_any ⟨#[102, 40, 88, 49, 44, 91, 97, 124, 88, 48, 93, 41]⟩ w h
  rw [toldT_parse] at hp1
  have HP1 := Lib.hid hp1
  have HP2 : Hid (∀ w, St w → Calls Tryd.prog 13 #[.string ⟨#[102, 40, 88, 48, 49, 41]⟩] w (ParseDone w none)) := fun w hw => by
    have := parse_any ⟨#[102, 40, 88, 48, 49, 41]⟩ w hw
    rw [toldB_parse] at this
    exact this
  have HTx : Hid (∀ v w, Tr w (fun _ => True) toldT v → St w → Calls Tryd.prog 15 #[tvV v] w fun e w' => e = .returned (.string ⟨#[102, 40, 88, 49, 44, 91, 97, 124, 88, 48, 93, 41]⟩) ∧ Keeps w w' []) := fun v w ht hs => by
    have := text_any toldT v w ht toldT_right (by rw [toldT_size]; omega) hs.tab
    rw [toldT_text] at this
    exact this
  have HSz : Hid (∀ v w, Tr w (fun _ => True) toldT v → Calls Tryd.prog 20 #[tvV v] w fun e w' => e = .returned (.int .i64 5) ∧ Keeps w w' []) := fun v w ht => by
    have := size_any toldT v w ht (by rw [toldT_size]; omega)
    rw [toldT_size] at this
    exact this
  have HRt : Hid (∀ v w, Tr w (fun _ => True) toldT v → Calls Tryd.prog 9 #[tvV v] w fun e w' => e = .returned (.bool true) ∧ Keeps w w' []) := fun v w ht => by
    have := right_any toldT v w ht
    rw [toldT_right] at this
    exact this
  have HVs : Hid (∀ v A w, Tr w (fun _ => True) toldT v → Rd w A ([v].flatMap tvE) → Calls Tryd.prog 23 #[.slice A 1 1] w fun e w' => ∃ A' c', e = .returned (.slice A' 2 c') ∧ Nums .i64 w' w'.heap.size A' [1, 0] ∧ Keeps w w' []) := fun v A w ht hr => by
    have := vars_any [toldT] [v] A 1 1 w ⟨rfl, fun j t u h1 h2 => by
      cases j with
      | zero => simp at h1 h2; subst h1 h2; exact ht
      | succ j => simp at h1⟩ hr rfl (by simp [tSizes, toldT_size])
    rw [toldT_vars] at this
    exact this
  clear h hp1
  unfold ParseDone at HP1 HP2
  go_enter Tryd.func7, Tryd.ntmps7
  go_wp2_with fail
  refine HP1.out.mono ?_
  rintro e w1 ⟨v1, rfl, ht1, k1⟩
  have HT1 : Hid (Tr (w1.alloc (.cells #[.int .i64 v1.k, .int .i64 v1.n, .string v1.s, .slice v1.A v1.len v1.c] 29)) (fun _ => True) toldT v1) := (ht1.mono fun _ _ => trivial).keep ((Keeps.refl w1 []).alloc _)
  have HG1 : Hid (Blk (w1.alloc (.cells #[.int .i64 v1.k, .int .i64 v1.n, .string v1.s, .slice v1.A v1.len v1.c] 29)) w1.heap.size 29 #[.int .i64 v1.k, .int .i64 v1.n, .string v1.s, .slice v1.A v1.len v1.c]) := Blk.new _ _ _
  have HK1 := Lib.hid (k1.alloc (.cells #[.int .i64 v1.k, .int .i64 v1.n, .string v1.s, .slice v1.A v1.len v1.c] 29))
  unfold tvV
  clear ht1 k1 HP1
  go_wp2_with fail
  refine (HP2.out _ (HSt.out.keep HK1.out)).mono ?_
  rintro e w2 ⟨v2, rfl, ht2, k2⟩
  have K2 := k2.alloc (.cells #[.int .i64 v2.k, .int .i64 v2.n, .string v2.s, .slice v2.A v2.len v2.c] 29)
  have HT2 := Lib.hid (HT1.out.keep K2)
  have HG2 := Lib.hid (HG1.out.keep K2 (by simp))
  have HK2 := Lib.hid (HK1.out.trans K2)
  unfold tvV
  have hg := HG2.out
  have g0 := hg.cell 0
  have g1 := hg.cell 1
  have g2 := hg.cell 2
  have g3 := hg.cell 3
  clear ht2 k2 K2 hg HT1 HG1 HK1
  go_wp2_with fail
  refine (HSz.out v1 _ HT2.out).mono ?_
  rintro e w3 ⟨rfl, k3⟩
  have HT3 := Lib.hid (HT2.out.keep k3)
  have HG3 := Lib.hid (HG2.out.keep k3 (by simp))
  have HK3 := Lib.hid (HK2.out.trans k3)
  have hg := HG3.out
  clear g0 g1 g2 g3
  have g0 := hg.cell 0
  have g1 := hg.cell 1
  have g2 := hg.cell 2
  have g3 := hg.cell 3
  clear k3 hg HT2 HG2 HK2
  go_wp2_with fail
  refine (HTx.out v1 _ HT3.out (HSt.out.keep HK3.out)).mono ?_
  rintro e w4 ⟨rfl, k4⟩
  have K4 := k4.alloc (.cells #[.int .i64 v1.k, .int .i64 v1.n, .string v1.s, .slice v1.A v1.len v1.c] 29)
  have HT4 := Lib.hid (HT3.out.keep K4)
  have HG4 := Lib.hid (HG3.out.keep K4 (by simp))
  have HG4' := Lib.hid (HG3.out.keep k4 (by simp))
  have HK4 := Lib.hid (HK3.out.trans K4)
  have HR4 : Hid (Rd (w4.alloc (.cells #[.int .i64 v1.k, .int .i64 v1.n, .string v1.s, .slice v1.A v1.len v1.c] 29)) (some ⟨w4.heap.size, 0, none⟩) ([v1].flatMap tvE)) := by rw [show ([v1] : List TV).flatMap tvE = tvE v1 by simp]; exact Rd.one w4 29 (tvE v1)
  have hg := HG4'.out
  clear g0 g1 g2 g3
  have g0 := hg.cell 0
  have g1 := hg.cell 1
  have g2 := hg.cell 2
  have g3 := hg.cell 3
  clear k4 K4 hg HT3 HG3 HK3 HG4'
  go_wp2_with fail
  refine (HVs.out v1 _ _ HT4.out HR4.out).mono ?_
  rintro e w5 ⟨A', c', rfl, hn, k5⟩
  have K5 := k5.alloc (.cells #[.int .i64 1, .int .i64 0] 3)
  have HN5 : Hid (Nums .i64 (w5.alloc (.cells #[.int .i64 1, .int .i64 0] 3)) (w5.alloc (.cells #[.int .i64 1, .int .i64 0] 3)).heap.size A' [1, 0]) := (hn.alloc (Nat.le_refl _) _).more (by simp)
  have HM5 : Hid (Nums .i64 (w5.alloc (.cells #[.int .i64 1, .int .i64 0] 3)) (w5.alloc (.cells #[.int .i64 1, .int .i64 0] 3)).heap.size (some ⟨w5.heap.size, 0, none⟩) [1, 0]) := (Nums.lit w5 3 (0, 0) [1, 0] rfl).more (by simp)
  have HT5 := Lib.hid (HT4.out.keep K5)
  have HG5 := Lib.hid (HG4.out.keep K5 (by simp))
  have HK5 := Lib.hid (HK4.out.trans K5)
  clear hn k5 K5 HT4 HG4 HK4 HR4 g0 g1 g2 g3
  go_wp2_with fail
  refine (ints_same [1, 0] A' (some ⟨w5.heap.size, 0, none⟩) 2 _ _ _ rfl (by omega) HN5.out HM5.out).mono ?_
  rintro e w6 ⟨rfl, m6, rfl⟩
  have HT6 := Lib.hid (HT5.out.keep (Keeps.ofDrewN _ m6))
  have hg := HG5.out.keep (Keeps.ofDrewN _ m6) (by simp)
  have g0 := hg.cell 0
  have g1 := hg.cell 1
  have g2 := hg.cell 2
  have g3 := hg.cell 3
  clear hg
  go_wp2_with fail
  refine (HRt.out v1 _ HT6.out).mono ?_
  rintro e w7 ⟨rfl, k7⟩
  go_wp2_with fail
  go_ret
  exact ⟨rfl, (HK5.out.trans (Keeps.ofDrewN _ m6)).trans k7⟩
end Go.Proofs.YtjbomjnkjcafcaaDoor
