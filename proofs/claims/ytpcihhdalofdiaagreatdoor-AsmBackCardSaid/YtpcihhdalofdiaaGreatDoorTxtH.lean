/- Instructions in words: the document's operand, Text. -/
import Derived.Test.YtpcihhdalofdiaaGreatDoorTxtG
namespace Go.Proofs.YtpcihhdalofdiaaGreatDoor
open Go.RowKit

theorem Keeps.ofDrewN (w : World) (k : Nat) : Keeps w (w.drewN k) [] := ⟨rfl, rfl, rfl, Nat.le_refl _, fun _ _ _ => rfl⟩
set_option maxHeartbeats 1600000 in
theorem refOperand_any (k n : Nat) (hn : n ≤ 65535) (w : World) :
    Calls Tryz.prog 101 #[.int .i64 k, .int .i64 n] w fun e w' => e = .returned (.string (stB (opTxt k n))) ∧ ∃ m, w' = w.drewN m := by
  have num := fun (n : Nat) (hn : n ≤ 65535) (w : World) => num_any n w (by omega)
  by_cases h1 : k = 1
  · subst h1
    have d1 : (((1 : Nat) : Int) == 1) = true := rfl
    by_cases h16 : 16 ≤ n
    · have d2 : decide (16 ≤ (n : Int)) = true := by simp only [decide_eq_true_eq]; omega
      have HV : Hid (opTxt 1 n = 89 :: Lib.decDigits (n - 16)) := if_pos ⟨rfl, h16⟩
      have hi := num (n - 16) (by omega) w
      rw [show (((n - 16 : Nat) : Int)) = (n : Int) - 16 by omega] at hi
      have HI := Lib.hid hi
      have ha := add_one (n := n - 16) 89 (by omega)
      clear hi num
      go_enter Tryz.func101, Tryz.ntmps101
      go_wp2_with fail
      refine HI.out.mono ?_
      rintro e w1 ⟨rfl, m, rfl⟩
      rw [digits_stB]
      go_wp2_with fail
      go_ret
      exact ⟨by rw [HV.out]; rfl, m, rfl⟩
    · have d2 : decide (16 ≤ (n : Int)) = false := by simp only [decide_eq_false_iff_not]; omega
      have HV : Hid (opTxt 1 n = 88 :: Lib.decDigits n) := by show _ = _; rw [opTxt, if_neg (fun h => h16 h.2), if_pos (.inl rfl)]
      have HI := Lib.hid (num n hn w)
      have ha := add_one (n := n) 88 hn
      clear num
      go_enter Tryz.func101, Tryz.ntmps101
      go_wp2_with fail
      refine HI.out.mono ?_
      rintro e w1 ⟨rfl, m, rfl⟩
      rw [digits_stB]
      go_wp2_with fail
      go_ret
      exact ⟨by rw [HV.out]; rfl, m, rfl⟩
  have d1 : ((k : Int) == 1) = false := by simp; omega
  by_cases h2 : k = 2
  · have d2 : ((k : Int) == 2) = true := by simp; omega
    have HV : Hid (opTxt k n = 88 :: Lib.decDigits n) := by show _ = _; rw [opTxt, if_neg (fun h => h1 h.1), if_pos (.inr h2)]
    have HI := Lib.hid (num n hn w)
    have ha := add_one (n := n) 88 hn
    clear num
    go_enter Tryz.func101, Tryz.ntmps101
    go_wp2_with fail
    refine HI.out.mono ?_
    rintro e w1 ⟨rfl, m, rfl⟩
    rw [digits_stB]
    go_wp2_with fail
    go_ret
    exact ⟨by rw [HV.out]; rfl, m, rfl⟩
  have d2 : ((k : Int) == 2) = false := by simp; omega
  by_cases h9 : k = 9
  · have d3 : ((k : Int) == 9) = true := by simp; omega
    have HV : Hid (opTxt k n = 89 :: Lib.decDigits n) := by show _ = _; rw [opTxt, if_neg (fun h => h1 h.1), if_neg (by omega), if_pos h9]
    have HI := Lib.hid (num n hn w)
    have ha := add_one (n := n) 89 hn
    clear num
    go_enter Tryz.func101, Tryz.ntmps101
    go_wp2_with fail
    refine HI.out.mono ?_
    rintro e w1 ⟨rfl, m, rfl⟩
    rw [digits_stB]
    go_wp2_with fail
    go_ret
    exact ⟨by rw [HV.out]; rfl, m, rfl⟩
  have d3 : ((k : Int) == 9) = false := by simp; omega
  by_cases h6 : n = 65535
  · have d4 : ((n : Int) == 65535) = true := by simp; omega
    have HV : Hid (opTxt k n = [45]) := by show _ = _; rw [opTxt, if_neg (fun h => h1 h.1), if_neg (by omega), if_neg h9, if_pos h6]
    clear num
    go_enter Tryz.func101, Tryz.ntmps101
    go_wp2_with fail
    go_ret
    exact ⟨by rw [HV.out]; rfl, 0, rfl⟩
  · have d4 : ((n : Int) == 65535) = false := by simp; omega
    have HV : Hid (opTxt k n = Lib.decDigits n) := by show _ = _; rw [opTxt, if_neg (fun h => h1 h.1), if_neg (by omega), if_neg h9, if_neg h6]
    have HI := Lib.hid (num n hn w)
    clear num
    go_enter Tryz.func101, Tryz.ntmps101
    go_wp2_with fail
    refine HI.out.mono ?_
    rintro e w1 ⟨rfl, m, rfl⟩
    rw [digits_stB]
    go_wp2_with fail
    go_ret
    exact ⟨by rw [HV.out]; rfl, m, rfl⟩
theorem joinT_snoc (w : Txt) : ∀ ws : List Txt, ws ≠ [] → joinT (ws ++ [w]) = joinT ws ++ 32 :: w
  | [], h => absurd rfl h
  | [x], _ => rfl
  | x :: y :: l, _ => by
    have ih := joinT_snoc w (y :: l) (by simp)
    rw [List.cons_append, List.cons_append, joinT, joinT, ← List.cons_append, ih, List.append_assoc]
    rfl
theorem joinT_step {ws : List Txt} {j : Nat} {w : Txt} (h : ws[j + 1]? = some w) : joinT (ws.take (j + 1 + 1)) = joinT (ws.take (j + 1)) ++ 32 :: w := by
  have hl := (List.getElem?_eq_some_iff.1 h).1
  rw [List.take_add_one (i := j + 1), h]
  exact joinT_snoc w _ (fun h0 => by
    have h1 : min (j + 1) ws.length = 0 := by rw [← List.length_take, h0]; rfl
    omega)
theorem joinT_take_len {M : Nat} {ws : List Txt} (h : ∀ w ∈ ws, w.length ≤ M) (j : Nat) : (joinT (ws.take j)).length ≤ ws.length * (M + 1) :=
  Nat.le_trans (joinT_len _ (fun w hw => h w (List.mem_of_mem_take hw))) (Nat.mul_le_mul_right _ (by rw [List.length_take]; omega))
attribute [local irreducible] kindsOf nameOf wordsOf opTxt
theorem words_j {i : LIns} {j q : Nat} (hy : (kindsOf i.op)[j]? = some (q : Int)) : joinT ((wordsOf i).take (j + 1 + 1)) = joinT ((wordsOf i).take (j + 1)) ++ 32 :: opTxt q (i.arg j).toNat := joinT_step (words_at hy)
set_option maxRecDepth 100000 in
set_option maxHeartbeats 1600000 in
theorem refText_any (i : LIns) (w : World) : Calls Tryz.prog 72 #[insV i] w fun e w' => e = .returned (.string (stB (insTxt i))) ∧ Keeps w w' [] := by
  have HB0 : Hid (Blk (w.alloc (.cells #[.int .i64 i.op, .int .i64 i.a0, .int .i64 i.a1, .int .i64 i.a2, .int .i64 i.a3] 72)) w.heap.size 72 #[.int .i64 i.op, .int .i64 i.a0, .int .i64 i.a1, .int .i64 i.a2, .int .i64 i.a3]) := Blk.new _ _ _
  have HK0 : Hid (Keeps w (w.alloc (.cells #[.int .i64 i.op, .int .i64 i.a0, .int .i64 i.a1, .int .i64 i.a2, .int .i64 i.a3] 72)) []) := (Keeps.refl _ []).alloc _
  have HR := Lib.hid (refRight6_any i)
  unfold insV at HR ⊢
  go_enter Tryz.func72, Tryz.ntmps72
  cases hok : insOk i with
  | false =>
    have HV : Hid (insTxt i = []) := by show _ = _; rw [insTxt, if_neg (by rw [hok]; simp)]
    rw [hok] at HR
    go_wp2_with (go_at_call 69; refine (HR.out _).mono ?_; rintro e w1 ⟨rfl, k1⟩)
    go_ret
    exact ⟨by rw [HV.out]; rfl, HK0.out.trans k1⟩
  | true =>
    have HV : Hid (insTxt i = joinT (wordsOf i)) := if_pos hok
    have HArg := Lib.hid (fun (k : Nat) hk => insOk_arg6 hok (k := k) hk)
    have HLen := Lib.hid (joinT_take_len (words_len hok))
    have HCnt := Lib.hid (words_count i)
    rw [hok] at HR
    clear hok
    go_wp2_with (go_at_call 69; refine (HR.out _).mono ?_; rintro e w1 ⟨rfl, k1⟩; have HB1 := Lib.hid (HB0.out.keep k1 (by simp)); have HK1 := Lib.hid (HK0.out.trans k1); have p0 := HB1.out.cell 0; clear k1 HB0 HK0)
    refine (refName6_any i.op _).mono ?_
    rintro e w2 ⟨rfl, k2⟩
    have HB2 := Lib.hid (HB1.out.keep k2 (by simp))
    have HK2 := Lib.hid (HK1.out.trans k2)
    have p0' := HB2.out.cell 0
    clear k2 p0 HB1 HK1
    go_wp2_with fail
    refine (refKindsF_any i.op _).mono ?_
    rintro e w3 ⟨A5, c5, rfl, hN, k3, hfr⟩
    have HB3 := Lib.hid (HB2.out.keep k3 (by simp))
    have HK3 := Lib.hid (HK2.out.trans k3)
    have HN := Lib.hid hN
    have hfew := kinds_few i.op
    have HWs : Hid (∀ (j q : Nat), (kindsOf i.op)[j]? = some (q : Int) → joinT ((wordsOf i).take (j + 1 + 1)) = joinT ((wordsOf i).take (j + 1)) ++ 32 :: opTxt q (i.arg j).toNat) := fun j q h => words_j h
    have HW0 : Hid (stB (joinT ((wordsOf i).take 1)) = nameOf i.op) := by show _ = _; rw [words_one, joinT, nameT, stB_of]
    obtain ⟨m, hm⟩ : ∃ m, (kindsOf i.op).length = m := ⟨_, rfl⟩
    have hwl : (wordsOf i).length = m + 1 := by rw [words_num, hm]
    rw [hm] at hfew ⊢
    have HM := Lib.hid hm
    clear k3 hN hm p0' HB2 HK2 hfr
    go_wp2_with fail
    go_loopw [3, 5] (fun v i9 wr => ∃ j : Nat, j ≤ m ∧ i9 = .int .i64 j ∧ v = .string (stB (joinT ((wordsOf i).take (j + 1)))) ∧ ∃ d, wr = w3.drewN d) (fun _ i9 _ => m - (intOf i9).toNat)
    case atStart => exact ⟨0, Nat.zero_le _, rfl, by rw [HW0.out], 0, rfl⟩
    case round =>
      obtain ⟨j, hj, rfl, rfl, hd⟩ := hrel
      have hkd : Keeps w3 wr [] := by
        obtain ⟨d, rfl⟩ := hd
        exact Keeps.ofDrewN _ _
      have HK := Lib.hid hkd
      have HD := Lib.hid hd
      clear hkd hd
      by_cases hlj : j < m
      · obtain ⟨b7, off7, y, hA7, hb7, hc7, hy⟩ := HN.out j (by rw [HM.out]; exact hlj)
        subst hA7
        have hx1 := kinds_mem i.op y (List.mem_of_getElem? hy)
        obtain ⟨q, rfl⟩ := Int.eq_ofNat_of_zero_le (show 0 ≤ y by omega)
        have q1 := (HK.out.cell (p := ⟨b7, off7 + j, none⟩) hb7 (by simp)).trans hc7
        have q2 := ins_cell (HB3.out.keep HK.out (by simp)) j (by omega)
        have ha := HArg.out j (by rw [HM.out]; exact hlj)
        have HWj := Lib.hid (HWs.out j q hy)
        obtain ⟨nv, hnv⟩ := Int.eq_ofNat_of_zero_le ha.1
        rw [hnv] at q2 ha
        have hn2 : (i.arg j).toNat = nv := by omega
        rw [hn2] at HWj
        have b0 : (0 : Int) ≤ (j : Int) := Int.natCast_nonneg _
        have b1 : (j : Int) < (m : Int) := by omega
        have b4 : (j : Int) < 4 := by omega
        have HTx := Lib.hid (refOperand_any q nv (by omega))
        have hl1 := HLen.out (j + 1)
        have hl2 := opTxt_len (k := q) (n := nv) (by omega)
        have ha1 : ∀ w, (Op.stringOp .add (stB (joinT ((wordsOf i).take (j + 1)))) (⟨#[32]⟩ : ByteArray)).run Tryz.prog w = .ok (.string (stB (joinT ((wordsOf i).take (j + 1)) ++ [32]))) w := fun w => by
          rw [run_string_add_sum (P := Tryz.prog) w _ _ (by rw [stB_size]; have : (⟨#[32]⟩ : ByteArray).size = 1 := rfl; omega)]
          rw [show (⟨#[32]⟩ : ByteArray) = stB [32] from rfl, stB_app]
        have ha2 : ∀ w, (Op.stringOp .add (stB (joinT ((wordsOf i).take (j + 1)) ++ [32])) (stB (opTxt q nv))).run Tryz.prog w = .ok (.string (stB (joinT ((wordsOf i).take (j + 1 + 1))))) w := fun w => by
          rw [run_string_add_sum (P := Tryz.prog) w _ _ (by rw [stB_size, stB_size, List.length_append]; simp only [List.length_singleton]; omega), stB_app, HWj.out, List.append_assoc]
          rfl
        clear hy hnv hn2 hl1 hl2 hc7
        go_wp2_with fail
        go_quiet ((go_at_call 101; exact Calls.quiet_of (HTx.out _)))
        go_wp2_with fail
        go_roundw
        case rel =>
          obtain ⟨d, rfl⟩ := HD.out
          exact ⟨j + 1, by omega, by go_num, rfl, d + _, by rw [World.drewN_drewN]⟩
        case measure => simp [intOf]; omega
      · obtain rfl : m = j := by omega
        have HE : Hid (stB (insTxt i) = stB (joinT ((wordsOf i).take (m + 1)))) := by show _ = _; rw [HV.out, List.take_of_length_le (by omega)]
        go_wp2_with fail
        go_ret
        exact ⟨by rw [HE.out]; rfl, HK3.out.trans HK.out⟩
end Go.Proofs.YtpcihhdalofdiaaGreatDoor
