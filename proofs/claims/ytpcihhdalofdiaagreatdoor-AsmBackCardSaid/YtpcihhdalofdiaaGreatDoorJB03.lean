/- An instruction as a line: the program's name, text. Printed by gen_astext.py. -/
import Derived.Test.YtpcihhdalofdiaaGreatDoorJB01
import Derived.Test.YtpcihhdalofdiaaGreatDoorJB02
import Derived.Test.YtpcihhdalofdiaaGreatDoorTxtK
namespace Go.Proofs.YtpcihhdalofdiaaGreatDoor
open Go.RowKit Go.Maps
attribute [local irreducible] numT kindsOf nameOf checkE fitsP operandP plainP labelP slashP namedT programP insTxt wordsOf

theorem slT_str (s : ByteArray) (n : Nat) : stB (slT ⟨s, n⟩) = s ++ ⟨#[47]⟩ ++ stB (Lib.decDigits n) := by
  have e2 : (⟨#[47]⟩ : ByteArray) = stB [47] := rfl
  have e3 : s = stB s.data.toList := (stB_of s).symm
  unfold slT bT
  rw [e2]
  conv => rhs; rw [e3]
  rw [stB_app, stB_app]
  simp
set_option maxRecDepth 100000 in
set_option maxHeartbeats 6400000 in
theorem name9_any (s : ByteArray) (n : Nat) (hs : s.size ≤ 4294967000) (hn : n ≤ 65535) (w : World) (ht : Tab w) :
    Calls Tryz.prog 34 #[.string s, .int .i64 n] w fun e w' => e = .returned (.string (stB (slT ⟨s, n⟩))) ∧ Keeps w w' [] := by
  have HI := Lib.hid (itoa_any n (by omega) w ht)
  have HV := Lib.hid (slT_str s n)
  have hd := (digits_len n hn).2
  obtain ⟨d, hdd⟩ : ∃ d, stB (Lib.decDigits n) = d := ⟨_, rfl⟩
  have hds : d.size ≤ 7 := by rw [← hdd, stB_size]; exact hd
  have hz : (s ++ (⟨#[47]⟩ : ByteArray)).size ≤ 4294967001 := by
    rw [ByteArray.size_append]
    have : (⟨#[47]⟩ : ByteArray).size = 1 := rfl
    omega
  have ha1 : ∀ w : World, (Op.stringOp .add s ⟨#[47]⟩).run Tryz.prog w = .ok (.string (s ++ ⟨#[47]⟩)) w := fun w => run_string_add_sum (P := Tryz.prog) w _ _ (by
    have : (⟨#[47]⟩ : ByteArray).size = 1 := rfl
    omega)
  have ha2 : ∀ w : World, (Op.stringOp .add (s ++ ⟨#[47]⟩) d).run Tryz.prog w = .ok (.string (s ++ ⟨#[47]⟩ ++ d)) w := fun w => run_string_add_sum (P := Tryz.prog) w _ _ (by omega)
  rw [hdd] at HI HV
  clear hd hdd hds hz hs ht
  go_enter Tryz.func34, Tryz.ntmps34
  go_wp2_with fail
  refine HI.out.mono ?_
  rintro e w1 ⟨rfl, k1⟩
  go_wp2_with fail
  go_ret
  exact ⟨by rw [HV.out]; rfl, k1⟩
theorem wordsB_txt {i : LIns} (h : insOk i = true) : wordsB (stB (insTxt i)) = (wordsOf i).map stB := by
  have h1 := wordsB_is (stB (insTxt i))
  rw [stB_list, words_texts h] at h1
  rw [← h1, List.map_map]
  have : (stB ∘ fun x : ByteArray => x.data.toList) = id := by
    funext x
    exact stB_of x
  rw [this, List.map_id]
/-- The words, j of them turned. -/
def mixW (o : LObj) (i : LIns) (j : Nat) : List ByteArray := ((wordsT o i).take (j + 1) ++ (wordsOf i).drop (j + 1)).map stB
theorem mixW_zero (o : LObj) (i : LIns) : mixW o i 0 = (wordsOf i).map stB := by
  unfold mixW
  have h1 : (wordsT o i).take 1 = (wordsOf i).take 1 := by rw [words_one]; rfl
  rw [Nat.zero_add, h1, List.take_append_drop]
theorem mixW_end (o : LObj) (i : LIns) {m : Nat} (hm : (kindsOf i.op).length = m) : mixW o i m = (wordsT o i).map stB := by
  unfold mixW
  rw [List.take_of_length_le (by rw [wordsT_len, hm]; exact Nat.le_refl _), List.drop_of_length_le (by rw [words_num, hm]; exact Nat.le_refl _), List.append_nil]
theorem mixW_succ {o : LObj} {i : LIns} {j q : Nat} (hy : (kindsOf i.op)[j]? = some (q : Int)) : mixW o i (j + 1) = (mixW o i j).set (j + 1) (stB (wordT o q (i.arg j))) := by
  have hj := (List.getElem?_eq_some_iff.1 hy).1
  unfold mixW
  rw [← List.map_set, take_snocA (wordsT_at hy)]
  have hd : (wordsOf i).drop (j + 1) = opTxt q (i.arg j).toNat :: (wordsOf i).drop (j + 1 + 1) := by
    rw [List.drop_eq_getElem_cons (by rw [words_num]; omega)]
    congr 1
    exact (List.getElem?_eq_some_iff.1 (words_at hy)).2
  have hl : ((wordsT o i).take (j + 1)).length = j + 1 := by rw [List.length_take, wordsT_len]; omega
  rw [hd, List.set_append_right _ _ (by omega), hl, Nat.sub_self, List.set_cons_zero, List.append_assoc]
  rfl
theorem mixW_same {o : LObj} {i : LIns} {j q : Nat} (hy : (kindsOf i.op)[j]? = some (q : Int)) (h : wordT o q (i.arg j) = opTxt q (i.arg j).toNat) : mixW o i (j + 1) = mixW o i j := by
  have hj := (List.getElem?_eq_some_iff.1 hy).1
  unfold mixW
  rw [take_snocA (wordsT_at hy)]
  have hd : (wordsOf i).drop (j + 1) = opTxt q (i.arg j).toNat :: (wordsOf i).drop (j + 1 + 1) := by
    rw [List.drop_eq_getElem_cons (by rw [words_num]; omega)]
    congr 1
    exact (List.getElem?_eq_some_iff.1 (words_at hy)).2
  rw [hd, h, List.append_assoc]
  rfl
theorem mixW_len (o : LObj) (i : LIns) (j m : Nat) (hm : (kindsOf i.op).length = m) (hj : j ≤ m) : (mixW o i j).length = m + 1 := by
  unfold mixW
  rw [List.length_map, List.length_append, List.length_take, List.length_drop, wordsT_len, words_num, hm]
  omega
theorem word_3 (o : LObj) (n : Int) : wordT o 3 n = bT (o.atoms.getD n.toNat ⟨#[]⟩) := rfl
theorem word_4 (o : LObj) (n : Int) : wordT o 4 n = slT (o.funs.getD n.toNat ⟨⟨#[]⟩, 0⟩) := rfl
theorem word_7 (o : LObj) (n : Int) : wordT o 7 n = slT ⟨(o.preds.getD n.toNat ⟨⟨#[]⟩, 0, 0⟩).name, (o.preds.getD n.toNat ⟨⟨#[]⟩, 0, 0⟩).arity⟩ := rfl
theorem word_8 (o : LObj) (n : Int) : wordT o 8 n = if n = 65535 then [45] else 64 :: Lib.decDigits n.toNat := rfl
theorem word_o (o : LObj) {k : Nat} (n : Int) (h : k ≠ 3 ∧ k ≠ 4 ∧ k ≠ 7 ∧ k ≠ 8) : wordT o k n = opTxt k n.toNat := by
  unfold wordT
  rw [if_neg h.1, if_neg h.2.1, if_neg h.2.2.1, if_neg h.2.2.2]
theorem opTxt_no : opTxt 8 65535 = [45] := rfl
attribute [local irreducible] wordT wordsT mixW opTxt
theorem insV_at (i : LIns) (j : Nat) (h : j < 4) : (#[.int .i64 i.op, .int .i64 i.a0, .int .i64 i.a1, .int .i64 i.a2, .int .i64 i.a3] : Array Value)[1 + j]? = some (.int .i64 (i.arg j)) := by
  match j, h with
  | 0, _ => rfl
  | 1, _ => rfl
  | 2, _ => rfl
  | 3, _ => rfl
theorem txt_at (n : Nat) (h : n ≤ 65535) (w : World) : (Op.stringOp .add (⟨#[64]⟩ : ByteArray) (stB (Lib.decDigits n))).run Tryz.prog w = .ok (.string (stB (64 :: Lib.decDigits n))) w := add_one 64 h w
set_option maxRecDepth 100000 in
set_option maxHeartbeats 6400000 in
theorem text9_any (o : LObj) (i : LIns) (hok : insOk i = true) (harg : ∀ (j q : Nat), (kindsOf i.op)[j]? = some (q : Int) → ArgOk o q (i.arg j)) (Aa Af Ap Ac : Option Addr) (na nf np nc ca cf cp cc : Nat) (w : World) (hob : ObIs w o Aa Af Ap Ac ca cf cp cc) (hfit : Fits o) (la : o.atoms.length = na) (lf : o.funs.length = nf) (lp : o.preds.length = np) (h : St w) :
    Calls Tryz.prog 36 #[.agg #[.slice Aa na ca, .slice Af nf cf, .slice Ap np cp, .slice Ac nc cc], .agg #[.int .i64 i.op, .int .i64 i.a0, .int .i64 i.a1, .int .i64 i.a2, .int .i64 i.a3]] w fun e w' => e = .returned (.string (stB (textT o i))) ∧ Keeps w w' [] := by
  have k0 : Keeps w ((w.alloc (.cells #[.slice Aa na ca, .slice Af nf cf, .slice Ap np cp, .slice Ac nc cc] 31)).alloc (.cells #[.int .i64 i.op, .int .i64 i.a0, .int .i64 i.a1, .int .i64 i.a2, .int .i64 i.a3] 79)) [] := ((Keeps.refl w []).alloc _).alloc _
  have HOb : Hid (Blk ((w.alloc (.cells #[.slice Aa na ca, .slice Af nf cf, .slice Ap np cp, .slice Ac nc cc] 31)).alloc (.cells #[.int .i64 i.op, .int .i64 i.a0, .int .i64 i.a1, .int .i64 i.a2, .int .i64 i.a3] 79)) w.heap.size 31 #[.slice Aa na ca, .slice Af nf cf, .slice Ap np cp, .slice Ac nc cc]) := (Blk.new _ _ _).alloc _
  have HIb : Hid (Blk ((w.alloc (.cells #[.slice Aa na ca, .slice Af nf cf, .slice Ap np cp, .slice Ac nc cc] 31)).alloc (.cells #[.int .i64 i.op, .int .i64 i.a0, .int .i64 i.a1, .int .i64 i.a2, .int .i64 i.a3] 79)) (w.heap.size + 1) 79 #[.int .i64 i.op, .int .i64 i.a0, .int .i64 i.a1, .int .i64 i.a2, .int .i64 i.a3]) := Blk.newAt _ _ (by simp)
  have hs0 : ((w.alloc (.cells #[.slice Aa na ca, .slice Af nf cf, .slice Ap np cp, .slice Ac nc cc] 31)).alloc (.cells #[.int .i64 i.op, .int .i64 i.a0, .int .i64 i.a1, .int .i64 i.a2, .int .i64 i.a3] 79)).heap.size = w.heap.size + 2 := by rw [World.size_alloc, World.size_alloc]
  have HK0 := Lib.hid k0
  have HS := Lib.hid h
  have HO := Lib.hid hob
  have HArg := Lib.hid harg
  have HOk := Lib.hid hok
  have hilen := insTxt_len hok
  have HFit := Lib.hid hfit
  have HLa := Lib.hid la
  have HLf := Lib.hid lf
  have HLp := Lib.hid lp
  have ht := fun (W : World) (kk : Keeps w W []) => ptext_any i W (h.keep kk).tab
  unfold insV at ht
  have HT := Lib.hid ht
  have i0 := HIb.out.cell 0
  have i1 := HIb.out.cell 1
  have i2 := HIb.out.cell 2
  have i3 := HIb.out.cell 3
  have i4 := HIb.out.cell 4
  have HSz0 := Lib.hid hs0
  clear k0 h hob harg hok hfit la lf lp ht hs0
  go_enter Tryz.func36, Tryz.ntmps36
  go_wp2_with fail
  generalize (w.alloc (.cells #[.slice Aa na ca, .slice Af nf cf, .slice Ap np cp, .slice Ac nc cc] 31)).alloc (.cells #[.int .i64 i.op, .int .i64 i.a0, .int .i64 i.a1, .int .i64 i.a2, .int .i64 i.a3] 79) = w0 at *
  refine (HT.out _ HK0.out).mono ?_
  rintro e w1 ⟨rfl, k1⟩
  have HK1 := Lib.hid (HK0.out.trans k1)
  have HOb1 := Lib.hid (HOb.out.keep k1 (by simp))
  have HIb1 := Lib.hid (HIb.out.keep k1 (by simp))
  have HSp := Lib.hid (split_any (stB (insTxt i)) (by rw [stB_size]; omega) w1 (HS.out.keep HK1.out))
  have HZ1 : Hid (w.heap.size + 2 ≤ w1.heap.size) := Lib.hid (by have := k1.size; have := HSz0.out; omega)
  rw [wordsB_txt HOk.out, List.length_map, words_num] at HSp
  clear k1 i0 i1 i2 i3 i4 HOb HIb HK0 HT
  go_wp2_with fail
  refine HSp.out.mono ?_
  rintro e w2' ⟨rfl, rfl⟩
  obtain ⟨m, hm⟩ : ∃ m, (kindsOf i.op).length = m := ⟨_, rfl⟩
  have hm4 := kinds_few i.op
  rw [hm] at hm4
  have HM := Lib.hid hm
  have k2 : Keeps w1 (w1.alloc (.cells (((wordsOf i).map stB).map Value.string).toArray 9)) [] := (Keeps.refl w1 []).alloc _
  have HK2 := Lib.hid (HK1.out.trans k2)
  have HOb2 := Lib.hid (HOb1.out.keep k2 (by simp))
  have HIb2 := Lib.hid (HIb1.out.keep k2 (by simp))
  have HBw : Hid (Blk (w1.alloc (.cells (((wordsOf i).map stB).map Value.string).toArray 9)) w1.heap.size 9 ((mixW o i 0).map Value.string).toArray) := Lib.hid (by rw [mixW_zero]; exact Blk.new _ _ _)
  have HBl : Hid (w1.heap.size < (w1.alloc (.cells (((wordsOf i).map stB).map Value.string).toArray 9)).heap.size) := Lib.hid (by rw [World.size_alloc]; omega)
  have i0 := HIb2.out.cell 0
  dsimp only
  rw [hm]
  clear k2 hm HOb1 HIb1 HK1 HSp
  go_upto_region 2 with fail
  generalize w1.alloc (.cells (((wordsOf i).map stB).map Value.string).toArray 9) = w2 at *
  generalize hB : w1.heap.size = B at *
  clear hB w1
  go_wp2_with fail
  refine (kindsF_any i.op _).mono ?_
  rintro e w3 ⟨A, ck, rfl, hN, k3, hfr⟩
  have HN := Lib.hid hN
  have HFR := Lib.hid hfr
  have HK3 := Lib.hid k3
  rw [HM.out]
  clear hN k3 hfr i0
  go_wp2_with fail
  go_loopw [6, 7, 8, 16] (fun v6 v7 v8 ix wr => ∃ j : Nat, j ≤ m ∧ ix = .int .i64 j ∧ Blk wr B 9 ((mixW o i j).map Value.string).toArray ∧ Keeps w3 wr [B]) (fun _ _ _ ix _ => m - (intOf ix).toNat)
  case atStart => exact ⟨0, Nat.zero_le _, rfl, HBw.out.keep HK3.out (by simp), Keeps.refl _ _⟩
  case round =>
    obtain ⟨j, hj, rfl, hbw, kr⟩ := hrel
    have HRb := Lib.hid hbw
    have HKr := Lib.hid kr
    have HKw : Hid (Keeps w wr []) := Lib.hid ((HK2.out.trans HK3.out).past6 kr (fun q hq => by have := HZ1.out; simp at hq; omega))
    by_cases hlj : j < m
    · obtain ⟨b7, off7, y, hA7, hb7, hc7, hy⟩ := HN.out j (by rw [HM.out]; exact hlj)
      subst hA7
      have hfr7 := HFR.out b7 off7 rfl
      have hx1 := kinds_mem i.op y (List.mem_of_getElem? hy)
      obtain ⟨q, rfl⟩ := Int.eq_ofNat_of_zero_le (show 0 ≤ y by omega)
      have HY := Lib.hid hy
      have q1 := (HKr.out.cell (p := ⟨b7, off7 + j, none⟩) hb7 (by have := HBl.out; simp; omega)).trans hc7
      have HAr := Lib.hid (HArg.out j q hy)
      have hj4 : j < 4 := by omega
      have HObr := Lib.hid ((HOb2.out.keep HK3.out (by simp)).keep kr (by have := HZ1.out; simp; omega))
      have HIbr := Lib.hid ((HIb2.out.keep HK3.out (by simp)).keep kr (by have := HZ1.out; simp; omega))
      obtain ⟨z, hz⟩ := Int.eq_ofNat_of_zero_le HAr.out.low.1
      have HZ := Lib.hid hz
      have iv : World.cell? _ ⟨w.heap.size + 1, 1 + j, none⟩ = some (.int .i64 (i.arg j)) := (HIbr.out.cell (1 + j)).trans (insV_at i j hj4)
      rw [hz] at iv
      have hz6 : z ≤ 65535 := by have := HAr.out.low.2; omega
      obtain ⟨old, hold⟩ : ∃ old, (mixW o i j)[j + 1]? = some old := ⟨_, List.getElem?_eq_getElem (by rw [mixW_len o i j m HM.out hj]; omega)⟩
      have oc : wr.cell? ⟨B, j + 1, none⟩ = some (.string old) := by
        have := hbw.cell (j + 1)
        rw [this, List.getElem?_toArray, List.getElem?_map, hold]
        rfl
      have HOld := Lib.hid oc
      have fz := hbw.frozen (j + 1)
      have b1' : (j : Int) < (m : Int) := by omega
      have b0 : (0 : Int) ≤ (j : Int) := Int.natCast_nonneg _
      have b4 : (j : Int) < 4 := by omega
      have b5 : (j : Int) + 1 < (m : Int) + 1 := by omega
      have b6 : (0 : Int) ≤ (j : Int) + 1 := by omega
      have bz : (0 : Int) ≤ (z : Int) := Int.natCast_nonneg _
      clear hbw kr hc7 hy hold hfr7 hb7
      by_cases hq : q = 3
      · have d3 : ((q : Int) == 3) = true := by rw [beq_iff_eq]; omega
        obtain ⟨s, hs, hso⟩ := HAr.out.atom hq
        rw [hz, Int.toNat_natCast] at hs
        obtain ⟨b1, o1, e1, hb1, hc1⟩ := (HO.out.keep HKw.out).atoms.field strE_len hs (by omega)
        subst e1
        have f0 : wr.cell? ⟨b1, o1 + z, none⟩ = some (.string s) := by have := hc1 0 _ rfl; simpa using this
        have hzn : z < na := by have := (List.getElem?_eq_some_iff.1 hs).1; have := HLa.out; omega
        have c5 : (z : Int) < (na : Int) := by omega
        have o0 := HObr.out.cell 0
        have HXw : Hid (stB (wordT o q (i.arg j)) = s) := Lib.hid (by
          rw [hq, word_3, List.getD_eq_getElem?_getD, hz, Int.toNat_natCast, hs]
          exact stB_of s)
        clear hs hso hb1 hc1 hq hzn
        have HB5 := Lib.hid (HRb.out.set_ (j + 1) (.string s))
        have HMx : Hid (mixW o i (j + 1) = (mixW o i j).set (j + 1) s) := Lib.hid (by rw [mixW_succ HY.out, HXw.out])
        have HK5 := Lib.hid ((HKr.out).setCell (p := ⟨B, j + 1, none⟩) (.inl (by simp : B ∈ [B])) (.string s))
        go_wp2_with fail
        go_roundw
        case rel =>
          refine ⟨j + 1, by omega, by go_num, ?_, HK5.out⟩
          rw [HMx.out, List.map_set, ← List.setIfInBounds_toArray]
          exact HB5.out
        case measure => simp [intOf]; omega
      by_cases hq : q = 4
      · skip
        have d4 : ((q : Int) == 4) = true := by rw [beq_iff_eq]; omega
        have d3 : ((q : Int) == 3) = false := by rw [beq_eq_false_iff_ne]; omega
        obtain ⟨f, hf, hfo⟩ := HAr.out.fun_ hq
        rw [hz, Int.toNat_natCast] at hf
        simp only [funOk, Bool.and_eq_true, decide_eq_true_eq] at hfo
        obtain ⟨ar, har⟩ := Int.eq_ofNat_of_zero_le (show 0 ≤ f.arity by omega)
        obtain ⟨b1, o1, e1, hb1, hc1⟩ := (HO.out.keep HKw.out).funs.field funE_len hf (by omega)
        subst e1
        have f0 : wr.cell? ⟨b1, o1 + z * 2, none⟩ = some (.string f.name) := hc1 0 _ rfl
        have f1 : wr.cell? ⟨b1, o1 + z * 2 + 1, none⟩ = some (.int .i64 f.arity) := hc1 1 _ rfl
        rw [har] at f1
        have HF0 := Lib.hid f0
        have HF1 := Lib.hid f1
        have hzn : z < nf := by have := (List.getElem?_eq_some_iff.1 hf).1; have := HLf.out; omega
        have c5 : (z : Int) < (nf : Int) := by omega
        have HXw : Hid (stB (wordT o q (i.arg j)) = stB (slT ⟨f.name, ar⟩)) := Lib.hid (by
          rw [hq, word_4, List.getD_eq_getElem?_getD, hz, Int.toNat_natCast, hf]
          simp only [Option.getD_some]
          rw [show (f) = (⟨f.name, (ar : Int)⟩ : LFun) by rw [← har]])
        have HNm := Lib.hid (name9_any f.name ar (Nat.le_trans (nameOk_size hfo.1) (by omega)) (by omega) wr.drew (HS.out.keep HKw.out).tab)
        clear hf hfo hb1 hc1 f0 f1 hq har hzn
        generalize stB (slT ⟨f.name, ar⟩) = X at *
        have HF : Hid (∀ W, Keeps wr W [] → (W.cell? ⟨w.heap.size, 1, none⟩ = some (.slice (some ⟨b1, o1, none⟩) nf cf) ∧ W.cell? ⟨b1, o1 + z * 2, none⟩ = some (.string f.name) ∧ W.cell? ⟨b1, o1 + z * 2 + 1, none⟩ = some (.int .i64 ar) ∧ W.cell? ⟨B, j + 1, none⟩ = some (.string old)) ∧ W.frozen? ⟨B, j + 1, none⟩ = false) := fun W kk => ⟨⟨(HObr.out.keep kk (by simp)).cell 1, (kk.cell0 (block_lt_of_cell HF0.out)).trans HF0.out, (kk.cell0 (block_lt_of_cell HF1.out)).trans HF1.out, (kk.cell0 (block_lt_of_cell HOld.out)).trans HOld.out⟩, (HRb.out.keep kk (by simp)).frozen (j + 1)⟩
        go_upto_region 9 with fail
        clear q1 iv oc
        refine wp_region_tx (fun W' => (W'.cell? ⟨w.heap.size, 1, none⟩ = some (.slice (some ⟨b1, o1, none⟩) nf cf) ∧ W'.cell? ⟨b1, o1 + z * 2, none⟩ = some (.string f.name) ∧ W'.cell? ⟨b1, o1 + z * 2 + 1, none⟩ = some (.int .i64 ar) ∧ W'.cell? ⟨B, j + 1, none⟩ = some (.string old)) ∧ W'.frozen? ⟨B, j + 1, none⟩ = false) [(0, true), (1, true), (2, true), (3, true), (4, true), (5, true), (6, true), (7, true), (8, true), (9, true), (10, true), (11, true), (12, true), (13, true), (14, true), (15, true), (16, true), (17, false), (18, true), (19, false)] (by kernel_rfl) (by kernel_rfl) (HF.out _ (Keeps.refl _ _).drew) (fun hHeld => ?_)
        have dw := wrapK j (by omega)
        (repeat (first | (refine wpTx_take (v := ?_) rfl (by assumption) ?_ (by rfl) ?_; rotate_left; (focus (intro w' hSw; (try dsimp only at hSw); go_simp; (try with_reducible rfl); done)); simp only [Act.put, List.setIfInBounds_toArray, List.set_cons_zero, List.set_cons_succ]) | (refine wpTx_skip rfl (by assumption) (by rfl) ?_; simp only [Act.put, List.setIfInBounds_toArray, List.set_cons_zero, List.set_cons_succ])))
        refine wpTx_go rfl (fun K hK => ?_)
        go_simp
        refine HNm.out.mono ?_
        rintro e w6 ⟨rfl, k6'⟩
        have k6 : Keeps wr w6 [] := (Keeps.refl wr []).drew.trans k6'
        have HFw := Lib.hid (HF.out w6 k6)
        refine hK.out _ _ ?_ ?_
        · exact HFw.out
        (clear hHeld; intro hHeld; clear hK K; (try simp only [Act.put, List.setIfInBounds_toArray, List.set_cons_zero, List.set_cons_succ]))
        (repeat (first | (refine wpTx_take (v := ?_) rfl (by assumption) ?_ (by rfl) ?_; rotate_left; (focus (intro w' hSw; (try dsimp only at hSw); go_simp; (try with_reducible rfl); done)); simp only [Act.put, List.setIfInBounds_toArray, List.set_cons_zero, List.set_cons_succ]) | (refine wpTx_skip rfl (by assumption) (by rfl) ?_; simp only [Act.put, List.setIfInBounds_toArray, List.set_cons_zero, List.set_cons_succ])))
        refine wpTx_last rfl (fun K hK => ?_)
        go_simp
        refine hK.out _ _ (NoPanic.normal ?_); clear hK K; (try simp only [Act.put, List.setIfInBounds_toArray, List.set_cons_zero, List.set_cons_succ])
        clear hHeld k6' dw
        have HB5 := Lib.hid ((HRb.out.keep k6 (by simp)).set_ (j + 1) (.string X))
        have HMx : Hid (mixW o i (j + 1) = (mixW o i j).set (j + 1) X) := Lib.hid (by rw [mixW_succ HY.out, HXw.out])
        have HK5 := Lib.hid ((HKr.out.trans (k6.to_ _)).setCell (p := ⟨B, j + 1, none⟩) (.inl (by simp : B ∈ [B])) (.string X))
        clear k6
        go_wp2_with fail
        go_roundw
        case rel =>
          refine ⟨j + 1, by omega, by go_num, ?_, HK5.out⟩
          rw [HMx.out, List.map_set, ← List.setIfInBounds_toArray]
          exact HB5.out
        case measure => simp [intOf]; omega
      by_cases hq : q = 7
      · skip
        have d7 : ((q : Int) == 7) = true := by rw [beq_iff_eq]; omega
        have d3 : ((q : Int) == 3) = false := by rw [beq_eq_false_iff_ne]; omega
        have d4 : ((q : Int) == 4) = false := by rw [beq_eq_false_iff_ne]; omega
        obtain ⟨f, hf, hfo⟩ := HAr.out.pred hq
        rw [hz, Int.toNat_natCast] at hf
        simp only [predOk, Bool.and_eq_true, decide_eq_true_eq] at hfo
        obtain ⟨ar, har⟩ := Int.eq_ofNat_of_zero_le (show 0 ≤ f.arity by omega)
        obtain ⟨b1, o1, e1, hb1, hc1⟩ := (HO.out.keep HKw.out).preds.field predE_len hf (by omega)
        subst e1
        have f0 : wr.cell? ⟨b1, o1 + z * 3, none⟩ = some (.string f.name) := hc1 0 _ rfl
        have f1 : wr.cell? ⟨b1, o1 + z * 3 + 1, none⟩ = some (.int .i64 f.arity) := hc1 1 _ rfl
        rw [har] at f1
        have HF0 := Lib.hid f0
        have HF1 := Lib.hid f1
        have hzn : z < np := by have := (List.getElem?_eq_some_iff.1 hf).1; have := HLp.out; omega
        have c5 : (z : Int) < (np : Int) := by omega
        have HXw : Hid (stB (wordT o q (i.arg j)) = stB (slT ⟨f.name, ar⟩)) := Lib.hid (by
          rw [hq, word_7, List.getD_eq_getElem?_getD, hz, Int.toNat_natCast, hf]
          simp only [Option.getD_some]
          rw [show ((⟨f.name, f.arity⟩ : LFun)) = (⟨f.name, (ar : Int)⟩ : LFun) by rw [← har]])
        have HNm := Lib.hid (name9_any f.name ar (Nat.le_trans (nameOk_size hfo.1) (by omega)) (by omega) wr.drew (HS.out.keep HKw.out).tab)
        clear hf hfo hb1 hc1 f0 f1 hq har hzn
        generalize stB (slT ⟨f.name, ar⟩) = X at *
        have HF : Hid (∀ W, Keeps wr W [] → (W.cell? ⟨w.heap.size, 2, none⟩ = some (.slice (some ⟨b1, o1, none⟩) np cp) ∧ W.cell? ⟨b1, o1 + z * 3, none⟩ = some (.string f.name) ∧ W.cell? ⟨b1, o1 + z * 3 + 1, none⟩ = some (.int .i64 ar) ∧ W.cell? ⟨B, j + 1, none⟩ = some (.string old)) ∧ W.frozen? ⟨B, j + 1, none⟩ = false) := fun W kk => ⟨⟨(HObr.out.keep kk (by simp)).cell 2, (kk.cell0 (block_lt_of_cell HF0.out)).trans HF0.out, (kk.cell0 (block_lt_of_cell HF1.out)).trans HF1.out, (kk.cell0 (block_lt_of_cell HOld.out)).trans HOld.out⟩, (HRb.out.keep kk (by simp)).frozen (j + 1)⟩
        go_upto_region 11 with fail
        clear q1 iv oc
        refine wp_region_tx (fun W' => (W'.cell? ⟨w.heap.size, 2, none⟩ = some (.slice (some ⟨b1, o1, none⟩) np cp) ∧ W'.cell? ⟨b1, o1 + z * 3, none⟩ = some (.string f.name) ∧ W'.cell? ⟨b1, o1 + z * 3 + 1, none⟩ = some (.int .i64 ar) ∧ W'.cell? ⟨B, j + 1, none⟩ = some (.string old)) ∧ W'.frozen? ⟨B, j + 1, none⟩ = false) [(0, true), (1, true), (2, true), (3, true), (4, true), (5, true), (6, true), (7, true), (8, true), (9, true), (10, true), (11, true), (12, true), (13, true), (14, true), (15, false), (16, true), (17, false)] (by kernel_rfl) (by kernel_rfl) (HF.out _ (Keeps.refl _ _).drew) (fun hHeld => ?_)
        have dw := wrapK j (by omega)
        (repeat (first | (refine wpTx_take (v := ?_) rfl (by assumption) ?_ (by rfl) ?_; rotate_left; (focus (intro w' hSw; (try dsimp only at hSw); go_simp; (try with_reducible rfl); done)); simp only [Act.put, List.setIfInBounds_toArray, List.set_cons_zero, List.set_cons_succ]) | (refine wpTx_skip rfl (by assumption) (by rfl) ?_; simp only [Act.put, List.setIfInBounds_toArray, List.set_cons_zero, List.set_cons_succ])))
        refine wpTx_go rfl (fun K hK => ?_)
        go_simp
        refine HNm.out.mono ?_
        rintro e w6 ⟨rfl, k6'⟩
        have k6 : Keeps wr w6 [] := (Keeps.refl wr []).drew.trans k6'
        have HFw := Lib.hid (HF.out w6 k6)
        refine hK.out _ _ ?_ ?_
        · exact HFw.out
        (clear hHeld; intro hHeld; clear hK K; (try simp only [Act.put, List.setIfInBounds_toArray, List.set_cons_zero, List.set_cons_succ]))
        (repeat (first | (refine wpTx_take (v := ?_) rfl (by assumption) ?_ (by rfl) ?_; rotate_left; (focus (intro w' hSw; (try dsimp only at hSw); go_simp; (try with_reducible rfl); done)); simp only [Act.put, List.setIfInBounds_toArray, List.set_cons_zero, List.set_cons_succ]) | (refine wpTx_skip rfl (by assumption) (by rfl) ?_; simp only [Act.put, List.setIfInBounds_toArray, List.set_cons_zero, List.set_cons_succ])))
        refine wpTx_last rfl (fun K hK => ?_)
        go_simp
        refine hK.out _ _ (NoPanic.normal ?_); clear hK K; (try simp only [Act.put, List.setIfInBounds_toArray, List.set_cons_zero, List.set_cons_succ])
        clear hHeld k6' dw
        have HB5 := Lib.hid ((HRb.out.keep k6 (by simp)).set_ (j + 1) (.string X))
        have HMx : Hid (mixW o i (j + 1) = (mixW o i j).set (j + 1) X) := Lib.hid (by rw [mixW_succ HY.out, HXw.out])
        have HK5 := Lib.hid ((HKr.out.trans (k6.to_ _)).setCell (p := ⟨B, j + 1, none⟩) (.inl (by simp : B ∈ [B])) (.string X))
        clear k6
        go_wp2_with fail
        go_roundw
        case rel =>
          refine ⟨j + 1, by omega, by go_num, ?_, HK5.out⟩
          rw [HMx.out, List.map_set, ← List.setIfInBounds_toArray]
          exact HB5.out
        case measure => simp [intOf]; omega
      have d3 : ((q : Int) == 3) = false := by rw [beq_eq_false_iff_ne]; omega
      have d4 : ((q : Int) == 4) = false := by rw [beq_eq_false_iff_ne]; omega
      have d7 : ((q : Int) == 7) = false := by rw [beq_eq_false_iff_ne]; omega
      by_cases hq : q = 8
      · have d8 : ((q : Int) == 8) = true := by rw [beq_iff_eq]; omega
        by_cases hv : z = 65535
        · have d9 : ((z : Int) == 65535) = true := by rw [beq_iff_eq]; omega
          have d10 : ((z : Int) != 65535) = false := by rw [bne_eq_false_iff_eq]; omega
          have HSm : Hid (wordT o q (i.arg j) = opTxt q (i.arg j).toNat) := Lib.hid (by
            rw [hq, word_8, hz, hv, if_pos (by omega), Int.toNat_natCast, opTxt_no])
          clear hv
          have HMx : Hid (mixW o i (j + 1) = mixW o i j) := Lib.hid (mixW_same HY.out HSm.out)
          go_wp2_with fail
          go_roundw
          case rel => exact ⟨j + 1, by omega, by go_num, by rw [HMx.out]; exact HRb.out, HKr.out⟩
          case measure => simp [intOf]; omega
        · have d9 : ((z : Int) == 65535) = false := by rw [beq_eq_false_iff_ne]; omega
          have d10 : ((z : Int) != 65535) = true := by rw [bne_iff_ne]; omega
          have HI := Lib.hid (itoa_any z (by omega) wr (HS.out.keep HKw.out).tab)
          have ha := txt_at z hz6
          have HXw : Hid (stB (wordT o q (i.arg j)) = stB (64 :: Lib.decDigits z)) := Lib.hid (by
            rw [hq, word_8, hz, if_neg (by omega), Int.toNat_natCast])
          clear hv hq
          generalize stB (64 :: Lib.decDigits z) = X at *
          go_wp2_with fail
          refine HI.out.mono ?_
          rintro e w6 ⟨rfl, k6⟩
          have oc6 := (k6.cell0 (block_lt_of_cell HOld.out)).trans HOld.out
          have fz6 := (HRb.out.keep k6 (by simp)).frozen (j + 1)
          clear oc fz
          have HB5 := Lib.hid ((HRb.out.keep k6 (by simp)).set_ (j + 1) (.string X))
          have HMx : Hid (mixW o i (j + 1) = (mixW o i j).set (j + 1) X) := Lib.hid (by rw [mixW_succ HY.out, HXw.out])
          have HK5 := Lib.hid ((HKr.out.trans (k6.to_ _)).setCell (p := ⟨B, j + 1, none⟩) (.inl (by simp : B ∈ [B])) (.string X))
          clear k6
          go_wp2_with fail
          go_roundw
          case rel =>
            refine ⟨j + 1, by omega, by go_num, ?_, HK5.out⟩
            rw [HMx.out, List.map_set, ← List.setIfInBounds_toArray]
            exact HB5.out
          case measure => simp [intOf]; omega
      have d8 : ((q : Int) == 8) = false := by rw [beq_eq_false_iff_ne]; omega
      have HSm : Hid (wordT o q (i.arg j) = opTxt q (i.arg j).toNat) := Lib.hid (word_o o _ ⟨by omega, by omega, by omega, by omega⟩)
      have HMx : Hid (mixW o i (j + 1) = mixW o i j) := Lib.hid (mixW_same HY.out HSm.out)
      go_wp2_with fail
      go_roundw
      case rel => exact ⟨j + 1, by omega, by go_num, by rw [HMx.out]; exact HRb.out, HKr.out⟩
      case measure => simp [intOf]; omega
    · obtain rfl : m = j := by omega
      have hl : ((wordsT o i).map stB).length = m + 1 := by rw [List.length_map, wordsT_len, HM.out]
      have hB : Blk wr B 9 (((wordsT o i).map stB).map Value.string).toArray := by rw [← mixW_end o i HM.out]; exact hbw
      have hmap : ((wordsT o i).map stB).map (·.data.toList) = wordsT o i := by
        rw [List.map_map]
        have : ((fun x : ByteArray => x.data.toList) ∘ stB) = id := by funext x; exact stB_list x
        rw [this, List.map_id]
      have hlen : (Lib.join (((wordsT o i).map stB).map (·.data.toList)) ((⟨#[32]⟩ : ByteArray).data.toList)).length ≤ 140737488355328 := by
        rw [hmap, show ((⟨#[32]⟩ : ByteArray).data.toList) = [32] from rfl, join_is, ← textT_is]
        have := textT_len HOk.out HArg.out
        omega
      have HJ := Tryz.strings_Join B 0 (m + 1) ((wordsT o i).map stB) ⟨#[32]⟩ wr (fun k x hx => by
        rw [Nat.zero_add, hB.cell k, List.getElem?_toArray, List.getElem?_map, hx]
        rfl) hB.lt (by rw [hl]; omega) (by rw [hl]; exact Nat.le_refl _) hlen
      rw [hmap, show ((⟨#[32]⟩ : ByteArray).data.toList) = [32] from rfl, join_is, ← textT_is, hl] at HJ
      have HJn := Lib.hid HJ
      clear HJ hl hB hmap hlen hbw kr
      go_wp2_with fail
      refine HJn.out.mono ?_
      rintro e w6 ⟨rfl, hb6⟩
      have HK6 := Lib.hid (HKw.out.trans (Keeps.nil_of hb6))
      clear hb6
      go_wp2_with fail
      go_ret
      exact ⟨rfl, HK6.out⟩
end Go.Proofs.YtpcihhdalofdiaaGreatDoor

/- The places that are labels: the program's targets. Printed by gen_astgt.py. -/
namespace Go.Proofs.YtpcihhdalofdiaaGreatDoor
open Go.RowKit Go.Maps

/-- The first labels of an instruction; of a row of them. -/
def tgI (i : LIns) (j : Nat) : List Int := ((List.range j).filter fun j => (kindsOf i.op).getD j 0 == 8).map i.arg
def tgL (l : List LIns) : List Int := l.flatMap fun i => tgI i (kindsOf i.op).length
theorem tgI_succ_yes {i : LIns} {j : Nat} (h : (kindsOf i.op)[j]? = some 8) : tgI i (j + 1) = tgI i j ++ [i.arg j] := by
  unfold tgI
  have e : ((kindsOf i.op).getD j 0 == 8) = true := by rw [List.getD_eq_getElem?_getD, h]; rfl
  rw [List.range_succ, List.filter_append, List.map_append, List.filter_cons, e]
  rfl
theorem tgI_succ_no {i : LIns} {j : Nat} {q : Int} (h : (kindsOf i.op)[j]? = some q) (hq : q ≠ 8) : tgI i (j + 1) = tgI i j := by
  unfold tgI
  have e : ((kindsOf i.op).getD j 0 == 8) = false := by rw [List.getD_eq_getElem?_getD, h]; simpa using hq
  rw [List.range_succ, List.filter_append, List.map_append, List.filter_cons, e]
  simp
theorem tgL_snoc {l : List LIns} {k : Nat} {i : LIns} (h : l[k]? = some i) : tgL (l.take (k + 1)) = tgL (l.take k) ++ tgI i (kindsOf i.op).length := by
  unfold tgL
  rw [take_snocA h, List.flatMap_append]
  simp
theorem tgI_nil (i : LIns) : tgI i 0 = [] := rfl
theorem tgL_nil : tgL [] = [] := rfl
theorem target_is (o : LObj) (n : Nat) : targetB o n = decide ((n : Int) ∈ tgL o.code) := by
  unfold targetB tgL tgI
  rw [Bool.eq_iff_iff]
  simp only [List.any_eq_true, List.mem_range, Bool.and_eq_true, beq_iff_eq, decide_eq_true_eq, List.mem_flatMap, List.mem_map, List.mem_filter]
  constructor
  · rintro ⟨i, hi, j, hj, h1, h2⟩
    exact ⟨i, hi, j, ⟨hj, h1⟩, h2⟩
  · rintro ⟨i, hi, j, ⟨hj, h1⟩, h2⟩
    exact ⟨i, hi, j, hj, h1, h2⟩
attribute [local irreducible] numT kindsOf nameOf checkE fitsP operandP plainP labelP slashP namedT programP insTxt wordsOf tgI tgL
/-! ### A set of numbers -/
theorem zero_boolA (w : World) : (zeroValue 4).run Tryz.prog w = .ok (.bool false) w := by kernel_rfl
def SM (w : World) (b n : Nat) (l : List Int) : Prop :=
  ∃ D : DataW Unit, w.ownsMap Tryz.prog 3 (plainElem Tryz.prog 4) b n D ∧ ∀ x, I64A x → D.atKey (.int .i64 x) (.lit (.bool false)) = .lit (.bool (decide (x ∈ l)))
theorem SM.kept {w w' : World} {b n : Nat} {l : List Int} (h : SM w b n l) {L : List Nat} (k : Keeps w w' L) (hb : b ∉ L) : SM w' b n l := by
  obtain ⟨D, h1, h2⟩ := h
  obtain ⟨es, clock, e1, r⟩ := h1
  exact ⟨D, ⟨es, clock, (k.block b (Array.getElem?_eq_some_iff.1 e1).1 hb).trans e1, r⟩, h2⟩
theorem SM.lt {w : World} {b n : Nat} {l : List Int} (h : SM w b n l) : b < w.heap.size := by
  obtain ⟨D, h1, _⟩ := h
  exact h1.lt
theorem plainElem_boolA {P : Program} {e : TypeId} (he : P.underlying e = some .bool) {v : Value} {z : DataW Unit × List MemPlace} (h : plainElem P e v = some z) : ∃ b, v = .bool b ∧ z = (.lit (.bool b), []) := by
  unfold plainElem at h
  rw [he] at h
  cases v <;> simp at h
  subst h
  exact ⟨_, rfl, rfl⟩
set_option maxRecDepth 100000 in
theorem SM.look {w : World} {b n : Nat} {l : List Int} (h : SM w b n l) {x : Int} (hx : I64A x) : (Instr.lookup 84 (.map (some b)) (.int .i64 x) false).run Tryz.prog w = .ok (.bool (decide (x ∈ l))) w := by
  obtain ⟨D, h1, h2⟩ := h
  obtain ⟨v, ps, hrun, hv⟩ := h1.lookup law_int Tryz.underlying84 (zero_boolA w) (plainElem_bool Tryz.underlying4 false) hx.key
  obtain ⟨c, rfl, hc⟩ := plainElem_boolA Tryz.underlying4 hv
  have h4 := h2 x hx
  have h5 := congrArg Prod.fst hc
  simp only at h5
  rw [h4] at h5
  have h6 : decide (x ∈ l) = c := by injection h5 with h5; injection h5
  rw [hrun, h6]
theorem SM.put {w : World} {b n : Nat} {l : List Int} (h : SM w b n l) (hn : n ≤ 1000000) {x : Int} (hx : I64A x) :
    ∃ w', (Instr.mapUpdate 84 (.map (some b)) (.int .i64 x) (.bool true)).run Tryz.prog w = .ok () w' ∧ SM w' b (n + 1) (l ++ [x]) ∧ Keeps w w' [b] := by
  obtain ⟨D, h1, h2⟩ := h
  obtain ⟨w', hrun, h3, hg⟩ := h1.update law_int Tryz.underlying84 (by unfold maxLen; omega) hx.key (plainElem_bool Tryz.underlying4 true)
  refine ⟨w', hrun, ⟨_, h3, fun y hy => ?_⟩, ⟨hg.os, hg.tape, hg.output, hg.size, fun k hk hkb => hg.block k hk (fun e => hkb (by injection e with e; subst e; simp))⟩⟩
  by_cases hyx : y = x
  · subst hyx
    rw [atKey_put_same h1.isMap (by trivial), decide_eq_true (by simp)]
  · have hne : (Lit.int .i64 y) ≠ Lit.int .i64 x := fun e => hyx (by injection e)
    have hd : decide (y ∈ l ++ [x]) = decide (y ∈ l) := by simp [hyx]
    rw [atKey_put_other hne, h2 y hy, hd]
theorem SM.made (w : World) : SM (w.alloc (.map #[] 0)) w.heap.size 0 [] :=
  ⟨_, World.ownsMap_made w Tryz.prog 3 _, fun _ _ => rfl⟩
/-! ### targets -/
set_option maxRecDepth 100000 in
set_option maxHeartbeats 6400000 in
theorem targets9_any (o : LObj) (hok : ∀ i ∈ o.code, insOk i = true) (Aa Af Ap Ac : Option Addr) (na nf np nc ca cf cp cc : Nat) (w : World) (hob : ObIs w o Aa Af Ap Ac ca cf cp cc) (hfit : Fits o) (lc : o.code.length = nc) :
    Calls Tryz.prog 31 #[.agg #[.slice Aa na ca, .slice Af nf cf, .slice Ap np cp, .slice Ac nc cc]] w fun e w' => ∃ b n, e = .returned (.map (some b)) ∧ SM w' b n (tgL o.code) ∧ w.heap.size ≤ b ∧ Keeps w w' [] := by
  have k0 : Keeps w ((w.alloc (.cells #[.slice Aa na ca, .slice Af nf cf, .slice Ap np cp, .slice Ac nc cc] 31)).alloc (.map #[] 0)) [] := ((Keeps.refl w []).alloc _).alloc _
  have HOb : Hid (Blk ((w.alloc (.cells #[.slice Aa na ca, .slice Af nf cf, .slice Ap np cp, .slice Ac nc cc] 31)).alloc (.map #[] 0)) w.heap.size 31 #[.slice Aa na ca, .slice Af nf cf, .slice Ap np cp, .slice Ac nc cc]) := (Blk.new _ _ _).alloc _
  have hs0 : ((w.alloc (.cells #[.slice Aa na ca, .slice Af nf cf, .slice Ap np cp, .slice Ac nc cc] 31)).alloc (.map #[] 0)).heap.size = w.heap.size + 2 := by rw [World.size_alloc, World.size_alloc]
  have m0 := SM.made (w.alloc (.cells #[.slice Aa na ca, .slice Af nf cf, .slice Ap np cp, .slice Ac nc cc] 31))
  rw [World.size_alloc] at m0
  have HM0 := Lib.hid m0
  have HK0 := Lib.hid k0
  have HO := Lib.hid hob
  have HOk := Lib.hid hok
  have HL := Lib.hid lc
  have hnc : nc ≤ 65536 := by have := hfit.code; omega
  have HS0 := Lib.hid hs0
  have hmm := @run_makeMap Tryz.prog
  have o2 := HOb.out.cell 3
  clear k0 hob hok hfit lc hs0 m0
  go_enter Tryz.func31, Tryz.ntmps31
  go_wp2_with fail
  generalize (w.alloc (.cells #[.slice Aa na ca, .slice Af nf cf, .slice Ap np cp, .slice Ac nc cc] 31)).alloc (.map #[] 0) = w1 at *
  clear o2 hmm
  go_loopw [5, 6, 7, 12] (fun v5 v6 v7 ix wr => ∃ k : Nat, k ≤ nc ∧ ix = .int .i64 k ∧ (∃ n, n ≤ 4 * k ∧ SM wr (w.heap.size + 1) n (tgL (o.code.take k))) ∧ Keeps w1 wr [w.heap.size + 1]) (fun _ _ _ ix _ => nc - (intOf ix).toNat)
  case atStart => exact ⟨0, Nat.zero_le _, rfl, ⟨0, Nat.le_refl _, by rw [List.take_zero, tgL_nil]; exact HM0.out⟩, Keeps.refl _ _⟩
  case round =>
    obtain ⟨k, hk, rfl, ⟨nn, hnn, hsm⟩, kr⟩ := hrel
    have HKr := Lib.hid kr
    have HSm := Lib.hid hsm
    have HNn := Lib.hid hnn
    have HKw : Hid (Keeps w wr []) := Lib.hid (HK0.out.past6 kr (fun q hq => by simp at hq; omega))
    clear kr hsm hnn
    by_cases hlk : k < nc
    · obtain ⟨i, hi⟩ := at_of HL.out hlk
      obtain ⟨b, off, rfl, hb, hc⟩ := (HO.out.keep HKw.out).code.field insE_len hi (by omega)
      have p0 : wr.cell? ⟨b, off + k * 5, none⟩ = some (.int .i64 i.op) := hc 0 _ rfl
      have p1 : wr.cell? ⟨b, off + k * 5 + 1, none⟩ = some (.int .i64 i.a0) := hc 1 _ rfl
      have p2 : wr.cell? ⟨b, off + k * 5 + 2, none⟩ = some (.int .i64 i.a1) := hc 2 _ rfl
      have p3 : wr.cell? ⟨b, off + k * 5 + 3, none⟩ = some (.int .i64 i.a2) := hc 3 _ rfl
      have p4 : wr.cell? ⟨b, off + k * 5 + 4, none⟩ = some (.int .i64 i.a3) := hc 4 _ rfl
      have HIn := Lib.hid hi
      have HIo := Lib.hid (HOk.out i (List.mem_of_getElem? hi))
      have b1 : (k : Int) < (nc : Int) := by omega
      have b0 : (0 : Int) ≤ (k : Int) := Int.natCast_nonneg _
      have HIb : Hid (Blk (wr.alloc (.cells #[.int .i64 i.op, .int .i64 i.a0, .int .i64 i.a1, .int .i64 i.a2, .int .i64 i.a3] 79)) wr.heap.size 79 #[.int .i64 i.op, .int .i64 i.a0, .int .i64 i.a1, .int .i64 i.a2, .int .i64 i.a3]) := Blk.new _ _ _
      have HKa : Hid (Keeps wr (wr.alloc (.cells #[.int .i64 i.op, .int .i64 i.a0, .int .i64 i.a1, .int .i64 i.a2, .int .i64 i.a3] 79)) []) := (Keeps.refl wr []).alloc _
      clear hi hb hc
      go_upto_region 5 with fail
      generalize wr.alloc (.cells #[.int .i64 i.op, .int .i64 i.a0, .int .i64 i.a1, .int .i64 i.a2, .int .i64 i.a3] 79) = w2 at *
      have i0 := HIb.out.cell 0
      clear p0 p1 p2 p3 p4
      go_wp2_with fail
      refine (kindsF_any i.op _).mono ?_
      rintro e w3 ⟨A, ck, rfl, hN, k3, hfr⟩
      have HN := Lib.hid hN
      have HFR := Lib.hid hfr
      have HK3 := Lib.hid (HKa.out.trans k3)
      have HIb3 := Lib.hid (HIb.out.keep k3 (by simp))
      obtain ⟨m, hm⟩ : ∃ m, (kindsOf i.op).length = m := ⟨_, rfl⟩
      have hm4 := kinds_few i.op
      rw [hm] at hm4 ⊢
      have HM := Lib.hid hm
      have HW2 : Hid (w.heap.size + 1 < wr.heap.size ∧ wr.heap.size < w3.heap.size ∧ w.heap.size + 1 < w2.heap.size) := Lib.hid ⟨HSm.out.lt, HIb3.out.lt, Nat.lt_of_lt_of_le HSm.out.lt HKa.out.size⟩
      clear hN hfr k3 hm i0
      obtain ⟨wo, hwo⟩ : ∃ wo, wo = wr := ⟨wr, rfl⟩
      subst hwo
      go_wp2_with fail
      go_loopw [6, 7, 20] (fun v6 v7 ix wr => ∃ j : Nat, j ≤ m ∧ ix = .int .i64 j ∧ (∃ n, n ≤ 4 * k + j ∧ SM wr (w.heap.size + 1) n (tgL (o.code.take k) ++ tgI i j)) ∧ Keeps w3 wr [w.heap.size + 1]) (fun _ _ ix _ => m - (intOf ix).toNat)
      case atStart => exact ⟨0, Nat.zero_le _, rfl, ⟨nn, HNn.out, by rw [tgI_nil, List.append_nil]; exact HSm.out.kept HK3.out (by simp)⟩, Keeps.refl _ _⟩
      case round =>
        obtain ⟨j, hj, rfl, ⟨nm, hnm, hsm⟩, kr⟩ := hrel
        have HKr3 := Lib.hid kr
        have HSm3 := Lib.hid hsm
        have HNm := Lib.hid hnm
        clear kr hsm hnm
        by_cases hlj : j < m
        · obtain ⟨b7, off7, y, hA7, hb7, hc7, hy⟩ := HN.out j (by rw [HM.out]; exact hlj)
          subst hA7
          have hfr7 := HFR.out b7 off7 rfl
          have hx1 := kinds_mem i.op y (List.mem_of_getElem? hy)
          have HY := Lib.hid hy
          have q1 := (HKr3.out.cell (p := ⟨b7, off7 + j, none⟩) hb7 (by have := HW2.out.2.2; simp; omega)).trans hc7
          have hj4 : j < 4 := by omega
          have hmj : j < (kindsOf i.op).length := by rw [HM.out]; exact hlj
          have iv : World.cell? _ ⟨wo.heap.size, 1 + j, none⟩ = some (.int .i64 (i.arg j)) := ((HIb3.out.keep HKr3.out (by have := HW2.out.1; simp; omega)).cell (1 + j)).trans (insV_at i j hj4)
          have harg := insOk_arg6 HIo.out hmj
          have hx : I64A (i.arg j) := ⟨by omega, by omega⟩
          have c1 : (j : Int) < (m : Int) := by omega
          have c0 : (0 : Int) ≤ (j : Int) := Int.natCast_nonneg _
          have c4 : (j : Int) < 4 := by omega
          obtain ⟨x, hxe⟩ : ∃ x, i.arg j = x := ⟨_, rfl⟩
          have HXe := Lib.hid hxe
          rw [hxe] at iv hx
          clear hy hb7 hc7 hfr7 hmj harg hxe
          by_cases h8 : y = 8
          · have d8 : (y == 8) = true := by simpa using h8
            have HT : Hid (tgI i (j + 1) = tgI i j ++ [x]) := Lib.hid (by rw [tgI_succ_yes (by rw [HY.out, h8]), HXe.out])
            obtain ⟨w4, hst, hs4, k4⟩ := HSm3.out.put (by have := HNm.out; omega) hx
            have HS4 := Lib.hid hs4
            have HK4 := Lib.hid (HKr3.out.trans k4)
            clear h8 hs4 k4 hx
            go_wp2_with fail
            go_roundw
            case rel => exact ⟨j + 1, by omega, by go_num, ⟨nm + 1, by have := HNm.out; omega, by rw [HT.out, ← List.append_assoc]; exact HS4.out⟩, HK4.out⟩
            case measure => simp [intOf]; omega
          · have d8 : (y == 8) = false := by simpa using h8
            have HT : Hid (tgI i (j + 1) = tgI i j) := Lib.hid (tgI_succ_no HY.out h8)
            clear h8
            go_wp2_with fail
            go_roundw
            case rel => exact ⟨j + 1, by omega, by go_num, ⟨nm, by have := HNm.out; omega, by rw [HT.out]; exact HSm3.out⟩, HKr3.out⟩
            case measure => simp [intOf]; omega
        · obtain rfl : m = j := by omega
          have HS2 : Hid (SM wr (w.heap.size + 1) nm (tgL (o.code.take (k + 1)))) := Lib.hid (by rw [tgL_snoc HIn.out, HM.out]; exact HSm3.out)
          have HK9 : Hid (Keeps w1 wr [w.heap.size + 1]) := Lib.hid (HKr.out.trans ((HK3.out.to_ _).trans HKr3.out))
          have hnm := HNm.out
          clear hlj hj
          go_wp2_with fail
          go_roundw
          case rel => exact ⟨k + 1, by omega, by go_num, ⟨nm, by omega, HS2.out⟩, HK9.out⟩
          case measure => simp [intOf]; omega
    · obtain rfl : nc = k := by omega
      have HS2 : Hid (SM wr (w.heap.size + 1) nn (tgL o.code)) := Lib.hid (by
        have := HSm.out
        rwa [List.take_of_length_le (by rw [HL.out]; exact Nat.le_refl _)] at this)
      go_wp2_with fail
      go_ret
      exact ⟨_, _, rfl, HS2.out, by omega, HKw.out⟩
end Go.Proofs.YtpcihhdalofdiaaGreatDoor

/- An object's lines: the program's Lines. Printed by gen_aslin.py. -/
namespace Go.Proofs.YtpcihhdalofdiaaGreatDoor
open Go.RowKit Go.Maps
attribute [local irreducible] numT kindsOf nameOf checkE fitsP operandP plainP labelP slashP namedT programP insTxt wordsOf tgI tgL textT bigB

def isEnt (x : Int) (p : LPred) : Bool := p.entry == x
theorem ent1_any (x : Int) (p : LPred) (g : Nat) (w : World) (hg : Blk w g 3 #[.int .i64 x]) :
    Calls Tryz.prog 33 #[.agg #[.string p.name, .int .i64 p.arity, .int .i64 p.entry], .pointer (some ⟨g, 0, none⟩)] w fun e w' => e = .returned (.bool (isEnt x p)) ∧ Keeps w w' [] := by
  have k1 := (hg.alloc (.cells #[.string p.name, .int .i64 p.arity, .int .i64 p.entry] 52)).cell 0
  have HK : Hid (Keeps w (w.alloc (.cells #[.string p.name, .int .i64 p.arity, .int .i64 p.entry] 52)) []) := (Keeps.refl w []).alloc _
  have HV : Hid (isEnt x p = (p.entry == x)) := rfl
  clear hg
  go_enter Tryz.func33, Tryz.ntmps33
  go_wp2_with fail
  go_ret
  exact ⟨by rw [HV.out]; rfl, HK.out⟩
set_option maxHeartbeats 1600000 in
theorem entIdx_any (A : Option Addr) (n c : Nat) (l : List LPred) (x0 : Int) (g : Nat) (w : World) (hl : l.length = n) (hn : n ≤ 65536) (hA : Rd w A (l.flatMap predE)) (hg : Blk w g 3 #[.int .i64 x0]) :
    Calls Tryz.prog 32 #[.slice A n c, .func (.func 33) #[] #[.pointer (some ⟨g, 0, none⟩)]] w fun e w' => e = .returned (.int .i64 (findI (isEnt x0) l)) ∧ Keeps w w' [] := by
  have HL := Lib.hid hl
  have HA := Lib.hid hA
  have HG := Lib.hid hg
  clear hl hA hg
  go_enter Tryz.func32, Tryz.ntmps32
  go_wp2_with fail
  go_loopw [8] (fun i wr => ∃ k : Nat, k ≤ n ∧ i = .int .i64 k ∧ Hid (∀ y ∈ l.take k, isEnt x0 y = false) ∧ Keeps w wr []) (fun i _ => n - (intOf i).toNat)
  case atStart => exact ⟨0, Nat.zero_le _, rfl, fun y hy => by simp at hy, Keeps.refl _ _⟩
  case round =>
    obtain ⟨k, hk, rfl, HB, kr⟩ := hrel
    have HK := Lib.hid kr
    clear kr
    by_cases hlt : k < n
    · obtain ⟨x, hx⟩ := at_of HL.out hlt
      obtain ⟨b, off, rfl, hb, hc⟩ := (HA.out).field predE_len hx (by omega)
      have HX := Lib.hid hx
      have q0 : wr.cell? ⟨b, off + k * 3, none⟩ = some (.string x.name) := (HK.out.cell0 hb).trans (hc 0 _ rfl)
      have q1 : wr.cell? ⟨b, off + k * 3 + 1, none⟩ = some (.int .i64 x.arity) := (HK.out.cell0 hb).trans (hc 1 _ rfl)
      have q2 : wr.cell? ⟨b, off + k * 3 + 2, none⟩ = some (.int .i64 x.entry) := (HK.out.cell0 hb).trans (hc 2 _ rfl)
      have HC := Lib.hid (ent1_any x0 x g wr (HG.out.keep HK.out (by simp)))
      clear hx hc
      have b0 : (0 : Int) ≤ (k : Int) := Int.natCast_nonneg _
      have b1 : (k : Int) < (n : Int) := by omega
      cases hp : isEnt x0 x with
      | true =>
        have HI : Hid (findI (isEnt x0) l = (k : Int)) := findI_some HX.out hp HB.out
        rw [hp] at HC
        clear hp
        go_wp2_with (go_at_call 33; refine HC.out.mono ?_; rintro e w' ⟨rfl, k2⟩)
        go_ret
        exact ⟨by rw [HI.out]; rfl, HK.out.trans k2⟩
      | false =>
        have HB2 : Hid (∀ y ∈ l.take (k + 1), isEnt x0 y = false) := take_snoc_all HX.out hp HB.out
        rw [hp] at HC
        clear hp
        go_wp2_with (go_at_call 33; refine HC.out.mono ?_; rintro e w' ⟨rfl, k2⟩)
        go_roundw
        case rel => exact ⟨k + 1, by omega, by go_num, HB2, HK.out.trans k2⟩
        case measure => simp [intOf]; omega
    · obtain rfl : n = k := by omega
      have HI : Hid (findI (isEnt x0) l = -1) := findI_none (by have := HB.out; rwa [List.take_of_length_le (by rw [HL.out]; omega)] at this)
      go_wp2_with fail
      go_ret
      exact ⟨by rw [HI.out]; rfl, HK.out⟩

theorem ent_find (o : LObj) (n : Nat) : (∃ (z : Nat) (p : LPred), o.preds[z]? = some p ∧ findI (isEnt n) o.preds = (z : Int) ∧ (o.preds.find? fun p => p.entry == (n : Int)) = some p) ∨ (findI (isEnt n) o.preds = -1 ∧ (o.preds.find? fun p => p.entry == (n : Int)) = none) := by
  have e : (fun p : LPred => p.entry == (n : Int)) = isEnt n := rfl
  rw [e, findI_idx]
  cases h : o.preds.findIdx? (isEnt n) with
  | some z =>
    left
    have h1 := List.findIdx?_eq_some_iff_getElem.1 h
    obtain ⟨hz, hp, hb⟩ := h1
    refine ⟨z, o.preds[z], List.getElem?_eq_getElem hz, rfl, ?_⟩
    rw [List.find?_eq_some_iff_getElem]
    exact ⟨hp, z, hz, rfl, fun j hj => by simpa using hb j hj⟩
  | none =>
    right
    refine ⟨rfl, ?_⟩
    rw [List.find?_eq_none]
    intro x hx
    have := List.findIdx?_eq_none_iff.1 h x hx
    simpa using this
theorem linesFrom_snoc (o : LObj) (i : LIns) : ∀ (l : List LIns) (n : Nat), linesFrom o n (l ++ [i]) = linesFrom o n l ++ lineT o (n + l.length) i
  | [], n => by simp [linesFrom]
  | x :: l, n => by
    rw [List.cons_append, linesFrom, linesFrom_snoc o i l (n + 1), linesFrom, List.append_assoc, List.length_cons, show n + 1 + l.length = n + (l.length + 1) by omega]
theorem lineT_few (o : LObj) (n : Nat) (i : LIns) : (lineT o n i).length ≤ 3 := by
  unfold lineT
  rw [List.length_append, List.length_append]
  split <;> split <;> simp
theorem linesFrom_few (o : LObj) : ∀ (l : List LIns) (n : Nat), (linesFrom o n l).length ≤ 3 * l.length
  | [], _ => Nat.le_refl _
  | i :: l, n => by
    have h1 := lineT_few o n i
    have h2 := linesFrom_few o l (n + 1)
    rw [linesFrom, List.length_append, List.length_cons]
    omega
/-- The lines of any object: none, where it may not be. -/
def linesE (o : LObj) : List Txt := if checkE o ≠ 0 then [] else linesT o
/-- What Lines hands back. -/
def LiDone (w : World) (l : List Txt) (e : Ending) (w' : World) : Prop := ∃ A c, e = .returned (.slice A l.length c) ∧ Rd w' A ((l.map stB).flatMap strE) ∧ Keeps w w' [] ∧ (A = none → c = 0)
/-- The lines so far. -/
structure LR (w2 wr : World) (OA : Option Addr) (no oc : Nat) (l : List Txt) : Prop where
  own : wr.ownsRow w2.heap.size 9 1 (.slice OA no oc) no ((l.map stB).flatMap strE)
  keep : Keeps w2 wr []
theorem LR.keep0 {w2 wr w3 : World} {OA : Option Addr} {no oc : Nat} {l : List Txt} (h : LR w2 wr OA no oc l) (k : Keeps wr w3 []) : LR w2 w3 OA no oc l := ⟨own_keep0 h.own k, h.keep.trans k⟩
/-- One more line. -/
theorem LR.app {w2 wr wa w3 : World} {OA A' : Option Addr} {no oc c' : Nat} {l : List Txt} {x : Txt} (h : LR w2 wr OA no oc l) (k : Keeps wr wa []) (ho : w3.ownsRow w2.heap.size 9 1 (.slice A' (no + 1) c') (no + 1) ((l.map stB).flatMap strE ++ strE (stB x))) (hg : wa.grownBy w3 (Value.slice OA no oc).ownBlock) : LR w2 w3 A' (no + 1) c' (l ++ [x]) := by
  refine ⟨?_, (h.keep.trans k).app (own_keep0 h.own k) (Nat.le_refl _) hg⟩
  rw [List.map_append, List.flatMap_append]
  simpa using ho
/-- A box of another type stays. -/
theorem LR.box {w2 wr wa w3 : World} {OA : Option Addr} {no oc : Nat} {l : List Txt} {g : Nat} {t : TypeId} {cs : Array Value} (h : LR w2 wr OA no oc l) (k : Keeps wr wa []) (hg : wa.grownBy w3 (Value.slice OA no oc).ownBlock) (hb : Blk wr g t cs) (hne : t ≠ 9) : Blk w3 g t cs := blk_far (hb.keep k (by simp)) (own_keep0 h.own k) hne hg
theorem LR.len {w2 wr : World} {OA : Option Addr} {no oc : Nat} {l : List Txt} (h : LR w2 wr OA no oc l) : l.length = no := by
  have := h.own.1
  rw [length_flat strE_len, List.length_map] at this
  omega
set_option maxRecDepth 100000 in
set_option maxHeartbeats 12800000 in
theorem linesA_any (o : LObj) (Aa Af Ap Ac : Option Addr) (na nf np nc ca cf cp cc : Nat) (w : World) (hob : ObIs w o Aa Af Ap Ac ca cf cp cc) (hfit : Fits o) (la : o.atoms.length = na) (lf : o.funs.length = nf) (lp : o.preds.length = np) (lc : o.code.length = nc) (h : St w) :
    Calls Tryz.prog 14 #[.agg #[.slice Aa na ca, .slice Af nf cf, .slice Ap np cp, .slice Ac nc cc]] w (LiDone w (linesE o)) := by
  have k0 : Keeps w (w.alloc (.cells #[.slice Aa na ca, .slice Af nf cf, .slice Ap np cp, .slice Ac nc cc] 31)) [] := (Keeps.refl w []).alloc _
  have HOb : Hid (Blk (w.alloc (.cells #[.slice Aa na ca, .slice Af nf cf, .slice Ap np cp, .slice Ac nc cc] 31)) w.heap.size 31 #[.slice Aa na ca, .slice Af nf cf, .slice Ap np cp, .slice Ac nc cc]) := Blk.new _ _ _
  have HCk := Lib.hid (check_any o Aa Af Ap Ac na nf np nc ca cf cp cc (w.alloc (.cells #[.slice Aa na ca, .slice Af nf cf, .slice Ap np cp, .slice Ac nc cc] 31)) (hob.keep k0) hfit la lf lp lc)
  have HK0 := Lib.hid k0
  have HS := Lib.hid h
  have HO := Lib.hid hob
  have HFit := Lib.hid hfit
  have HLa := Lib.hid la
  have HLf := Lib.hid lf
  have HLp := Lib.hid lp
  have HLc := Lib.hid lc
  have o0 := HOb.out.cell 0
  have o1 := HOb.out.cell 1
  have o2 := HOb.out.cell 2
  have o3 := HOb.out.cell 3
  unfold ErrTold at HCk
  have HLE : Hid (linesE o = if checkE o ≠ 0 then [] else linesT o) := rfl
  have HOk := Lib.hid (@check_ok o)
  generalize checkE o = ck at *
  clear k0 h hob hfit la lf lp lc
  go_enter Tryz.func14, Tryz.ntmps14
  go_wp2_with fail
  generalize w.alloc (.cells #[.slice Aa na ca, .slice Af nf cf, .slice Ap np cp, .slice Ac nc cc] 31) = w0 at *
  refine HCk.out.mono ?_
  rintro e w1 ⟨rfl, k1⟩
  have HK1 := Lib.hid (HK0.out.trans k1)
  have HB1 := Lib.hid (HOb.out.keep k1 (by simp))
  clear k1 o0 o1 o2 o3 HCk HK0 HOb
  by_cases hck : ck = 0
  case neg =>
    have d0 : (ck == 0) = false := by simpa using hck
    have d1 : (ck != 0) = true := by simpa using hck
    have HV := Lib.hid (HLE.out.trans (if_pos hck))
    clear hck
    go_wp2_with fail
    go_ret
    rw [HV.out]
    exact ⟨none, 0, rfl, Rd.nil, HK1.out, fun _ => rfl⟩
  have HObj := Lib.hid (HOk.out hck)
  have HLE2 : Hid (linesE o = linesT o) := HLE.out.trans (if_neg (by simp [hck]))
  subst hck
  have HTg0 := Lib.hid (targets9_any o (fun i hi => (HObj.out.ins hi).1) Aa Af Ap Ac na nf np nc ca cf cp cc w1 (HO.out.keep HK1.out) HFit.out HLc.out)
  have o0 := HB1.out.cell 0
  have o1 := HB1.out.cell 1
  have o2 := HB1.out.cell 2
  have o3 := HB1.out.cell 3
  clear HLE HOk w0
  go_wp2_with fail
  refine HTg0.out.mono ?_
  rintro e w2 ⟨mb, mn, rfl, hsm, hmb, k2⟩
  have HSm := Lib.hid hsm
  have HK02 := Lib.hid (HK1.out.trans k2)
  have HB2 := Lib.hid (HB1.out.keep k2 (by simp))
  have HO2 := Lib.hid (HO.out.keep HK02.out)
  have hnc : nc ≤ 65536 := by have := HFit.out.code; have := HLc.out; omega
  have o3 := HB2.out.cell 3
  have HTxt : Hid (∀ (i : LIns), i ∈ o.code → ∀ W, Keeps w2 W [] → Calls Tryz.prog 36 #[.agg #[.slice Aa na ca, .slice Af nf cf, .slice Ap np cp, .slice Ac nc cc], .agg #[.int .i64 i.op, .int .i64 i.a0, .int .i64 i.a1, .int .i64 i.a2, .int .i64 i.a3]] W fun e w' => e = .returned (.string (stB (textT o i))) ∧ Keeps W w' []) := fun i hi W kk => by
    have hins := HObj.out.ins hi
    exact text9_any o i hins.1 hins.2 Aa Af Ap Ac na nf np nc ca cf cp cc W (HO2.out.keep kk) HFit.out HLa.out HLf.out HLp.out (HS.out.keep (HK02.out.trans kk))
  have HNp : Hid (np ≤ 65536) := Lib.hid (by have := HFit.out.preds; have := HLp.out; omega)
  have H0 : Hid (LR w2 w2 none 0 0 []) := ⟨⟨by simp, .inl ⟨rfl, rfl⟩⟩, Keeps.refl _ _⟩
  have hmf : ∀ (fn : Fn) (first cap : Array Value) (w : World), (Instr.makeFunc fn first cap).run Tryz.prog w = .ok (.func fn first cap) w := fun _ _ _ _ => rfl
  clear hsm hmb k2 o0 o1 o2 HTg0 HB1 HK1
  go_wp2_with fail
  clear o3
  go_loopw [4, 5, 6, 7, 16] (fun v4 v5 v6 v7 ix wr => ∃ k : Nat, k ≤ nc ∧ ix = .int .i64 k ∧ ∃ OA no oc, v4 = .slice OA no oc ∧ no ≤ 3 * k ∧ LR w2 wr OA no oc (linesFrom o 0 (o.code.take k))) (fun _ _ _ _ ix _ => nc - (intOf ix).toNat)
  case atStart => exact ⟨0, Nat.zero_le _, rfl, none, 0, 0, rfl, Nat.zero_le _, H0.out⟩
  case round =>
    clear H0
    obtain ⟨k, hk, rfl, OA, no, oc, rfl, hno, hlr⟩ := hrel
    have HR := Lib.hid hlr
    have HNo := Lib.hid hno
    clear hlr hno
    by_cases hlk : k < nc
    · obtain ⟨i, hi⟩ := at_of HLc.out hlk
      obtain ⟨b, off, e1, hb, hc⟩ := HO2.out.code.field insE_len hi (by omega)
      subst e1
      have p0 : wr.cell? ⟨b, off + k * 5, none⟩ = some (.int .i64 i.op) := (HR.out.keep.cell0 hb).trans (hc 0 _ rfl)
      have p1 : wr.cell? ⟨b, off + k * 5 + 1, none⟩ = some (.int .i64 i.a0) := (HR.out.keep.cell0 hb).trans (hc 1 _ rfl)
      have p2 : wr.cell? ⟨b, off + k * 5 + 2, none⟩ = some (.int .i64 i.a1) := (HR.out.keep.cell0 hb).trans (hc 2 _ rfl)
      have p3 : wr.cell? ⟨b, off + k * 5 + 3, none⟩ = some (.int .i64 i.a2) := (HR.out.keep.cell0 hb).trans (hc 3 _ rfl)
      have p4 : wr.cell? ⟨b, off + k * 5 + 4, none⟩ = some (.int .i64 i.a3) := (HR.out.keep.cell0 hb).trans (hc 4 _ rfl)
      have HTxt2 := Lib.hid (HTxt.out i (List.mem_of_getElem? hi))
      have HSn : Hid (linesFrom o 0 (o.code.take (k + 1)) = linesFrom o 0 (o.code.take k) ++ lineT o k i) := Lib.hid (by
        rw [take_snocA hi, linesFrom_snoc, List.length_take, HLc.out, Nat.zero_add, Nat.min_eq_left hk])
      generalize linesFrom o 0 (o.code.take k) = ls at *
      have b1' : (k : Int) < (nc : Int) := by omega
      have b0 : (0 : Int) ≤ (k : Int) := Int.natCast_nonneg _
      have K3 : Keeps wr ((wr.alloc (.cells #[.int .i64 k] 3)).alloc (.cells #[.int .i64 i.op, .int .i64 i.a0, .int .i64 i.a1, .int .i64 i.a2, .int .i64 i.a3] 79)) [] := ((Keeps.refl wr []).alloc _).alloc _
      have HAt3 : Hid (Blk ((wr.alloc (.cells #[.int .i64 k] 3)).alloc (.cells #[.int .i64 i.op, .int .i64 i.a0, .int .i64 i.a1, .int .i64 i.a2, .int .i64 i.a3] 79)) wr.heap.size 3 #[.int .i64 k]) := (Blk.new _ _ _).alloc _
      have HIn3 : Hid (Blk ((wr.alloc (.cells #[.int .i64 k] 3)).alloc (.cells #[.int .i64 i.op, .int .i64 i.a0, .int .i64 i.a1, .int .i64 i.a2, .int .i64 i.a3] 79)) (wr.heap.size + 1) 79 #[.int .i64 i.op, .int .i64 i.a0, .int .i64 i.a1, .int .i64 i.a2, .int .i64 i.a3]) := Blk.newAt _ _ (by simp)
      have HR3 := Lib.hid (HR.out.keep0 K3)
      have hob2 := (HB2.out.keep HR3.out.keep (by simp)).cell 2
      have HIx := Lib.hid (entIdx_any Ap np cp o.preds (k : Int) wr.heap.size ((wr.alloc (.cells #[.int .i64 k] 3)).alloc (.cells #[.int .i64 i.op, .int .i64 i.a0, .int .i64 i.a1, .int .i64 i.a2, .int .i64 i.a3] 79)) HLp.out HNp.out (HO2.out.keep HR3.out.keep).preds HAt3.out)
      have hf := ent_find o k
      clear hi hb hc K3 HTxt
      go_upto_region 8 with fail
      generalize (wr.alloc (.cells #[.int .i64 k] 3)).alloc (.cells #[.int .i64 i.op, .int .i64 i.a0, .int .i64 i.a1, .int .i64 i.a2, .int .i64 i.a3] 79) = w3 at *
      clear p0 p1 p2 p3 p4 HR
      have HTxt := HTxt2
      rcases hf with hf | hf
      · skip
        obtain ⟨z, p, hz, hfi, hfd⟩ := hf
        rw [hfi] at HIx
        have HFd := Lib.hid hfd
        have hpo := HObj.out.preds p (List.mem_of_getElem? hz)
        simp only [predOk, Bool.and_eq_true, decide_eq_true_eq] at hpo
        obtain ⟨ar, har⟩ := Int.eq_ofNat_of_zero_le (show 0 ≤ p.arity by omega)
        obtain ⟨b1, o1, e1, hb1, hc1⟩ := HO2.out.preds.field predE_len hz (by omega)
        subst e1
        have f0 : w2.cell? ⟨b1, o1 + z * 3, none⟩ = some (.string p.name) := hc1 0 _ rfl
        have f1 : w2.cell? ⟨b1, o1 + z * 3 + 1, none⟩ = some (.int .i64 p.arity) := hc1 1 _ rfl
        rw [har] at f1
        have hzn : z < np := by have := (List.getElem?_eq_some_iff.1 hz).1; have := HLp.out; omega
        have c5 : (z : Int) < (np : Int) := by omega
        have c6 : (0 : Int) ≤ (z : Int) := Int.natCast_nonneg _
        have HF10 : Hid (∀ W, Keeps w2 W [] → W.cell? ⟨w.heap.size, 2, none⟩ = some (.slice (some ⟨b1, o1, none⟩) np cp) ∧ W.cell? ⟨b1, o1 + z * 3, none⟩ = some (.string p.name) ∧ W.cell? ⟨b1, o1 + z * 3 + 1, none⟩ = some (.int .i64 ar)) := fun W kk => ⟨(HB2.out.keep kk (by simp)).cell 2, (kk.cell0 (block_lt_of_cell f0)).trans f0, (kk.cell0 (block_lt_of_cell f1)).trans f1⟩
        have HX : Hid (stB (predW ++ 32 :: slT ⟨p.name, p.arity⟩) = (⟨#[112, 114, 101, 100, 32]⟩ : ByteArray) ++ stB (slT ⟨p.name, ar⟩)) := Lib.hid (by
          rw [har, show (⟨#[112, 114, 101, 100, 32]⟩ : ByteArray) = stB [112, 114, 101, 100, 32] from rfl, stB_app]
          rfl)
        have hxs : (stB (slT ⟨p.name, ar⟩)).size ≤ 40 := by rw [stB_size]; exact slT_len (f := ⟨p.name, ar⟩) hpo.1 (by simp only; omega)
        have hadd : ∀ w : World, (Op.stringOp .add (⟨#[112, 114, 101, 100, 32]⟩ : ByteArray) (stB (slT ⟨p.name, ar⟩))).run Tryz.prog w = .ok (.string ((⟨#[112, 114, 101, 100, 32]⟩ : ByteArray) ++ stB (slT ⟨p.name, ar⟩))) w := fun w => run_string_add_sum (P := Tryz.prog) w _ _ (by
          have : (⟨#[112, 114, 101, 100, 32]⟩ : ByteArray).size = 5 := rfl
          omega)
        have HNm : Hid (∀ W, Keeps w W [] → _) := fun W (kk : Keeps w W []) => name9_any p.name ar (Nat.le_trans (nameOk_size hpo.1) (by omega)) (by omega) W (HS.out.keep kk).tab
        have HLT : Hid (lineT o k i = [predW ++ 32 :: slT ⟨p.name, p.arity⟩] ++ ((if targetB o k then [64 :: Lib.decDigits k] else []) ++ [textT o i])) := Lib.hid (by unfold lineT; rw [hfd])
        clear hz hfi hfd hpo hb1 hc1 f0 f1 har hzn hxs HFd
        generalize stB (slT ⟨p.name, ar⟩) = nmS at *
        generalize predW ++ 32 :: slT ⟨p.name, p.arity⟩ = lnP at *
        go_wp2_with fail
        refine HIx.out.mono ?_
        rintro e w4 ⟨rfl, k4⟩
        have HR4 := Lib.hid (HR3.out.keep0 k4)
        have HA4 := Lib.hid (HAt3.out.keep k4 (by simp))
        have HI4 := Lib.hid (HIn3.out.keep k4 (by simp))
        clear k4 HIx
        have HNm4 := Lib.hid (HNm.out w4.drew (HK02.out.trans HR4.out.keep).drew)
        clear HNm
        go_upto_region 10 with fail
        refine wp_region_tx (fun W' => W'.cell? ⟨w.heap.size, 2, none⟩ = some (.slice (some ⟨b1, o1, none⟩) np cp) ∧ W'.cell? ⟨b1, o1 + z * 3, none⟩ = some (.string p.name) ∧ W'.cell? ⟨b1, o1 + z * 3 + 1, none⟩ = some (.int .i64 ar)) [(0, true), (1, true), (2, true), (3, true), (4, true), (5, true), (6, true), (7, true), (8, true), (9, true), (10, true), (11, true), (12, true), (13, false), (14, true), (15, false), (16, false), (17, false)] (by kernel_rfl) (by kernel_rfl) (HF10.out _ HR4.out.keep.drew) (fun hHeld => ?_)
        (repeat (first | (refine wpTx_take (v := ?_) rfl (by assumption) ?_ (by rfl) ?_; rotate_left; (focus (intro w' hSw; (try dsimp only at hSw); go_simp; (try with_reducible rfl); done)); simp only [Act.put, List.setIfInBounds_toArray, List.set_cons_zero, List.set_cons_succ]) | (refine wpTx_skip rfl (by assumption) (by rfl) ?_; simp only [Act.put, List.setIfInBounds_toArray, List.set_cons_zero, List.set_cons_succ])))
        refine wpTx_go rfl (fun K hK => ?_)
        go_simp
        refine HNm4.out.mono ?_
        rintro e w5 ⟨rfl, k5'⟩
        have HK5 : Hid (Keeps w4 w5 []) := (Keeps.refl w4 []).drew.trans k5'
        have HFw := Lib.hid (HF10.out w5 (HR4.out.keep.trans HK5.out))
        clear k5'
        refine hK.out _ _ ?_ ?_
        · exact HFw.out
        (clear hHeld; intro hHeld; clear hK K; (try simp only [Act.put, List.setIfInBounds_toArray, List.set_cons_zero, List.set_cons_succ]))
        (repeat (first | (refine wpTx_take (v := ?_) rfl (by assumption) ?_ (by rfl) ?_; rotate_left; (focus (intro w' hSw; (try dsimp only at hSw); go_simp; (try with_reducible rfl); done)); simp only [Act.put, List.setIfInBounds_toArray, List.set_cons_zero, List.set_cons_succ]) | (refine wpTx_skip rfl (by assumption) (by rfl) ?_; simp only [Act.put, List.setIfInBounds_toArray, List.set_cons_zero, List.set_cons_succ])))
        refine wpTx_go rfl (fun K hK => ?_)
        go_simp
        refine hK.out _ _ ?_ ?_
        · exact HF10.out _ ((HR4.out.keep.trans HK5.out).alloc _)
        (clear hHeld; intro hHeld; clear hK K; (try simp only [Act.put, List.setIfInBounds_toArray, List.set_cons_zero, List.set_cons_succ]))
        refine wpTx_go rfl (fun K hK => ?_)
        have K6 : Keeps w4 (w5.alloc (.cells #[.string ((⟨#[112, 114, 101, 100, 32]⟩ : ByteArray) ++ nmS)] 9)) [] := HK5.out.alloc _
        refine step_app _ el_atomA (by rfl) _ _ (by rfl) w2.heap.size OA no oc ((ls.map stB).flatMap strE) (by rfl) (own_keep0 HR4.out.own K6) (some ⟨w5.heap.size, 0, none⟩) 1 1 (strE ((⟨#[112, 114, 101, 100, 32]⟩ : ByteArray) ++ nmS)) (by rfl) (Rd.one w5 _ (strE ((⟨#[112, 114, 101, 100, 32]⟩ : ByteArray) ++ nmS))) rfl (by simp) (by simp [strE, Value.oneCell']) (by have := HNo.out; omega) (Nat.le_trans HR4.out.keep.size K6.size) ?_
        intro A' c' w6 hown hgrow _
        have HR6 : Hid (LR w2 w6 A' (no + 1) c' (ls ++ [lnP])) := Lib.hid (HR4.out.app K6 (by rw [HX.out]; exact hown) hgrow)
        have HA6 := Lib.hid (HR4.out.box K6 hgrow HA4.out (by decide))
        have HI6 := Lib.hid (HR4.out.box K6 hgrow HI4.out (by decide))
        have HFx := Lib.hid (HF10.out w6 HR6.out.keep)
        clear hown hgrow K6
        refine hK.out _ _ ?_ ?_
        · exact HFx.out
        (clear hHeld; intro hHeld; clear hK K; (try simp only [Act.put, List.setIfInBounds_toArray, List.set_cons_zero, List.set_cons_succ]))
        refine wpTx_last rfl (fun K hK => ?_)
        go_simp
        refine hK.out _ _ (NoPanic.normal ?_); clear hK K; (try simp only [Act.put, List.setIfInBounds_toArray, List.set_cons_zero, List.set_cons_succ])
        clear hHeld HF10 HFw HFx HR4 HA4 HI4 HK5 HNm4
        have HN6 : Hid (no + 1 ≤ 3 * k + 1) := Lib.hid (by have := HNo.out; omega)
        generalize hn6 : no + 1 = n6 at *
        generalize hl6 : ls ++ [lnP] = l6 at *
        have HLT6 : Hid (ls ++ lineT o k i = l6 ++ ((if targetB o k then [64 :: Lib.decDigits k] else []) ++ [textT o i])) := Lib.hid (by rw [HLT.out, ← hl6, List.append_assoc])
        clear hn6 hl6 HLT HNo HX
        have a0 := HA6.out.cell 0
        have hlk := (HSm.out.kept HR6.out.keep (by simp)).look (x := (k : Int)) ⟨by omega, by omega⟩
        have HTg := Lib.hid (target_is o k)
        cases htb : decide ((k : Int) ∈ tgL o.code) with
        | true =>
          rw [htb] at hlk HTg
          have HLT7 : Hid (linesFrom o 0 (o.code.take (k + 1)) = l6 ++ [64 :: Lib.decDigits k] ++ [textT o i]) := Lib.hid (by rw [HSn.out, HLT6.out, HTg.out, if_pos rfl]; simp)
          have HIt := Lib.hid (itoa_any k (by omega) w6 (HS.out.keep (HK02.out.trans HR6.out.keep)).tab)
          have ha := txt_at k (by omega)
          clear htb
          go_wp2_with fail
          refine HIt.out.mono ?_
          rintro e w7 ⟨rfl, k7⟩
          have HK7 := Lib.hid k7
          clear k7 hlk a0 HIt
          go_upto_region 13 with (at_builtin; have K7 := HK7.out.alloc (.cells #[.string (stB (64 :: Lib.decDigits k))] 9); refine wpList_app _ el_atomA rfl (.tmp 47) (.tmp 51) rfl w2.heap.size A' n6 c' ((l6.map stB).flatMap strE) rfl (own_keep0 HR6.out.own K7) (some ⟨w7.heap.size, 0, none⟩) 1 1 (strE (stB (64 :: Lib.decDigits k))) rfl (Rd.one w7 _ (strE (stB (64 :: Lib.decDigits k)))) rfl (by simp) (by simp [strE, Value.oneCell']) (by have := HN6.out; omega) (Nat.le_trans HR6.out.keep.size K7.size) ?_; intro A8 c8 w8' hown hgrow _; have HR8 := Lib.hid (HR6.out.app K7 hown hgrow); have HI8 := Lib.hid (HR6.out.box K7 hgrow HI6.out (by decide)); clear hown hgrow K7)
          have HNL : Hid (n6 + 1 ≤ 3 * k + 2) := Lib.hid (by have := HN6.out; omega)
          have HLs := Lib.hid HLT7.out
          clear HLT7 HLT6 ha
          have HB7 := Lib.hid (HB2.out.keep HR8.out.keep (by simp))
          have o0 := HB7.out.cell 0
          have o1 := HB7.out.cell 1
          have o2 := HB7.out.cell 2
          have o3 := HB7.out.cell 3
          have i0 := HI8.out.cell 0
          have i1 := HI8.out.cell 1
          have i2 := HI8.out.cell 2
          have i3 := HI8.out.cell 3
          have i4 := HI8.out.cell 4
          have HTx := Lib.hid (HTxt.out w8' HR8.out.keep)
          go_wp2_with fail
          refine HTx.out.mono ?_
          rintro e w8 ⟨rfl, k8⟩
          have HK8 := Lib.hid k8
          clear k8 o0 o1 o2 o3 i0 i1 i2 i3 i4
          go_wp2_with (at_builtin; have K9 := HK8.out.alloc (.cells #[.string (stB (textT o i))] 9); refine wpList_app _ el_atomA rfl (.tmp 53) (.tmp 57) rfl w2.heap.size A8 (n6 + 1) c8 (((l6 ++ [64 :: Lib.decDigits k]).map stB).flatMap strE) rfl (own_keep0 HR8.out.own K9) (some ⟨w8.heap.size, 0, none⟩) 1 1 (strE (stB (textT o i))) rfl (Rd.one w8 _ (strE (stB (textT o i)))) rfl (by simp) (by simp [strE, Value.oneCell']) (by have := HNL.out; omega) (Nat.le_trans HR8.out.keep.size K9.size) ?_; intro A9 c9 w9 hown hgrow _; have HR9 := Lib.hid (HR8.out.app K9 hown hgrow); clear hown hgrow K9)
          go_roundw
          case rel => exact ⟨k + 1, by omega, by go_num, A9, (n6 + 1) + 1, c9, by rfl, by have := HNL.out; omega, by rw [HLs.out]; exact HR9.out⟩
          case measure => simp [intOf]; omega
        | false =>
          rw [htb] at hlk HTg
          have HLs : Hid (linesFrom o 0 (o.code.take (k + 1)) = l6 ++ [textT o i]) := Lib.hid (by rw [HSn.out, HLT6.out, HTg.out, if_neg Bool.false_ne_true]; simp)
          have HNL : Hid (n6 ≤ 3 * k + 2) := Lib.hid (by have := HN6.out; omega)
          clear htb
          have HB7 := Lib.hid (HB2.out.keep HR6.out.keep (by simp))
          have o0 := HB7.out.cell 0
          have o1 := HB7.out.cell 1
          have o2 := HB7.out.cell 2
          have o3 := HB7.out.cell 3
          have i0 := HI6.out.cell 0
          have i1 := HI6.out.cell 1
          have i2 := HI6.out.cell 2
          have i3 := HI6.out.cell 3
          have i4 := HI6.out.cell 4
          have HTx := Lib.hid (HTxt.out w6 HR6.out.keep)
          go_wp2_with fail
          refine HTx.out.mono ?_
          rintro e w8 ⟨rfl, k8⟩
          have HK8 := Lib.hid k8
          clear k8 o0 o1 o2 o3 i0 i1 i2 i3 i4
          go_wp2_with (at_builtin; have K9 := HK8.out.alloc (.cells #[.string (stB (textT o i))] 9); refine wpList_app _ el_atomA rfl (.tmp 53) (.tmp 57) rfl w2.heap.size A' n6 c' ((l6.map stB).flatMap strE) rfl (own_keep0 HR6.out.own K9) (some ⟨w8.heap.size, 0, none⟩) 1 1 (strE (stB (textT o i))) rfl (Rd.one w8 _ (strE (stB (textT o i)))) rfl (by simp) (by simp [strE, Value.oneCell']) (by have := HNL.out; omega) (Nat.le_trans HR6.out.keep.size K9.size) ?_; intro A9 c9 w9 hown hgrow _; have HR9 := Lib.hid (HR6.out.app K9 hown hgrow); clear hown hgrow K9)
          go_roundw
          case rel => exact ⟨k + 1, by omega, by go_num, A9, n6 + 1, c9, by rfl, by have := HNL.out; omega, by rw [HLs.out]; exact HR9.out⟩
          case measure => simp [intOf]; omega
      · skip
        obtain ⟨hfi, hfd⟩ := hf
        rw [hfi] at HIx
        have HLT6 : Hid (ls ++ lineT o k i = ls ++ ((if targetB o k then [64 :: Lib.decDigits k] else []) ++ [textT o i])) := Lib.hid (by unfold lineT; rw [hfd]; rfl)
        have HN6 : Hid (no ≤ 3 * k + 1) := Lib.hid (by have := HNo.out; omega)
        clear hfi hfd
        go_wp2_with fail
        refine HIx.out.mono ?_
        rintro e w4 ⟨rfl, k4⟩
        have HR4 := Lib.hid (HR3.out.keep0 k4)
        have HA4 := Lib.hid (HAt3.out.keep k4 (by simp))
        have HI4 := Lib.hid (HIn3.out.keep k4 (by simp))
        clear k4 HIx
        have a0 := HA4.out.cell 0
        have hlk := (HSm.out.kept HR4.out.keep (by simp)).look (x := (k : Int)) ⟨by omega, by omega⟩
        have HTg := Lib.hid (target_is o k)
        cases htb : decide ((k : Int) ∈ tgL o.code) with
        | true =>
          rw [htb] at hlk HTg
          have HLT7 : Hid (linesFrom o 0 (o.code.take (k + 1)) = ls ++ [64 :: Lib.decDigits k] ++ [textT o i]) := Lib.hid (by rw [HSn.out, HLT6.out, HTg.out, if_pos rfl]; simp)
          have HIt := Lib.hid (itoa_any k (by omega) w4 (HS.out.keep (HK02.out.trans HR4.out.keep)).tab)
          have ha := txt_at k (by omega)
          clear htb
          go_wp2_with fail
          refine HIt.out.mono ?_
          rintro e w7 ⟨rfl, k7⟩
          have HK7 := Lib.hid k7
          clear k7 hlk a0 HIt
          go_upto_region 13 with (at_builtin; have K7 := HK7.out.alloc (.cells #[.string (stB (64 :: Lib.decDigits k))] 9); refine wpList_app _ el_atomA rfl (.tmp 47) (.tmp 51) rfl w2.heap.size OA no oc ((ls.map stB).flatMap strE) rfl (own_keep0 HR4.out.own K7) (some ⟨w7.heap.size, 0, none⟩) 1 1 (strE (stB (64 :: Lib.decDigits k))) rfl (Rd.one w7 _ (strE (stB (64 :: Lib.decDigits k)))) rfl (by simp) (by simp [strE, Value.oneCell']) (by have := HN6.out; omega) (Nat.le_trans HR4.out.keep.size K7.size) ?_; intro A8 c8 w8' hown hgrow _; have HR8 := Lib.hid (HR4.out.app K7 hown hgrow); have HI8 := Lib.hid (HR4.out.box K7 hgrow HI4.out (by decide)); clear hown hgrow K7)
          have HNL : Hid (no + 1 ≤ 3 * k + 2) := Lib.hid (by have := HN6.out; omega)
          have HLs := Lib.hid HLT7.out
          clear HLT7 HLT6 ha
          have HB7 := Lib.hid (HB2.out.keep HR8.out.keep (by simp))
          have o0 := HB7.out.cell 0
          have o1 := HB7.out.cell 1
          have o2 := HB7.out.cell 2
          have o3 := HB7.out.cell 3
          have i0 := HI8.out.cell 0
          have i1 := HI8.out.cell 1
          have i2 := HI8.out.cell 2
          have i3 := HI8.out.cell 3
          have i4 := HI8.out.cell 4
          have HTx := Lib.hid (HTxt.out w8' HR8.out.keep)
          go_wp2_with fail
          refine HTx.out.mono ?_
          rintro e w8 ⟨rfl, k8⟩
          have HK8 := Lib.hid k8
          clear k8 o0 o1 o2 o3 i0 i1 i2 i3 i4
          go_wp2_with (at_builtin; have K9 := HK8.out.alloc (.cells #[.string (stB (textT o i))] 9); refine wpList_app _ el_atomA rfl (.tmp 53) (.tmp 57) rfl w2.heap.size A8 (no + 1) c8 (((ls ++ [64 :: Lib.decDigits k]).map stB).flatMap strE) rfl (own_keep0 HR8.out.own K9) (some ⟨w8.heap.size, 0, none⟩) 1 1 (strE (stB (textT o i))) rfl (Rd.one w8 _ (strE (stB (textT o i)))) rfl (by simp) (by simp [strE, Value.oneCell']) (by have := HNL.out; omega) (Nat.le_trans HR8.out.keep.size K9.size) ?_; intro A9 c9 w9 hown hgrow _; have HR9 := Lib.hid (HR8.out.app K9 hown hgrow); clear hown hgrow K9)
          go_roundw
          case rel => exact ⟨k + 1, by omega, by go_num, A9, (no + 1) + 1, c9, by rfl, by have := HNL.out; omega, by rw [HLs.out]; exact HR9.out⟩
          case measure => simp [intOf]; omega
        | false =>
          rw [htb] at hlk HTg
          have HLs : Hid (linesFrom o 0 (o.code.take (k + 1)) = ls ++ [textT o i]) := Lib.hid (by rw [HSn.out, HLT6.out, HTg.out, if_neg Bool.false_ne_true]; simp)
          have HNL : Hid (no ≤ 3 * k + 2) := Lib.hid (by have := HN6.out; omega)
          clear htb
          have HB7 := Lib.hid (HB2.out.keep HR4.out.keep (by simp))
          have o0 := HB7.out.cell 0
          have o1 := HB7.out.cell 1
          have o2 := HB7.out.cell 2
          have o3 := HB7.out.cell 3
          have i0 := HI4.out.cell 0
          have i1 := HI4.out.cell 1
          have i2 := HI4.out.cell 2
          have i3 := HI4.out.cell 3
          have i4 := HI4.out.cell 4
          have HTx := Lib.hid (HTxt.out w4 HR4.out.keep)
          go_wp2_with fail
          refine HTx.out.mono ?_
          rintro e w8 ⟨rfl, k8⟩
          have HK8 := Lib.hid k8
          clear k8 o0 o1 o2 o3 i0 i1 i2 i3 i4
          go_wp2_with (at_builtin; have K9 := HK8.out.alloc (.cells #[.string (stB (textT o i))] 9); refine wpList_app _ el_atomA rfl (.tmp 53) (.tmp 57) rfl w2.heap.size OA no oc ((ls.map stB).flatMap strE) rfl (own_keep0 HR4.out.own K9) (some ⟨w8.heap.size, 0, none⟩) 1 1 (strE (stB (textT o i))) rfl (Rd.one w8 _ (strE (stB (textT o i)))) rfl (by simp) (by simp [strE, Value.oneCell']) (by have := HNL.out; omega) (Nat.le_trans HR4.out.keep.size K9.size) ?_; intro A9 c9 w9 hown hgrow _; have HR9 := Lib.hid (HR4.out.app K9 hown hgrow); clear hown hgrow K9)
          go_roundw
          case rel => exact ⟨k + 1, by omega, by go_num, A9, no + 1, c9, by rfl, by have := HNL.out; omega, by rw [HLs.out]; exact HR9.out⟩
          case measure => simp [intOf]; omega
    · obtain rfl : nc = k := by omega
      have HV : Hid (linesFrom o 0 (o.code.take nc) = linesE o) := Lib.hid (by rw [List.take_of_length_le (by rw [HLc.out]; exact Nat.le_refl _), HLE2.out]; rfl)
      rw [HV.out] at HR
      have HLn := Lib.hid HR.out.len
      go_wp2_with fail
      go_ret
      refine ⟨OA, oc, by rw [HLn.out]; rfl, Rd.of_own HR.out.own, HK02.out.trans HR.out.keep, fun e => by have := HR.out.own; rw [e] at this; exact own_nilA this⟩
end Go.Proofs.YtpcihhdalofdiaaGreatDoor

/- An instruction as a line: the document's text. Printed by gen_asrtext.py. -/
namespace Go.Proofs.YtpcihhdalofdiaaGreatDoor
open Go.RowKit Go.Maps

theorem joinT_snocA : ∀ (l : List Txt) (x : Txt), l ≠ [] → joinT (l ++ [x]) = joinT l ++ 32 :: x
  | [], _, h => absurd rfl h
  | [a], x, _ => rfl
  | a :: b :: l, x, _ => by
    have ih := joinT_snocA (b :: l) x (by simp)
    rw [List.cons_append, List.cons_append, joinT]
    rw [List.cons_append] at ih
    rw [ih, joinT]
    simp
attribute [local irreducible] numT kindsOf nameOf checkE fitsP operandP plainP labelP slashP namedT programP insTxt wordsOf tgI tgL textT bigB wordT wordsT opTxt
/-- The line so far. -/
def preT (o : LObj) (i : LIns) (j : Nat) : Txt := joinT ((wordsT o i).take (j + 1))
theorem preT_zero (o : LObj) (i : LIns) : preT o i 0 = nameT i.op := by
  unfold preT
  have h1 : (wordsT o i).take 1 = [nameT i.op] := by unfold wordsT; rfl
  rw [Nat.zero_add, h1]
  rfl
theorem preT_succ {o : LObj} {i : LIns} {j q : Nat} (hy : (kindsOf i.op)[j]? = some (q : Int)) : preT o i (j + 1) = preT o i j ++ 32 :: wordT o q (i.arg j) := by
  unfold preT
  rw [take_snocA (wordsT_at hy)]
  refine joinT_snocA _ _ (fun h => ?_)
  have h1 := congrArg List.length h
  rw [List.length_take, wordsT_len] at h1
  simp at h1
theorem preT_end (o : LObj) (i : LIns) {m : Nat} (hm : (kindsOf i.op).length = m) : preT o i m = textT o i := by
  unfold preT
  rw [textT_is, List.take_of_length_le (by rw [wordsT_len, hm]; exact Nat.le_refl _)]
theorem preT_len {o : LObj} {i : LIns} (hok : insOk i = true) (h : ∀ (j q : Nat), (kindsOf i.op)[j]? = some (q : Int) → ArgOk o q (i.arg j)) (j : Nat) : (preT o i j).length ≤ 1000 := by
  unfold preT
  have h2 := joinT_len ((wordsT o i).take (j + 1)) (fun w hw => wordsT_few hok h w (List.mem_of_mem_take hw))
  have h3 := wordsT_len o i
  have h4 := kinds_few i.op
  have h5 : ((wordsT o i).take (j + 1)).length ≤ 5 := by rw [List.length_take]; omega
  have := Nat.mul_le_mul_right (40 + 1) h5
  omega
theorem add_ok {a b : ByteArray} (h : a.size + b.size ≤ 100000) : ∀ w : World, (Op.stringOp .add a b).run Tryz.prog w = .ok (.string (a ++ b)) w := fun w => run_string_add_sum (P := Tryz.prog) w _ _ (by omega)
theorem size_ok {a b : ByteArray} {n m : Nat} (h1 : a.size ≤ n) (h2 : b.size ≤ m) : (a ++ b).size ≤ n + m := by
  rw [ByteArray.size_append]
  omega
theorem cat_sp (a b : Txt) : stB a ++ (⟨#[32]⟩ : ByteArray) ++ stB b = stB (a ++ 32 :: b) := by
  rw [show (⟨#[32]⟩ : ByteArray) = stB [32] from rfl, stB_app, stB_app]
  simp
theorem cat_sl (a : Txt) (s : ByteArray) (n : Nat) : stB a ++ (⟨#[32]⟩ : ByteArray) ++ s ++ (⟨#[47]⟩ : ByteArray) ++ stB (Lib.decDigits n) = stB (a ++ 32 :: slT ⟨s, n⟩) := by
  rw [← cat_sp, slT_str]
  simp only [ByteArray.append_assoc]
theorem cat_no (a : Txt) : stB a ++ (⟨#[32, 45]⟩ : ByteArray) = stB (a ++ 32 :: [45]) := by
  rw [show (⟨#[32, 45]⟩ : ByteArray) = stB [32, 45] from rfl, stB_app]
theorem cat_at (a b : Txt) : stB a ++ (⟨#[32, 64]⟩ : ByteArray) ++ stB b = stB (a ++ 32 :: 64 :: b) := by
  rw [show (⟨#[32, 64]⟩ : ByteArray) = stB [32, 64] from rfl, stB_app, stB_app]
  simp
theorem numD_any (n : Nat) (w : World) (hn : n ≤ 65535) : Calls Tryz.prog 39 #[.int .i64 n] w fun e w' => e = .returned (.string (stB (Lib.decDigits n))) ∧ Keeps w w' [] := by
  refine (num_any n w (by omega)).mono ?_
  rintro e w' ⟨rfl, k, rfl⟩
  exact ⟨rfl, (Keeps.refl _ _).drewN k⟩
theorem word_3' (o : LObj) (n : Int) : wordT o 3 n = bT (o.atoms.getD n.toNat ⟨#[]⟩) := word_3 o n
theorem word_4' (o : LObj) (n : Int) : wordT o 4 n = slT (o.funs.getD n.toNat ⟨⟨#[]⟩, 0⟩) := word_4 o n
theorem word_7' (o : LObj) (n : Int) : wordT o 7 n = slT ⟨(o.preds.getD n.toNat ⟨⟨#[]⟩, 0, 0⟩).name, (o.preds.getD n.toNat ⟨⟨#[]⟩, 0, 0⟩).arity⟩ := word_7 o n
attribute [local irreducible] preT
set_option maxRecDepth 100000 in
set_option maxHeartbeats 12800000 in
theorem rtext9_any (o : LObj) (i : LIns) (hok : insOk i = true) (harg : ∀ (j q : Nat), (kindsOf i.op)[j]? = some (q : Int) → ArgOk o q (i.arg j)) (Aa Af Ap Ac : Option Addr) (na nf np nc ca cf cp cc : Nat) (w : World) (hob : ObIs w o Aa Af Ap Ac ca cf cp cc) (la : o.atoms.length = na) (lf : o.funs.length = nf) (lp : o.preds.length = np) :
    Calls Tryz.prog 41 #[.agg #[.slice Aa na ca, .slice Af nf cf, .slice Ap np cp, .slice Ac nc cc], .agg #[.int .i64 i.op, .int .i64 i.a0, .int .i64 i.a1, .int .i64 i.a2, .int .i64 i.a3]] w fun e w' => e = .returned (.string (stB (textT o i))) ∧ Keeps w w' [] := by
  have k0 : Keeps w ((w.alloc (.cells #[.slice Aa na ca, .slice Af nf cf, .slice Ap np cp, .slice Ac nc cc] 39)).alloc (.cells #[.int .i64 i.op, .int .i64 i.a0, .int .i64 i.a1, .int .i64 i.a2, .int .i64 i.a3] 72)) [] := ((Keeps.refl w []).alloc _).alloc _
  have HOb : Hid (Blk ((w.alloc (.cells #[.slice Aa na ca, .slice Af nf cf, .slice Ap np cp, .slice Ac nc cc] 39)).alloc (.cells #[.int .i64 i.op, .int .i64 i.a0, .int .i64 i.a1, .int .i64 i.a2, .int .i64 i.a3] 72)) w.heap.size 39 #[.slice Aa na ca, .slice Af nf cf, .slice Ap np cp, .slice Ac nc cc]) := (Blk.new _ _ _).alloc _
  have HIb : Hid (Blk ((w.alloc (.cells #[.slice Aa na ca, .slice Af nf cf, .slice Ap np cp, .slice Ac nc cc] 39)).alloc (.cells #[.int .i64 i.op, .int .i64 i.a0, .int .i64 i.a1, .int .i64 i.a2, .int .i64 i.a3] 72)) (w.heap.size + 1) 72 #[.int .i64 i.op, .int .i64 i.a0, .int .i64 i.a1, .int .i64 i.a2, .int .i64 i.a3]) := Blk.newAt _ _ (by simp)
  have HK0 := Lib.hid k0
  have HO := Lib.hid hob
  have HArg := Lib.hid harg
  have HOk := Lib.hid hok
  have HPl := Lib.hid (fun j => preT_len hok harg j)
  have hilen := insTxt_len hok
  have HLa := Lib.hid la
  have HLf := Lib.hid lf
  have HLp := Lib.hid lp
  have HT : Hid (∀ W, Calls Tryz.prog 72 #[.agg #[.int .i64 i.op, .int .i64 i.a0, .int .i64 i.a1, .int .i64 i.a2, .int .i64 i.a3]] W fun e w' => e = .returned (.string (stB (insTxt i))) ∧ Keeps W w' []) := fun W => refText_any i W
  have i0 := HIb.out.cell 0
  clear k0 hob harg hok la lf lp
  go_enter Tryz.func41, Tryz.ntmps41
  go_wp2_with fail
  generalize (w.alloc (.cells #[.slice Aa na ca, .slice Af nf cf, .slice Ap np cp, .slice Ac nc cc] 39)).alloc (.cells #[.int .i64 i.op, .int .i64 i.a0, .int .i64 i.a1, .int .i64 i.a2, .int .i64 i.a3] 72) = w0 at *
  refine (refName6_any i.op _).mono ?_
  rintro e w1 ⟨rfl, k1⟩
  have HK1 := Lib.hid (HK0.out.trans k1)
  have HO1 := Lib.hid (HOb.out.keep k1 (by simp))
  have HI1 := Lib.hid (HIb.out.keep k1 (by simp))
  have i0 := HI1.out.cell 0
  clear k1 HOb HIb HK0
  go_wp2_with fail
  refine (refKinds_any i.op _).mono ?_
  rintro e w2 ⟨A, ck, rfl, hN, k2⟩
  have HN2 := Lib.hid hN
  have HK2 := Lib.hid (HK1.out.trans k2)
  have HO2 := Lib.hid (HO1.out.keep k2 (by simp))
  have HI2 := Lib.hid (HI1.out.keep k2 (by simp))
  have i0 := HI2.out.cell 0
  have i1 := HI2.out.cell 1
  have i2 := HI2.out.cell 2
  have i3 := HI2.out.cell 3
  have i4 := HI2.out.cell 4
  obtain ⟨m, hm⟩ : ∃ m, (kindsOf i.op).length = m := ⟨_, rfl⟩
  have hm4 := kinds_few i.op
  rw [hm] at hm4 ⊢
  have HM := Lib.hid hm
  clear k2 hN HO1 HI1 HK1 hm
  go_wp2_with fail
  refine (HT.out _).mono ?_
  rintro e w3 ⟨rfl, k3⟩
  have HK3 := Lib.hid k3
  clear k3 i0 i1 i2 i3 i4 HT
  go_wp2_with fail
  refine (refWords_any (stB (insTxt i)) (by rw [stB_size]; omega) _).mono ?_
  rintro e w4 ⟨WA, wc, rfl, hwd, k4⟩
  rw [stB_list, words_texts HOk.out, words_num, HM.out] at hwd ⊢
  have HKx := Lib.hid (HK3.out.trans k4)
  have HWd := Lib.hid (Rd.of_own hwd)
  have HK4 := Lib.hid (HK2.out.trans HKx.out)
  have HO4 := Lib.hid (HO2.out.keep HKx.out (by simp))
  have HI4 := Lib.hid (HI2.out.keep HKx.out (by simp))
  have HN4 : Hid (Nums .i64 w4 w4.heap.size A (kindsOf i.op)) := Lib.hid ((HN2.out.keep fun p hp => HKx.out.cell hp (by simp)).more HKx.out.size)
  have HP0 : Hid (nameOf i.op = stB (preT o i 0)) := Lib.hid (by rw [preT_zero]; exact (stB_of _).symm)
  rw [HP0.out]
  clear k4 hwd HK3 HO2 HI2 HN2 HK2 hilen
  go_wp2_with fail
  go_loopw [5, 8, 9] (fun v5 ix v9 wr => ∃ j : Nat, j ≤ m ∧ ix = .int .i64 j ∧ v5 = .string (stB (preT o i j)) ∧ Keeps w4 wr []) (fun _ ix _ _ => m - (intOf ix).toNat)
  case atStart => exact ⟨0, Nat.zero_le _, rfl, rfl, Keeps.refl _ _⟩
  case round =>
    obtain ⟨j, hj, rfl, rfl, kr⟩ := hrel
    have HKr := Lib.hid kr
    have HKw := Lib.hid (HK4.out.trans kr)
    have HObr := Lib.hid (HO4.out.keep kr (by simp))
    have HIbr := Lib.hid (HI4.out.keep kr (by simp))
    clear kr
    by_cases hlj : j < m
    · obtain ⟨b7, off7, y, hA7, hb7, hc7, hy⟩ := HN4.out j (by rw [HM.out]; exact hlj)
      subst hA7
      have hx1 := kinds_mem i.op y (List.mem_of_getElem? hy)
      obtain ⟨q, rfl⟩ := Int.eq_ofNat_of_zero_le (show 0 ≤ y by omega)
      have HY := Lib.hid hy
      have q1 := (HKr.out.cell (p := ⟨b7, off7 + j, none⟩) hb7 (by simp)).trans hc7
      have HAr := Lib.hid (HArg.out j q hy)
      have hj4 : j < 4 := by omega
      obtain ⟨z, hz⟩ := Int.eq_ofNat_of_zero_le HAr.out.low.1
      have HZ := Lib.hid hz
      have iv : World.cell? _ ⟨w.heap.size + 1, 1 + j, none⟩ = some (.int .i64 (i.arg j)) := (HIbr.out.cell (1 + j)).trans (insV_at i j hj4)
      rw [hz] at iv
      have hz6 : z ≤ 65535 := by have := HAr.out.low.2; omega
      have b1' : (j : Int) < (m : Int) := by omega
      have b0 : (0 : Int) ≤ (j : Int) := Int.natCast_nonneg _
      have b4 : (j : Int) < 4 := by omega
      have bz : (0 : Int) ≤ (z : Int) := Int.natCast_nonneg _
      clear hc7 hy hb7
      by_cases hq : q = 3
      · have d3 : ((q : Int) == 3) = true := by rw [beq_iff_eq]; omega
        obtain ⟨s, hs, hso⟩ := HAr.out.atom hq
        rw [hz, Int.toNat_natCast] at hs
        obtain ⟨b1, o1, e1, hb1, hc1⟩ := (HO.out.keep HKw.out).atoms.field strE_len hs (by omega)
        subst e1
        have f0 : wr.cell? ⟨b1, o1 + z, none⟩ = some (.string s) := by have := hc1 0 _ rfl; simpa using this
        have hzn : z < na := by have := (List.getElem?_eq_some_iff.1 hs).1; have := HLa.out; omega
        have c5 : (z : Int) < (na : Int) := by omega
        have o0 := HObr.out.cell 0
        have hns := nameOk_size hso
        have hpre : (stB (preT o i j)).size ≤ 1000 := by rw [stB_size]; exact HPl.out j
        have s1 := size_ok hpre (show (⟨#[32]⟩ : ByteArray).size ≤ 1 from Nat.le_refl _)
        have a1 := add_ok (a := stB (preT o i j)) (b := (⟨#[32]⟩ : ByteArray)) (by have : (⟨#[32]⟩ : ByteArray).size = 1 := rfl; omega)
        have a2 := add_ok (a := stB (preT o i j) ++ (⟨#[32]⟩ : ByteArray)) (b := s) (by omega)
        have HX : Hid (stB (preT o i j) ++ (⟨#[32]⟩ : ByteArray) ++ s = stB (preT o i (j + 1))) := Lib.hid (by
          rw [preT_succ HY.out, hq, word_3', List.getD_eq_getElem?_getD, hz, Int.toNat_natCast, hs, ← cat_sp]
          congr 1)
        clear hs hso hb1 hc1 hq hzn hns hpre s1
        generalize stB (preT o i j) = S1 at *
        go_wp2_with fail
        go_roundw
        case rel => exact ⟨j + 1, by omega, by go_num, by rw [HX.out], HKr.out⟩
        case measure => simp [intOf]; omega
      by_cases hq : q = 4
      · have d4 : ((q : Int) == 4) = true := by rw [beq_iff_eq]; omega
        have d3 : ((q : Int) == 3) = false := by rw [beq_eq_false_iff_ne]; omega
        obtain ⟨f, hf, hfo⟩ := HAr.out.fun_ hq
        rw [hz, Int.toNat_natCast] at hf
        simp only [funOk, Bool.and_eq_true, decide_eq_true_eq] at hfo
        obtain ⟨ar, har⟩ := Int.eq_ofNat_of_zero_le (show 0 ≤ f.arity by omega)
        obtain ⟨b1, o1, e1, hb1, hc1⟩ := (HO.out.keep HKw.out).funs.field funE_len hf (by omega)
        subst e1
        have f0 : wr.cell? ⟨b1, o1 + z * 2, none⟩ = some (.string f.name) := hc1 0 _ rfl
        have f1 : wr.cell? ⟨b1, o1 + z * 2 + 1, none⟩ = some (.int .i64 f.arity) := hc1 1 _ rfl
        rw [har] at f1
        have hzn : z < nf := by have := (List.getElem?_eq_some_iff.1 hf).1; have := HLf.out; omega
        have c5 : (z : Int) < (nf : Int) := by omega
        have HF : Hid (∀ W, Keeps wr W [] → W.cell? ⟨w.heap.size, 1, none⟩ = some (.slice (some ⟨b1, o1, none⟩) nf cf) ∧ W.cell? ⟨b1, o1 + z * 2, none⟩ = some (.string f.name) ∧ W.cell? ⟨b1, o1 + z * 2 + 1, none⟩ = some (.int .i64 ar)) := fun W kk => ⟨(HObr.out.keep kk (by simp)).cell 1, (kk.cell0 (block_lt_of_cell f0)).trans f0, (kk.cell0 (block_lt_of_cell f1)).trans f1⟩
        have hns := nameOk_size hfo.1
        have hds : (stB (Lib.decDigits ar)).size ≤ 7 := by rw [stB_size]; exact (digits_len ar (by omega)).2
        have hpre : (stB (preT o i j)).size ≤ 1000 := by rw [stB_size]; exact HPl.out j
        have s1 := size_ok hpre (show (⟨#[32]⟩ : ByteArray).size ≤ 1 from Nat.le_refl _)
        have s2 := size_ok s1 hns
        have s3 := size_ok s2 (show (⟨#[47]⟩ : ByteArray).size ≤ 1 from Nat.le_refl _)
        have a1 := add_ok (a := stB (preT o i j)) (b := (⟨#[32]⟩ : ByteArray)) (by have : (⟨#[32]⟩ : ByteArray).size = 1 := rfl; omega)
        have a2 := add_ok (a := stB (preT o i j) ++ (⟨#[32]⟩ : ByteArray)) (b := f.name) (by omega)
        have a3 := add_ok (a := stB (preT o i j) ++ (⟨#[32]⟩ : ByteArray) ++ f.name) (b := (⟨#[47]⟩ : ByteArray)) (by have : (⟨#[47]⟩ : ByteArray).size = 1 := rfl; omega)
        have a4 := add_ok (a := stB (preT o i j) ++ (⟨#[32]⟩ : ByteArray) ++ f.name ++ (⟨#[47]⟩ : ByteArray)) (b := stB (Lib.decDigits ar)) (by omega)
        have HX : Hid (stB (preT o i j) ++ (⟨#[32]⟩ : ByteArray) ++ f.name ++ (⟨#[47]⟩ : ByteArray) ++ stB (Lib.decDigits ar) = stB (preT o i (j + 1))) := Lib.hid (by
          rw [cat_sl, preT_succ HY.out, hq, word_4', List.getD_eq_getElem?_getD, hz, Int.toNat_natCast, hf]
          simp only [Option.getD_some]
          rw [show (f) = (⟨f.name, (ar : Int)⟩ : LFun) by rw [← har]])
        have HNm := Lib.hid (numD_any ar wr.drew (by omega))
        clear hf hfo hb1 hc1 f0 f1 har hzn hns hds hpre s1 s2 s3 hq
        generalize stB (preT o i j) = S1 at *
        generalize stB (Lib.decDigits ar) = dg at *
        go_upto_region 13 with fail
        clear q1 iv
        refine wp_region_tx (fun W' => W'.cell? ⟨w.heap.size, 1, none⟩ = some (.slice (some ⟨b1, o1, none⟩) nf cf) ∧ W'.cell? ⟨b1, o1 + z * 2, none⟩ = some (.string f.name) ∧ W'.cell? ⟨b1, o1 + z * 2 + 1, none⟩ = some (.int .i64 ar)) [(0, true), (1, true), (2, true), (3, true), (4, true), (5, true), (6, true), (7, true), (8, true), (9, true), (10, true), (11, true), (12, true), (13, true), (14, true), (15, true), (16, false), (17, true), (18, false)] (by kernel_rfl) (by kernel_rfl) (HF.out _ (Keeps.refl _ _).drew) (fun hHeld => ?_)
        (repeat (first | (refine wpTx_take (v := ?_) rfl (by assumption) ?_ (by rfl) ?_; rotate_left; (focus (intro w' hSw; (try dsimp only at hSw); go_simp; (try with_reducible rfl); done)); simp only [Act.put, List.setIfInBounds_toArray, List.set_cons_zero, List.set_cons_succ]) | (refine wpTx_skip rfl (by assumption) (by rfl) ?_; simp only [Act.put, List.setIfInBounds_toArray, List.set_cons_zero, List.set_cons_succ])))
        refine wpTx_go rfl (fun K hK => ?_)
        go_simp
        refine HNm.out.mono ?_
        rintro e w6 ⟨rfl, k6'⟩
        have k6 : Keeps wr w6 [] := (Keeps.refl wr []).drew.trans k6'
        have HFw := Lib.hid (HF.out w6 k6)
        clear k6'
        refine hK.out _ _ ?_ ?_
        · exact HFw.out
        (clear hHeld; intro hHeld; clear hK K; (try simp only [Act.put, List.setIfInBounds_toArray, List.set_cons_zero, List.set_cons_succ]))
        (repeat (first | (refine wpTx_take (v := ?_) rfl (by assumption) ?_ (by rfl) ?_; rotate_left; (focus (intro w' hSw; (try dsimp only at hSw); go_simp; (try with_reducible rfl); done)); simp only [Act.put, List.setIfInBounds_toArray, List.set_cons_zero, List.set_cons_succ]) | (refine wpTx_skip rfl (by assumption) (by rfl) ?_; simp only [Act.put, List.setIfInBounds_toArray, List.set_cons_zero, List.set_cons_succ])))
        refine wpTx_last rfl (fun K hK => ?_)
        go_simp
        refine hK.out _ _ (NoPanic.normal ?_); clear hK K; (try simp only [Act.put, List.setIfInBounds_toArray, List.set_cons_zero, List.set_cons_succ])
        clear hHeld a1 a2 a3 a4
        rw [HX.out]
        go_wp2_with fail
        go_roundw
        case rel => exact ⟨j + 1, by omega, by go_num, rfl, HKr.out.trans k6⟩
        case measure => simp [intOf]; omega
      by_cases hq : q = 7
      · have d7 : ((q : Int) == 7) = true := by rw [beq_iff_eq]; omega
        have d3 : ((q : Int) == 3) = false := by rw [beq_eq_false_iff_ne]; omega
        have d4 : ((q : Int) == 4) = false := by rw [beq_eq_false_iff_ne]; omega
        obtain ⟨f, hf, hfo⟩ := HAr.out.pred hq
        rw [hz, Int.toNat_natCast] at hf
        simp only [predOk, Bool.and_eq_true, decide_eq_true_eq] at hfo
        obtain ⟨ar, har⟩ := Int.eq_ofNat_of_zero_le (show 0 ≤ f.arity by omega)
        obtain ⟨b1, o1, e1, hb1, hc1⟩ := (HO.out.keep HKw.out).preds.field predE_len hf (by omega)
        subst e1
        have f0 : wr.cell? ⟨b1, o1 + z * 3, none⟩ = some (.string f.name) := hc1 0 _ rfl
        have f1 : wr.cell? ⟨b1, o1 + z * 3 + 1, none⟩ = some (.int .i64 f.arity) := hc1 1 _ rfl
        rw [har] at f1
        have hzn : z < np := by have := (List.getElem?_eq_some_iff.1 hf).1; have := HLp.out; omega
        have c5 : (z : Int) < (np : Int) := by omega
        have HF : Hid (∀ W, Keeps wr W [] → W.cell? ⟨w.heap.size, 2, none⟩ = some (.slice (some ⟨b1, o1, none⟩) np cp) ∧ W.cell? ⟨b1, o1 + z * 3, none⟩ = some (.string f.name) ∧ W.cell? ⟨b1, o1 + z * 3 + 1, none⟩ = some (.int .i64 ar)) := fun W kk => ⟨(HObr.out.keep kk (by simp)).cell 2, (kk.cell0 (block_lt_of_cell f0)).trans f0, (kk.cell0 (block_lt_of_cell f1)).trans f1⟩
        have hns := nameOk_size hfo.1
        have hds : (stB (Lib.decDigits ar)).size ≤ 7 := by rw [stB_size]; exact (digits_len ar (by omega)).2
        have hpre : (stB (preT o i j)).size ≤ 1000 := by rw [stB_size]; exact HPl.out j
        have s1 := size_ok hpre (show (⟨#[32]⟩ : ByteArray).size ≤ 1 from Nat.le_refl _)
        have s2 := size_ok s1 hns
        have s3 := size_ok s2 (show (⟨#[47]⟩ : ByteArray).size ≤ 1 from Nat.le_refl _)
        have a1 := add_ok (a := stB (preT o i j)) (b := (⟨#[32]⟩ : ByteArray)) (by have : (⟨#[32]⟩ : ByteArray).size = 1 := rfl; omega)
        have a2 := add_ok (a := stB (preT o i j) ++ (⟨#[32]⟩ : ByteArray)) (b := f.name) (by omega)
        have a3 := add_ok (a := stB (preT o i j) ++ (⟨#[32]⟩ : ByteArray) ++ f.name) (b := (⟨#[47]⟩ : ByteArray)) (by have : (⟨#[47]⟩ : ByteArray).size = 1 := rfl; omega)
        have a4 := add_ok (a := stB (preT o i j) ++ (⟨#[32]⟩ : ByteArray) ++ f.name ++ (⟨#[47]⟩ : ByteArray)) (b := stB (Lib.decDigits ar)) (by omega)
        have HX : Hid (stB (preT o i j) ++ (⟨#[32]⟩ : ByteArray) ++ f.name ++ (⟨#[47]⟩ : ByteArray) ++ stB (Lib.decDigits ar) = stB (preT o i (j + 1))) := Lib.hid (by
          rw [cat_sl, preT_succ HY.out, hq, word_7', List.getD_eq_getElem?_getD, hz, Int.toNat_natCast, hf]
          simp only [Option.getD_some]
          rw [show ((⟨f.name, f.arity⟩ : LFun)) = (⟨f.name, (ar : Int)⟩ : LFun) by rw [← har]])
        have HNm := Lib.hid (numD_any ar wr.drew (by omega))
        clear hf hfo hb1 hc1 f0 f1 har hzn hns hds hpre s1 s2 s3 hq
        generalize stB (preT o i j) = S1 at *
        generalize stB (Lib.decDigits ar) = dg at *
        go_upto_region 15 with fail
        clear q1 iv
        refine wp_region_tx (fun W' => W'.cell? ⟨w.heap.size, 2, none⟩ = some (.slice (some ⟨b1, o1, none⟩) np cp) ∧ W'.cell? ⟨b1, o1 + z * 3, none⟩ = some (.string f.name) ∧ W'.cell? ⟨b1, o1 + z * 3 + 1, none⟩ = some (.int .i64 ar)) [(0, true), (1, true), (2, true), (3, true), (4, true), (5, true), (6, true), (7, true), (8, true), (9, true), (10, true), (11, true), (12, true), (13, true), (14, true), (15, true), (16, false), (17, true), (18, false)] (by kernel_rfl) (by kernel_rfl) (HF.out _ (Keeps.refl _ _).drew) (fun hHeld => ?_)
        (repeat (first | (refine wpTx_take (v := ?_) rfl (by assumption) ?_ (by rfl) ?_; rotate_left; (focus (intro w' hSw; (try dsimp only at hSw); go_simp; (try with_reducible rfl); done)); simp only [Act.put, List.setIfInBounds_toArray, List.set_cons_zero, List.set_cons_succ]) | (refine wpTx_skip rfl (by assumption) (by rfl) ?_; simp only [Act.put, List.setIfInBounds_toArray, List.set_cons_zero, List.set_cons_succ])))
        refine wpTx_go rfl (fun K hK => ?_)
        go_simp
        refine HNm.out.mono ?_
        rintro e w6 ⟨rfl, k6'⟩
        have k6 : Keeps wr w6 [] := (Keeps.refl wr []).drew.trans k6'
        have HFw := Lib.hid (HF.out w6 k6)
        clear k6'
        refine hK.out _ _ ?_ ?_
        · exact HFw.out
        (clear hHeld; intro hHeld; clear hK K; (try simp only [Act.put, List.setIfInBounds_toArray, List.set_cons_zero, List.set_cons_succ]))
        (repeat (first | (refine wpTx_take (v := ?_) rfl (by assumption) ?_ (by rfl) ?_; rotate_left; (focus (intro w' hSw; (try dsimp only at hSw); go_simp; (try with_reducible rfl); done)); simp only [Act.put, List.setIfInBounds_toArray, List.set_cons_zero, List.set_cons_succ]) | (refine wpTx_skip rfl (by assumption) (by rfl) ?_; simp only [Act.put, List.setIfInBounds_toArray, List.set_cons_zero, List.set_cons_succ])))
        refine wpTx_last rfl (fun K hK => ?_)
        go_simp
        refine hK.out _ _ (NoPanic.normal ?_); clear hK K; (try simp only [Act.put, List.setIfInBounds_toArray, List.set_cons_zero, List.set_cons_succ])
        clear hHeld a1 a2 a3 a4
        rw [HX.out]
        go_wp2_with fail
        go_roundw
        case rel => exact ⟨j + 1, by omega, by go_num, rfl, HKr.out.trans k6⟩
        case measure => simp [intOf]; omega
      have d3 : ((q : Int) == 3) = false := by rw [beq_eq_false_iff_ne]; omega
      have d4 : ((q : Int) == 4) = false := by rw [beq_eq_false_iff_ne]; omega
      have d7 : ((q : Int) == 7) = false := by rw [beq_eq_false_iff_ne]; omega
      have hpre : (stB (preT o i j)).size ≤ 1000 := by rw [stB_size]; exact HPl.out j
      by_cases hq : q = 8
      · have d8 : ((q : Int) == 8) = true := by rw [beq_iff_eq]; omega
        by_cases hv : z = 65535
        · have d9 : ((z : Int) == 65535) = true := by rw [beq_iff_eq]; omega
          have a1 := add_ok (a := stB (preT o i j)) (b := (⟨#[32, 45]⟩ : ByteArray)) (by have : (⟨#[32, 45]⟩ : ByteArray).size = 2 := rfl; omega)
          have HX : Hid (stB (preT o i j) ++ (⟨#[32, 45]⟩ : ByteArray) = stB (preT o i (j + 1))) := Lib.hid (by
            rw [cat_no, preT_succ HY.out, hq, word_8, hz, hv, if_pos (by omega)])
          clear hv hq hpre
          generalize stB (preT o i j) = S1 at *
          go_wp2_with fail
          go_roundw
          case rel => exact ⟨j + 1, by omega, by go_num, by rw [HX.out], HKr.out⟩
          case measure => simp [intOf]; omega
        · have d9 : ((z : Int) == 65535) = false := by rw [beq_eq_false_iff_ne]; omega
          have s1 := size_ok hpre (show (⟨#[32, 64]⟩ : ByteArray).size ≤ 2 from Nat.le_refl _)
          have hds : (stB (Lib.decDigits z)).size ≤ 7 := by rw [stB_size]; exact (digits_len z (by omega)).2
          have a1 := add_ok (a := stB (preT o i j)) (b := (⟨#[32, 64]⟩ : ByteArray)) (by have : (⟨#[32, 64]⟩ : ByteArray).size = 2 := rfl; omega)
          have a2 := add_ok (a := stB (preT o i j) ++ (⟨#[32, 64]⟩ : ByteArray)) (b := stB (Lib.decDigits z)) (by omega)
          have HX : Hid (stB (preT o i j) ++ (⟨#[32, 64]⟩ : ByteArray) ++ stB (Lib.decDigits z) = stB (preT o i (j + 1))) := Lib.hid (by
            rw [cat_at, preT_succ HY.out, hq, word_8, hz, if_neg (by omega), Int.toNat_natCast])
          have HI := Lib.hid (numD_any z wr (by omega))
          clear hv hq hpre s1 hds
          generalize stB (preT o i j) = S1 at *
          generalize stB (Lib.decDigits z) = dg at *
          go_wp2_with fail
          refine HI.out.mono ?_
          rintro e w6 ⟨rfl, k6⟩
          go_wp2_with fail
          go_roundw
          case rel => exact ⟨j + 1, by omega, by go_num, by rw [HX.out], HKr.out.trans k6⟩
          case measure => simp [intOf]; omega
      have d8 : ((q : Int) == 8) = false := by rw [beq_eq_false_iff_ne]; omega
      have hw1 : (wordsOf i)[j + 1]? = some (opTxt q (i.arg j).toNat) := words_at HY.out
      rw [hz, Int.toNat_natCast] at hw1
      have hw2 : ((wordsOf i).map fun x => Value.string (stB x))[j + 1]? = some (.string (stB (opTxt q z))) := by rw [List.getElem?_map, hw1]; rfl
      obtain ⟨b8, o8, v8, hA8, hb8, hc8, hv8⟩ := HWd.out (j + 1) (List.getElem?_eq_some_iff.1 hw2).1
      subst hA8
      rw [hw2] at hv8
      injection hv8 with hv8
      subst hv8
      have p8 : wr.cell? ⟨b8, o8 + (j + 1), none⟩ = some (.string (stB (opTxt q z))) := (HKr.out.cell0 hb8).trans hc8
      have hos : (stB (opTxt q z)).size ≤ 8 := by rw [stB_size]; exact opTxt_len (by omega)
      have s1 := size_ok hpre (show (⟨#[32]⟩ : ByteArray).size ≤ 1 from Nat.le_refl _)
      have a1 := add_ok (a := stB (preT o i j)) (b := (⟨#[32]⟩ : ByteArray)) (by have : (⟨#[32]⟩ : ByteArray).size = 1 := rfl; omega)
      have a2 := add_ok (a := stB (preT o i j) ++ (⟨#[32]⟩ : ByteArray)) (b := stB (opTxt q z)) (by omega)
      have HX : Hid (stB (preT o i j) ++ (⟨#[32]⟩ : ByteArray) ++ stB (opTxt q z) = stB (preT o i (j + 1))) := Lib.hid (by
        rw [cat_sp, preT_succ HY.out, word_o o _ ⟨by omega, by omega, by omega, by omega⟩, hz, Int.toNat_natCast])
      have b5 : (j : Int) + 1 < (m : Int) + 1 := by omega
      have b6 : (0 : Int) ≤ (j : Int) + 1 := by omega
      clear hw1 hw2 hb8 hc8 hos s1 hpre
      generalize stB (preT o i j) = S1 at *
      generalize stB (opTxt q z) = wd at *
      go_wp2_with fail
      go_roundw
      case rel => exact ⟨j + 1, by omega, by go_num, by rw [HX.out], HKr.out⟩
      case measure => simp [intOf]; omega
    · obtain rfl : m = j := by omega
      have HE := Lib.hid (preT_end o i HM.out)
      rw [HE.out]
      go_wp2_with fail
      go_ret
      exact ⟨rfl, HKw.out⟩
end Go.Proofs.YtpcihhdalofdiaaGreatDoor

/- An object's lines: the document's Lines. Printed by gen_asrlin.py. -/
namespace Go.Proofs.YtpcihhdalofdiaaGreatDoor
open Go.RowKit Go.Maps

/-- A predicate's line. -/
def lnP (p : LPred) : Txt := predW ++ 32 :: slT ⟨p.name, p.arity⟩
def prL (n : Nat) (l : List LPred) : List Txt := (l.filter (isEnt n)).map lnP
theorem prL_yes {n : Nat} {l : List LPred} {j : Nat} {p : LPred} (h : l[j]? = some p) (he : isEnt n p = true) : prL n (l.take (j + 1)) = prL n (l.take j) ++ [lnP p] := by
  unfold prL
  rw [take_snocA h, List.filter_append, List.map_append, List.filter_cons, he]
  rfl
theorem prL_no {n : Nat} {l : List LPred} {j : Nat} {p : LPred} (h : l[j]? = some p) (he : isEnt n p = false) : prL n (l.take (j + 1)) = prL n (l.take j) := by
  unfold prL
  rw [take_snocA h, List.filter_append, List.map_append, List.filter_cons, he]
  simp
/-- Entries are apart: one predicate at most begins at a place. -/
theorem dup_filter {n : Nat} (hn : n < 65535) : ∀ {l : List LPred}, dupB (entL l) = false → l.filter (isEnt n) = (l.find? (isEnt n)).toList
  | [], _ => rfl
  | p :: l, h => by
    have hl : dupB (entL l) = false := by
      unfold entL at h ⊢
      rw [List.filter_cons] at h
      split at h
      · rw [List.map_cons, dupB] at h
        simp only [Bool.or_eq_false_iff] at h
        exact h.2
      · exact h
    have ih := dup_filter hn hl
    rw [List.filter_cons, List.find?_cons]
    cases hp : isEnt n p with
    | false => simpa using ih
    | true =>
      simp only [if_true]
      have he : p.entry = (n : Int) := by unfold isEnt at hp; simpa using hp
      have hne : (p.entry != 65535) = true := by rw [he, bne_iff_ne]; omega
      unfold entL at h
      rw [List.filter_cons, hne] at h
      simp only [if_true, List.map_cons] at h
      rw [dupB] at h
      simp only [Bool.or_eq_false_iff] at h
      have h1 : ∀ q ∈ l, isEnt n q = false := fun q hq => by
        cases hqe : isEnt n q with
        | false => rfl
        | true =>
          have hqe' : q.entry = (n : Int) := by unfold isEnt at hqe; simpa using hqe
          have hm : p.entry ∈ (l.filter fun p => p.entry != 65535).map (·.entry) := List.mem_map.2 ⟨q, List.mem_filter.2 ⟨hq, by rw [hqe', bne_iff_ne]; omega⟩, by rw [hqe', he]⟩
          have := h.1
          simp only [List.contains_eq_mem, decide_eq_false_iff_not] at this
          exact absurd hm this
      rw [List.filter_eq_nil_iff.2 (fun q hq => by rw [h1 q hq]; simp)]
      rfl
attribute [local irreducible] numT kindsOf nameOf checkE fitsP operandP plainP labelP slashP namedT programP insTxt wordsOf tgI tgL textT bigB wordT wordsT opTxt preT
theorem pred_str9 (p : LPred) (ar : Nat) (h : p.arity = ar) : (⟨#[112, 114, 101, 100, 32]⟩ : ByteArray) ++ p.name ++ (⟨#[47]⟩ : ByteArray) ++ stB (Lib.decDigits ar) = stB (lnP p) := by
  unfold lnP
  rw [h]
  have e1 : (⟨#[112, 114, 101, 100, 32]⟩ : ByteArray) = stB [112, 114, 101, 100, 32] := rfl
  have e2 : predW ++ 32 :: slT ⟨p.name, (ar : Int)⟩ = [112, 114, 101, 100, 32] ++ slT ⟨p.name, (ar : Int)⟩ := rfl
  rw [e2, ← stB_app, slT_str, e1]
  simp only [ByteArray.append_assoc]
theorem sms_true {x : Int} {l : List Int} (h : x ∈ l) (r : List Int) : decide (x ∈ l ++ r) = true := decide_eq_true (by simp [h])
theorem tgI_yes {i : LIns} {j : Nat} {l : List Int} {n : Int} (h : (kindsOf i.op)[j]? = some 8) : decide (n ∈ l ++ tgI i (j + 1)) = (decide (n ∈ l ++ tgI i j) || decide (i.arg j = n)) := by
  rw [tgI_succ_yes h, Bool.eq_iff_iff]
  simp only [List.mem_append, List.mem_singleton, Bool.or_eq_true, decide_eq_true_eq]
  constructor
  · rintro (h1 | h1 | h1)
    · exact .inl (.inl h1)
    · exact .inl (.inr h1)
    · exact .inr h1.symm
  · rintro ((h1 | h1) | h1)
    · exact .inl h1
    · exact .inr (.inl h1)
    · exact .inr (.inr h1.symm)
set_option maxRecDepth 100000 in
set_option maxHeartbeats 12800000 in
theorem refLines_any (o : LObj) (Aa Af Ap Ac : Option Addr) (na nf np nc ca cf cp cc : Nat) (w : World) (hob : ObIs w o Aa Af Ap Ac ca cf cp cc) (hfit : Fits o) (la : o.atoms.length = na) (lf : o.funs.length = nf) (lp : o.preds.length = np) (lc : o.code.length = nc) :
    Calls Tryz.prog 16 #[.agg #[.slice Aa na ca, .slice Af nf cf, .slice Ap np cp, .slice Ac nc cc]] w (LiDone w (linesE o)) := by
  have k0 : Keeps w (w.alloc (.cells #[.slice Aa na ca, .slice Af nf cf, .slice Ap np cp, .slice Ac nc cc] 39)) [] := (Keeps.refl w []).alloc _
  have HOb : Hid (Blk (w.alloc (.cells #[.slice Aa na ca, .slice Af nf cf, .slice Ap np cp, .slice Ac nc cc] 39)) w.heap.size 39 #[.slice Aa na ca, .slice Af nf cf, .slice Ap np cp, .slice Ac nc cc]) := Blk.new _ _ _
  have HCk := Lib.hid (refCheck_any o Aa Af Ap Ac na nf np nc ca cf cp cc (w.alloc (.cells #[.slice Aa na ca, .slice Af nf cf, .slice Ap np cp, .slice Ac nc cc] 39)) (hob.keep k0) hfit la lf lp lc)
  have HK0 := Lib.hid k0
  have HO := Lib.hid hob
  have HFit := Lib.hid hfit
  have HLa := Lib.hid la
  have HLf := Lib.hid lf
  have HLp := Lib.hid lp
  have HLc := Lib.hid lc
  have o0 := HOb.out.cell 0
  have o1 := HOb.out.cell 1
  have o2 := HOb.out.cell 2
  have o3 := HOb.out.cell 3
  unfold ErrTold at HCk
  have HLE : Hid (linesE o = if checkE o ≠ 0 then [] else linesT o) := rfl
  have HOk := Lib.hid (@check_ok o)
  generalize checkE o = ck at *
  clear k0 hob hfit la lf lp lc
  go_enter Tryz.func16, Tryz.ntmps16
  go_wp2_with fail
  generalize w.alloc (.cells #[.slice Aa na ca, .slice Af nf cf, .slice Ap np cp, .slice Ac nc cc] 39) = w0 at *
  refine HCk.out.mono ?_
  rintro e w2 ⟨rfl, k1⟩
  have HK02 := Lib.hid (HK0.out.trans k1)
  have HB2 := Lib.hid (HOb.out.keep k1 (by simp))
  clear k1 o0 o1 o2 o3 HCk HK0 HOb
  by_cases hck : ck = 0
  case neg =>
    have d0 : (ck == 0) = false := by simpa using hck
    have d1 : (ck != 0) = true := by simpa using hck
    have HV := Lib.hid (HLE.out.trans (if_pos hck))
    clear hck
    go_wp2_with fail
    go_ret
    rw [HV.out]
    exact ⟨none, 0, rfl, Rd.nil, HK02.out, fun _ => rfl⟩
  have HObj := Lib.hid (HOk.out hck)
  have HLE2 : Hid (linesE o = linesT o) := HLE.out.trans (if_neg (by simp [hck]))
  subst hck
  have HO2 := Lib.hid (HO.out.keep HK02.out)
  have hnc : nc ≤ 1024 := by
    have h1 := HObj.out.big
    unfold bigO bigB at h1
    simp only [Bool.or_eq_false_iff, decide_eq_false_iff_not] at h1
    have := HLc.out
    omega
  have HDup : Hid (dupB (entL o.preds) = false) := Lib.hid (by
    have h1 := HObj.out.ents
    unfold entriesB at h1
    simp only [Bool.and_eq_true, Bool.not_eq_true'] at h1
    exact h1.2)
  have HTxt0 : Hid (∀ (i : LIns), i ∈ o.code → ∀ W, Keeps w2 W [] → Calls Tryz.prog 41 #[.agg #[.slice Aa na ca, .slice Af nf cf, .slice Ap np cp, .slice Ac nc cc], .agg #[.int .i64 i.op, .int .i64 i.a0, .int .i64 i.a1, .int .i64 i.a2, .int .i64 i.a3]] W fun e w' => e = .returned (.string (stB (textT o i))) ∧ Keeps W w' []) := fun i hi W kk => by
    have hins := HObj.out.ins hi
    exact rtext9_any o i hins.1 hins.2 Aa Af Ap Ac na nf np nc ca cf cp cc W (HO2.out.keep kk) HLa.out HLf.out HLp.out
  have hnp : np ≤ 65536 := by have := HFit.out.preds; have := HLp.out; omega
  have H0 : Hid (LR w2 w2 none 0 0 []) := ⟨⟨by simp, .inl ⟨rfl, rfl⟩⟩, Keeps.refl _ _⟩
  clear HLE HOk w0
  go_wp2_with fail
  go_loopw [3, 4, 5, 6, 7, 8, 9] (fun v3 ix v5 v6 v7 v8 v9 wr => ∃ k : Nat, k ≤ nc ∧ ix = .int .i64 k ∧ ∃ OA no oc, v3 = .slice OA no oc ∧ no ≤ 200000 * k ∧ LR w2 wr OA no oc (linesFrom o 0 (o.code.take k))) (fun _ ix _ _ _ _ _ _ => nc - (intOf ix).toNat)
  case atStart => exact ⟨0, Nat.zero_le _, rfl, none, 0, 0, rfl, Nat.zero_le _, H0.out⟩
  case round =>
    clear H0
    obtain ⟨k, hk, rfl, OA, no, oc, rfl, hno, hlr⟩ := hrel
    have HR := Lib.hid hlr
    have HNo := Lib.hid hno
    clear hlr hno
    have o3 := (HB2.out.keep HR.out.keep (by simp)).cell 3
    by_cases hlk : k < nc
    · obtain ⟨i, hi⟩ := at_of HLc.out hlk
      obtain ⟨b, off, e1, hb, hc⟩ := HO2.out.code.field insE_len hi (by omega)
      have HFi : Hid (∀ W, Keeps w2 W [] → (W.cell? ⟨w.heap.size, 0, none⟩ = some (.slice Aa na ca) ∧ W.cell? ⟨w.heap.size, 1, none⟩ = some (.slice Af nf cf) ∧ W.cell? ⟨w.heap.size, 2, none⟩ = some (.slice Ap np cp) ∧ W.cell? ⟨w.heap.size, 3, none⟩ = some (.slice (some ⟨b, off, none⟩) nc cc)) ∧ W.cell? ⟨b, off + k * 5, none⟩ = some (.int .i64 i.op) ∧ W.cell? ⟨b, off + k * 5 + 1, none⟩ = some (.int .i64 i.a0) ∧ W.cell? ⟨b, off + k * 5 + 2, none⟩ = some (.int .i64 i.a1) ∧ W.cell? ⟨b, off + k * 5 + 3, none⟩ = some (.int .i64 i.a2) ∧ W.cell? ⟨b, off + k * 5 + 4, none⟩ = some (.int .i64 i.a3)) := fun W kk => ⟨⟨(HB2.out.keep kk (by simp)).cell 0, (HB2.out.keep kk (by simp)).cell 1, (HB2.out.keep kk (by simp)).cell 2, by rw [← e1]; exact (HB2.out.keep kk (by simp)).cell 3⟩, (kk.cell0 hb).trans (hc 0 _ rfl), (kk.cell0 hb).trans (hc 1 _ rfl), (kk.cell0 hb).trans (hc 2 _ rfl), (kk.cell0 hb).trans (hc 3 _ rfl), (kk.cell0 hb).trans (hc 4 _ rfl)⟩
      have HTxt := Lib.hid (HTxt0.out i (List.mem_of_getElem? hi))
      have HAc := Lib.hid e1
      have HSn : Hid (linesFrom o 0 (o.code.take (k + 1)) = linesFrom o 0 (o.code.take k) ++ lineT o k i) := Lib.hid (by
        rw [take_snocA hi, linesFrom_snoc, List.length_take, HLc.out, Nat.zero_add, Nat.min_eq_left hk])
      generalize linesFrom o 0 (o.code.take k) = ls at *
      have b1' : (k : Int) < (nc : Int) := by omega
      have b0 : (0 : Int) ≤ (k : Int) := Int.natCast_nonneg _
      clear hi hb hc e1
      obtain ⟨wo, hwo⟩ : ∃ wo, wo = wr := ⟨wr, rfl⟩
      subst hwo
      go_wp2_with fail
      go_loopw [3, 5] (fun v3 ix wr => ∃ j : Nat, j ≤ np ∧ ix = .int .i64 j ∧ ∃ OA no oc, v3 = .slice OA no oc ∧ no ≤ 200000 * k + j ∧ LR w2 wr OA no oc (ls ++ prL k (o.preds.take j))) (fun _ ix _ => np - (intOf ix).toNat)
      case atStart => exact ⟨0, Nat.zero_le _, rfl, OA, no, oc, rfl, HNo.out, by rw [List.take_zero, show prL k [] = [] from rfl, List.append_nil]; exact HR.out⟩
      case round =>
        clear HR HNo o3
        obtain ⟨j, hj, rfl, OA, no, oc, rfl, hno, hlr⟩ := hrel
        have HR := Lib.hid hlr
        have HNo := Lib.hid hno
        clear hlr hno
        have o2 := (HB2.out.keep HR.out.keep (by simp)).cell 2
        by_cases hlj : j < np
        · obtain ⟨p, hp⟩ := at_of HLp.out hlj
          have hpo := HObj.out.preds p (List.mem_of_getElem? hp)
          simp only [predOk, Bool.and_eq_true, decide_eq_true_eq] at hpo
          obtain ⟨ar, har⟩ := Int.eq_ofNat_of_zero_le (show 0 ≤ p.arity by omega)
          obtain ⟨b1, o1, e1, hb1, hc1⟩ := HO2.out.preds.field predE_len hp (by omega)
          have f0 : w2.cell? ⟨b1, o1 + j * 3, none⟩ = some (.string p.name) := hc1 0 _ rfl
          have f1 : w2.cell? ⟨b1, o1 + j * 3 + 1, none⟩ = some (.int .i64 p.arity) := hc1 1 _ rfl
          have f2 : wr.cell? ⟨b1, o1 + j * 3 + 2, none⟩ = some (.int .i64 p.entry) := (HR.out.keep.cell0 hb1).trans (hc1 2 _ rfl)
          rw [har] at f1
          have HP := Lib.hid hp
          have c1 : (j : Int) < (np : Int) := by omega
          have c0 : (0 : Int) ≤ (j : Int) := Int.natCast_nonneg _
          have HF11 : Hid (∀ W, Keeps w2 W [] → W.cell? ⟨w.heap.size, 2, none⟩ = some (.slice (some ⟨b1, o1, none⟩) np cp) ∧ W.cell? ⟨b1, o1 + j * 3, none⟩ = some (.string p.name) ∧ W.cell? ⟨b1, o1 + j * 3 + 1, none⟩ = some (.int .i64 ar)) := fun W kk => ⟨by rw [← e1]; exact (HB2.out.keep kk (by simp)).cell 2, (kk.cell0 (block_lt_of_cell f0)).trans f0, (kk.cell0 (block_lt_of_cell f1)).trans f1⟩
          rw [e1] at o2
          cases he : isEnt k p with
          | false =>
            have HL2 : Hid (prL k (o.preds.take (j + 1)) = prL k (o.preds.take j)) := Lib.hid (prL_no hp he)
            have d0 : (p.entry == (k : Int)) = false := he
            clear he hp hpo hb1 hc1 f0 f1 har e1 HF11
            go_wp2_with fail
            go_roundw
            case rel => exact ⟨j + 1, by omega, by go_num, OA, no, oc, rfl, by have := HNo.out; omega, by rw [HL2.out]; exact HR.out⟩
            case measure => simp [intOf]; omega
          | true =>
            have HL2 : Hid (prL k (o.preds.take (j + 1)) = prL k (o.preds.take j) ++ [lnP p]) := Lib.hid (prL_yes hp he)
            have d0 : (p.entry == (k : Int)) = true := he
            have HX := Lib.hid (pred_str9 p ar har)
            have hns := nameOk_size hpo.1
            have hds : (stB (Lib.decDigits ar)).size ≤ 7 := by rw [stB_size]; exact (digits_len ar (by omega)).2
            have s1 := size_ok (show (⟨#[112, 114, 101, 100, 32]⟩ : ByteArray).size ≤ 5 from Nat.le_refl _) hns
            have s2 := size_ok s1 (show (⟨#[47]⟩ : ByteArray).size ≤ 1 from Nat.le_refl _)
            have a1 := add_ok (a := (⟨#[112, 114, 101, 100, 32]⟩ : ByteArray)) (b := p.name) (by have : (⟨#[112, 114, 101, 100, 32]⟩ : ByteArray).size = 5 := rfl; omega)
            have a2 := add_ok (a := (⟨#[112, 114, 101, 100, 32]⟩ : ByteArray) ++ p.name) (b := (⟨#[47]⟩ : ByteArray)) (by have : (⟨#[47]⟩ : ByteArray).size = 1 := rfl; omega)
            have a3 := add_ok (a := (⟨#[112, 114, 101, 100, 32]⟩ : ByteArray) ++ p.name ++ (⟨#[47]⟩ : ByteArray)) (b := stB (Lib.decDigits ar)) (by omega)
            have HNm := Lib.hid (numD_any ar wr.drew (by omega))
            clear he hp hpo hb1 hc1 f0 f1 har e1 hns hds s1 s2
            generalize stB (Lib.decDigits ar) = dg at *
            go_upto_region 11 with fail
            clear o2 f2
            refine wp_region_tx (fun W' => W'.cell? ⟨w.heap.size, 2, none⟩ = some (.slice (some ⟨b1, o1, none⟩) np cp) ∧ W'.cell? ⟨b1, o1 + j * 3, none⟩ = some (.string p.name) ∧ W'.cell? ⟨b1, o1 + j * 3 + 1, none⟩ = some (.int .i64 ar)) [(0, true), (1, true), (2, true), (3, true), (4, true), (5, true), (6, true), (7, true), (8, true), (9, true), (10, true), (11, true), (12, true), (13, true), (14, true), (15, false), (16, true), (17, false), (18, false), (19, false)] (by kernel_rfl) (by kernel_rfl) (HF11.out _ HR.out.keep.drew) (fun hHeld => ?_)
            (repeat (first | (refine wpTx_take (v := ?_) rfl (by assumption) ?_ (by rfl) ?_; rotate_left; (focus (intro w' hSw; (try dsimp only at hSw); go_simp; (try with_reducible rfl); done)); simp only [Act.put, List.setIfInBounds_toArray, List.set_cons_zero, List.set_cons_succ]) | (refine wpTx_skip rfl (by assumption) (by rfl) ?_; simp only [Act.put, List.setIfInBounds_toArray, List.set_cons_zero, List.set_cons_succ])))
            refine wpTx_go rfl (fun K hK => ?_)
            go_simp
            refine HNm.out.mono ?_
            rintro e w5 ⟨rfl, k5'⟩
            have HK5 : Hid (Keeps wr w5 []) := (Keeps.refl wr []).drew.trans k5'
            have HFw := Lib.hid (HF11.out w5 (HR.out.keep.trans HK5.out))
            clear k5'
            refine hK.out _ _ ?_ ?_
            · exact HFw.out
            (clear hHeld; intro hHeld; clear hK K; (try simp only [Act.put, List.setIfInBounds_toArray, List.set_cons_zero, List.set_cons_succ]))
            (repeat (first | (refine wpTx_take (v := ?_) rfl (by assumption) ?_ (by rfl) ?_; rotate_left; (focus (intro w' hSw; (try dsimp only at hSw); go_simp; (try with_reducible rfl); done)); simp only [Act.put, List.setIfInBounds_toArray, List.set_cons_zero, List.set_cons_succ]) | (refine wpTx_skip rfl (by assumption) (by rfl) ?_; simp only [Act.put, List.setIfInBounds_toArray, List.set_cons_zero, List.set_cons_succ])))
            rw [HX.out]
            refine wpTx_go rfl (fun K hK => ?_)
            go_simp
            refine hK.out _ _ ?_ ?_
            · exact HF11.out _ ((HR.out.keep.trans HK5.out).alloc _)
            (clear hHeld; intro hHeld; clear hK K; (try simp only [Act.put, List.setIfInBounds_toArray, List.set_cons_zero, List.set_cons_succ]))
            refine wpTx_go rfl (fun K hK => ?_)
            have K6 : Keeps wr (w5.alloc (.cells #[.string (stB (lnP p))] 9)) [] := HK5.out.alloc _
            refine step_app _ el_atomA (by rfl) _ _ (by rfl) w2.heap.size OA no oc (((ls ++ prL k (o.preds.take j)).map stB).flatMap strE) (by rfl) (own_keep0 HR.out.own K6) (some ⟨w5.heap.size, 0, none⟩) 1 1 (strE (stB (lnP p))) (by rfl) (Rd.one w5 _ (strE (stB (lnP p)))) rfl (by simp) (by simp [strE, Value.oneCell']) (by have := HNo.out; omega) (Nat.le_trans HR.out.keep.size K6.size) ?_
            intro A' c' w6 hown hgrow _
            have HR6 := Lib.hid (HR.out.app K6 hown hgrow)
            have HFx := Lib.hid (HF11.out w6 HR6.out.keep)
            clear hown hgrow K6
            refine hK.out _ _ ?_ ?_
            · exact HFx.out
            (clear hHeld; intro hHeld; clear hK K; (try simp only [Act.put, List.setIfInBounds_toArray, List.set_cons_zero, List.set_cons_succ]))
            refine wpTx_last rfl (fun K hK => ?_)
            go_simp
            refine hK.out _ _ (NoPanic.normal ?_); clear hK K; (try simp only [Act.put, List.setIfInBounds_toArray, List.set_cons_zero, List.set_cons_succ])
            clear hHeld HF11 HFw HFx HK5 a1 a2 a3
            go_wp2_with fail
            go_roundw
            case rel => exact ⟨j + 1, by omega, by go_num, A', no + 1, c', rfl, by have := HNo.out; omega, by rw [HL2.out, ← List.append_assoc]; exact HR6.out⟩
            case measure => simp [intOf]; omega
        · obtain rfl : np = j := by omega
          have HR5' := HR.out
          rw [List.take_of_length_le (by rw [HLp.out]; exact Nat.le_refl _)] at HR5'
          have HLT : Hid (lineT o k i = prL k o.preds ++ ((if targetB o k then [64 :: Lib.decDigits k] else []) ++ [textT o i])) := Lib.hid (by
            unfold lineT prL
            rw [dup_filter (by omega) HDup.out]
            have e : (fun p : LPred => p.entry == (k : Int)) = isEnt k := rfl
            rw [e]
            cases o.preds.find? (isEnt k) <;> rfl)
          have HLT2 : Hid (ls ++ lineT o k i = (ls ++ prL k o.preds) ++ ((if targetB o k then [64 :: Lib.decDigits k] else []) ++ [textT o i])) := Lib.hid (by rw [HLT.out, List.append_assoc])
          generalize ls ++ prL k o.preds = l5 at *
          have HR5 := Lib.hid HR5'
          have HN5 : Hid (no ≤ 200000 * k + 100000) := Lib.hid (by have := HNo.out; omega)
          clear HR5' HR HNo HLT hj hlj
          have HLT := HLT2
          obtain ⟨OA5, hOA⟩ : ∃ A, A = OA := ⟨_, rfl⟩
          subst hOA
          obtain ⟨n5, hn5⟩ : ∃ n, n = no := ⟨_, rfl⟩
          subst hn5
          obtain ⟨c5, hc5⟩ : ∃ c, c = oc := ⟨_, rfl⟩
          subst hc5
          obtain ⟨w3, hw3⟩ : ∃ w3, w3 = wr := ⟨wr, rfl⟩
          subst hw3
          go_wp2_with fail
          clear o2
          go_loopw [6, 7, 8, 9] (fun v6 ix v8 v9 wr => ∃ j : Nat, j ≤ nc ∧ ix = .int .i64 j ∧ v6 = .bool (decide ((k : Int) ∈ tgL (o.code.take j))) ∧ Keeps w3 wr []) (fun _ ix _ _ _ => nc - (intOf ix).toNat)
          case atStart => exact ⟨0, Nat.zero_le _, rfl, by rw [List.take_zero, tgL_nil]; rfl, Keeps.refl _ _⟩
          case round =>
            obtain ⟨j, hj, rfl, rfl, kr⟩ := hrel
            have HKr := Lib.hid kr
            have HRr := Lib.hid (HR5.out.keep0 kr)
            clear kr
            have o3 := (HB2.out.keep HRr.out.keep (by simp)).cell 3
            by_cases hlj : j < nc
            · obtain ⟨x, hx⟩ := at_of HLc.out hlj
              obtain ⟨b2, off2, e2, hb2, hc2⟩ := HO2.out.code.field insE_len hx (by omega)
              have r0 : wr.cell? ⟨b2, off2 + j * 5, none⟩ = some (.int .i64 x.op) := (HRr.out.keep.cell0 hb2).trans (hc2 0 _ rfl)
              have HX := Lib.hid hx
              have HAr := Lib.hid (fun (l : Nat) (hl : l < 4) => (show w2.cell? ⟨b2, off2 + j * 5 + (1 + l), none⟩ = some (.int .i64 (x.arg l)) from hc2 (1 + l) _ (insE_arg x l hl)))
              have HB2l := Lib.hid hb2
              have c1 : (j : Int) < (nc : Int) := by omega
              have c0 : (0 : Int) ≤ (j : Int) := Int.natCast_nonneg _
              have HO3 : Hid (∀ W, Keeps w2 W [] → W.cell? ⟨w.heap.size, 3, none⟩ = some (.slice (some ⟨b2, off2, none⟩) nc cc)) := fun W kk => by rw [← e2]; exact (HB2.out.keep kk (by simp)).cell 3
              rw [e2] at o3
              obtain ⟨m, hm⟩ : ∃ m, (kindsOf x.op).length = m := ⟨_, rfl⟩
              have hm4 := kinds_few x.op
              rw [hm] at hm4
              have HM := Lib.hid hm
              have HKn := Lib.hid (refKinds_any x.op wr)
              unfold Kinds at HKn
              rw [hm] at HKn
              obtain ⟨D0, hD0⟩ : ∃ D0, decide ((k : Int) ∈ tgL (o.code.take j)) = D0 := ⟨_, rfl⟩
              have HD0 := Lib.hid hD0
              rw [hD0]
              clear hx hb2 hc2 e2 hm hD0
              go_wp2_with fail
              refine HKn.out.mono ?_
              rintro e w4 ⟨A, ck, rfl, hN, k4⟩
              have HN := Lib.hid hN
              have HK4 := Lib.hid (HKr.out.trans k4)
              clear hN k4 r0 o3 HKr HRr HKn
              have HRw := Lib.hid (HR5.out.keep0 HK4.out)
              obtain ⟨w9, hw9⟩ : ∃ w9, w9 = wr := ⟨wr, rfl⟩
              subst hw9
              go_wp2_with fail
              go_loopw [6, 9] (fun v6 ix wr => ∃ l : Nat, l ≤ m ∧ ix = .int .i64 l ∧ v6 = .bool (decide ((k : Int) ∈ tgL (o.code.take j) ++ tgI x l)) ∧ Keeps w4 wr []) (fun _ ix _ => m - (intOf ix).toNat)
              case atStart => exact ⟨0, Nat.zero_le _, rfl, by rw [tgI_nil, List.append_nil, HD0.out], Keeps.refl _ _⟩
              case round =>
                obtain ⟨l, hl, rfl, rfl, kr⟩ := hrel
                have HKr := Lib.hid kr
                have HRr := Lib.hid (HRw.out.keep0 kr)
                clear kr
                by_cases hll : l < m
                · obtain ⟨b7, off7, y, hA7, hb7, hc7, hy⟩ := HN.out l (by rw [HM.out]; exact hll)
                  subst hA7
                  have q1 := (HKr.out.cell (p := ⟨b7, off7 + l, none⟩) hb7 (by simp)).trans hc7
                  have HY := Lib.hid hy
                  have ha := (HRr.out.keep.cell0 (HB2l.out)).trans (HAr.out l (by omega))
                  rw [← Nat.add_assoc] at ha
                  have o3 := HO3.out wr HRr.out.keep
                  have e1 : (l : Int) < (m : Int) := by omega
                  have e0 : (0 : Int) ≤ (l : Int) := Int.natCast_nonneg _
                  have e4 : (l : Int) < 4 := by omega
                  obtain ⟨g, hg⟩ : ∃ g, x.arg l = g := ⟨_, rfl⟩
                  rw [hg] at ha
                  have HGg := Lib.hid hg
                  clear hb7 hc7 hy hg
                  cases hD : decide ((k : Int) ∈ tgL (o.code.take j) ++ tgI x l) with
                  | true =>
                    have HV : Hid (decide ((k : Int) ∈ tgL (o.code.take j) ++ tgI x (l + 1)) = true) := Lib.hid (by
                      by_cases h8 : y = 8
                      · rw [tgI_yes (by rw [HY.out, h8]), hD]; rfl
                      · rw [tgI_succ_no HY.out h8]; exact hD)
                    clear hD
                    go_wp2_with fail
                    go_roundw
                    case rel => exact ⟨l + 1, by omega, by go_num, by rw [HV.out], HKr.out⟩
                    case measure => simp [intOf]; omega
                  | false =>
                    by_cases h8 : y = 8
                    · have d8 : (y == 8) = true := by simpa using h8
                      have HV : Hid (decide ((k : Int) ∈ tgL (o.code.take j) ++ tgI x (l + 1)) = (g == (k : Int))) := Lib.hid (by
                        rw [tgI_yes (by rw [HY.out, h8]), hD, HGg.out, Bool.false_or]
                        rfl)
                      clear hD h8
                      cases hgk : (g == (k : Int)) with
                      | true =>
                        rw [hgk] at HV
                        go_wp2_with fail
                        go_roundw
                        case rel => exact ⟨l + 1, by omega, by go_num, by rw [HV.out], HKr.out⟩
                        case measure => simp [intOf]; omega
                      | false =>
                        rw [hgk] at HV
                        go_wp2_with fail
                        go_roundw
                        case rel => exact ⟨l + 1, by omega, by go_num, by rw [HV.out], HKr.out⟩
                        case measure => simp [intOf]; omega
                    · have d8 : (y == 8) = false := by simpa using h8
                      have HV : Hid (decide ((k : Int) ∈ tgL (o.code.take j) ++ tgI x (l + 1)) = false) := Lib.hid (by rw [tgI_succ_no HY.out h8]; exact hD)
                      clear hD h8
                      go_wp2_with fail
                      go_roundw
                      case rel => exact ⟨l + 1, by omega, by go_num, by rw [HV.out], HKr.out⟩
                      case measure => simp [intOf]; omega
                · obtain rfl : m = l := by omega
                  have HT2 : Hid (tgL (o.code.take j) ++ tgI x m = tgL (o.code.take (j + 1))) := Lib.hid (by rw [tgL_snoc HX.out, HM.out])
                  rw [HT2.out]
                  obtain ⟨D2, hD2⟩ : ∃ D2, decide ((k : Int) ∈ tgL (o.code.take (j + 1))) = D2 := ⟨_, rfl⟩
                  have HD2 := Lib.hid hD2
                  rw [hD2]
                  clear hD2 HT2
                  have HK9 := Lib.hid (HK4.out.trans HKr.out)
                  go_wp2_with fail
                  go_roundw
                  case rel => exact ⟨j + 1, by omega, by go_num, by rw [HD2.out], HK9.out⟩
                  case measure => simp [intOf]; omega
            · obtain rfl : nc = j := by omega
              rw [List.take_of_length_le (by rw [HLc.out]; exact Nat.le_refl _)]
              obtain ⟨D1, hD1⟩ : ∃ D1, decide ((k : Int) ∈ tgL o.code) = D1 := ⟨_, rfl⟩
              rw [hD1]
              have HR5b := HRr
              clear HR5 hj hlj HKr
              obtain ⟨w5, hw5⟩ : ∃ w5, w5 = wr := ⟨wr, rfl⟩
              subst hw5
              have HR5 := HR5b
              have HTg := Lib.hid (target_is o k)
              rw [hD1] at HTg
              clear hD1
              cases D1 with
              | true =>
                have HLs : Hid (linesFrom o 0 (o.code.take (k + 1)) = l5 ++ [64 :: Lib.decDigits k] ++ [textT o i]) := Lib.hid (by rw [HSn.out, HLT.out, HTg.out, if_pos rfl]; simp)
                have HIt := Lib.hid (numD_any k w5 (by omega))
                have ha := txt_at k (by omega)
                go_wp2_with fail
                refine HIt.out.mono ?_
                rintro e w7 ⟨rfl, k7⟩
                have HK7 := Lib.hid k7
                clear k7 HIt
                go_upto_region 23 with (at_builtin; have K7 := HK7.out.alloc (.cells #[.string (stB (64 :: Lib.decDigits k))] 9); refine wpList_app _ el_atomA rfl (.tmp 95) (.tmp 99) rfl w2.heap.size OA5 n5 c5 ((l5.map stB).flatMap strE) rfl (own_keep0 HR5.out.own K7) (some ⟨w7.heap.size, 0, none⟩) 1 1 (strE (stB (64 :: Lib.decDigits k))) rfl (Rd.one w7 _ (strE (stB (64 :: Lib.decDigits k)))) rfl (by simp) (by simp [strE, Value.oneCell']) (by have := HN5.out; omega) (Nat.le_trans HR5.out.keep.size K7.size) ?_; intro A8 c8 w8' hown hgrow _; have HR8 := Lib.hid (HR5.out.app K7 hown hgrow); clear hown hgrow K7)
                have HNL : Hid (n5 + 1 ≤ 200000 * k + 100002) := Lib.hid (by have := HN5.out; omega)
                clear ha
                have HF23 : Hid (∀ W, Keeps w2 W [] → (W.cell? ⟨w.heap.size, 0, none⟩ = some (.slice Aa na ca) ∧ W.cell? ⟨w.heap.size, 1, none⟩ = some (.slice Af nf cf) ∧ W.cell? ⟨w.heap.size, 2, none⟩ = some (.slice Ap np cp) ∧ W.cell? ⟨w.heap.size, 3, none⟩ = some (.slice (some ⟨b, off, none⟩) nc cc)) ∧ W.cell? ⟨b, off + k * 5, none⟩ = some (.int .i64 i.op) ∧ W.cell? ⟨b, off + k * 5 + 1, none⟩ = some (.int .i64 i.a0) ∧ W.cell? ⟨b, off + k * 5 + 2, none⟩ = some (.int .i64 i.a1) ∧ W.cell? ⟨b, off + k * 5 + 3, none⟩ = some (.int .i64 i.a2) ∧ W.cell? ⟨b, off + k * 5 + 4, none⟩ = some (.int .i64 i.a3)) := HFi.out
                have HTx0 := HTxt.out w8'.drew HR8.out.keep.drew
                rw [HAc.out] at HTx0
                have HTx := Lib.hid HTx0
                clear HTx0
                go_upto_region 23 with fail
                refine wp_region_tx (fun W' => (W'.cell? ⟨w.heap.size, 0, none⟩ = some (.slice Aa na ca) ∧ W'.cell? ⟨w.heap.size, 1, none⟩ = some (.slice Af nf cf) ∧ W'.cell? ⟨w.heap.size, 2, none⟩ = some (.slice Ap np cp) ∧ W'.cell? ⟨w.heap.size, 3, none⟩ = some (.slice (some ⟨b, off, none⟩) nc cc)) ∧ W'.cell? ⟨b, off + k * 5, none⟩ = some (.int .i64 i.op) ∧ W'.cell? ⟨b, off + k * 5 + 1, none⟩ = some (.int .i64 i.a0) ∧ W'.cell? ⟨b, off + k * 5 + 2, none⟩ = some (.int .i64 i.a1) ∧ W'.cell? ⟨b, off + k * 5 + 3, none⟩ = some (.int .i64 i.a2) ∧ W'.cell? ⟨b, off + k * 5 + 4, none⟩ = some (.int .i64 i.a3)) [(0, true), (1, true), (2, true), (3, true), (4, true), (5, true), (6, true), (7, false), (8, false), (9, false), (10, false)] (by kernel_rfl) (by kernel_rfl) (HF23.out _ HR8.out.keep.drew) (fun hHeld => ?_)
                (repeat (first | (refine wpTx_take (v := ?_) rfl (by assumption) ?_ (by rfl) ?_; rotate_left; (focus (intro w' hSw; (try dsimp only at hSw); go_simp; (try with_reducible rfl); done)); simp only [Act.put, List.setIfInBounds_toArray, List.set_cons_zero, List.set_cons_succ]) | (refine wpTx_skip rfl (by assumption) (by rfl) ?_; simp only [Act.put, List.setIfInBounds_toArray, List.set_cons_zero, List.set_cons_succ])))
                refine wpTx_go rfl (fun K hK => ?_)
                go_simp
                refine HTx.out.mono ?_
                rintro e w8 ⟨rfl, k8'⟩
                have HK8 : Hid (Keeps w8' w8 []) := (Keeps.refl w8' []).drew.trans k8'
                have HFw := Lib.hid (HF23.out w8 (HR8.out.keep.trans HK8.out))
                clear k8'
                refine hK.out _ _ ?_ ?_
                · exact HFw.out
                (clear hHeld; intro hHeld; clear hK K; (try simp only [Act.put, List.setIfInBounds_toArray, List.set_cons_zero, List.set_cons_succ]))
                (repeat (first | (refine wpTx_take (v := ?_) rfl (by assumption) ?_ (by rfl) ?_; rotate_left; (focus (intro w' hSw; (try dsimp only at hSw); go_simp; (try with_reducible rfl); done)); simp only [Act.put, List.setIfInBounds_toArray, List.set_cons_zero, List.set_cons_succ]) | (refine wpTx_skip rfl (by assumption) (by rfl) ?_; simp only [Act.put, List.setIfInBounds_toArray, List.set_cons_zero, List.set_cons_succ])))
                refine wpTx_go rfl (fun K hK => ?_)
                go_simp
                refine hK.out _ _ ?_ ?_
                · exact HF23.out _ ((HR8.out.keep.trans HK8.out).alloc _)
                (clear hHeld; intro hHeld; clear hK K; (try simp only [Act.put, List.setIfInBounds_toArray, List.set_cons_zero, List.set_cons_succ]))
                refine wpTx_go rfl (fun K hK => ?_)
                have K9 : Keeps w8' (w8.alloc (.cells #[.string (stB (textT o i))] 9)) [] := HK8.out.alloc _
                refine step_app _ el_atomA (by rfl) _ _ (by rfl) w2.heap.size A8 (n5 + 1) c8 (((l5 ++ [64 :: Lib.decDigits k]).map stB).flatMap strE) (by rfl) (own_keep0 HR8.out.own K9) (some ⟨w8.heap.size, 0, none⟩) 1 1 (strE (stB (textT o i))) (by rfl) (Rd.one w8 _ (strE (stB (textT o i)))) rfl (by simp) (by simp [strE, Value.oneCell']) (by have := HNL.out; omega) (Nat.le_trans HR8.out.keep.size K9.size) ?_
                intro A9 c9 w9 hown hgrow _
                have HR9 := Lib.hid (HR8.out.app K9 hown hgrow)
                have HFx := Lib.hid (HF23.out w9 HR9.out.keep)
                clear hown hgrow K9
                refine hK.out _ _ ?_ ?_
                · exact HFx.out
                (clear hHeld; intro hHeld; clear hK K; (try simp only [Act.put, List.setIfInBounds_toArray, List.set_cons_zero, List.set_cons_succ]))
                refine wpTx_last rfl (fun K hK => ?_)
                go_simp
                refine hK.out _ _ (NoPanic.normal ?_); clear hK K; (try simp only [Act.put, List.setIfInBounds_toArray, List.set_cons_zero, List.set_cons_succ])
                clear hHeld HF23 HFw HFx HK8
                go_wp2_with fail
                go_roundw
                case rel => exact ⟨k + 1, by omega, by go_num, A9, (n5 + 1) + 1, c9, by rfl, by have := HNL.out; omega, by rw [HLs.out]; exact HR9.out⟩
                case measure => simp [intOf]; omega
              | false =>
                have HLs : Hid (linesFrom o 0 (o.code.take (k + 1)) = l5 ++ [textT o i]) := Lib.hid (by rw [HSn.out, HLT.out, HTg.out, if_neg Bool.false_ne_true]; simp)
                have HNL : Hid (n5 ≤ 200000 * k + 100002) := Lib.hid (by have := HN5.out; omega)
                have HF23 : Hid (∀ W, Keeps w2 W [] → (W.cell? ⟨w.heap.size, 0, none⟩ = some (.slice Aa na ca) ∧ W.cell? ⟨w.heap.size, 1, none⟩ = some (.slice Af nf cf) ∧ W.cell? ⟨w.heap.size, 2, none⟩ = some (.slice Ap np cp) ∧ W.cell? ⟨w.heap.size, 3, none⟩ = some (.slice (some ⟨b, off, none⟩) nc cc)) ∧ W.cell? ⟨b, off + k * 5, none⟩ = some (.int .i64 i.op) ∧ W.cell? ⟨b, off + k * 5 + 1, none⟩ = some (.int .i64 i.a0) ∧ W.cell? ⟨b, off + k * 5 + 2, none⟩ = some (.int .i64 i.a1) ∧ W.cell? ⟨b, off + k * 5 + 3, none⟩ = some (.int .i64 i.a2) ∧ W.cell? ⟨b, off + k * 5 + 4, none⟩ = some (.int .i64 i.a3)) := HFi.out
                have HTx0 := HTxt.out w5.drew HR5.out.keep.drew
                rw [HAc.out] at HTx0
                have HTx := Lib.hid HTx0
                clear HTx0
                go_upto_region 23 with fail
                refine wp_region_tx (fun W' => (W'.cell? ⟨w.heap.size, 0, none⟩ = some (.slice Aa na ca) ∧ W'.cell? ⟨w.heap.size, 1, none⟩ = some (.slice Af nf cf) ∧ W'.cell? ⟨w.heap.size, 2, none⟩ = some (.slice Ap np cp) ∧ W'.cell? ⟨w.heap.size, 3, none⟩ = some (.slice (some ⟨b, off, none⟩) nc cc)) ∧ W'.cell? ⟨b, off + k * 5, none⟩ = some (.int .i64 i.op) ∧ W'.cell? ⟨b, off + k * 5 + 1, none⟩ = some (.int .i64 i.a0) ∧ W'.cell? ⟨b, off + k * 5 + 2, none⟩ = some (.int .i64 i.a1) ∧ W'.cell? ⟨b, off + k * 5 + 3, none⟩ = some (.int .i64 i.a2) ∧ W'.cell? ⟨b, off + k * 5 + 4, none⟩ = some (.int .i64 i.a3)) [(0, true), (1, true), (2, true), (3, true), (4, true), (5, true), (6, true), (7, false), (8, false), (9, false), (10, false)] (by kernel_rfl) (by kernel_rfl) (HF23.out _ HR5.out.keep.drew) (fun hHeld => ?_)
                (repeat (first | (refine wpTx_take (v := ?_) rfl (by assumption) ?_ (by rfl) ?_; rotate_left; (focus (intro w' hSw; (try dsimp only at hSw); go_simp; (try with_reducible rfl); done)); simp only [Act.put, List.setIfInBounds_toArray, List.set_cons_zero, List.set_cons_succ]) | (refine wpTx_skip rfl (by assumption) (by rfl) ?_; simp only [Act.put, List.setIfInBounds_toArray, List.set_cons_zero, List.set_cons_succ])))
                refine wpTx_go rfl (fun K hK => ?_)
                go_simp
                refine HTx.out.mono ?_
                rintro e w8 ⟨rfl, k8'⟩
                have HK8 : Hid (Keeps w5 w8 []) := (Keeps.refl w5 []).drew.trans k8'
                have HFw := Lib.hid (HF23.out w8 (HR5.out.keep.trans HK8.out))
                clear k8'
                refine hK.out _ _ ?_ ?_
                · exact HFw.out
                (clear hHeld; intro hHeld; clear hK K; (try simp only [Act.put, List.setIfInBounds_toArray, List.set_cons_zero, List.set_cons_succ]))
                (repeat (first | (refine wpTx_take (v := ?_) rfl (by assumption) ?_ (by rfl) ?_; rotate_left; (focus (intro w' hSw; (try dsimp only at hSw); go_simp; (try with_reducible rfl); done)); simp only [Act.put, List.setIfInBounds_toArray, List.set_cons_zero, List.set_cons_succ]) | (refine wpTx_skip rfl (by assumption) (by rfl) ?_; simp only [Act.put, List.setIfInBounds_toArray, List.set_cons_zero, List.set_cons_succ])))
                refine wpTx_go rfl (fun K hK => ?_)
                go_simp
                refine hK.out _ _ ?_ ?_
                · exact HF23.out _ ((HR5.out.keep.trans HK8.out).alloc _)
                (clear hHeld; intro hHeld; clear hK K; (try simp only [Act.put, List.setIfInBounds_toArray, List.set_cons_zero, List.set_cons_succ]))
                refine wpTx_go rfl (fun K hK => ?_)
                have K9 : Keeps w5 (w8.alloc (.cells #[.string (stB (textT o i))] 9)) [] := HK8.out.alloc _
                refine step_app _ el_atomA (by rfl) _ _ (by rfl) w2.heap.size OA5 n5 c5 ((l5.map stB).flatMap strE) (by rfl) (own_keep0 HR5.out.own K9) (some ⟨w8.heap.size, 0, none⟩) 1 1 (strE (stB (textT o i))) (by rfl) (Rd.one w8 _ (strE (stB (textT o i)))) rfl (by simp) (by simp [strE, Value.oneCell']) (by have := HNL.out; omega) (Nat.le_trans HR5.out.keep.size K9.size) ?_
                intro A9 c9 w9 hown hgrow _
                have HR9 := Lib.hid (HR5.out.app K9 hown hgrow)
                have HFx := Lib.hid (HF23.out w9 HR9.out.keep)
                clear hown hgrow K9
                refine hK.out _ _ ?_ ?_
                · exact HFx.out
                (clear hHeld; intro hHeld; clear hK K; (try simp only [Act.put, List.setIfInBounds_toArray, List.set_cons_zero, List.set_cons_succ]))
                refine wpTx_last rfl (fun K hK => ?_)
                go_simp
                refine hK.out _ _ (NoPanic.normal ?_); clear hK K; (try simp only [Act.put, List.setIfInBounds_toArray, List.set_cons_zero, List.set_cons_succ])
                clear hHeld HF23 HFw HFx HK8
                go_wp2_with fail
                go_roundw
                case rel => exact ⟨k + 1, by omega, by go_num, A9, n5 + 1, c9, by rfl, by have := HNL.out; omega, by rw [HLs.out]; exact HR9.out⟩
                case measure => simp [intOf]; omega
    · obtain rfl : nc = k := by omega
      have HV : Hid (linesFrom o 0 (o.code.take nc) = linesE o) := Lib.hid (by rw [List.take_of_length_le (by rw [HLc.out]; exact Nat.le_refl _), HLE2.out]; rfl)
      rw [HV.out] at HR
      have HLn := Lib.hid HR.out.len
      go_wp2_with fail
      go_ret
      refine ⟨OA, oc, by rw [HLn.out]; rfl, Rd.of_own HR.out.own, HK02.out.trans HR.out.keep, fun e => by have := HR.out.own; rw [e] at this; exact own_nilA this⟩
end Go.Proofs.YtpcihhdalofdiaaGreatDoor

/- What was made of lines is made of its lines again: what stays as lines come. No program in sight. -/
namespace Go.Proofs.YtpcihhdalofdiaaGreatDoor

/-- What stays until the end. -/
structure LeS (S F : AS) : Prop where
  atoms : S.o.atoms <+: F.o.atoms
  funs : S.o.funs <+: F.o.funs
  preds : ∀ (i : Nat) (p : LPred), S.o.preds[i]? = some p → ∃ q, F.o.preds[i]? = some q ∧ q.name = p.name ∧ q.arity = p.arity ∧ (p.entry ≠ 65535 → q.entry = p.entry)
  code : S.o.code <+: F.o.code
  begins : ∀ b ∈ F.begins, b ∈ S.begins ∨ (S.o.code.length : Int) ≤ entryAt F b
  old : ∀ b ∈ S.begins, b ∈ F.begins
theorem LeS.refl (S : AS) : LeS S S := ⟨List.prefix_refl _, List.prefix_refl _, fun _ p h => ⟨p, h, rfl, rfl, fun _ => rfl⟩, List.prefix_refl _, fun _ h => .inl h, fun _ h => h⟩
theorem LeS.step {S S1 F : AS} (h : LeS S1 F) (h1 : S.o.atoms <+: S1.o.atoms) (h2 : S.o.funs <+: S1.o.funs) (h3 : ∀ (i : Nat) (p : LPred), S.o.preds[i]? = some p → ∃ q, S1.o.preds[i]? = some q ∧ q.name = p.name ∧ q.arity = p.arity ∧ (p.entry ≠ 65535 → q.entry = p.entry)) (h4 : S.o.code <+: S1.o.code)
    (h5 : ∀ b ∈ S1.begins, b ∈ S.begins ∨ ∃ p, S1.o.preds[b.1]? = some p ∧ p.entry = S.o.code.length) (h6 : ∀ b ∈ S.begins, b ∈ S1.begins) (hr : S.o.code.length ≤ 1024) : LeS S F := by
  refine ⟨h1.trans h.atoms, h2.trans h.funs, fun i p hp => ?_, h4.trans h.code, fun b hb => ?_, fun b hb => h.old b (h6 b hb)⟩
  · obtain ⟨q, hq, e1, e2, e3⟩ := h3 i p hp
    obtain ⟨r, hr', f1, f2, f3⟩ := h.preds i q hq
    exact ⟨r, hr', f1.trans e1, f2.trans e2, fun hne => by rw [f3 (by rw [e3 hne]; exact hne), e3 hne]⟩
  · have hlen := h4.length_le
    rcases h.begins b hb with hb | hb
    · rcases h5 b hb with hb | ⟨p, hp, he⟩
      · exact .inl hb
      · obtain ⟨q, hq, _, _, e3⟩ := h.preds _ _ hp
        right
        rw [entryAt_is hq, e3 (by omega), he]
        exact Int.le_refl _
    · right
      omega
theorem predP_pre (o : LObj) (f : LFun) : (predP o f).1.atoms = o.atoms ∧ (predP o f).1.funs = o.funs := by
  unfold predP
  split <;> exact ⟨rfl, rfl⟩
theorem LeS.line {S F : AS} (hm : Made S) (s : Txt) (n : Nat) (h : LeS (lineP S s n).1 F) : LeS S F := by
  have hfull := (full_few hm.room).2.2.2
  have same : ∀ (i : Nat) (p : LPred), S.o.preds[i]? = some p → ∃ q, S.o.preds[i]? = some q ∧ q.name = p.name ∧ q.arity = p.arity ∧ (p.entry ≠ 65535 → q.entry = p.entry) := fun i p hp => ⟨p, hp, rfl, rfl, fun _ => rfl⟩
  unfold lineP at h
  split at h
  · unfold beginP at h
    split at h
    · exact h
    · rename_i f _
      simp only at h
      split at h
      · exact h
      · rename_i hany
        refine h.step (by rw [(predP_pre _ _).1]; exact List.prefix_refl _) (by rw [(predP_pre _ _).2]; exact List.prefix_refl _) (fun i p hp => ?_) (by simp only [predP_code]; exact List.prefix_refl _) (fun b hb => ?_) (fun b hb => List.mem_append.2 (.inl hb)) hfull
        · simp only
          rw [List.getElem?_modify, predP_keep _ _ hp]
          by_cases hi : (predP S.o f).2 = i
          · simp only [hi, if_true]
            refine ⟨_, rfl, rfl, rfl, fun hne => ?_⟩
            refine absurd (hm.inv i p hp hne) (fun h1 => hany ?_)
            rw [hi]
            exact h1
          · simp only [hi, if_false]
            exact ⟨p, by simp, rfl, rfl, fun _ => rfl⟩
        · rcases List.mem_append.1 hb with hb | hb
          · exact .inl hb
          · right
            obtain rfl := List.mem_singleton.1 hb
            simp only
            rw [List.getElem?_modify, List.getElem?_eq_getElem (predP_lt S.o f)]
            exact ⟨_, by simp; rfl, rfl⟩
  · split at h
    · unfold markP at h
      split at h
      · exact h
      · split at h
        · exact h
        · exact h.step (List.prefix_refl _) (List.prefix_refl _) same (List.prefix_refl _) (fun b hb => .inl hb) (fun b hb => hb) hfull
    · unfold instrP at h
      simp only at h
      split at h
      · exact h
      · have hle := operandsP_le (n := S.o.code.length) (at_ := n) (((kindsOf (namedT ((splitT s).headD []))).map Int.toNat).zip (splitT s).tail) S.o 0
        refine h.step hle.atoms hle.funs (fun i p hp => ⟨p, operandsP_keep _ _ _ hp, rfl, rfl, fun _ => rfl⟩) ?_ (fun b hb => .inl hb) (fun b hb => hb) hfull
        simp only [operandsP_code]
        exact List.prefix_append _ _
theorem LeS.lines : ∀ (l : List Txt) (S F : AS) (n : Nat), Made S → linesP S n l = (F, 0, -1) → LeS S F
  | [], S, F, n, _, h => by
    rw [linesP] at h
    injection h with e _
    subst e
    exact LeS.refl _
  | s :: l, S, F, n, hm, h => by
    rw [lines_cons] at h
    split at h
    · rename_i h0
      injection h with _ e
      injection e with e _
      exact absurd e h0
    · rename_i h0
      split at h
      · injection h with _ e
        injection e with e _
        omega
      · rename_i hf
        exact LeS.line hm s n (LeS.lines l _ F _ (hm.line s n (by simpa using hf)) h)
/-- One line more. -/
theorem run_snoc {S S1 S2 : AS} {s : Txt} : ∀ {l : List Txt} {n : Nat}, linesP S n l = (S1, 0, -1) → lineP S1 s (n + l.length) = (S2, 0) → fullP S2.o = false → linesP S n (l ++ [s]) = (S2, 0, -1) := by
  intro l
  induction l generalizing S with
  | nil =>
    intro n h h1 h2
    rw [linesP] at h
    injection h with e _
    subst e
    rw [List.nil_append, lines_cons]
    simp only [List.length_nil, Nat.add_zero] at h1
    rw [h1, if_neg (by simp)]
    simp only [h2]
    rfl
  | cons x l ih =>
    intro n h h1 h2
    rw [lines_cons] at h
    rw [List.cons_append, lines_cons]
    split at h
    · rename_i h0
      injection h with _ e
      injection e with e _
      exact absurd e h0
    · rename_i h0
      rw [if_neg h0]
      split at h
      · injection h with _ e
        injection e with e _
        omega
      · rename_i hf
        rw [if_neg hf]
        exact ih h (by rw [show n + 1 + l.length = n + (x :: l).length by rw [List.length_cons]; omega]; exact h1) h2
/-! ### Operands of the same words -/
/-- Two words that say the same, but for labels. -/
structure RelW (k : Nat) (w w' : Txt) : Prop where
  a : k = 3 → wdB w' = wdB w
  f : k = 4 → slashP w' 1 = slashP w 1
  p : k = 7 → slashP w' 0 = slashP w 0
  o : PlainK k → plainP k w' = plainP k w
theorem operandP_rel (o : LObj) {k : Nat} {w w' : Txt} (h : RelW k w w') : (operandP o k w').1 = (operandP o k w).1 ∧ (k ≠ 8 → (operandP o k w').2 = (operandP o k w).2) := by
  by_cases h3 : k = 3
  · subst h3
    rw [show operandP o 3 w' = ({ o with atoms := idxL o.atoms (wdB w') }, (idxA o.atoms (wdB w') : Int)) from rfl, h.a rfl]
    exact ⟨rfl, fun _ => rfl⟩
  by_cases h4 : k = 4
  · subst h4
    unfold operandP
    rw [if_neg (by decide), if_pos rfl, if_neg (by decide), if_pos rfl, h.f rfl]
    exact ⟨rfl, fun _ => rfl⟩
  by_cases h7 : k = 7
  · subst h7
    unfold operandP
    rw [if_neg (by decide), if_neg (by decide), if_pos rfl, if_neg (by decide), if_neg (by decide), if_pos rfl, h.p rfl]
    exact ⟨rfl, fun _ => rfl⟩
  by_cases h8 : k = 8
  · subst h8
    exact ⟨rfl, fun h => absurd rfl h⟩
  · unfold operandP
    rw [if_neg h3, if_neg h4, if_neg h7, if_neg h8, if_neg h3, if_neg h4, if_neg h7, if_neg h8, h.o ⟨h3, h4, h7, h8⟩]
    exact ⟨rfl, fun _ => rfl⟩
theorem operandsP_rel {n at_ n' at' : Nat} : ∀ (l l' : List (Nat × Txt)) (o : LObj) (j : Nat), l'.length = l.length → (∀ (i k k' : Nat) (w w' : Txt), l[i]? = some (k, w) → l'[i]? = some (k', w') → k' = k ∧ RelW k w w') →
    (operandsP n' at' o j l').1 = (operandsP n at_ o j l).1 ∧ ∀ (i k : Nat) (w w' : Txt), l[i]? = some (k, w) → l'[i]? = some (k, w') → (k ≠ 8 → (operandsP n' at' o j l').2.1[i]? = (operandsP n at_ o j l).2.1[i]?) ∧ (k = 8 → (operandsP n' at' o j l').2.1[i]? = some (operandP o 8 w').2)
  | [], l', o, j, hl, _ => by
    obtain rfl := List.eq_nil_of_length_eq_zero hl
    exact ⟨rfl, fun i k w w' h => by simp at h⟩
  | (k, w) :: l, [], o, j, hl, _ => by simp at hl
  | (k, w) :: l, (k', w') :: l', o, j, hl, h => by
    obtain ⟨rfl, hr⟩ := h 0 k k' w w' rfl rfl
    obtain ⟨e1, e2⟩ := operandP_rel o hr
    obtain ⟨g1, g2⟩ := operandsP_rel (n := n) (at_ := at_) (n' := n') (at' := at') l l' (operandP o k' w).1 (j + 1) (by simpa using hl) (fun i a b c d h1 h2 => h (i + 1) a b c d (by simpa using h1) (by simpa using h2))
    rw [operandsP, operandsP, e1]
    refine ⟨g1, fun i a c d h1 h2 => ?_⟩
    cases i with
    | zero =>
      simp only [List.getElem?_cons_zero, Option.some.injEq, Prod.mk.injEq] at h1 h2
      obtain ⟨rfl, rfl⟩ := h1
      obtain ⟨_, rfl⟩ := h2
      refine ⟨fun h8 => ?_, fun h8 => ?_⟩
      · simp only [List.getElem?_cons_zero]
        rw [e2 h8]
      · subst h8
        rfl
    | succ i =>
      simp only [List.getElem?_cons_succ] at h1 h2 ⊢
      exact g2 i a c d h1 h2
/-- What an operand's number means in the tables behind it. -/
structure ValW (o : LObj) (k : Nat) (w : Txt) (v : Int) : Prop where
  a : k = 3 → o.atoms[v.toNat]? = some (wdB w)
  f : k = 4 → ∃ g, slashP w 1 = some g ∧ o.funs[v.toNat]? = some g
  p : k = 7 → ∃ g q, slashP w 0 = some g ∧ o.preds[v.toNat]? = some q ∧ q.name = g.name ∧ q.arity = g.arity
  o : PlainK k → v = plainP k w
theorem predP_at (o : LObj) (f : LFun) : ∃ q, (predP o f).1.preds[(predP o f).2]? = some q ∧ q.name = f.name ∧ q.arity = f.arity := by
  unfold predP
  cases h : o.preds.findIdx? fun p => decide (p.name = f.name) && decide (p.arity = f.arity) with
  | some k =>
    have h1 := List.findIdx?_eq_some_iff_getElem.1 h
    obtain ⟨hk, hp, _⟩ := h1
    simp only [Bool.and_eq_true, decide_eq_true_eq] at hp
    exact ⟨o.preds[k], List.getElem?_eq_getElem hk, hp.1, hp.2⟩
  | none => exact ⟨⟨f.name, f.arity, 65535⟩, by simp, rfl, rfl⟩
theorem operand_val (o : LObj) {op : Int} {k : Nat} {w : Txt} (hf : fitsP op k w = true) : ValW (operandP o k w).1 k w (operandP o k w).2 := by
  by_cases h3 : k = 3
  · subst h3
    refine ⟨fun _ => ?_, fun h => by omega, fun h => by omega, fun h => absurd rfl h.1⟩
    rw [show operandP o 3 w = ({ o with atoms := idxL o.atoms (wdB w) }, (idxA o.atoms (wdB w) : Int)) from rfl]
    simp only [Int.toNat_natCast]
    exact idxL_at _ _
  by_cases h4 : k = 4
  · subst h4
    refine ⟨fun h => by omega, fun _ => ?_, fun h => by omega, fun h => absurd rfl h.2.1⟩
    have hf' : (slashP w 1).isSome = true := hf
    cases hs : slashP w 1 with
    | none => rw [hs] at hf'; cases hf'
    | some g =>
      refine ⟨g, rfl, ?_⟩
      unfold operandP
      rw [if_neg (by decide), if_pos rfl, hs]
      simp only [Int.toNat_natCast]
      exact idxL_at _ _
  by_cases h7 : k = 7
  · subst h7
    refine ⟨fun h => by omega, fun h => by omega, fun _ => ?_, fun h => absurd rfl h.2.2.1⟩
    have hf' : (slashP w 0).isSome = true := hf
    cases hs : slashP w 0 with
    | none => rw [hs] at hf'; cases hf'
    | some g =>
      unfold operandP
      rw [if_neg (by decide), if_neg (by decide), if_pos rfl, hs]
      simp only [Int.toNat_natCast]
      obtain ⟨q, h1, h2, h3⟩ := predP_at o g
      exact ⟨g, q, rfl, h1, h2, h3⟩
  · refine ⟨fun h => absurd h h3, fun h => absurd h h4, fun h => absurd h h7, fun h => operandP_plain o w h⟩
theorem ValW.mono {o o' : LObj} {k : Nat} {w : Txt} {v : Int} (h : ValW o k w v) (h1 : o.atoms <+: o'.atoms) (h2 : o.funs <+: o'.funs) (h3 : ∀ (i : Nat) (p : LPred), o.preds[i]? = some p → ∃ q, o'.preds[i]? = some q ∧ q.name = p.name ∧ q.arity = p.arity) : ValW o' k w v := by
  refine ⟨fun e => ?_, fun e => ?_, fun e => ?_, h.o⟩
  · obtain ⟨t, ht⟩ := h1
    have := h.a e
    rw [← ht, List.getElem?_append_left (List.getElem?_eq_some_iff.1 this).1]
    exact this
  · obtain ⟨g, e1, e2⟩ := h.f e
    obtain ⟨t, ht⟩ := h2
    exact ⟨g, e1, by rw [← ht, List.getElem?_append_left (List.getElem?_eq_some_iff.1 e2).1]; exact e2⟩
  · obtain ⟨g, q, e1, e2, e3, e4⟩ := h.p e
    obtain ⟨q', f1, f2, f3⟩ := h3 _ _ e2
    exact ⟨g, q', e1, f1, f2.trans e3, f3.trans e4⟩
theorem operandsP_val {op : Int} {n at_ : Nat} : ∀ (l : List (Nat × Txt)) (o : LObj) (j : Nat), (l.all fun x => fitsP op x.1 x.2) = true → ∀ (i k : Nat) (w : Txt) (v : Int), l[i]? = some (k, w) → (operandsP n at_ o j l).2.1[i]? = some v → ValW (operandsP n at_ o j l).1 k w v
  | [], _, _, _, i, _, _, _, h, _ => by simp at h
  | (k0, w0) :: l, o, j, hf, i, k, w, v, hi, hv => by
    rw [List.all_cons, Bool.and_eq_true] at hf
    rw [operandsP] at hv ⊢
    cases i with
    | zero =>
      simp only [List.getElem?_cons_zero, Option.some.injEq, Prod.mk.injEq] at hi hv
      obtain ⟨rfl, rfl⟩ := hi
      subst hv
      have hle := operandsP_le (n := n) (at_ := at_) l (operandP o k0 w0).1 (j + 1)
      exact (operand_val o hf.1).mono hle.atoms hle.funs (fun i p hp => ⟨p, operandsP_keep l _ _ hp, rfl, rfl⟩)
    | succ i =>
      simp only [List.getElem?_cons_succ] at hi hv
      exact operandsP_val l _ _ hf.2 i k w v hi hv
end Go.Proofs.YtpcihhdalofdiaaGreatDoor

/- What was made of lines is made of its lines again: the words of an instruction's line. No program in sight. -/
namespace Go.Proofs.YtpcihhdalofdiaaGreatDoor

theorem wdB_bT (s : ByteArray) : wdB (bT s) = s := wdB_of s
theorem plain_back {k : Nat} {w : Txt} (hp : PlainK k) (h1 : 1 ≤ k) (h2 : k < 10) (h0 : 0 ≤ plainP k w) : plainP k (opTxt k (plainP k w).toNat) = plainP k w := by
  obtain ⟨k1, k2, k3⟩ := ofK_kinds hp h1 h2
  have hm := plainP_may hp h1 h2 h0 (ofK k)
  generalize plainP k w = v at *
  have hok : insOk ⟨ofK k, v, 0, 0, 0⟩ = true := by
    unfold insOk
    rw [k3]
    simp only [Bool.true_and, List.all_eq_true, List.mem_range]
    intro j hj
    unfold argOk
    rw [k1]
    match j, hj with
    | 0, _ =>
      have : mayOk (ofK k) ((k : Int)).toNat v = true := by rw [Int.toNat_natCast]; exact hm
      exact this
    | 1, _ => rfl
    | 2, _ => rfl
    | 3, _ => rfl
  have hw : wordsOf ⟨ofK k, v, 0, 0, 0⟩ = [nameT (ofK k), opTxt k v.toNat] := by
    unfold wordsOf
    rw [k1]
    rfl
  have ht : insTxt ⟨ofK k, v, 0, 0, 0⟩ = nameT (ofK k) ++ 32 :: opTxt k v.toNat := by
    unfold insTxt
    rw [if_pos hok, hw]
    rfl
  have hpar := parse_of (f := opP) (hf := opP_txt) hok (by rw [ht]; simp)
  unfold plainP
  rw [← ht, hpar]
  rfl
/-- An operand's word in the lines of what comes to be. -/
theorem rel_word {o : LObj} {op : Int} {k : Nat} {w : Txt} {v : Int} (hv : ValW o k w v) (hf : fitsP op k w = true) (h1 : 1 ≤ k) (h2 : k < 10) (h8 : k ≠ 8) : RelW k w (wordT o k v) ∧ fitsP op k (wordT o k v) = true := by
  by_cases h3 : k = 3
  · subst h3
    have e : wdB (wordT o 3 v) = wdB w := by
      rw [show wordT o 3 v = bT (o.atoms.getD v.toNat ⟨#[]⟩) from rfl, wdB_bT, List.getD_eq_getElem?_getD, hv.a rfl]
      rfl
    refine ⟨⟨fun _ => e, fun h => by omega, fun h => by omega, fun h => absurd rfl h.1⟩, ?_⟩
    have hf' : nameOk (wdB w) = true := hf
    show nameOk (wdB (wordT o 3 v)) = true
    rw [e]
    exact hf'
  by_cases h4 : k = 4
  · subst h4
    obtain ⟨g, hs, hg⟩ := hv.f rfl
    obtain ⟨a1, a2, a3⟩ := slash_ok hs
    have e : slashP (wordT o 4 v) 1 = some g := by
      rw [show wordT o 4 v = slT (o.funs.getD v.toNat ⟨⟨#[]⟩, 0⟩) from rfl, List.getD_eq_getElem?_getD, hg]
      simp only [Option.getD_some]
      exact slash_at a1 (by omega) a3 a2
    refine ⟨⟨fun h => by omega, fun _ => e.trans hs.symm, fun h => by omega, fun h => absurd rfl h.2.1⟩, ?_⟩
    show (slashP (wordT o 4 v) 1).isSome = true
    rw [e]
    rfl
  by_cases h7 : k = 7
  · subst h7
    obtain ⟨g, q, hs, hq, e1, e2⟩ := hv.p rfl
    obtain ⟨a1, a2, a3⟩ := slash_ok hs
    have e : slashP (wordT o 7 v) 0 = some g := by
      rw [show wordT o 7 v = slT ⟨(o.preds.getD v.toNat ⟨⟨#[]⟩, 0, 0⟩).name, (o.preds.getD v.toNat ⟨⟨#[]⟩, 0, 0⟩).arity⟩ from rfl, List.getD_eq_getElem?_getD, hq]
      simp only [Option.getD_some]
      rw [e1, e2]
      exact slash_at a1 (by omega) a3 a2
    refine ⟨⟨fun h => by omega, fun h => by omega, fun _ => e.trans hs.symm, fun h => absurd rfl h.2.2.1⟩, ?_⟩
    show (slashP (wordT o 7 v) 0).isSome = true
    rw [e]
    rfl
  · have hp : PlainK k := ⟨h3, h4, h7, h8⟩
    have hfit : 0 ≤ plainP k w := by
      unfold fitsP at hf
      rw [if_neg h3, if_neg h4, if_neg h7, if_neg h8] at hf
      simpa using hf
    have e : plainP k (wordT o k v) = plainP k w := by
      unfold wordT
      rw [if_neg h3, if_neg h4, if_neg h7, if_neg h8, hv.o hp]
      exact plain_back hp h1 h2 hfit
    refine ⟨⟨fun h => absurd h h3, fun h => absurd h h4, fun h => absurd h h7, fun _ => e⟩, ?_⟩
    unfold fitsP
    rw [if_neg h3, if_neg h4, if_neg h7, if_neg h8, e]
    simpa using hfit
/-- A label's word. -/
theorem label_word {o : LObj} {op : Int} {v : Int} (h : (0 ≤ v ∧ v ≤ 1023) ∨ (v = 65535 ∧ op = 26)) (o' : LObj) : fitsP op 8 (wordT o 8 v) = true ∧ (operandP o' 8 (wordT o 8 v)).2 = v := by
  have e : wordT o 8 v = if v = 65535 then [45] else 64 :: Lib.decDigits v.toNat := rfl
  rcases h with h | ⟨rfl, rfl⟩
  · obtain ⟨n, rfl⟩ := Int.eq_ofNat_of_zero_le h.1
    have hl := label_at (n := n) (by omega)
    rw [e, if_neg (by omega), Int.toNat_natCast]
    refine ⟨?_, ?_⟩
    · show (decide (0 ≤ labelP (64 :: Lib.decDigits n)) || _) = true
      rw [hl]
      simp
    · show (if (64 :: Lib.decDigits n) = [45] then (65535 : Int) else labelP (64 :: Lib.decDigits n)) = n
      rw [if_neg (by simp), hl]
  · rw [e, if_pos rfl]
    exact ⟨by decide +kernel, rfl⟩
theorem digits_no32 (n : Nat) : (32 : UInt8) ∉ Lib.decDigits n := fun h => (dig_not 32 (digits_dig n 32 h)).2.2.2 rfl
theorem slT_no32 {f : LFun} (h : nameOk f.name = true) : (32 : UInt8) ∉ slT f := by
  unfold slT
  simp only [List.mem_append, List.mem_cons, not_or]
  exact ⟨name_no h (by decide), by decide, digits_no32 _⟩
theorem wordT_no32 {o : LObj} {k : Nat} {n : Int} (h : ArgOk o k n) : (32 : UInt8) ∉ wordT o k n := by
  unfold wordT
  split
  · rename_i hk
    obtain ⟨s, hs, hn⟩ := h.atom hk
    rw [List.getD_eq_getElem?_getD, hs]
    exact name_no hn (by decide)
  · split
    · rename_i hk
      obtain ⟨f, hf, hn⟩ := h.fun_ hk
      rw [List.getD_eq_getElem?_getD, hf]
      simp only [funOk, Bool.and_eq_true, decide_eq_true_eq] at hn
      exact slT_no32 hn.1
    · split
      · rename_i hk
        obtain ⟨p, hp, hn⟩ := h.pred hk
        rw [List.getD_eq_getElem?_getD, hp]
        simp only [predOk, Bool.and_eq_true, decide_eq_true_eq] at hn
        exact slT_no32 (f := ⟨p.name, p.arity⟩) hn.1
      · split
        · split
          · decide
          · simp only [List.mem_cons, not_or]
            exact ⟨by decide, digits_no32 _⟩
        · exact opTxt_blank _ _
theorem text_split {o : LObj} {i : LIns} (hok : insOk i = true) (h : ∀ (j q : Nat), (kindsOf i.op)[j]? = some (q : Int) → ArgOk o q (i.arg j)) : splitT (textT o i) = wordsT o i := by
  rw [textT_is]
  refine split_join _ (by simp [wordsT]) fun w hw => ?_
  obtain ⟨j, hj⟩ := List.getElem?_of_mem hw
  cases j with
  | zero =>
    have e : w = nameT i.op := by
      simp [wordsT] at hj
      exact hj.symm
    subst e
    have hop : opIn i.op = true := by simp only [insOk, Bool.and_eq_true] at hok; exact hok.1
    exact (name_op hop).2
  | succ j =>
    have hj2 := (List.getElem?_eq_some_iff.1 hj).1
    rw [wordsT_len] at hj2
    have hy : (kindsOf i.op)[j]? = some ((kindsOf i.op)[j]'(by omega)) := List.getElem?_eq_getElem (by omega)
    have hm := kinds_mem i.op _ (List.mem_of_getElem? hy)
    obtain ⟨q, hq⟩ := Int.eq_ofNat_of_zero_le (show 0 ≤ (kindsOf i.op)[j]'(by omega) by omega)
    rw [hq] at hy
    rw [wordsT_at hy] at hj
    obtain rfl := Option.some.inj hj
    exact wordT_no32 (h j q hy)
theorem op_words : ∀ k : Nat, k < 27 → nameT (k : Int) ≠ predW ∧ (nameT (k : Int)).head? ≠ some 64 := by decide +kernel
theorem op_word {op : Int} (h : opIn op = true) : nameT op ≠ predW ∧ (nameT op).head? ≠ some 64 := by
  simp only [opIn, Bool.and_eq_true, decide_eq_true_eq] at h
  obtain ⟨k, rfl⟩ := Int.eq_ofNat_of_zero_le h.1
  exact op_words k (by omega)
/-- An instruction's line is an instruction. -/
theorem line_text {o : LObj} {i : LIns} (hok : insOk i = true) (h : ∀ (j q : Nat), (kindsOf i.op)[j]? = some (q : Int) → ArgOk o q (i.arg j)) (S : AS) (n : Nat) : lineP S (textT o i) n = instrP S (wordsT o i) n := by
  have hop : opIn i.op = true := by simp only [insOk, Bool.and_eq_true] at hok; exact hok.1
  have hs := text_split hok h
  have hh : (splitT (textT o i)).headD [] = nameT i.op := by rw [hs]; rfl
  rw [← hs]
  refine line_instr (fun hc => (op_word hop).1 (hh.symm.trans hc.2)) (fun hc => ?_)
  have hl : (wordsT o i).length = 1 := by rw [← hs]; exact hc.1
  have ht : textT o i = nameT i.op := by
    rw [textT_is]
    rw [wordsT_len] at hl
    have h0 : (kindsOf i.op).length = 0 := by omega
    unfold wordsT
    rw [h0]
    rfl
  rw [ht] at hc
  exact (op_word hop).2 hc.2
theorem line_label {S : AS} {n m : Nat} : lineP S (64 :: Lib.decDigits n) m = markP S (64 :: Lib.decDigits n) := by
  have hs : splitT (64 :: Lib.decDigits n) = [64 :: Lib.decDigits n] := splitT_last _ (by simp only [List.mem_cons, not_or]; exact ⟨by decide, digits_no32 _⟩)
  exact line_mark (by rw [hs]; rfl) rfl
theorem line_pred {S : AS} {f : LFun} {m : Nat} (h : nameOk f.name = true) : lineP S (predW ++ 32 :: slT f) m = beginP S (slT f) m := by
  have hs : splitT (predW ++ 32 :: slT f) = [predW, slT f] := by
    rw [splitT_word _ _ (by decide), splitT_last _ (slT_no32 h)]
  rw [line_begin (by rw [hs]; rfl) (by rw [hs]; rfl), hs]
  rfl
end Go.Proofs.YtpcihhdalofdiaaGreatDoor

/- What was made of lines is made of its lines again: step by step. No program in sight. -/
namespace Go.Proofs.YtpcihhdalofdiaaGreatDoor

/-- The two runs side by side. -/
structure Sim (o : LObj) (S S' : AS) : Prop where
  atoms : S'.o.atoms = S.o.atoms
  funs : S'.o.funs = S.o.funs
  preds : S'.o.preds = S.o.preds
  code : S'.o.code = o.code.take S.o.code.length
  begins : S'.begins.map (·.1) = S.begins.map (·.1)
  labels : ∀ t : Nat, S'.labels (t : Int) = if t < S.o.code.length ∧ targetB o t = true then some t else none
/-- The line of the predicate that has begun here. -/
def pend (S : AS) : List Txt := (S.begins.filter fun b => entryAt S b == (S.o.code.length : Int)).map fun b => lnP (S.o.preds.getD b.1 ⟨⟨#[]⟩, 0, 0⟩)
def Inv9 (o : LObj) (S : AS) : Prop := ∃ S', linesP AS0 0 (linesFrom o 0 (o.code.take S.o.code.length) ++ pend S) = (S', 0, -1) ∧ Sim o S S'
theorem Inv9.start (o : LObj) : Inv9 o AS0 := ⟨AS0, rfl, ⟨rfl, rfl, rfl, rfl, rfl, fun t => by
  rw [if_neg (by rintro ⟨h, _⟩; exact absurd h (Nat.not_lt_zero _))]
  rfl⟩⟩
theorem predP_same {o o' : LObj} (h : o'.preds = o.preds) (f : LFun) : (predP o' f).2 = (predP o f).2 ∧ (predP o' f).1.preds = (predP o f).1.preds := by
  unfold predP
  rw [h]
  split
  · exact ⟨rfl, h⟩
  · exact ⟨rfl, rfl⟩
theorem strict_inj {F : AS} (h : F.begins.Pairwise fun b c => entryAt F b < entryAt F c) {b c : Nat × Nat} (hb : b ∈ F.begins) (hc : c ∈ F.begins) (e : entryAt F b = entryAt F c) : b = c := by
  obtain ⟨u, hu⟩ := List.getElem?_of_mem hb
  obtain ⟨v, hv⟩ := List.getElem?_of_mem hc
  obtain ⟨hu1, hu2⟩ := List.getElem?_eq_some_iff.1 hu
  obtain ⟨hv1, hv2⟩ := List.getElem?_eq_some_iff.1 hv
  have hpw := List.pairwise_iff_getElem.1 h
  rcases Nat.lt_trichotomy u v with h1 | h1 | h1
  · have := hpw u v hu1 hv1 h1
    rw [hu2, hv2] at this
    omega
  · subst h1
    exact hu2.symm.trans hv2
  · have := hpw v u hv1 hu1 h1
    rw [hu2, hv2] at this
    omega
theorem full_same {o o' : LObj} (h : fullP o = false) (h1 : o'.atoms = o.atoms) (h2 : o'.funs = o.funs) (h3 : o'.preds = o.preds) (h4 : o'.code.length = o.code.length) : fullP o' = false := by
  unfold fullP at h ⊢
  rw [h1, h2, h3, h4]
  exact h
section
variable {F : AS} {o : LObj}
theorem inv_begin (hF : Made F) (hw : wrongs F = []) (ho : o = { F.o with code := codeK F F.uses.length }) {S : AS} (hm : Made S) {w : Txt} {f : LFun} (n : Nat) (hf : slashP w 0 = some f) (hany : ¬ S.begins.any (fun b => b.1 == (predP S.o f).2) = true)
    (hfull : fullP { (predP S.o f).1 with preds := (predP S.o f).1.preds.modify (predP S.o f).2 fun p => { p with entry := (S.o.code.length : Int) } } = false)
    (hle : LeS { S with o := { (predP S.o f).1 with preds := (predP S.o f).1.preds.modify (predP S.o f).2 fun p => { p with entry := (S.o.code.length : Int) } }, begins := S.begins ++ [((predP S.o f).2, n)] } F) (hi : Inv9 o S) :
    Inv9 o { S with o := { (predP S.o f).1 with preds := (predP S.o f).1.preds.modify (predP S.o f).2 fun p => { p with entry := (S.o.code.length : Int) } }, begins := S.begins ++ [((predP S.o f).2, n)] } := by
  obtain ⟨S', hrun, hs⟩ := hi
  have hstr := (entries_strict hF.ent.sorted (bad_none hw).2).1
  have hfew := (full_few hm.room).2.2.2
  obtain ⟨k, hk⟩ : ∃ k, S.o.code.length = k := ⟨_, rfl⟩
  obtain ⟨r, hr⟩ : ∃ r, (predP S.o f).2 = r := ⟨_, rfl⟩
  obtain ⟨q0, hq0, hqn, hqa⟩ := predP_at S.o f
  have hcode : (predP S.o f).1.code = S.o.code := predP_code _ _
  have hno : ∀ b ∈ S.begins, b.1 ≠ r := fun b hb e => hany (List.any_eq_true.2 ⟨b, hb, by rw [hr]; simpa using e⟩)
  rw [hr] at hq0 hle hfull ⊢
  rw [hk] at hle hfull ⊢
  have hnew : ((predP S.o f).1.preds.modify r fun p => { p with entry := (k : Int) })[r]? = some { q0 with entry := (k : Int) } := by
    rw [List.getElem?_modify, hq0]
    simp
  have hkeep : ∀ (i : Nat) (p : LPred), i ≠ r → S.o.preds[i]? = some p → ((predP S.o f).1.preds.modify r fun p => { p with entry := (k : Int) })[i]? = some p := fun i p hir hp => by
    rw [List.getElem?_modify, predP_keep _ _ hp]
    simp [Ne.symm hir]
  have hpn : pend S = [] := by
    unfold pend
    rw [List.map_eq_nil_iff, List.filter_eq_nil_iff]
    intro b hb hbk
    rw [hk, beq_iff_eq] at hbk
    obtain ⟨p, hp, _, _⟩ := hm.ent.at_ b hb
    rw [entryAt_is hp] at hbk
    obtain ⟨p2, hp2, _, _, e2⟩ := hle.preds b.1 p (hkeep _ _ (hno b hb) hp)
    obtain ⟨q2, hq2, _, _, e3⟩ := hle.preds r _ hnew
    have h1 := strict_inj hstr (hle.old b (List.mem_append.2 (.inl hb))) (hle.old (r, n) (List.mem_append.2 (.inr (by simp)))) (by
      rw [entryAt_is hp2, entryAt_is (b := (r, n)) hq2, e2 (by omega), e3 (by simp only; omega), hbk])
    exact hno b hb (by rw [h1])
  rw [hk, hpn, List.append_nil] at hrun
  have hkl : k ≤ o.code.length := by
    have h1 := hle.code.length_le
    simp only [hcode] at h1
    rw [ho]
    simp only [codeK_len]
    omega
  have hcl : S'.o.code.length = k := by rw [hs.code, hk, List.length_take]; omega
  obtain ⟨a1, a2, a3⟩ := slash_ok hf
  obtain ⟨g1, g2⟩ := predP_same hs.preds f
  rw [hr] at g1
  have hpend : ∀ S1 : AS, S1.begins = S.begins ++ [(r, n)] → S1.o.code.length = k → S1.o.preds = ((predP S.o f).1.preds.modify r fun p => { p with entry := (k : Int) }) → pend S1 = [predW ++ 32 :: slT f] := by
    intro S1 e1 e2 e3
    rw [← e3] at hnew hkeep
    unfold pend
    rw [e1, e2, List.filter_append]
    have h1 : S.begins.filter (fun b => entryAt S1 b == (k : Int)) = [] := by
      rw [List.filter_eq_nil_iff]
      intro b hb hbk
      rw [beq_iff_eq] at hbk
      obtain ⟨p, hp, _, _⟩ := hm.ent.at_ b hb
      rw [entryAt_is (hkeep _ _ (hno b hb) hp)] at hbk
      have hmem : b ∈ S.begins.filter (fun b => entryAt S b == (S.o.code.length : Int)) := List.mem_filter.2 ⟨hb, by rw [entryAt_is hp, hk, beq_iff_eq]; exact hbk⟩
      unfold pend at hpn
      rw [List.map_eq_nil_iff] at hpn
      rw [hpn] at hmem
      cases hmem
    rw [h1, List.nil_append, List.filter_cons, entryAt_is (b := (r, n)) hnew]
    simp only [beq_self_eq_true, if_true, List.filter_nil, List.map_cons, List.map_nil]
    rw [List.getD_eq_getElem?_getD, hnew]
    simp only [Option.getD_some, lnP]
    rw [hqn, hqa]
  have hany' : ¬ S'.begins.any (fun b => b.1 == r) = true := by
    have e : ∀ l : List (Nat × Nat), l.any (fun b => b.1 == r) = (l.map (·.1)).any (fun x => x == r) := fun l => by rw [List.any_map]; rfl
    rw [e, hs.begins, ← e, ← hr]
    exact hany
  obtain ⟨m, hmn⟩ : ∃ m, 0 + (linesFrom o 0 (o.code.take k)).length = m := ⟨_, rfl⟩
  refine ⟨{ S' with o := { (predP S'.o f).1 with preds := (predP S'.o f).1.preds.modify r fun p => { p with entry := (S'.o.code.length : Int) } }, begins := S'.begins ++ [(r, m)] }, ?_, ?_⟩
  · rw [hpend _ rfl (by simp only [hcode, hk]) rfl]
    simp only [hcode, hk]
    refine run_snoc hrun ?_ ?_
    · rw [hmn, line_pred a1]
      unfold beginP
      rw [slash_at a1 (by omega) a3 (by omega)]
      simp only [g1]
      rw [if_neg hany']
    · refine full_same hfull ?_ ?_ ?_ ?_
      · simp only [(predP_pre _ _).1, hs.atoms]
      · simp only [(predP_pre _ _).2, hs.funs]
      · simp only [g2, hcl]
      · simp only [predP_code]
        rw [hcl, hk]
  · refine ⟨?_, ?_, ?_, ?_, ?_, ?_⟩
    · simp only [(predP_pre _ _).1, hs.atoms]
    · simp only [(predP_pre _ _).2, hs.funs]
    · simp only [g2, hcl]
    · simp only [predP_code]
      exact hs.code
    · simp only [List.map_append, hs.begins, List.map_cons, List.map_nil]
    · intro t
      simp only [predP_code]
      exact hs.labels t
end
end Go.Proofs.YtpcihhdalofdiaaGreatDoor

/- What was made of lines is made of its lines again: an instruction comes. No program in sight. -/
namespace Go.Proofs.YtpcihhdalofdiaaGreatDoor

theorem operandP_codeX (o : LObj) (c : List LIns) (k : Nat) (w : Txt) : operandP { o with code := c } k w = ({ (operandP o k w).1 with code := c }, (operandP o k w).2) := by
  unfold operandP predP
  split
  · rfl
  · split
    · split <;> rfl
    · split
      · split
        · simp only
          split <;> rfl
        · rfl
      · split <;> rfl
theorem operandsP_codeX (n a : Nat) (c : List LIns) : ∀ (l : List (Nat × Txt)) (o : LObj) (j : Nat), operandsP n a { o with code := c } j l = ({ (operandsP n a o j l).1 with code := c }, (operandsP n a o j l).2.1, (operandsP n a o j l).2.2)
  | [], _, _ => rfl
  | (k, w) :: l, o, j => by
    rw [operandsP, operandP_codeX, operandsP_codeX n a c l, operandsP]
theorem lineT_is (o : LObj) (k : Nat) (i : LIns) : lineT o k i = ((o.preds.find? (isEnt k)).toList.map lnP) ++ ((if targetB o k then [64 :: Lib.decDigits k] else []) ++ [textT o i]) := by
  unfold lineT
  have e : (fun p : LPred => p.entry == (k : Int)) = isEnt k := rfl
  rw [e]
  cases o.preds.find? (isEnt k) <;> rfl
theorem ins_ext4 {i i' : LIns} (h : i.op = i'.op) (ha : ∀ j, j < 4 → i.arg j = i'.arg j) : i = i' := ins_ext6 h ha
/-- The pending line is that of the predicate that begins here. -/
theorem pend_is {F : AS} {o : LObj} (hF : Made F) (hw : wrongs F = []) (ho : o = { F.o with code := codeK F F.uses.length }) (hok : ObjOk o) {S : AS} (hm : Made S) (hle : LeS S F) (hlt : ∀ b ∈ F.begins, b ∈ S.begins ∨ (S.o.code.length : Int) + 1 ≤ entryAt F b) : pend S = (o.preds.find? (isEnt S.o.code.length)).toList.map lnP := by
  have hstr := (entries_strict hF.ent.sorted (bad_none hw).2).1
  have hfew := (full_few hm.room).2.2.2
  have hpo : o.preds = F.o.preds := by rw [ho]
  have hdup : dupB (entL o.preds) = false := by
    have h1 := hok.ents
    unfold entriesB at h1
    simp only [Bool.and_eq_true, Bool.not_eq_true'] at h1
    exact h1.2
  generalize hk : S.o.code.length = k at *
  have hfl := dup_filter (n := k) (by omega) hdup
  have hF' : ∀ b ∈ S.begins, entryAt S b = (k : Int) → ∃ q, F.o.preds[b.1]? = some q ∧ q.entry = (k : Int) ∧ lnP q = lnP (S.o.preds.getD b.1 ⟨⟨#[]⟩, 0, 0⟩) ∧ entryAt F b = (k : Int) := fun b hb he => by
    obtain ⟨p, hp, _, _⟩ := hm.ent.at_ b hb
    rw [entryAt_is hp] at he
    obtain ⟨q, hq, e1, e2, e3⟩ := hle.preds _ _ hp
    have e4 := e3 (by omega)
    refine ⟨q, hq, by omega, ?_, by rw [entryAt_is hq]; omega⟩
    rw [List.getD_eq_getElem?_getD, hp]
    simp only [Option.getD_some, lnP]
    rw [e1, e2]
  unfold pend
  rw [hk]
  cases hfd : o.preds.find? (isEnt k) with
  | none =>
    rw [List.find?_eq_none] at hfd
    have : S.begins.filter (fun b => entryAt S b == (k : Int)) = [] := by
      rw [List.filter_eq_nil_iff]
      intro b hb hbk
      rw [beq_iff_eq] at hbk
      obtain ⟨q, hq, e1, _, _⟩ := hF' b hb hbk
      refine hfd q (by rw [hpo]; exact List.mem_of_getElem? hq) ?_
      unfold isEnt
      rw [beq_iff_eq]
      exact e1
    rw [this]
    rfl
  | some p =>
    rw [hfd] at hfl
    have hpm := List.mem_of_find?_eq_some hfd
    have hpe : p.entry = (k : Int) := by have := List.find?_some hfd; unfold isEnt at this; simpa using this
    rw [hpo] at hpm
    obtain ⟨r, hr⟩ := List.getElem?_of_mem hpm
    have hin := hF.inv r p hr (by omega)
    rw [List.any_eq_true] at hin
    obtain ⟨b, hb, hbr⟩ := hin
    have hbr' : b.1 = r := by unfold isBeg at hbr; simpa using hbr
    have hbe : entryAt F b = (k : Int) := by rw [entryAt_is (by rw [hbr']; exact hr)]; exact hpe
    have hbS : b ∈ S.begins := (hlt b hb).resolve_right (by omega)
    have hbeS : entryAt S b = (k : Int) := by
      obtain ⟨p2, hp2, e0, e1⟩ := hm.ent.at_ b hbS
      obtain ⟨q, hq, _, _, e3⟩ := hle.preds _ _ hp2
      rw [hbr', hr] at hq
      obtain rfl := Option.some.inj hq
      rw [entryAt_is hp2, ← e3 (by omega)]
      exact hpe
    have hone : S.begins.filter (fun b => entryAt S b == (k : Int)) = [b] := by
      have hall : ∀ c ∈ S.begins.filter (fun b => entryAt S b == (k : Int)), c = b := fun c hc => by
        obtain ⟨hc1, hc2⟩ := List.mem_filter.1 hc
        rw [beq_iff_eq] at hc2
        obtain ⟨_, _, _, _, e5⟩ := hF' c hc1 hc2
        exact strict_inj hstr (hle.old c hc1) (hle.old b hbS) (by rw [e5, hbe])
      have hnd : (S.begins.filter (fun b => entryAt S b == (k : Int))).Nodup := by
        refine List.Pairwise.filter _ ?_
        have := hm.ent.one
        unfold List.Nodup at this
        rw [List.pairwise_map] at this
        exact this.imp fun {x y} h e => h (by rw [e])
      have hmem : b ∈ S.begins.filter (fun b => entryAt S b == (k : Int)) := List.mem_filter.2 ⟨hbS, by rw [beq_iff_eq]; exact hbeS⟩
      generalize S.begins.filter (fun b => entryAt S b == (k : Int)) = l at *
      match l, hall, hnd, hmem with
      | [], _, _, hmem => cases hmem
      | [x], hall, _, _ => rw [hall x (by simp)]
      | x :: y :: l, hall, hnd, _ =>
        have h1 := hall x (by simp)
        have h2 := hall y (by simp)
        rw [h1, h2] at hnd
        simp at hnd
    rw [hone]
    simp only [List.map_cons, List.map_nil, Option.toList_some]
    obtain ⟨q, hq, _, e4, _⟩ := hF' b hbS hbeS
    rw [hbr', hr] at hq
    obtain rfl := Option.some.inj hq
    rw [← e4]
section
variable {F : AS} {o : LObj}
theorem inv_instr (hF : Made F) (hw : wrongs F = []) (ho : o = { F.o with code := codeK F F.uses.length }) (hok : ObjOk o) {S : AS} (hm : Made S) {ws : List Txt} (n : Nat) {op : Int} (hop : ¬ op < 0) (hopn : opIn op = true) (hlen : ws.length = (kindsOf op).length + 1)
    (hall : ((((kindsOf op).map Int.toNat).zip ws.tail).all fun x => fitsP op x.1 x.2) = true) {q : LObj × List Int × List (Nat × Nat × Nat)} (hq : operandsP S.o.code.length n S.o 0 (((kindsOf op).map Int.toNat).zip ws.tail) = q)
    (hfull : fullP { q.1 with code := q.1.code ++ [insW op q.2.1] } = false)
    (hle : LeS { S with o := { q.1 with code := q.1.code ++ [insW op q.2.1] }, uses := S.uses ++ q.2.2 } F) (hleS : LeS S F) (hi : Inv9 o S) :
    Inv9 o { S with o := { q.1 with code := q.1.code ++ [insW op q.2.1] }, uses := S.uses ++ q.2.2 } := by
  obtain ⟨S', hrun, hs⟩ := hi
  obtain ⟨k, hk⟩ : ∃ k, S.o.code.length = k := ⟨_, rfl⟩
  have hqc : q.1.code = S.o.code := by rw [← hq]; exact operandsP_code _ _ _
  have hfew := (full_few hfull).2.2.2
  simp only [hqc, List.length_append, List.length_singleton, hk] at hfew
  obtain ⟨i0, hi0⟩ : ∃ i0, insW op q.2.1 = i0 := ⟨_, rfl⟩
  have hF0 : F.o.code[k]? = some i0 := by
    obtain ⟨t, ht⟩ := hle.code
    simp only [hqc] at ht
    rw [← ht, List.append_assoc, List.getElem?_append_right (by omega), hk, Nat.sub_self, hi0]
    rfl
  have hkF := (List.getElem?_eq_some_iff.1 hF0).1
  have hoc : o.code = codeK F F.uses.length := by rw [ho]
  obtain ⟨i, hio⟩ : ∃ i, o.code[k]? = some i := ⟨_, List.getElem?_eq_getElem (by rw [hoc, codeK_len]; exact hkF)⟩
  have hic : (codeK F F.uses.length)[k]? = some i := by rw [← hoc]; exact hio
  have hiop : i.op = op := by
    have h1 := (settled_arg hF hw (by omega : (0 : Nat) < 4) hF0 hic).1
    rw [h1, ← hi0]
    rfl
  have hins := hok.ins (List.mem_of_getElem? hio)
  have hkinds := kinds_few op
  have hql : q.2.1.length = (kindsOf op).length := by
    rw [← hq, operandsP_len]
    simp
    omega
  have harg0 : ∀ j, j < 4 → i0.arg j = q.2.1.getD j 0 := fun j hj => by rw [← hi0, insW_arg op q.2.1 hj]
  have hi0op : i0.op = op := by rw [← hi0]; rfl
  -- the words
  have hl' : (((kindsOf op).map Int.toNat).zip (wordsT o i).tail).length = (((kindsOf op).map Int.toNat).zip ws.tail).length := by
    have h1 := wordsT_len o i
    rw [hiop] at h1
    simp only [List.length_zip, List.length_map, List.length_tail]
    omega
  have hzl : (((kindsOf op).map Int.toNat).zip ws.tail).length = (kindsOf op).length := by simp; omega
  have hpre : ∀ (a : Nat) (p : LPred), q.1.preds[a]? = some p → ∃ r, o.preds[a]? = some r ∧ r.name = p.name ∧ r.arity = p.arity := fun a p hp => by
    obtain ⟨r, hr, e1, e2, _⟩ := hle.preds a p hp
    exact ⟨r, by rw [ho]; exact hr, e1, e2⟩
  have hel : ∀ (j a b : Nat) (w w' : Txt), (((kindsOf op).map Int.toNat).zip ws.tail)[j]? = some (a, w) → (((kindsOf op).map Int.toNat).zip (wordsT o i).tail)[j]? = some (b, w') →
      b = a ∧ RelW a w w' ∧ fitsP op a w' = true ∧ (a = 8 → (operandP S.o 8 w').2 = i.arg j ∧ ∀ o', (operandP o' 8 w').2 = i.arg j) ∧ (a ≠ 8 → q.2.1[j]? = some (i.arg j)) := fun j a b w w' h1 h2 => by
    have hfit := List.all_eq_true.1 hall _ (List.mem_of_getElem? h1)
    simp only at hfit
    have h1' := List.getElem?_zip_eq_some.1 h1
    have h2' := List.getElem?_zip_eq_some.1 h2
    simp only at h1' h2'
    have hab : b = a := Option.some.inj (h2'.1.symm.trans h1'.1)
    subst hab
    rw [List.getElem?_map] at h1'
    cases hky : (kindsOf op)[j]? with
    | none => rw [hky] at h1'; simp at h1'
    | some y =>
      rw [hky] at h1'
      simp only [Option.map_some, Option.some.injEq] at h1'
      have hkm := kinds_mem op y (List.mem_of_getElem? hky)
      have hyb : (kindsOf op)[j]? = some (b : Int) := by rw [hky]; congr 1; omega
      have hj4 : j < 4 := by have := (List.getElem?_eq_some_iff.1 hky).1; omega
      have hww : w' = wordT o b (i.arg j) := by
        have h3 := wordsT_at (o := o) (i := i) (j := j) (q := b) (by rw [hiop]; exact hyb)
        have h4 := h2'.2
        rw [List.getElem?_tail] at h4
        rw [h3] at h4
        exact (Option.some.inj h4).symm
      have hvj : j < q.2.1.length := by rw [hql]; exact (List.getElem?_eq_some_iff.1 hky).1
      have hv : q.2.1[j]? = some q.2.1[j] := List.getElem?_eq_getElem hvj
      have hset := (settled_arg hF hw hj4 hF0 hic).2
      rw [hi0op, harg0 j hj4, List.getD_eq_getElem?_getD, hv] at hset
      simp only [Option.getD_some] at hset
      by_cases h8 : b = 8
      · subst h8
        have hrg : (0 ≤ i.arg j ∧ i.arg j ≤ 1023) ∨ (i.arg j = 65535 ∧ op = 26) := by
          rcases hset with ⟨_, p, hp, hpl, _⟩ | ⟨hn, he⟩
          · have := (full_few hF.room).2.2.2
            exact .inl ⟨by omega, by omega⟩
          · right
            have h65 : q.2.1[j] = 65535 := Classical.byContradiction fun e => hn ⟨hyb, e⟩
            have hc := (hF.code i0 (List.mem_of_getElem? hF0)).2 j (by rw [hi0op]; exact (List.getElem?_eq_some_iff.1 hky).1)
            rw [hi0op, List.getD_eq_getElem?_getD, hyb, harg0 j hj4, List.getD_eq_getElem?_getD, hv] at hc
            simp only [Option.getD_some, Int.toNat_natCast] at hc
            rcases hc.label rfl with h | h
            · omega
            · exact ⟨by omega, h.2⟩
        rw [hww]
        have hlw := fun o' => label_word (o := o) hrg o'
        exact ⟨rfl, ⟨fun h => by omega, fun h => by omega, fun h => by omega, fun h => absurd rfl h.2.2.2⟩, (hlw o).1, fun _ => ⟨(hlw S.o).2, fun o' => (hlw o').2⟩, fun h => absurd rfl h⟩
      · have hsame : i.arg j = q.2.1[j] := by
          rcases hset with ⟨⟨h9, _⟩, _⟩ | ⟨_, he⟩
          · rw [hyb] at h9
            have := Option.some.inj h9
            omega
          · exact he
        have hval := operandsP_val (op := op) (n := S.o.code.length) (at_ := n) _ S.o 0 hall j b w q.2.1[j] h1 (by rw [hq]; exact hv)
        rw [hq] at hval
        have hval2 := hval.mono (o' := o) (hle.atoms.trans (by rw [ho]; exact List.prefix_refl _)) (hle.funs.trans (by rw [ho]; exact List.prefix_refl _)) hpre
        rw [← hsame] at hval2
        obtain ⟨hr1, hr2⟩ := rel_word hval2 hfit (by omega) (by omega) h8
        rw [hww]
        exact ⟨rfl, hr1, hr2, fun h => absurd h h8, fun _ => by rw [hv, hsame]⟩
  have hkl : k ≤ o.code.length := by
    have := (List.getElem?_eq_some_iff.1 hio).1
    omega
  have hcl : S'.o.code.length = k := by rw [hs.code, hk, List.length_take]; omega
  have hpend := pend_is hF hw ho hok hm hleS (fun b hb => by
    rcases hle.begins b hb with h | h
    · exact .inl h
    · right
      simp only [hqc, List.length_append, List.length_singleton] at h
      omega)
  rw [hk] at hpend hrun
  have hR : linesFrom o 0 (o.code.take (k + 1)) = linesFrom o 0 (o.code.take k) ++ (pend S ++ ((if targetB o k then [64 :: Lib.decDigits k] else []) ++ [textT o i])) := by
    rw [take_snocA hio, linesFrom_snoc, List.length_take, Nat.min_eq_left hkl, Nat.zero_add, lineT_is, ← hpend]
  have hpn : pend { S with o := { q.1 with code := q.1.code ++ [insW op q.2.1] }, uses := S.uses ++ q.2.2 } = [] := by
    unfold pend
    rw [List.map_eq_nil_iff, List.filter_eq_nil_iff]
    intro b hb hbk
    rw [beq_iff_eq] at hbk
    obtain ⟨p, hp, _, e1⟩ := hm.ent.at_ b hb
    have hp2 : q.1.preds[b.1]? = some p := by rw [← hq]; exact operandsP_keep _ _ _ hp
    rw [entryAt_is (S := { S with o := { q.1 with code := q.1.code ++ [insW op q.2.1] }, uses := S.uses ++ q.2.2 }) hp2] at hbk
    simp only [hqc, List.length_append, List.length_singleton] at hbk
    omega
  have hlab : ∃ S2, linesP AS0 0 (linesFrom o 0 (o.code.take k) ++ pend S ++ (if targetB o k then [64 :: Lib.decDigits k] else [])) = (S2, 0, -1) ∧ S2.o = S'.o ∧ S2.begins = S'.begins ∧ ∀ t : Nat, S2.labels (t : Int) = if t < k + 1 ∧ targetB o t = true then some t else none := by
    have hlb := hs.labels
    rw [hk] at hlb
    cases htg : targetB o k with
    | false =>
      refine ⟨S', by simp only [Bool.false_eq_true, if_false, List.append_nil]; exact hrun, rfl, rfl, fun t => ?_⟩
      rw [hlb t]
      by_cases ht : t = k
      · subst ht
        rw [if_neg (by omega), if_neg (by rw [htg]; simp)]
      · by_cases h2 : targetB o t = true
        · by_cases h3 : t < k
          · rw [if_pos ⟨h3, h2⟩, if_pos ⟨by omega, h2⟩]
          · rw [if_neg (by omega), if_neg (by omega)]
        · rw [if_neg (fun h => h2 h.2), if_neg (fun h => h2 h.2)]
    | true =>
      refine ⟨{ S' with labels := fun m => if m = (k : Int) then some S'.o.code.length else S'.labels m }, ?_, rfl, rfl, fun t => ?_⟩
      · simp only [if_true]
        refine run_snoc hrun ?_ (full_same hm.room hs.atoms hs.funs hs.preds (by rw [hcl, hk]))
        rw [line_label]
        unfold markP
        rw [label_at (by omega), if_neg (by omega)]
        have hnone : S'.labels (k : Int) = none := by rw [hlb k, if_neg (by omega)]
        rw [hnone]
        rfl
      · simp only
        by_cases ht : t = k
        · subst ht
          rw [if_pos rfl, if_pos ⟨by omega, htg⟩, hcl]
        · rw [if_neg (by omega), hlb t]
          by_cases h2 : targetB o t = true
          · by_cases h3 : t < k
            · rw [if_pos ⟨h3, h2⟩, if_pos ⟨by omega, h2⟩]
            · rw [if_neg (by omega), if_neg (by omega)]
          · rw [if_neg (fun h => h2 h.2), if_neg (fun h => h2 h.2)]
  obtain ⟨S2, hrun2, h2o, h2b, h2l⟩ := hlab
  obtain ⟨m, hmm⟩ : ∃ m, 0 + (linesFrom o 0 (o.code.take k) ++ pend S ++ (if targetB o k then [64 :: Lib.decDigits k] else [])).length = m := ⟨_, rfl⟩
  have hSo : S'.o = { S.o with code := o.code.take k } := by
    have e : S'.o = ⟨S'.o.atoms, S'.o.funs, S'.o.preds, S'.o.code⟩ := rfl
    rw [e, hs.atoms, hs.funs, hs.preds, hs.code, hk]
  have hzW : zipW op (wordsT o i) = ((kindsOf op).map Int.toNat).zip (wordsT o i).tail := rfl
  obtain ⟨r1, r2⟩ := operandsP_rel (n := S.o.code.length) (at_ := n) (n' := S2.o.code.length) (at' := m) _ _ S.o 0 hl' (fun j a b w w' h1 h2 => ⟨(hel j a b w w' h1 h2).1, (hel j a b w w' h1 h2).2.1⟩)
  rw [hq] at r1 r2
  have hvals : insW op (operandsP S2.o.code.length m S.o 0 (((kindsOf op).map Int.toNat).zip (wordsT o i).tail)).2.1 = i := by
    have hlen2 : (operandsP S2.o.code.length m S.o 0 (((kindsOf op).map Int.toNat).zip (wordsT o i).tail)).2.1.length = (kindsOf op).length := by rw [operandsP_len, hl', hzl]
    refine ins_ext6 hiop.symm fun j hj => ?_
    rw [insW_arg op _ hj, List.getD_eq_getElem?_getD]
    by_cases hjl : j < (kindsOf op).length
    · have z1 : (((kindsOf op).map Int.toNat).zip ws.tail)[j]? = some ((((kindsOf op).map Int.toNat).zip ws.tail)[j]'(by omega)) := List.getElem?_eq_getElem _
      have z2 : (((kindsOf op).map Int.toNat).zip (wordsT o i).tail)[j]? = some ((((kindsOf op).map Int.toNat).zip (wordsT o i).tail)[j]'(by omega)) := List.getElem?_eq_getElem _
      generalize (((kindsOf op).map Int.toNat).zip ws.tail)[j]'(by omega) = x at z1
      generalize (((kindsOf op).map Int.toNat).zip (wordsT o i).tail)[j]'(by omega) = y at z2
      obtain ⟨a, w⟩ := x
      obtain ⟨b, w'⟩ := y
      obtain ⟨e0, _, _, e8, en⟩ := hel j a b w w' z1 z2
      subst e0
      obtain ⟨g1, g2⟩ := r2 j b w w' z1 z2
      by_cases h8 : b = 8
      · have hgo := g2 h8
        rw [hgo, Option.getD_some]
        exact (e8 h8).2 _
      · rw [g1 h8, en h8]
        rfl
    · rw [List.getElem?_eq_none (by omega)]
      have := insOk_rest6 hins.1 (k := j) (by rw [hiop]; omega) hj
      rw [this]
      rfl
  have hinstr : lineP S2 (textT o i) m = ({ S2 with o := { q.1 with code := o.code.take k ++ [i] }, uses := S2.uses ++ (operandsP S2.o.code.length m S.o 0 (((kindsOf op).map Int.toNat).zip (wordsT o i).tail)).2.2 }, 0) := by
    rw [line_text hins.1 hins.2]
    have hh : (wordsT o i).headD [] = nameT op := by unfold wordsT; rw [hiop]; rfl
    rw [instr_ok hh (name_op hopn).1 (fun hb => by
      rcases hb with h | h | h
      · exact hop h
      · have := wordsT_len o i
        rw [hiop] at this
        exact h this
      · rw [hzW] at h
        have hall' : (((kindsOf op).map Int.toNat).zip (wordsT o i).tail).all (fun x => fitsP op x.1 x.2) = true := by
          rw [List.all_eq_true]
          intro x hx
          obtain ⟨j, hj⟩ := List.getElem?_of_mem hx
          have hjl := (List.getElem?_eq_some_iff.1 hj).1
          have z1 : (((kindsOf op).map Int.toNat).zip ws.tail)[j]? = some ((((kindsOf op).map Int.toNat).zip ws.tail)[j]'(by omega)) := List.getElem?_eq_getElem _
          generalize (((kindsOf op).map Int.toNat).zip ws.tail)[j]'(by omega) = y at z1
          obtain ⟨a, w⟩ := y
          obtain ⟨b, w'⟩ := x
          obtain ⟨e0, _, e2, _, _⟩ := hel j a b w w' z1 hj
          subst e0
          exact e2
        rw [hall'] at h
        cases h), hzW]
    have hx : operandsP S2.o.code.length m S2.o 0 (((kindsOf op).map Int.toNat).zip (wordsT o i).tail) = ({ (operandsP S2.o.code.length m S.o 0 (((kindsOf op).map Int.toNat).zip (wordsT o i).tail)).1 with code := o.code.take k }, (operandsP S2.o.code.length m S.o 0 (((kindsOf op).map Int.toNat).zip (wordsT o i).tail)).2.1, (operandsP S2.o.code.length m S.o 0 (((kindsOf op).map Int.toNat).zip (wordsT o i).tail)).2.2) := by
      have := operandsP_codeX S2.o.code.length m (o.code.take k) (((kindsOf op).map Int.toNat).zip (wordsT o i).tail) S.o 0
      rw [← this, ← hSo, ← h2o]
    rw [hx, hvals, r1]
  refine ⟨{ S2 with o := { q.1 with code := o.code.take k ++ [i] }, uses := S2.uses ++ (operandsP S2.o.code.length m S.o 0 (((kindsOf op).map Int.toNat).zip (wordsT o i).tail)).2.2 }, ?_, ?_⟩
  · rw [hpn, List.append_nil]
    simp only [hqc, List.length_append, List.length_singleton, hk]
    rw [hR, ← List.append_assoc, ← List.append_assoc]
    refine run_snoc hrun2 (by rw [hmm]; exact hinstr) (full_same hfull rfl rfl rfl ?_)
    simp only [List.length_append, List.length_take, hqc, List.length_singleton, hk]
    omega
  · refine ⟨rfl, rfl, rfl, ?_, ?_, ?_⟩
    · simp only [hqc, List.length_append, List.length_singleton, hk]
      rw [take_snocA hio]
    · simp only [h2b]
      exact hs.begins
    · intro t
      simp only [hqc, List.length_append, List.length_singleton, hk]
      exact h2l t
end
end Go.Proofs.YtpcihhdalofdiaaGreatDoor

/- What was made of lines is made of its lines again. No program in sight. -/
namespace Go.Proofs.YtpcihhdalofdiaaGreatDoor

theorem badBegins_same {S S' : AS} (hp : S'.o.preds = S.o.preds) (hc : S'.o.code.length = S.o.code.length) : ∀ (l l' : List (Nat × Nat)), l'.map (·.1) = l.map (·.1) → badBegins S l = [] → badBegins S' l' = []
  | [], l', e, _ => by
    rw [List.map_nil, List.map_eq_nil_iff] at e
    subst e
    rfl
  | [b], l', e, h => by
    match l', e with
    | [], e => simp at e
    | _ :: _ :: _, e => simp at e
    | [b'], e =>
      simp only [List.map_cons, List.map_nil, List.cons.injEq, and_true] at e
      rw [badBegins] at h ⊢
      have e1 : entryAt S' b' = entryAt S b := by unfold entryAt; rw [hp, e]
      rw [hc, e1]
      split at h
      · cases h
      · rename_i hn
        rw [if_neg hn]
  | b :: c :: r, l', e, h => by
    match l', e with
    | [], e => simp at e
    | [_], e => simp at e
    | b' :: c' :: r', e =>
      rw [List.map_cons, List.map_cons, List.map_cons, List.map_cons] at e
      injection e with e1 e2
      have e3 := e2
      injection e3 with e3 _
      rw [badBegins] at h ⊢
      rw [List.append_eq_nil_iff] at h ⊢
      have h1 : entryAt S' b' = entryAt S b := by unfold entryAt; rw [hp, e1]
      have h2 : entryAt S' c' = entryAt S c := by unfold entryAt; rw [hp, e3]
      refine ⟨?_, badBegins_same hp hc (c :: r) (c' :: r') (by rw [List.map_cons, List.map_cons]; exact e2) h.2⟩
      rw [hc, h1, h2]
      by_cases hh : (S.o.code.length : Int) ≤ entryAt S b ∨ entryAt S c = entryAt S b
      · have := h.1
        rw [if_pos hh] at this
        cases this
      · rw [if_neg hh]
section
variable {F : AS} {o : LObj}
theorem inv_lines (hF : Made F) (hw : wrongs F = []) (ho : o = { F.o with code := codeK F F.uses.length }) : ∀ (l : List Txt) (S : AS) (n : Nat), Made S → linesP S n l = (F, 0, -1) → Inv9 o S → Inv9 o F
  | [], S, n, _, h, hi => by
    rw [linesP] at h
    injection h with e _
    subst e
    exact hi
  | s :: l, S, n, hm, h, hi => by
    have hok : ObjOk o := by rw [ho]; exact made_ok hF hw
    rw [lines_cons] at h
    split at h
    · rename_i h0
      injection h with _ e
      injection e with e _
      exact absurd e h0
    · rename_i h0
      have h0' : (lineP S s n).2 = 0 := Classical.not_not.1 h0
      split at h
      · injection h with _ e
        injection e with e _
        omega
      · rename_i hf
        have hfull : fullP (lineP S s n).1.o = false := by simpa using hf
        have hm1 := hm.line s n hfull
        have hle := LeS.lines l _ F _ hm1 h
        have hleS := LeS.line hm s n hle
        refine inv_lines hF hw ho l _ _ hm1 h ?_
        clear h
        unfold lineP at h0' hfull hle ⊢
        split
        · rename_i hc
          rw [if_pos hc] at h0' hfull hle
          unfold beginP at h0' hfull hle ⊢
          cases hs : slashP ((splitT s).getD 1 []) 0 with
          | none => rw [hs] at h0'; simp at h0'
          | some f =>
            rw [hs] at h0' hfull hle
            simp only at h0' hfull hle ⊢
            by_cases hany : S.begins.any (fun b => b.1 == (predP S.o f).2) = true
            · rw [if_pos hany] at h0'
              simp at h0'
            · rw [if_neg hany] at hfull hle ⊢
              exact inv_begin hF hw ho hm n hs hany hfull hle hi
        · rename_i hc
          rw [if_neg hc] at h0' hfull hle
          split
          · rename_i hc2
            rw [if_pos hc2] at h0' hfull hle
            unfold markP at h0' hfull hle ⊢
            split
            · exact hi
            · split
              · exact hi
              · obtain ⟨S', hrun, hs⟩ := hi
                exact ⟨S', hrun, hs.atoms, hs.funs, hs.preds, hs.code, hs.begins, hs.labels⟩
          · rename_i hc2
            rw [if_neg hc2] at h0' hfull hle
            unfold instrP at h0' hfull hle ⊢
            simp only at h0' hfull hle ⊢
            by_cases hb : namedT ((splitT s).headD []) < 0 ∨ (splitT s).length ≠ ((kindsOf (namedT ((splitT s).headD []))).map Int.toNat).length + 1 ∨ ((((kindsOf (namedT ((splitT s).headD []))).map Int.toNat).zip (splitT s).tail).all fun x => fitsP (namedT ((splitT s).headD [])) x.1 x.2) = false
            · rw [if_pos hb] at h0'
              simp at h0'
            · rw [if_neg hb] at hfull hle ⊢
              simp only [not_or, Bool.not_eq_false, Decidable.not_not] at hb
              obtain ⟨b1, b2, b3⟩ := hb
              rw [List.length_map] at b2
              exact inv_instr hF hw ho hok hm n b1 (namedT_in b1) b2 b3 rfl hfull hle hleS hi
theorem sim_done (hF : Made F) (hw : wrongs F = []) (ho : o = { F.o with code := codeK F F.uses.length }) (hi : Inv9 o F) : programP (linesT o) = (o, 0, -1) := by
  obtain ⟨F', hrun, hs⟩ := hi
  have hcl : o.code.length = F.o.code.length := by rw [ho]; exact codeK_len _ _
  have hpn : pend F = [] := by
    unfold pend
    rw [List.map_eq_nil_iff, List.filter_eq_nil_iff]
    intro b hb hbk
    rw [beq_iff_eq] at hbk
    have := (entries_strict hF.ent.sorted (bad_none hw).2).2 b hb
    omega
  rw [hpn, List.append_nil, ← hcl, List.take_length] at hrun
  have hrun' : linesP AS0 0 (linesT o) = (F', 0, -1) := hrun
  have hm' := made_lines _ _ _ _ Made.start hrun'
  have hcode : F'.o.code = o.code := by rw [hs.code, ← hcl, List.take_length]
  have hFo : F'.o = o := by
    have e : F'.o = ⟨F'.o.atoms, F'.o.funs, F'.o.preds, F'.o.code⟩ := rfl
    rw [e, hs.atoms, hs.funs, hs.preds, hcode, ho]
  have hlab : ∀ u ∈ F'.uses, ∃ (i : LIns) (p : Nat), o.code[u.1]? = some i ∧ i.arg u.2.1 = (p : Int) ∧ p < o.code.length ∧ useAt F' u = some p := fun u hu => by
    obtain ⟨i, hi, h8, h65⟩ := hm'.usesA.kind u hu
    rw [hcode] at hi
    have hi' : (codeK F F.uses.length)[u.1]? = some i := by rw [ho] at hi; exact hi
    have hal := (List.getElem?_eq_some_iff.1 hi).1
    obtain ⟨i0, hi0⟩ : ∃ i0, F.o.code[u.1]? = some i0 := ⟨_, List.getElem?_eq_getElem (by omega)⟩
    have hj4 : u.2.1 < 4 := by
      have := (List.getElem?_eq_some_iff.1 h8).1
      have := kinds_few i.op
      omega
    obtain ⟨hop, hst⟩ := settled_arg hF hw hj4 hi0 hi'
    rcases hst with ⟨_, p, hp, hpl, _⟩ | ⟨hn, he⟩
    · have htg : targetB o p = true := by
        unfold targetB
        rw [List.any_eq_true]
        refine ⟨i, List.mem_of_getElem? hi, ?_⟩
        rw [List.any_eq_true]
        refine ⟨u.2.1, List.mem_range.2 (List.getElem?_eq_some_iff.1 h8).1, ?_⟩
        rw [List.getD_eq_getElem?_getD, h8, hp]
        simp
      refine ⟨i, p, hi, hp, by omega, ?_⟩
      unfold useAt
      rw [hcode, List.getD_eq_getElem?_getD, hi, Option.getD_some, hp, hs.labels p, if_pos ⟨hpl, htg⟩]
    · exfalso
      refine hn ⟨by rw [← hop]; exact h8, ?_⟩
      rw [← he]
      exact h65
  have hw' : wrongs F' = [] := by
    rw [wrongs_is, List.append_eq_nil_iff]
    refine ⟨?_, ?_⟩
    · unfold useW
      rw [List.map_eq_nil_iff, List.filter_eq_nil_iff]
      intro u hu hb
      obtain ⟨i, p, _, _, hp, hua⟩ := hlab u hu
      unfold badUse at hb
      rw [hua] at hb
      simp only [decide_eq_true_eq, hcode] at hb
      omega
    · unfold begW
      rw [List.map_eq_nil_iff]
      have h1 := (bad_none hw).2
      unfold begW at h1
      rw [List.map_eq_nil_iff] at h1
      exact badBegins_same hs.preds (by rw [hcode, hcl]) _ _ hs.begins h1
  have hck : codeK F' F'.uses.length = F'.o.code := by
    refine List.ext_getElem? fun a => ?_
    cases hi : F'.o.code[a]? with
    | none =>
      rw [List.getElem?_eq_none_iff] at hi ⊢
      rw [codeK_len]
      exact hi
    | some i =>
      have hal := (List.getElem?_eq_some_iff.1 hi).1
      obtain ⟨i', hi'⟩ : ∃ i', (codeK F' F'.uses.length)[a]? = some i' := ⟨_, List.getElem?_eq_getElem (by rw [codeK_len]; exact hal)⟩
      rw [hi']
      congr 1
      refine ins_ext4 (settled_arg hm' hw' (by omega : (0 : Nat) < 4) hi hi').1 fun j hj => ?_
      rcases (settled_arg hm' hw' hj hi hi').2 with ⟨_, p, hp, _, u, hu, e1, e2, e3⟩ | ⟨_, he⟩
      · obtain ⟨i2, p2, g1, g2, _, g3⟩ := hlab u hu
        rw [e1, ← hcode, hi] at g1
        obtain rfl := Option.some.inj g1
        rw [g3] at e3
        obtain rfl := Option.some.inj e3
        rw [hp, ← g2, e2]
      · exact he
  have hl0 : (least (0, -1) (wrongs F')).1 = 0 := by rw [hw']; rfl
  rw [prog_settle hrun', if_neg (by rw [hl0]; decide), settle_good hl0, hck]
  refine Prod.ext ?_ rfl
  show ({ F'.o with code := F'.o.code } : LObj) = o
  exact hFo
end
/-- What was made of lines is made of its lines again. -/
theorem program_back {l : List Txt} {o : LObj} {m : Int} (h : programP l = (o, 0, m)) : programP (linesT o) = (o, 0, -1) := by
  obtain ⟨F, hl, hF, hw, ho⟩ := prog_made h
  exact sim_done hF hw ho (inv_lines hF hw ho l AS0 0 Made.start hl (Inv9.start o))
end Go.Proofs.YtpcihhdalofdiaaGreatDoor
