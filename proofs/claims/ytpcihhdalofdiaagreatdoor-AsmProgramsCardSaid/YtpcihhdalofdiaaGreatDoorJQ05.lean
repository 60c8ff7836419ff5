/- Operands and instructions in words: the program's text, Text. -/
import Derived.Test.YtpcihhdalofdiaaGreatDoorJQ01
import Derived.Test.YtpcihhdalofdiaaGreatDoorJQ04
import Derived.Test.YtpcihhdalofdiaaGreatDoorJQ02
import Derived.Lib.SmallJoins
import Derived.Shelf.Strings.SlTrimAscii
import Derived.Laws.CopyRow
import Derived.Laws.IdiomCopy
namespace Go.Proofs.YtpcihhdalofdiaaGreatDoor
open Go.RowKit

def stB (l : Txt) : ByteArray := ⟨l.toArray⟩
theorem stB_app (a b : Txt) : stB a ++ stB b = stB (a ++ b) := ByteArray.mk_append_mk a b
theorem stB_size (l : Txt) : (stB l).size = l.length := by simp [stB, ByteArray.size]
theorem stB_list (l : Txt) : (stB l).data.toList = l := by simp [stB]
theorem stB_of (s : ByteArray) : stB s.data.toList = s := by cases s; simp [stB]
theorem digits_stB (n : Nat) : digits n = stB (Lib.decDigits n) := rfl
theorem keeps_growN (w : World) (k : Nat) (os : Array Obj) : Keeps w (Sort.grow (w.drewN k) os) [] :=
  ⟨rfl, rfl, rfl, by simp, fun i hi _ => by
    show ((w.drewN k).heap ++ os)[i]? = _
    rw [Array.getElem?_append_left (by simpa using hi)]
    rfl⟩
/-- The table that Itoa reads. -/
def Tab (w : World) : Prop := Lib.TabIs Tryz.prog w "internal/strconv.uint64pow10" .u64 Lib.pow10Tab
theorem Tab.keep {w w' : World} (h : Tab w) (k : Keeps w w' []) : Tab w' :=
  Joins.tab_stays (g := 0) (B := w.heap.size) (by kernel_rfl) h ⟨k.os, k.tape, k.output, k.size, fun i hi => k.block i hi (by simp)⟩ (Nat.le_refl _)
theorem itoa_any (n : Nat) (hn : n ≤ 9223372036854775807) (w : World) (ht : Tab w) :
    Calls Tryz.prog 35 #[.int .i64 n] w fun e w' => e = .returned (.string (stB (Lib.decDigits n))) ∧ Keeps w w' [] := by
  refine (Tryz.strconv_Itoa n (by omega) (by omega) w ht).mono ?_
  rintro e w' ⟨rfl, k, os, rfl⟩
  have e1 : Lib.itoa (n : Int) = Lib.decDigits n := by
    unfold Lib.itoa
    rw [if_neg (by omega)]
    simp
  exact ⟨by rw [e1]; rfl, keeps_growN w k os⟩
theorem add_one {n : Nat} (m : UInt8) (h : n ≤ 65535) (w : World) : (Op.stringOp .add (⟨#[m]⟩ : ByteArray) (stB (Lib.decDigits n))).run Tryz.prog w = .ok (.string (stB (m :: Lib.decDigits n))) w := by
  rw [run_string_add_sum (P := Tryz.prog) w _ _ (by
    have h1 := (digits_len n h).2
    have : (⟨#[m]⟩ : ByteArray).size = 1 := rfl
    rw [stB_size]
    omega)]
  have : (⟨#[m]⟩ : ByteArray) ++ stB (Lib.decDigits n) = stB (m :: Lib.decDigits n) := stB_app [m] _
  rw [this]
set_option maxHeartbeats 1600000 in
theorem text_any (k n : Nat) (hn : n ≤ 65535) (w : World) (ht : Tab w) :
    Calls Tryz.prog 96 #[.int .i64 k, .int .i64 n] w fun e w' => e = .returned (.string (stB (opTxt k n))) ∧ Keeps w w' [] := by
  by_cases h1 : k = 1
  · subst h1
    have d1 : (((1 : Nat) : Int) == 1) = true := rfl
    by_cases h16 : 16 ≤ n
    · have d2 : decide (16 ≤ (n : Int)) = true := by simp only [decide_eq_true_eq]; omega
      have HV : Hid (opTxt 1 n = 89 :: Lib.decDigits (n - 16)) := if_pos ⟨rfl, h16⟩
      have hi := itoa_any (n - 16) (by omega) w ht
      rw [show (((n - 16 : Nat) : Int)) = (n : Int) - 16 by omega] at hi
      have HI := Lib.hid hi
      have ha := add_one (n := n - 16) 89 (by omega)
      clear hi ht
      go_enter Tryz.func96, Tryz.ntmps96
      go_wp2_with fail
      refine HI.out.mono ?_
      rintro e w1 ⟨rfl, k1⟩
      go_wp2_with fail
      go_ret
      exact ⟨by rw [HV.out]; rfl, k1⟩
    · have d2 : decide (16 ≤ (n : Int)) = false := by simp only [decide_eq_false_iff_not]; omega
      have HV : Hid (opTxt 1 n = 88 :: Lib.decDigits n) := by show _ = _; rw [opTxt, if_neg (fun h => h16 h.2), if_pos (.inl rfl)]
      have HI := Lib.hid (itoa_any n (by omega) w ht)
      have ha := add_one (n := n) 88 hn
      clear ht
      go_enter Tryz.func96, Tryz.ntmps96
      go_wp2_with fail
      refine HI.out.mono ?_
      rintro e w1 ⟨rfl, k1⟩
      go_wp2_with fail
      go_ret
      exact ⟨by rw [HV.out]; rfl, k1⟩
  have d1 : ((k : Int) == 1) = false := by simp; omega
  by_cases h2 : k = 2
  · have d2 : ((k : Int) == 2) = true := by simp; omega
    have HV : Hid (opTxt k n = 88 :: Lib.decDigits n) := by show _ = _; rw [opTxt, if_neg (fun h => h1 h.1), if_pos (.inr h2)]
    have HI := Lib.hid (itoa_any n (by omega) w ht)
    have ha := add_one (n := n) 88 hn
    clear ht
    go_enter Tryz.func96, Tryz.ntmps96
    go_wp2_with fail
    refine HI.out.mono ?_
    rintro e w1 ⟨rfl, k1⟩
    go_wp2_with fail
    go_ret
    exact ⟨by rw [HV.out]; rfl, k1⟩
  have d2 : ((k : Int) == 2) = false := by simp; omega
  by_cases h9 : k = 9
  · have d3 : ((k : Int) == 9) = true := by simp; omega
    have HV : Hid (opTxt k n = 89 :: Lib.decDigits n) := by show _ = _; rw [opTxt, if_neg (fun h => h1 h.1), if_neg (by omega), if_pos h9]
    have HI := Lib.hid (itoa_any n (by omega) w ht)
    have ha := add_one (n := n) 89 hn
    clear ht
    go_enter Tryz.func96, Tryz.ntmps96
    go_wp2_with fail
    refine HI.out.mono ?_
    rintro e w1 ⟨rfl, k1⟩
    go_wp2_with fail
    go_ret
    exact ⟨by rw [HV.out]; rfl, k1⟩
  have d3 : ((k : Int) == 9) = false := by simp; omega
  by_cases h6 : n = 65535
  · have d4 : ((n : Int) == 65535) = true := by simp; omega
    have HV : Hid (opTxt k n = [45]) := by show _ = _; rw [opTxt, if_neg (fun h => h1 h.1), if_neg (by omega), if_neg h9, if_pos h6]
    clear ht
    go_enter Tryz.func96, Tryz.ntmps96
    go_wp2_with fail
    go_ret
    exact ⟨by rw [HV.out]; rfl, Keeps.refl _ _⟩
  · have d4 : ((n : Int) == 65535) = false := by simp; omega
    have HV : Hid (opTxt k n = Lib.decDigits n) := by show _ = _; rw [opTxt, if_neg (fun h => h1 h.1), if_neg (by omega), if_neg h9, if_neg h6]
    have HI := Lib.hid (itoa_any n (by omega) w ht)
    clear ht
    go_enter Tryz.func96, Tryz.ntmps96
    go_wp2_with fail
    refine HI.out.mono ?_
    rintro e w1 ⟨rfl, k1⟩
    go_wp2_with fail
    go_ret
    exact ⟨by rw [HV.out]; rfl, k1⟩
end Go.Proofs.YtpcihhdalofdiaaGreatDoor

/- Instructions in words: the program's Text. -/
namespace Go.Proofs.YtpcihhdalofdiaaGreatDoor
open Go.RowKit

theorem own_room6 {w : World} {base n c size : Nat} {e : TypeId} {A : Option Addr} {xs : List Value} (h : w.ownsRow base e size (.slice A n c) n xs) : n ≤ c ∧ ∀ a, A = some a → a.block < w.heap.size := by
  rcases h.2 with ⟨h2, h3⟩ | ⟨g, cap, cur, hv, hb, hg, hn, _⟩
  · injection h2 with h4 h5 h6
    subst h4
    exact ⟨by omega, fun a ha => by cases ha⟩
  · injection hv with h4 h5 h6
    subst h4 h6
    refine ⟨hn, fun a ha => ?_⟩
    injection ha with ha
    subst ha
    exact (Array.getElem?_eq_some_iff.1 hg).1
theorem el_str : ElemT Tryz.prog 22 9 1 := elemT_of (b := 16) (z := .string ⟨#[]⟩) Tryz.underlying22 (by kernel_rfl) (by omega) rfl (by omega)
theorem join_is : ∀ ws : List Txt, Lib.join ws [32] = joinT ws
  | [] => rfl
  | [x] => by rw [Lib.join_one, joinT]
  | x :: y :: l => by
    have ih := join_is (y :: l)
    rw [Lib.join_cons] at ih ⊢
    rw [joinT, ← ih]
    simp [Lib.joinTail]
theorem joinT_len {M : Nat} : ∀ ws : List Txt, (∀ w ∈ ws, w.length ≤ M) → (joinT ws).length ≤ ws.length * (M + 1)
  | [], _ => by simp [joinT]
  | [x], h => by have := h x (by simp); rw [joinT]; simp; omega
  | x :: y :: l, h => by
    have h1 := h x (by simp)
    have h2 := joinT_len (y :: l) (fun w hw => h w (by simp [hw]))
    have h3 : (x :: y :: l).length * (M + 1) = (y :: l).length * (M + 1) + (M + 1) := by rw [List.length_cons, Nat.succ_mul]
    rw [joinT, List.length_append, List.length_cons, h3]
    omega
theorem names_len : ∀ k : Nat, k < 27 → (nameT (k : Int)).length ≤ 10 := by decide +kernel
theorem opTxt_len {k n : Nat} (h : n ≤ 65535) : (opTxt k n).length ≤ 8 := by
  have h1 := fun m (hm : m ≤ 65535) => (digits_len m hm).2
  unfold opTxt
  split
  · have := h1 (n - 16) (by omega); simp; omega
  · split
    · have := h1 n h; simp; omega
    · split
      · have := h1 n h; simp; omega
      · split
        · simp
        · have := h1 n h; omega
theorem words_len {i : LIns} (h : insOk i = true) : ∀ w ∈ wordsOf i, w.length ≤ 10 := by
  intro w hw
  simp only [wordsOf, List.mem_cons, List.mem_map, List.mem_range] at hw
  have hop : opIn i.op = true := by simp only [insOk, Bool.and_eq_true] at h; exact h.1
  simp only [opIn, Bool.and_eq_true, decide_eq_true_eq] at hop
  rcases hw with rfl | ⟨j, hj, rfl⟩
  · obtain ⟨k, hk⟩ := Int.eq_ofNat_of_zero_le hop.1
    rw [hk]
    exact names_len k (by omega)
  · have := insOk_arg6 h hj
    exact Nat.le_trans (opTxt_len (by omega)) (by omega)
theorem words_count (i : LIns) : (wordsOf i).length ≤ 5 := by
  have := kinds_few i.op
  simp [wordsOf]
  omega
theorem words_at {i : LIns} {j q : Nat} (hy : (kindsOf i.op)[j]? = some (q : Int)) : (wordsOf i)[j + 1]? = some (opTxt q (i.arg j).toNat) := by
  have hj := (List.getElem?_eq_some_iff.1 hy).1
  rw [wordsOf, List.getElem?_cons_succ, List.getElem?_map, List.getElem?_range hj]
  simp only [Option.map_some]
  rw [List.getD_eq_getElem?_getD, hy]
  rfl
theorem words_one (i : LIns) : (wordsOf i).take 1 = [nameT i.op] := rfl
theorem words_num (i : LIns) : (wordsOf i).length = (kindsOf i.op).length + 1 := by simp [wordsOf]
attribute [local irreducible] kindsOf nameOf wordsOf opTxt

set_option maxRecDepth 100000 in
set_option maxHeartbeats 1600000 in
theorem ptext_any (i : LIns) (w : World) (ht : Tab w) : Calls Tryz.prog 65 #[insV i] w fun e w' => e = .returned (.string (stB (insTxt i))) ∧ Keeps w w' [] := by
  have HT := Lib.hid ht
  clear ht
  have HB0 : Hid (Blk (w.alloc (.cells #[.int .i64 i.op, .int .i64 i.a0, .int .i64 i.a1, .int .i64 i.a2, .int .i64 i.a3] 79)) w.heap.size 79 #[.int .i64 i.op, .int .i64 i.a0, .int .i64 i.a1, .int .i64 i.a2, .int .i64 i.a3]) := Blk.new _ _ _
  have HK0 : Hid (Keeps w (w.alloc (.cells #[.int .i64 i.op, .int .i64 i.a0, .int .i64 i.a1, .int .i64 i.a2, .int .i64 i.a3] 79)) []) := (Keeps.refl _ []).alloc _
  have HR := Lib.hid (right6_any i)
  unfold insV at HR ⊢
  go_enter Tryz.func65, Tryz.ntmps65
  cases hok : insOk i with
  | false =>
    have HV : Hid (insTxt i = []) := by show _ = _; rw [insTxt, if_neg (by rw [hok]; simp)]
    rw [hok] at HR
    go_wp2_with (go_at_call 61; refine (HR.out _).mono ?_; rintro e w1 ⟨rfl, k1⟩)
    go_ret
    exact ⟨by rw [HV.out]; rfl, HK0.out.trans k1⟩
  | true =>
    have HV : Hid (insTxt i = joinT (wordsOf i)) := if_pos hok
    have HArg := Lib.hid (fun (k : Nat) hk => insOk_arg6 hok (k := k) hk)
    have HLen := Lib.hid (joinT_len (wordsOf i) (words_len hok))
    have HCnt := Lib.hid (words_count i)
    rw [hok] at HR
    clear hok
    go_wp2_with (go_at_call 61; refine (HR.out _).mono ?_; rintro e w1 ⟨rfl, k1⟩; have HB1 := Lib.hid (HB0.out.keep k1 (by simp)); have HK1 := Lib.hid (HK0.out.trans k1); have p0 := HB1.out.cell 0; clear k1 HB0 HK0)
    refine (name6_any i.op _).mono ?_
    rintro e w2 ⟨rfl, k2⟩
    have HB2 := Lib.hid ((HB1.out.keep k2 (by simp)).alloc (.cells #[.string (nameOf i.op)] 9))
    have HK2 := Lib.hid ((HK1.out.trans k2).alloc (.cells #[.string (nameOf i.op)] 9))
    have ho2 : (w2.alloc (.cells #[.string (nameOf i.op)] 9)).ownsRow w.heap.size 9 1 (.slice (some ⟨w2.heap.size, 0, none⟩) 1 1) 1 [.string (nameOf i.op)] := World.ownsRow_lit w2 #[.string (nameOf i.op)] 1 (by have := HK1.out.size; have := k2.size; omega) (by unfold maxLen; omega) rfl
    have HO2 := Lib.hid ho2
    have p0' := HB2.out.cell 0
    clear k2 ho2 p0 HB1 HK1
    go_wp2_with fail
    refine (kindsF_any i.op _).mono ?_
    rintro e w3 ⟨A5, c5, rfl, hN, k3, hfr⟩
    have hfr2 : ∀ b off, A5 = some ⟨b, off, none⟩ → w2.heap.size < b := fun b off h => by have := hfr b off h; simp at this; omega
    have hsz3 : w2.heap.size < w3.heap.size := by have := k3.size; simp at this; omega
    have HB3 := Lib.hid (HB2.out.keep k3 (by simp))
    have HK3 := Lib.hid (HK2.out.trans k3)
    have HO3 := Lib.hid (own_keep0 HO2.out k3)
    have HN := Lib.hid hN
    have HFR := Lib.hid hfr2
    have hfew := kinds_few i.op
    have HWs : Hid (∀ (j q : Nat), (kindsOf i.op)[j]? = some (q : Int) → (wordsOf i)[j + 1]? = some (opTxt q (i.arg j).toNat)) := fun j q h => words_at h
    have HW0 : Hid ((wordsOf i).take 1 = [nameT i.op]) := words_one i
    obtain ⟨m, hm⟩ : ∃ m, (kindsOf i.op).length = m := ⟨_, rfl⟩
    have hwl : (wordsOf i).length = m + 1 := by rw [words_num, hm]
    rw [hm] at hfew ⊢
    have HM := Lib.hid hm
    clear k3 hN hm p0' HB2 HK2 HO2 hfr hfr2
    go_wp2_with fail
    go_loopw [3, 17] (fun v i9 wr => ∃ j : Nat, j ≤ m ∧ i9 = .int .i64 j ∧ ∃ A c, v = .slice A (j + 1) c ∧ wr.ownsRow w.heap.size 9 1 (.slice A (j + 1) c) (j + 1) (((wordsOf i).take (j + 1)).map fun x => Value.string (stB x)) ∧ (∀ q, (Value.slice A (j + 1) c).ownBlock = some q → q = w2.heap.size ∨ w3.heap.size ≤ q) ∧ Blk wr w.heap.size 79 #[.int .i64 i.op, .int .i64 i.a0, .int .i64 i.a1, .int .i64 i.a2, .int .i64 i.a3] ∧ Keeps w wr [] ∧ Keeps w3 wr [w2.heap.size]) (fun _ i9 _ => m - (intOf i9).toNat)
    case atStart => exact ⟨0, Nat.zero_le _, rfl, _, _, rfl, by rw [HW0.out]; have := HO3.out; simpa [stB_of, nameT] using this, fun q hq => by simp [Value.ownBlock] at hq; exact .inl hq.symm, HB3.out, HK3.out, Keeps.refl _ _⟩
    case round =>
      clear HB3 HK3 HO3
      obtain ⟨j, hj, rfl, A, c, rfl, hown, hq, hb, hk, hk3⟩ := hrel
      have HO := Lib.hid hown
      have HQ := Lib.hid hq
      have HB := Lib.hid hb
      have HK := Lib.hid hk
      have HK3 := Lib.hid hk3
      clear hown hq hb hk hk3
      by_cases hlj : j < m
      · obtain ⟨b7, off7, y, hA7, hb7, hc7, hy⟩ := HN.out j (by rw [HM.out]; exact hlj)
        subst hA7
        have hfr7 := HFR.out b7 off7 rfl
        have hx1 := kinds_mem i.op y (List.mem_of_getElem? hy)
        obtain ⟨q, rfl⟩ := Int.eq_ofNat_of_zero_le (show 0 ≤ y by omega)
        have q1 := (HK3.out.cell (p := ⟨b7, off7 + j, none⟩) hb7 (by simp; omega)).trans hc7
        have q2 := ins_cell HB.out j (by omega)
        have ha := HArg.out j (by rw [HM.out]; exact hlj)
        have HWj := Lib.hid (HWs.out j q hy)
        obtain ⟨nv, hnv⟩ := Int.eq_ofNat_of_zero_le ha.1
        rw [hnv] at q2 ha
        have hn2 : (i.arg j).toNat = nv := by omega
        rw [hn2] at HWj
        have b0 : (0 : Int) ≤ (j : Int) := Int.natCast_nonneg _
        have b1 : (j : Int) < (m : Int) := by omega
        have b4 : (j : Int) < 4 := by omega
        have HTx := Lib.hid (text_any q nv (by omega) wr (HT.out.keep HK.out))
        clear hy hc7 hnv hn2
        go_wp2_with (first
          | (go_at_call 96; refine HTx.out.mono ?_; rintro e w4 ⟨rfl, k4⟩; have K5 := k4.alloc (.cells #[.string (stB (opTxt q nv))] 9))
          | (at_builtin; refine wpList_app _ el_str rfl (.tmp 22) (.tmp 29) rfl w.heap.size A (j + 1) c _ rfl (own_keep0 HO.out K5) (some ⟨w4.heap.size, 0, none⟩) 1 1 [.string (stB (opTxt q nv))] rfl (Rd.one w4 _ [.string (stB (opTxt q nv))]) rfl (by simp) (by simp [Value.oneCell']) (by omega) (by simp; have := HK.out.size; have := k4.size; omega) ?_; intro A' c' w9 hown hgrow hat; have ho4 := own_keep0 HO.out K5; have HB9 := Lib.hid (blk_far (HB.out.keep K5 (by simp)) ho4 (by decide) hgrow); have HK9 := Lib.hid ((HK.out.trans K5).app ho4 (Nat.le_refl _) hgrow); have HK39 := Lib.hid ((HK3.out.trans (K5.to_ _)).grown hgrow (fun p hp => (HQ.out p hp).elim (fun h => .inl (by simp [h])) .inr))))
        go_roundw
        case rel =>
          refine ⟨j + 1, by omega, by go_num, A', c', rfl, ?_, ?_, HB9.out, HK9.out, HK39.out⟩
          · rw [List.take_add_one (i := j + 1), HWj.out, List.map_append]
            exact hown
          · intro p hp
            rcases hat with h | h
            · rw [hp] at h
              exact HQ.out p h.symm
            · rw [hp] at h
              injection h with h
              right
              have := HK3.out.size
              have := k4.size
              simp at h
              omega
        case measure => simp [intOf]; omega
      · obtain rfl : m = j := by omega
        obtain ⟨g, hAg⟩ : ∃ g, A = some ⟨g, 0, none⟩ := by
          rcases HO.out.2 with ⟨h2, h3⟩ | ⟨g, cap, cur, h2, _⟩
          · omega
          · injection h2 with h2
            exact ⟨g, h2⟩
        subst hAg
        have hrd := Rd.of_own HO.out
        have hroom := own_room6 HO.out
        rw [List.take_of_length_le (by omega)] at hrd
        have hj := Tryz.strings_Join g 0 c ((wordsOf i).map stB) ⟨#[32]⟩ wr (fun t x hx => by
          obtain ⟨b, off, v, e, _, hc, hv⟩ := hrd t (by rw [List.length_map]; have := (List.getElem?_eq_some_iff.1 hx).1; simpa using this)
          injection e with e
          injection e with e1 e2
          subst e1 e2
          rw [hc, ← hv]
          simp only [List.getElem?_map] at hx ⊢
          cases h9 : (wordsOf i)[t]? with
          | none => rw [h9] at hx; cases hx
          | some z => rw [h9] at hx; simp at hx ⊢; exact hx) (hroom.2 _ rfl) (by rw [List.length_map]; omega) (by rw [List.length_map]; omega) (by
          have : ((wordsOf i).map stB).map (·.data.toList) = wordsOf i := by simp [List.map_map, Function.comp_def, stB_list]
          rw [this]
          have h2 := HLen.out
          have h3 := join_is (wordsOf i)
          show (Lib.join (wordsOf i) [32]).length ≤ _
          rw [h3]
          omega)
        rw [List.length_map, hwl] at hj
        have hjt : (⟨(Lib.join (((wordsOf i).map stB).map (·.data.toList)) (ByteArray.mk #[32]).data.toList).toArray⟩ : ByteArray) = stB (insTxt i) := by
          have : ((wordsOf i).map stB).map (·.data.toList) = wordsOf i := by simp [List.map_map, Function.comp_def, stB_list]
          rw [this, HV.out, ← join_is]
          rfl
        rw [hjt] at hj
        have HJ := Lib.hid hj
        clear hj hrd hjt
        go_wp2_with fail
        refine HJ.out.mono ?_
        rintro e w9 ⟨rfl, bel⟩
        go_wp2_with fail
        go_ret
        exact ⟨rfl, HK.out.trans (Keeps.nil_of bel)⟩
end Go.Proofs.YtpcihhdalofdiaaGreatDoor

/- Instructions in words: the program's Named. -/
namespace Go.Proofs.YtpcihhdalofdiaaGreatDoor
open Go.RowKit

theorem named_hit {s : Txt} (hs : s ≠ []) {k : Nat} (hk : k < 27) (he : nameT (k : Int) = s) (hn : ∀ i : Nat, i < k → nameT (i : Int) ≠ s) : namedT s = k := by
  have h : (List.range 27).find? (fun k : Nat => nameT (k : Int) == s) = some k := List.find?_range_eq_some.2 ⟨by simp [he], by simp [hk], fun j hj => by simpa using hn j hj⟩
  rw [namedT, if_neg hs, h]
theorem named_miss {s : Txt} (hs : s ≠ []) (hn : ∀ i : Nat, i < 27 → nameT (i : Int) ≠ s) : namedT s = -1 := by
  rw [namedT, if_neg hs, List.find?_eq_none.2 (fun x hx => by simpa using hn x (by simpa using hx))]
theorem bytes_eq {a b : ByteArray} : (a.toList == b.toList) = true ↔ a.data.toList = b.data.toList := by
  rw [ByteArray.toList_eq, ByteArray.toList_eq, beq_iff_eq]
theorem lt_cell6 {w : World} {a : Addr} {v : Value} (h : w.cell? a = some v) : a.block < w.heap.size := by
  unfold World.cell? at h
  cases hb : w.heap[a.block]? with
  | none => rw [hb] at h; simp at h
  | some o => exact (Array.getElem?_eq_some_iff.1 hb).1
theorem nameT_at {k : Nat} (hk : k < 27) : nameT (k : Int) = (opName k).data.toList := by rw [nameT, nameOf_of rfl hk]
set_option maxHeartbeats 800000 in
theorem lit_any (t s : ByteArray) (A : Option Addr) (n c p : Nat) (w : World) (hp : w.cell? ⟨p, 0, none⟩ = some (.string s)) :
    Calls Tryz.prog 112 #[.agg #[.string t, .slice A n c], .pointer (some ⟨p, 0, none⟩)] w fun e w' => e = .returned (.bool (t.toList == s.toList)) ∧ Keeps w w' [] := by
  have hp2 : (w.alloc (.cells #[.string t, .slice A n c] 140)).cell? ⟨p, 0, none⟩ = some (.string s) := (((Keeps.refl w []).alloc _).cell (p := ⟨p, 0, none⟩) (lt_cell6 hp) (by simp)).trans hp
  go_enter Tryz.func112, Tryz.ntmps112
  go_wp2_with fail
  go_ret
  exact ⟨rfl, (Keeps.refl _ _).alloc _⟩
set_option maxHeartbeats 1600000 in
theorem index_any (s : ByteArray) (b p : Nat) (w : World) (hp : w.cell? ⟨p, 0, none⟩ = some (.string s)) (hs : s.data.toList ≠ [])
    (hrows : ∀ k, k < 27 → ∃ A, w.cell? ⟨b, k * 2, none⟩ = some (.string (opName k)) ∧ w.cell? ⟨b, k * 2 + 1, none⟩ = some (.slice A (opList k).length (opList k).length)) :
    Calls Tryz.prog 110 #[.slice (some ⟨b, 0, none⟩) 27 27, .func (.func 112) #[] #[.pointer (some ⟨p, 0, none⟩)]] w fun e w' => e = .returned (.int .i64 (namedT s.data.toList)) ∧ Keeps w w' [] := by
  have HS := Lib.hid hs
  have HR := Lib.hid hrows
  have HP := Lib.hid hp
  clear hs hrows hp
  go_enter Tryz.func110, Tryz.ntmps110
  go_wp2_with fail
  go_loopw [8] (fun i8 wr => ∃ j : Nat, j ≤ 27 ∧ i8 = .int .i64 j ∧ Keeps w wr [] ∧ ∀ i : Nat, i < j → nameT (i : Int) ≠ s.data.toList) (fun i8 _ => 27 - (intOf i8).toNat)
  case atStart => exact ⟨0, Nat.zero_le _, rfl, Keeps.refl _ _, fun i hi => absurd hi (Nat.not_lt_zero _)⟩
  case round =>
    obtain ⟨j, hj, rfl, hk, hno⟩ := hrel
    have HK := Lib.hid hk
    have HN := Lib.hid hno
    clear hk hno
    by_cases hlj : j < 27
    · obtain ⟨A, c0, c1⟩ := HR.out j hlj
      have q0 := (HK.out.cell (p := ⟨b, j * 2, none⟩) (lt_cell6 c0) (by simp)).trans c0
      have q1 := (HK.out.cell (p := ⟨b, j * 2 + 1, none⟩) (lt_cell6 c1) (by simp)).trans c1
      have HL := Lib.hid (lit_any (opName j) s A (opList j).length (opList j).length p wr ((HK.out.cell (p := ⟨p, 0, none⟩) (lt_cell6 HP.out) (by simp)).trans HP.out))
      clear c0 c1
      cases he : ((opName j).toList == s.toList) with
      | true =>
        rw [he] at HL
        have HE : Hid (namedT s.data.toList = j) := named_hit HS.out hlj ((nameT_at hlj).trans (bytes_eq.1 he)) HN.out
        clear he
        go_wp2_with (go_at_call 112; refine HL.out.mono ?_; rintro e w4 ⟨rfl, k4⟩)
        go_ret
        exact ⟨by rw [HE.out]; rfl, HK.out.trans k4⟩
      | false =>
        rw [he] at HL
        have HE : Hid (nameT (j : Int) ≠ s.data.toList) := by
          intro h
          rw [bytes_eq.2 ((nameT_at hlj).symm.trans h)] at he
          cases he
        clear he
        go_wp2_with (go_at_call 112; refine HL.out.mono ?_; rintro e w4 ⟨rfl, k4⟩)
        go_roundw
        case rel =>
          refine ⟨j + 1, by omega, by go_num, HK.out.trans k4, fun i hi => ?_⟩
          rcases Nat.lt_succ_iff_lt_or_eq.1 hi with h | rfl
          · exact HN.out i h
          · exact HE.out
        case measure => simp [intOf]; omega
    · obtain rfl : j = 27 := by omega
      have HE : Hid (namedT s.data.toList = -1) := named_miss HS.out HN.out
      go_wp2_with fail
      go_ret
      exact ⟨by rw [HE.out]; rfl, HK.out⟩
set_option maxHeartbeats 1600000 in
theorem named6_any (s : ByteArray) (w : World) : Calls Tryz.prog 80 #[.string s] w fun e w' => e = .returned (.int .i64 (namedT s.data.toList)) ∧ Keeps w w' [] := by
  have HB0 : Hid (Blk (w.alloc (.cells #[.string s] 9)) w.heap.size 9 #[.string s]) := Blk.new _ _ _
  have HK0 : Hid (Keeps w (w.alloc (.cells #[.string s] 9)) []) := (Keeps.refl _ []).alloc _
  by_cases hs : s.data.toList = []
  · have hd : s.toList.isEmpty = true := by rw [ByteArray.toList_eq, hs]; rfl
    have HE : Hid (namedT s.data.toList = -1) := if_pos hs
    clear hs
    go_enter Tryz.func80, Tryz.ntmps80
    go_wp2_with fail
    go_ret
    exact ⟨by rw [HE.out]; rfl, HK0.out⟩
  · have hd : s.toList.isEmpty = false := by rw [ByteArray.toList_eq]; simpa using hs
    have HS := Lib.hid hs
    clear hs
    go_enter Tryz.func80, Tryz.ntmps80
    go_wp2_with fail
    refine (rows_any _).mono ?_
    rintro e w2 ⟨b, rfl, kk, _, hrows⟩
    have HI := Lib.hid (index_any s b w.heap.size w2 ((HB0.out.keep kk (by simp)).cell 0) HS.out (fun k hk => by
      obtain ⟨A, c0, c1, _⟩ := hrows k hk
      exact ⟨A, c0, c1⟩))
    have HK := Lib.hid (HK0.out.trans kk)
    clear hrows kk
    go_wp2_with fail
    refine HI.out.mono ?_
    rintro e w3 ⟨rfl, k3⟩
    go_wp2_with fail
    go_ret
    exact ⟨rfl, HK.out.trans k3⟩
end Go.Proofs.YtpcihhdalofdiaaGreatDoor

/- Instructions in words: what a word says to the program. -/
namespace Go.Proofs.YtpcihhdalofdiaaGreatDoor
open Go.RowKit

/-- What the library's own variables hold. -/
structure St (w : World) : Prop where
  tab : Tab w
  most : ∃ m, w.cell? ⟨1, 0, none⟩ = some (.int .i64 m)
  syn : ∃ ev, w.cell? ⟨6, 0, none⟩ = some ev ∧ (ev = .nilIface ∨ ∃ te pe, ev = .iface te pe)
  rng : ∃ ev, w.cell? ⟨7, 0, none⟩ = some ev ∧ (ev = .nilIface ∨ ∃ te pe, ev = .iface te pe)
theorem St.keep {w w' : World} (h : St w) (k : Keeps w w' []) : St w' := by
  obtain ⟨ht, ⟨m, h0⟩, ⟨e1, h1, h1'⟩, ⟨e2, h2, h2'⟩⟩ := h
  exact ⟨ht.keep k, ⟨m, (k.cell (lt_cell6 h0) (by simp)).trans h0⟩, ⟨e1, (k.cell (lt_cell6 h1) (by simp)).trans h1, h1'⟩, ⟨e2, (k.cell (lt_cell6 h2) (by simp)).trans h2, h2'⟩⟩
theorem prefix_head (l : List UInt8) : Lib.hasPrefix l [89] = decide (l.head? = some 89) := by
  cases l with
  | nil => rfl
  | cons c l =>
    show ([89] : List UInt8).isPrefixOf (c :: l) = _
    by_cases h : c = 89
    · subst h; simp [List.isPrefixOf]
    · simp [List.isPrefixOf, h, Ne.symm h]
def atoiV : List UInt8 → Option Int := fun l => match Lib.atoiAll l with
  | .ok v => some v
  | _ => none
/-- strconv.Atoi at every text: the number and no error; or an error. -/
theorem atoi_any (s : ByteArray) (hl : s.size ≤ 281474976710656) (w : World) (h : St w) :
    Calls Tryz.prog 129 #[.string s] w fun e w' => Keeps w w' [] ∧ (match atoiV s.data.toList with
      | some v => e = .returned (.tuple #[.int .i64 v, .nilIface])
      | none => ∃ n t p, e = .returned (.tuple #[.int .i64 n, .iface t p])) := by
  unfold atoiV
  cases ha : Lib.atoiAll s.data.toList with
  | ok v =>
    refine (Tryz.strconv_Atoi_ok s (by omega) v ha w).mono ?_
    rintro e w' ⟨rfl, hw⟩
    refine ⟨?_, rfl⟩
    rcases hw with rfl | ⟨t, rfl⟩
    · exact Keeps.refl _ _
    · exact Keeps.nil_of (Lib.bytesWorld_below _ _ _)
  | range =>
    obtain ⟨ev, h1, h2⟩ := h.rng
    refine (Tryz.strconv_Atoi_range s hl ha ev w h1 h2).mono ?_
    rintro e w' ⟨N, rfl, _, _, hb⟩
    exact ⟨Keeps.nil_of hb, _, _, _, rfl⟩
  | _ =>
    obtain ⟨ev, h1, h2⟩ := h.syn
    refine (Tryz.strconv_Atoi_syntax s hl ha ev w h1 h2).mono ?_
    rintro e w' ⟨N, rfl, _, _, hb⟩
    exact ⟨Keeps.nil_of hb, _, _, _, rfl⟩
theorem trim_any (s : ByteArray) (w : World) : Calls Tryz.prog 159 #[.string s, .string ⟨#[88, 89]⟩] w fun e w' => e = .returned (.string (stB (Lib.trimLeftS s.data.toList [88, 89]))) ∧ Keeps w w' [] :=
  (Any.strings_TrimLeft_laid Tryz.lays161 (by kernel_rfl) s ⟨#[88, 89]⟩ w (by decide) (ascii_of_all (by decide))).mono fun _ _ ⟨h1, h2⟩ => ⟨h1, Keeps.nil_of h2⟩
theorem trim_len (l : List UInt8) (c : List UInt8) : (Lib.trimLeftS l c).length ≤ l.length := by
  rw [Lib.trimLeftS]
  exact (List.dropWhile_sublist _).length_le
theorem opP_dash {k : Nat} {w : Txt} (h : w = [45]) : opP k w = 65535 := if_pos h
theorem opP_none {k : Nat} {w : Txt} (h : w ≠ [45]) (ha : atoiV (Lib.trimLeftS w [88, 89]) = none) : opP k w = -1 := by
  unfold atoiV at ha
  rw [opP, if_neg h]
  cases he : Lib.atoiAll (Lib.trimLeftS w [88, 89]) with
  | ok v => rw [he] at ha; cases ha
  | range => rfl
  | _ => rfl
theorem opP_some {k : Nat} {w : Txt} {v : Int} (h : w ≠ [45]) (ha : atoiV (Lib.trimLeftS w [88, 89]) = some v) : opP k w = if k = 1 ∧ w.head? = some 89 then IntKind.i64.wrap (v + 16) else v := by
  unfold atoiV at ha
  rw [opP, if_neg h]
  cases he : Lib.atoiAll (Lib.trimLeftS w [88, 89]) with
  | ok v' => rw [he] at ha; injection ha with ha; subst ha; rfl
  | range => rw [he] at ha; cases ha
  | _ => rw [he] at ha; cases ha
attribute [local irreducible] opP atoiV

set_option maxHeartbeats 1600000 in
theorem operand_any (k : Nat) (s : ByteArray) (hl : s.size ≤ 281474976710656) (w : World) (h : St w) :
    Calls Tryz.prog 149 #[.int .i64 k, .string s] w fun e w' => e = .returned (.int .i64 (opP k s.data.toList)) ∧ Keeps w w' [] := by
  have HSt := Lib.hid h
  clear h
  have hcl : (s.toList == [45]) = decide (s.data.toList = [45]) := by rw [ByteArray.toList_eq]; by_cases h : s.data.toList = [45] <;> simp [h]
  by_cases h45 : s.data.toList = [45]
  · have d0 : (s.toList == [45]) = true := by rw [hcl]; exact decide_eq_true h45
    have HE := Lib.hid (opP_dash (k := k) h45)
    clear hcl h45
    go_enter Tryz.func149, Tryz.ntmps149
    go_wp2_with fail
    go_ret
    exact ⟨by rw [HE.out]; rfl, Keeps.refl _ _⟩
  have d0 : (s.toList == [45]) = false := by rw [hcl]; exact decide_eq_false h45
  have HT := Lib.hid (trim_any s w)
  have hsz : (stB (Lib.trimLeftS s.data.toList [88, 89])).size ≤ 281474976710656 := by
    rw [stB_size]
    have := trim_len s.data.toList [88, 89]
    have : s.data.toList.length = s.size := rfl
    omega
  have HA : Hid (∀ w', Keeps w w' [] → Calls Tryz.prog 129 #[.string (stB (Lib.trimLeftS s.data.toList [88, 89]))] w' fun e w'' => Keeps w' w'' [] ∧ (match atoiV (Lib.trimLeftS s.data.toList [88, 89]) with
      | some v => e = .returned (.tuple #[.int .i64 v, .nilIface])
      | none => ∃ n t p, e = .returned (.tuple #[.int .i64 n, .iface t p]))) := fun w' k' => by
    have := atoi_any (stB (Lib.trimLeftS s.data.toList [88, 89])) hsz w' (HSt.out.keep k')
    rw [stB_list] at this
    exact this
  cases ha : atoiV (Lib.trimLeftS s.data.toList [88, 89]) with
  | none =>
    have HE := Lib.hid (opP_none (k := k) h45 ha)
    simp only [ha] at HA
    clear ha h45 hcl hsz
    go_enter Tryz.func149, Tryz.ntmps149
    go_wp2_with fail
    refine HT.out.mono ?_
    rintro e w1 ⟨rfl, k1⟩
    have HK := Lib.hid k1
    clear k1
    go_wp2_with fail
    refine (HA.out w1 HK.out).mono ?_
    rintro e w2 ⟨k2, n, t, p, rfl⟩
    have HK2 := Lib.hid (HK.out.trans k2)
    clear k2
    go_wp2_with fail
    go_ret
    exact ⟨by rw [HE.out]; rfl, HK2.out⟩
  | some v =>
    have HB := Lib.hid (opP_some (k := k) h45 ha)
    simp only [ha] at HA
    clear ha h45 hcl hsz
    have HF := Lib.hid (Tryz.strings_HasPrefix s ⟨#[89]⟩)
    have hpf : Lib.hasPrefix s.data.toList [89] = decide (s.data.toList.head? = some 89) := prefix_head _
    by_cases hk1 : k = 1
    · subst hk1
      by_cases hh : s.data.toList.head? = some 89
      · have HE : Hid (opP 1 s.data.toList = wrap64 (v + 16)) := (HB.out.trans (if_pos ⟨rfl, hh⟩)).trans (IntWalk.i64_left _)
        rw [show (ByteArray.mk #[89]).data.toList = [89] from rfl, hpf, decide_eq_true hh] at HF
        clear hh hpf
        go_enter Tryz.func149, Tryz.ntmps149
        go_wp2_with fail
        refine HT.out.mono ?_
        rintro e w1 ⟨rfl, k1⟩
        have HK := Lib.hid k1
        clear k1
        go_wp2_with fail
        refine (HA.out w1 HK.out).mono ?_
        rintro e w2 ⟨k2, rfl⟩
        have HK2 := Lib.hid (HK.out.trans k2)
        clear k2
        go_wp2_with fail
        refine (HF.out w2).mono ?_
        rintro e w3 ⟨rfl, rfl⟩
        go_wp2_with fail
        go_ret
        exact ⟨by rw [HE.out]; rfl, HK2.out⟩
      · have HE : Hid (opP 1 s.data.toList = v) := HB.out.trans (if_neg (fun h => hh h.2))
        rw [show (ByteArray.mk #[89]).data.toList = [89] from rfl, hpf, decide_eq_false hh] at HF
        clear hh hpf
        go_enter Tryz.func149, Tryz.ntmps149
        go_wp2_with fail
        refine HT.out.mono ?_
        rintro e w1 ⟨rfl, k1⟩
        have HK := Lib.hid k1
        clear k1
        go_wp2_with fail
        refine (HA.out w1 HK.out).mono ?_
        rintro e w2 ⟨k2, rfl⟩
        have HK2 := Lib.hid (HK.out.trans k2)
        clear k2
        go_wp2_with fail
        refine (HF.out w2).mono ?_
        rintro e w3 ⟨rfl, rfl⟩
        go_wp2_with fail
        go_ret
        exact ⟨by rw [HE.out]; rfl, HK2.out⟩
    · have d1 : ((k : Int) == 1) = false := by simp; omega
      have HE : Hid (opP k s.data.toList = v) := HB.out.trans (if_neg (fun h => hk1 h.1))
      clear hpf hk1
      go_enter Tryz.func149, Tryz.ntmps149
      go_wp2_with fail
      refine HT.out.mono ?_
      rintro e w1 ⟨rfl, k1⟩
      have HK := Lib.hid k1
      clear k1
      go_wp2_with fail
      refine (HA.out w1 HK.out).mono ?_
      rintro e w2 ⟨k2, rfl⟩
      have HK2 := Lib.hid (HK.out.trans k2)
      clear k2
      go_wp2_with fail
      go_ret
      exact ⟨by rw [HE.out]; rfl, HK2.out⟩
end Go.Proofs.YtpcihhdalofdiaaGreatDoor

/- Instructions in words: the program's Parse. -/
namespace Go.Proofs.YtpcihhdalofdiaaGreatDoor
open Go.RowKit

theorem split_all : ∀ l : Txt, Lib.splitK [32] 0 (Lib.count l [32]) l = splitT l
  | [] => by
    rw [Lib.count_miss (by simp [Lib.index])]
    rfl
  | c :: l => by
    have ih := split_all l
    by_cases hc : c = 32
    · subst hc
      have hix : Lib.index (32 :: l) [32] = 0 := by rw [Lib.index]; simp [List.isPrefixOf]
      rw [Lib.count_cons_eq, Nat.add_comm, Lib.splitK, hix, splitT, if_pos rfl, ← ih]
      simp
    · have hix : Lib.index (c :: l) [32] = if Lib.index l [32] == -1 then -1 else Lib.index l [32] + 1 := by rw [Lib.index]; simp [List.isPrefixOf, Ne.symm hc]
      rw [Lib.count_cons_ne c 32 l hc, splitT, if_neg hc]
      rcases Lib.index_ge l [32] |> (fun h => (show Lib.index l [32] = -1 ∨ 0 ≤ Lib.index l [32] by omega)) with hm | hm
      · rw [Lib.count_miss hm] at ih ⊢
        rw [← ih]
        rfl
      · obtain ⟨j, hj⟩ := Int.eq_ofNat_of_zero_le hm
        have hcn := Lib.count_hit (sub := [32]) (by simp) hj
        have n1 : ¬ (((j : Nat) : Int) == -1) = true := by simp
        rw [hcn, Nat.add_comm, Lib.splitK, hj, if_neg n1] at ih
        rw [hcn, Nat.add_comm, Lib.splitK, hix, hj, if_neg n1]
        rw [← ih]
        have e2 : ((j : Int) + 1).toNat = j + 1 := by omega
        have n2 : ¬ (((j : Nat) : Int) + 1 == -1) = true := by simp; omega
        rw [if_neg n2, e2]
        simp
theorem split_len : ∀ (l : Txt), ∀ w ∈ splitT l, w.length ≤ l.length
  | [], w, h => by simp [splitT] at h; simp [h]
  | c :: l, w, h => by
    have ih := split_len l
    rw [splitT] at h
    split at h
    · rcases List.mem_cons.1 h with rfl | h
      · simp
      · have := ih w h; simp; omega
    · revert h
      cases hl : splitT l with
      | nil => exact absurd hl (splitT_ne l)
      | cons x r =>
        intro h
        rw [hl] at ih
        rcases List.mem_cons.1 h with rfl | h
        · have := ih x (by simp); simp; omega
        · have := ih w (by simp [h]); simp; omega
/-- What Split hands back, as texts. -/
theorem splitB_all6 (s : ByteArray) : (Lib.splitB ⟨#[32]⟩ 0 (Lib.countB s ⟨#[32]⟩) s).map (·.data.toList) = splitT s.data.toList := by
  rw [Lib.splitB_data]
  exact split_all _
theorem Keeps.past6 {a b c : World} {S T : List Nat} (h : Keeps a b S) (k : Keeps b c T) (hT : ∀ q, q ∈ T → q ∈ S ∨ a.heap.size ≤ q) : Keeps a c S :=
  ⟨k.os.trans h.os, k.tape.trans h.tape, k.output.trans h.output, Nat.le_trans h.size k.size, fun i hi hn => (k.block i (Nat.lt_of_lt_of_le hi h.size) (fun hm => by
    rcases hT i hm with h' | h'
    · exact hn h'
    · omega)).trans (h.block i hi hn)⟩
def insC6 (op : Int) (l : List Int) : Array Value := #[.int .i64 op, .int .i64 (l.getD 0 0), .int .i64 (l.getD 1 0), .int .i64 (l.getD 2 0), .int .i64 (l.getD 3 0)]
theorem insC6_set (op v : Int) (l : List Int) (j : Nat) (hl : l.length = j) (hj : j < 4) : (insC6 op l).setIfInBounds (1 + j) (.int .i64 v) = insC6 op (l ++ [v]) := by
  subst hl
  match l, hj with
  | [], _ => rfl
  | [a], _ => rfl
  | [a, b], _ => rfl
  | [a, b, c], _ => rfl
theorem insC6_zero (op : Int) (l : List Int) : insC6 op (l ++ [0]) = insC6 op l := by
  match l with
  | [] => rfl
  | [a] => rfl
  | [a, b] => rfl
  | [a, b, c] => rfl
  | a :: b :: c :: d :: l => simp [insC6]
theorem insC6_V (op : Int) (l : List Int) : insV (insW op l) = .agg (insC6 op l) := rfl
theorem insC6_at (op : Int) (l : List Int) (j : Nat) (hj : j < 4) : ∃ u, (insC6 op l)[1 + j]? = some (.int .i64 u) := by
  match j, hj with
  | 0, _ => exact ⟨_, rfl⟩
  | 1, _ => exact ⟨_, rfl⟩
  | 2, _ => exact ⟨_, rfl⟩
  | 3, _ => exact ⟨_, rfl⟩
theorem argsW_len (f : Nat → Txt → Int) (ks : List Int) (ws : List Txt) : (argsW f ks ws).length = ks.length := by simp [argsW]
theorem argsW_at (f : Nat → Txt → Int) {ks : List Int} (ws : List Txt) {j : Nat} {y : Int} (h : ks[j]? = some y) : (argsW f ks ws).take (j + 1) = (argsW f ks ws).take j ++ [match ws[j + 1]? with
    | some w => f y.toNat w
    | none => 0] := by
  have hj := (List.getElem?_eq_some_iff.1 h).1
  rw [List.take_add_one, argsW, List.getElem?_map, List.getElem?_range hj]
  simp only [Option.map_some]
  rw [List.getD_eq_getElem?_getD, h]
  rfl
abbrev fillW (w : World) (b : Nat) (o p q r t : Int) : World := ((((w.setCell ⟨b, 0, none⟩ (.int .i64 o)).setCell ⟨b, 1, none⟩ (.int .i64 p)).setCell ⟨b, 2, none⟩ (.int .i64 q)).setCell ⟨b, 3, none⟩ (.int .i64 r)).setCell ⟨b, 4, none⟩ (.int .i64 t)
theorem blk_fill {w : World} {b : Nat} {ty : TypeId} {o p q r t : Int} (h : Blk w b ty #[.int .i64 o, .int .i64 p, .int .i64 q, .int .i64 r, .int .i64 t]) (o' p' q' r' t' : Int) : Blk (fillW w b o' p' q' r' t') b ty #[.int .i64 o', .int .i64 p', .int .i64 q', .int .i64 r', .int .i64 t'] :=
  ((((h.set_ 0 (.int .i64 o')).set_ 1 (.int .i64 p')).set_ 2 (.int .i64 q')).set_ 3 (.int .i64 r')).set_ 4 (.int .i64 t')
theorem keeps_fill (w : World) (b : Nat) (o p q r t : Int) : Keeps w (fillW w b o p q r t) [b] :=
  (((((Keeps.refl w [b]).setCell (.inl (by simp)) _).setCell (.inl (by simp)) _).setCell (.inl (by simp)) _).setCell (.inl (by simp)) _).setCell (.inl (by simp)) _
attribute [local irreducible] kindsOf nameOf opP namedT splitT insTxt argsW

set_option maxRecDepth 100000 in
set_option maxHeartbeats 6400000 in
theorem parse6_any (s : ByteArray) (hl : s.size ≤ 4294967280) (w : World) (h : St w) :
    Calls Tryz.prog 132 #[.string s] w fun e w' => e = .returned (.tuple #[insV (parseT opP s.data.toList).1, .int .i64 (parseT opP s.data.toList).2]) ∧ Keeps w w' [] := by
  have HSt := Lib.hid h
  clear h
  have hsp := splitB_all6 s
  have hbl : (Lib.splitB ⟨#[32]⟩ 0 (Lib.countB s ⟨#[32]⟩) s).length = Lib.countB s ⟨#[32]⟩ + 1 := Lib.splitB_all _ (by decide) 0 _ s rfl
  have hS := fun (w : World) (hw : St w) => let ⟨m, hm⟩ := hw.most; Tryz.strings_Split s ⟨#[32]⟩ m w (by omega) hm (by decide)
  have hcl : Lib.countB s ⟨#[32]⟩ ≤ s.size := Lib.countB_le ⟨#[32]⟩ (by decide) _ s (Nat.le_refl _)
  have hwl : ∀ x ∈ Lib.splitB ⟨#[32]⟩ 0 (Lib.countB s ⟨#[32]⟩) s, x.size ≤ 281474976710656 := fun x hx => by
    have := split_len s.data.toList x.data.toList (by rw [← hsp]; exact List.mem_map.2 ⟨x, hx, rfl⟩)
    have e1 : x.data.toList.length = x.size := rfl
    have e2 : s.data.toList.length = s.size := rfl
    omega
  generalize Lib.splitB ⟨#[32]⟩ 0 (Lib.countB s ⟨#[32]⟩) s = BS at *
  generalize Lib.countB s ⟨#[32]⟩ = n at *
  obtain ⟨b0, hb0⟩ : ∃ b0, BS[0]? = some b0 := ⟨BS[0]'(by omega), List.getElem?_eq_getElem _⟩
  obtain ⟨op, hop⟩ : ∃ op, namedT b0.data.toList = op := ⟨_, rfl⟩
  have hcand : cand opP s.data.toList = insW op (argsW opP (kindsOf op) (BS.map (·.data.toList))) := by
    have hh : (BS.map (·.data.toList)).headD [] = b0.data.toList := by
      cases BS with
      | nil => simp at hbl
      | cons x r => simp at hb0; subst hb0; rfl
    rw [cand, ← hsp, hh, hop]
  have HC := Lib.hid hcand
  have HBS := Lib.hid hbl
  have HW := Lib.hid hwl
  have HNm : Hid (∀ w, Calls Tryz.prog 80 #[.string b0] w fun e w' => e = .returned (.int .i64 op) ∧ Keeps w w' []) := fun w => by
    have := named6_any b0 w
    rw [hop] at this
    exact this
  have HK0 : Hid (Keeps w (w.alloc (.cells #[.int .i64 0, .int .i64 0, .int .i64 0, .int .i64 0, .int .i64 0] 79)) []) := (Keeps.refl w []).alloc _
  have HR0 : Hid (Blk (w.alloc (.cells #[.int .i64 0, .int .i64 0, .int .i64 0, .int .i64 0, .int .i64 0] 79)) w.heap.size 79 #[.int .i64 0, .int .i64 0, .int .i64 0, .int .i64 0, .int .i64 0]) := Blk.new w _ _
  have HS := Lib.hid (hS _ (HSt.out.keep HK0.out))
  have HB1 : Hid (Blk ((w.alloc (.cells #[.int .i64 0, .int .i64 0, .int .i64 0, .int .i64 0, .int .i64 0] 79)).alloc (.cells (BS.map Value.string).toArray 9)) (w.heap.size + 1) 9 (BS.map Value.string).toArray) := Blk.atNew _ _ (by simp)
  have HK1 := Lib.hid (HK0.out.alloc (.cells (BS.map Value.string).toArray 9))
  have HR1 := Lib.hid (HR0.out.alloc (.cells (BS.map Value.string).toArray 9))
  clear hS hwl hcand hop hsp
  go_enter Tryz.func132, Tryz.ntmps132
  go_wp2_with fail
  refine HS.out.mono ?_
  rintro e w1 ⟨rfl, rfl⟩
  rw [World.size_alloc]
  have c1 := HB1.out.cell 0
  simp only [List.getElem?_toArray, List.getElem?_map, hb0, Option.map_some] at c1
  go_wp2_with fail
  refine (HNm.out _).mono ?_
  rintro e w2 ⟨rfl, k2⟩
  have HB2 := Lib.hid ((HB1.out.keep k2 (by simp)).alloc (.cells #[.int .i64 op, .int .i64 0, .int .i64 0, .int .i64 0, .int .i64 0] 79))
  have HK2 := Lib.hid ((HK1.out.trans k2).alloc (.cells #[.int .i64 op, .int .i64 0, .int .i64 0, .int .i64 0, .int .i64 0] 79))
  have HR2 := Lib.hid ((HR1.out.keep k2 (by simp)).alloc (.cells #[.int .i64 op, .int .i64 0, .int .i64 0, .int .i64 0, .int .i64 0] 79))
  have HI2 : Hid (Blk (w2.alloc (.cells #[.int .i64 op, .int .i64 0, .int .i64 0, .int .i64 0, .int .i64 0] 79)) w2.heap.size 79 (insC6 op [])) := Blk.new w2 _ _
  have hs2 := k2.size
  simp at hs2
  clear c1 k2 HB1 HK1 HR1 HK0 HR0
  go_wp2_with fail
  refine (kindsF_any op _).mono ?_
  rintro e w3 ⟨A, c, rfl, hN, k3, hfr⟩
  have hfr2 : ∀ b off, A = some ⟨b, off, none⟩ → w2.heap.size < b := fun b off h => by have := hfr b off h; simp at this; omega
  have HFR := Lib.hid hfr2
  have HN := Lib.hid hN
  have HB3 := Lib.hid (HB2.out.keep k3 (by simp))
  have HK3 := Lib.hid (HK2.out.trans k3)
  have HR3 := Lib.hid (HR2.out.keep k3 (by simp))
  have HI3 := Lib.hid (HI2.out.keep k3 (by simp))
  have hs3 := k3.size
  simp at hs3
  have hfew := kinds_few op
  obtain ⟨m, hm⟩ : ∃ m, (kindsOf op).length = m := ⟨_, rfl⟩
  have hal := argsW_len opP (kindsOf op) (BS.map (·.data.toList))
  rw [hm] at hfew hal ⊢
  have HM := Lib.hid hm
  have HAt : Hid (∀ (j : Nat) (y : Int), (kindsOf op)[j]? = some y → (argsW opP (kindsOf op) (BS.map (·.data.toList))).take (j + 1) = (argsW opP (kindsOf op) (BS.map (·.data.toList))).take j ++ [match (BS.map (·.data.toList))[j + 1]? with
    | some w => opP y.toNat w
    | none => 0]) := fun _ _ h => argsW_at opP _ h
  generalize argsW opP (kindsOf op) (BS.map (·.data.toList)) = AR at *
  clear k3 hN hfr hfr2 hm HB2 HK2 HR2 HI2
  go_wp2_with fail
  go_loopw [6, 7, 19] (fun v6 v7 i wr => ∃ j : Nat, j ≤ m ∧ i = .int .i64 j ∧ Blk wr w2.heap.size 79 (insC6 op (AR.take j)) ∧ Keeps w3 wr [w2.heap.size]) (fun _ _ i _ => m - (intOf i).toNat)
  case atStart => exact ⟨0, Nat.zero_le _, rfl, by rw [List.take_zero]; exact HI3.out, Keeps.refl _ _⟩
  case round =>
    clear HI3
    obtain ⟨j, hj, rfl, hi, kr⟩ := hrel
    have HIr := Lib.hid hi
    have HKr := Lib.hid kr
    clear hi kr
    by_cases hlj : j < m
    · obtain ⟨b7, off7, y, hA7, hb7, hc7, hy⟩ := HN.out j (by rw [HM.out]; exact hlj)
      subst hA7
      have hfr7 := HFR.out b7 off7 rfl
      have hx1 := kinds_mem op y (List.mem_of_getElem? hy)
      obtain ⟨q, rfl⟩ := Int.eq_ofNat_of_zero_le (show 0 ≤ y by omega)
      have q1 := (HKr.out.cell (p := ⟨b7, off7 + j, none⟩) hb7 (by simp; omega)).trans hc7
      have HStep := Lib.hid (HAt.out j q hy)
      have b1 : (j : Int) < (m : Int) := by omega
      have b0 : (0 : Int) ≤ (j : Int) := Int.natCast_nonneg _
      have b4 : (j : Int) < 4 := by omega
      clear hy hc7
      by_cases hjn : j < n
      · obtain ⟨x, hx⟩ : ∃ x, BS[j + 1]? = some x := ⟨BS[j + 1]'(by omega), List.getElem?_eq_getElem _⟩
        have HSt' := Lib.hid (HStep.out)
        simp only [List.getElem?_map, hx, Option.map_some, Int.toNat_natCast] at HSt'
        have HOp := Lib.hid (operand_any q x (HW.out x (List.mem_of_getElem? hx)) wr (HSt.out.keep (HK3.out.past6 HKr.out (fun q hq => by simp at hq; omega))))
        have cb := HB3.out.cell (j + 1)
        simp only [List.getElem?_toArray, List.getElem?_map, hx, Option.map_some] at cb
        have c9 := (HKr.out.cell (p := ⟨w.heap.size + 1, j + 1, none⟩) (by have := HB3.out.lt; exact this) (by simp; omega)).trans cb
        have b5 : (j : Int) < (n : Int) := by omega
        have b6 : (n : Int) ≤ 4294967280 := by omega
        generalize opP q x.data.toList = v at *
        clear cb hx HStep
        go_wp2_with fail
        refine HOp.out.mono ?_
        rintro e w5 ⟨rfl, k5⟩
        have hi5 := HIr.out.keep k5 (by simp)
        have f5 := hi5.frozen (1 + j)
        have c5 : World.cell? _ ⟨w2.heap.size, 1 + j, none⟩ = (insC6 op (AR.take j))[1 + j]? := hi5.cell (1 + j)
        obtain ⟨u5, hu5⟩ := insC6_at op (AR.take j) j (by omega)
        rw [hu5] at c5
        have HI6 := Lib.hid (hi5.set_ (1 + j) (.int .i64 v))
        have HK6 := Lib.hid ((HKr.out.trans (k5.to_ _)).setCell (p := ⟨w2.heap.size, 1 + j, none⟩) (.inl (by simp)) (.int .i64 v))
        have hlt : (AR.take j).length = j := by rw [List.length_take]; omega
        have HLen := Lib.hid hlt
        clear k5 hi5 hu5 hlt
        go_wp2_with fail
        go_roundw
        case rel =>
          refine ⟨j + 1, by omega, by go_num, ?_, HK6.out⟩
          rw [HSt'.out]
          have := HI6.out
          rw [insC6_set op v (AR.take j) j HLen.out (by omega)] at this
          exact this
        case measure => simp [intOf]; omega
      · have hx : BS[j + 1]? = none := List.getElem?_eq_none (by omega)
        have HSt' := Lib.hid (HStep.out)
        simp only [List.getElem?_map, hx, Option.map_none] at HSt'
        have b5 : ¬ (j : Int) < (n : Int) := by omega
        have b6 : (n : Int) ≤ 4294967280 := by omega
        clear hx HStep
        go_wp2_with fail
        go_roundw
        case rel =>
          refine ⟨j + 1, by omega, by go_num, ?_, HKr.out⟩
          rw [HSt'.out, insC6_zero]
          exact HIr.out
        case measure => simp [intOf]; omega
    · obtain rfl : m = j := by omega
      have hall : AR.take m = AR := List.take_of_length_le (by omega)
      rw [hall] at HIr
      have z1 := HIr.out
      have z2 := HR3.out.keep HKr.out (by simp; omega)
      have HKw := Lib.hid (HK3.out.past6 HKr.out (fun q hq => by simp at hq; omega))
      have HSr := Lib.hid (HSt.out.keep HKw.out)
      have hT := ptext_any (insW op AR)
      have HV : Hid (parseT opP s.data.toList = if s.data.toList = [] ∨ insTxt (insW op AR) ≠ s.data.toList then (⟨0, 0, 0, 0, 0⟩, 17) else (insW op AR, 0)) := by show _ = _; rw [parseT, HC.out]
      rw [insC6_V] at hT
      obtain ⟨a0, a1, a2, a3, hC⟩ : ∃ a0 a1 a2 a3 : Int, insC6 op AR = #[.int .i64 op, .int .i64 a0, .int .i64 a1, .int .i64 a2, .int .i64 a3] := ⟨_, _, _, _, rfl⟩
      have HIV : Hid (insV (insW op AR) = .agg #[.int .i64 op, .int .i64 a0, .int .i64 a1, .int .i64 a2, .int .i64 a3]) := by show _ = _; rw [insC6_V, hC]
      rw [hC] at z1 hT
      have HT := Lib.hid hT
      have z3 : Blk wr w.heap.size 79 #[.int .i64 0, .int .i64 0, .int .i64 0, .int .i64 0, .int .i64 0] := z2
      have HZ2 := Lib.hid z3
      have HZ1 := Lib.hid z1
      have y0 := z1.cell 0
      have y1 := z1.cell 1
      have y2 := z1.cell 2
      have y3 := z1.cell 3
      have y4 := z1.cell 4
      have x0 := z2.frozen 0
      have x1 := z2.frozen 1
      have x2 := z2.frozen 2
      have x3 := z2.frozen 3
      have x4 := z2.frozen 4
      have v0 := z3.cell 0
      have v1 := z3.cell 1
      have v2 := z3.cell 2
      have v3 := z3.cell 3
      have v4 := z3.cell 4
      clear z1 z2 z3 hC hT HIr
      by_cases hs0 : s.data.toList = []
      · have d0 : s.toList.isEmpty = true := by rw [ByteArray.toList_eq, hs0]; rfl
        have HE : Hid (parseT opP s.data.toList = (⟨0, 0, 0, 0, 0⟩, 17)) := HV.out.trans (if_pos (.inl hs0))
        clear hs0
        go_wp2_with fail
        have HB := Lib.hid (blk_fill HZ2.out 0 0 0 0 0)
        have HKf := Lib.hid (keeps_fill wr w.heap.size 0 0 0 0 0)
        dsimp only [fillW] at HB HKf
        clear x0 x1 x2 x3 x4 v0 v1 v2 v3 v4 y0 y1 y2 y3 y4
        generalize ((((((wr).setCell ⟨w.heap.size, 0, none⟩ (.int .i64 0)).setCell ⟨w.heap.size, 1, none⟩ (.int .i64 0)).setCell ⟨w.heap.size, 2, none⟩ (.int .i64 0)).setCell ⟨w.heap.size, 3, none⟩ (.int .i64 0)).setCell ⟨w.heap.size, 4, none⟩ (.int .i64 0)) = W at *
        have y0 := HB.out.cell 0
        have y1 := HB.out.cell 1
        have y2 := HB.out.cell 2
        have y3 := HB.out.cell 3
        have y4 := HB.out.cell 4
        refine bodyPost_ret (v := .tuple #[.agg #[.int .i64 0, .int .i64 0, .int .i64 0, .int .i64 0, .int .i64 0], .int .i64 17]) (by simp [results, Tryz.results132, go_sem, y0, y1, y2, y3, y4]) rfl ⟨by rw [HE.out]; rfl, ?_⟩
        exact HKw.out.past6 HKf.out (fun q hq => by simp at hq; omega)
      · have d0 : s.toList.isEmpty = false := by rw [ByteArray.toList_eq]; simpa using hs0
        clear x0 x1 x2 x3 x4 v0 v1 v2 v3 v4 y0 y1 y2 y3 y4
        have y0 := HZ1.out.cell 0
        have y1 := HZ1.out.cell 1
        have y2 := HZ1.out.cell 2
        have y3 := HZ1.out.cell 3
        have y4 := HZ1.out.cell 4
        by_cases ht : insTxt (insW op AR) = s.data.toList
        · have d1 : ((stB (insTxt (insW op AR))).toList == s.toList) = true := bytes_eq.2 (by rw [stB_list, ht])
          have HE : Hid (parseT opP s.data.toList = (insW op AR, 0)) := HV.out.trans (if_neg (by rintro (h | h); exact hs0 h; exact h ht))
          clear hs0 ht
          generalize insTxt (insW op AR) = tx at *
          go_wp2_with (go_at_call 65; refine (HT.out _ HSr.out.tab).mono ?_; rintro e w5 ⟨rfl, k5⟩; have z2 := HZ2.out.keep k5 (by simp); have HZ5 := Lib.hid z2; have HK5 := Lib.hid (HKw.out.trans k5); have y0 := (HZ1.out.keep k5 (by simp)).cell 0; have y1 := (HZ1.out.keep k5 (by simp)).cell 1; have y2 := (HZ1.out.keep k5 (by simp)).cell 2; have y3 := (HZ1.out.keep k5 (by simp)).cell 3; have y4 := (HZ1.out.keep k5 (by simp)).cell 4; have x0 := z2.frozen 0; have x1 := z2.frozen 1; have x2 := z2.frozen 2; have x3 := z2.frozen 3; have x4 := z2.frozen 4; have v0 := z2.cell 0; have v1 := z2.cell 1; have v2 := z2.cell 2; have v3 := z2.cell 3; have v4 := z2.cell 4; clear k5 z2)
          have HB := Lib.hid (blk_fill HZ5.out op a0 a1 a2 a3)
          have HKf := Lib.hid (keeps_fill w5 w.heap.size op a0 a1 a2 a3)
          dsimp only [fillW] at HB HKf
          clear x0 x1 x2 x3 x4 v0 v1 v2 v3 v4 y0 y1 y2 y3 y4
          generalize ((((((w5).setCell ⟨w.heap.size, 0, none⟩ (.int .i64 op)).setCell ⟨w.heap.size, 1, none⟩ (.int .i64 a0)).setCell ⟨w.heap.size, 2, none⟩ (.int .i64 a1)).setCell ⟨w.heap.size, 3, none⟩ (.int .i64 a2)).setCell ⟨w.heap.size, 4, none⟩ (.int .i64 a3)) = W at *
          have y0 := HB.out.cell 0
          have y1 := HB.out.cell 1
          have y2 := HB.out.cell 2
          have y3 := HB.out.cell 3
          have y4 := HB.out.cell 4
          refine bodyPost_ret (v := .tuple #[.agg #[.int .i64 op, .int .i64 a0, .int .i64 a1, .int .i64 a2, .int .i64 a3], .int .i64 0]) (by simp [results, Tryz.results132, go_sem, y0, y1, y2, y3, y4]) rfl ⟨by rw [HE.out]; dsimp only; rw [HIV.out], ?_⟩
          exact HK5.out.past6 HKf.out (fun q hq => by simp at hq; omega)
        · have d1 : ((stB (insTxt (insW op AR))).toList == s.toList) = false := by
            cases h : ((stB (insTxt (insW op AR))).toList == s.toList) with
            | false => rfl
            | true => exact absurd ((stB_list _).symm.trans (bytes_eq.1 h)) ht
          have HE : Hid (parseT opP s.data.toList = (⟨0, 0, 0, 0, 0⟩, 17)) := HV.out.trans (if_pos (.inr ht))
          clear hs0 ht
          generalize insTxt (insW op AR) = tx at *
          go_wp2_with (go_at_call 65; refine (HT.out _ HSr.out.tab).mono ?_; rintro e w5 ⟨rfl, k5⟩; have z2 := HZ2.out.keep k5 (by simp); have HZ5 := Lib.hid z2; have HK5 := Lib.hid (HKw.out.trans k5); have y0 := (HZ1.out.keep k5 (by simp)).cell 0; have y1 := (HZ1.out.keep k5 (by simp)).cell 1; have y2 := (HZ1.out.keep k5 (by simp)).cell 2; have y3 := (HZ1.out.keep k5 (by simp)).cell 3; have y4 := (HZ1.out.keep k5 (by simp)).cell 4; have x0 := z2.frozen 0; have x1 := z2.frozen 1; have x2 := z2.frozen 2; have x3 := z2.frozen 3; have x4 := z2.frozen 4; have v0 := z2.cell 0; have v1 := z2.cell 1; have v2 := z2.cell 2; have v3 := z2.cell 3; have v4 := z2.cell 4; clear k5 z2)
          have HB := Lib.hid (blk_fill HZ5.out 0 0 0 0 0)
          have HKf := Lib.hid (keeps_fill w5 w.heap.size 0 0 0 0 0)
          dsimp only [fillW] at HB HKf
          clear x0 x1 x2 x3 x4 v0 v1 v2 v3 v4 y0 y1 y2 y3 y4
          generalize ((((((w5).setCell ⟨w.heap.size, 0, none⟩ (.int .i64 0)).setCell ⟨w.heap.size, 1, none⟩ (.int .i64 0)).setCell ⟨w.heap.size, 2, none⟩ (.int .i64 0)).setCell ⟨w.heap.size, 3, none⟩ (.int .i64 0)).setCell ⟨w.heap.size, 4, none⟩ (.int .i64 0)) = W at *
          have y0 := HB.out.cell 0
          have y1 := HB.out.cell 1
          have y2 := HB.out.cell 2
          have y3 := HB.out.cell 3
          have y4 := HB.out.cell 4
          refine bodyPost_ret (v := .tuple #[.agg #[.int .i64 0, .int .i64 0, .int .i64 0, .int .i64 0, .int .i64 0], .int .i64 17]) (by simp [results, Tryz.results132, go_sem, y0, y1, y2, y3, y4]) rfl ⟨by rw [HE.out]; rfl, ?_⟩
          exact HK5.out.past6 HKf.out (fun q hq => by simp at hq; omega)
end Go.Proofs.YtpcihhdalofdiaaGreatDoor

/- Instructions of operands: the program's Make, the document's. -/
namespace Go.Proofs.YtpcihhdalofdiaaGreatDoor
open Go.RowKit

theorem keeps_setRow (w : World) (b : Nat) (cs : Array Value) : Keeps w (w.setRow b cs) [b] :=
  ⟨rfl, rfl, rfl, by simp [World.setRow], fun i _ hn => by
    have : i ≠ b := fun h => hn (by simp [h])
    simp only [World.setRow]
    rw [Array.getElem?_modify, if_neg (Ne.symm this)]⟩
theorem splice6 (op : Int) (l : List Int) : ((insC6 op []).toList.take 1 ++ (l.take 4).map (Value.int IntKind.i64) ++ (insC6 op []).toList.drop (1 + ((l.take 4).map (Value.int IntKind.i64)).length)).toArray = insC6 op l := by
  match l with
  | [] => rfl
  | [a] => rfl
  | [a, b] => rfl
  | [a, b, c] => rfl
  | a :: b :: c :: d :: l => simp [insC6]
theorem copy_ins {w : World} {b B : Nat} {op : Int} {A : Option Addr} {c : Nat} {l : List Int} (hN : Nums .i64 w B A l) (hB : Blk w b 79 (insC6 op [])) :
    ∃ w', (Builtin.copy_ #[93, 93] 3 #[.slice (some ⟨b, 1, none⟩) 4 4, .slice A l.length c]).run Tryz.prog w = .ok (.int .i64 (min l.length 4 : Nat)) w' ∧ Blk w' b 79 (insC6 op l) ∧ Keeps w w' [b] := by
  have hs : (Tryz.prog.info? 3).map (·.size) = some 1 := by kernel_rfl
  by_cases h0 : l = []
  · subst h0
    refine ⟨w, ?_, hB, Keeps.refl _ _⟩
    exact Go.run_copy_none w 93 93 3 3 _ A 4 4 _ c Tryz.underlying93 hs (by simp)
  · have hp : 0 < l.length := List.length_pos_iff.2 h0
    obtain ⟨g, off, x, rfl, _, _, _⟩ := hN 0 hp
    have hlen : ((l.take 4).map (Value.int IntKind.i64)).length = Nat.min l.length 4 := by simp [Nat.min_comm]
    have hr := Go.run_copy_row (P := Tryz.prog) w 93 93 3 3 b 1 4 4 ⟨g, off, none⟩ l.length c (insC6 op []) 79 ((l.take 4).map (Value.int IntKind.i64)) Tryz.underlying93 hs hB hlen (fun j v hv => by
      have hj : j < ((l.take 4).map (Value.int IntKind.i64)).length := (List.getElem?_eq_some_iff.1 hv).1
      rw [hlen] at hj
      have hj2 : j < l.length := Nat.lt_of_lt_of_le hj (Nat.min_le_left _ _)
      have hj4 : j < 4 := Nat.lt_of_lt_of_le hj (Nat.min_le_right _ _)
      obtain ⟨g', off', x', e, _, hc, hx⟩ := hN j hj2
      obtain ⟨rfl, rfl⟩ : g = g' ∧ off = off' := by simpa using e
      have : v = .int .i64 x' := by
        rw [List.getElem?_map, List.getElem?_take_of_lt hj4, hx] at hv
        simpa using hv.symm
      have hadd : (⟨g, off, none⟩ : Addr).add j = ⟨g, off + j, none⟩ := by unfold Addr.add; split <;> simp_all
      rw [this, hadd]
      exact hc) (by rw [hlen]; exact Nat.add_le_add_left (Nat.min_le_right l.length 4) 1) (fun v hv => by
        obtain ⟨x, _, rfl⟩ := List.mem_map.1 hv
        rfl)
    rw [splice6, hlen] at hr
    exact ⟨_, hr, setRow_heap w b (insC6 op []) _ 79 (0, 0) hB, keeps_setRow _ _ _⟩
set_option maxHeartbeats 1600000 in
theorem make6_any (op : Int) (A : Option Addr) (c : Nat) (l : List Int) (w : World) (hN : Nums .i64 w w.heap.size A l) :
    Calls Tryz.prog 82 #[.int .i64 op, .slice A l.length c] w fun e w' => e = .returned (insV (insW op l)) ∧ Keeps w w' [] := by
  have hz : Blk ((w.alloc (.cells #[.int .i64 0, .int .i64 0, .int .i64 0, .int .i64 0, .int .i64 0] 79)).alloc (.cells #[.int .i64 op, .int .i64 0, .int .i64 0, .int .i64 0, .int .i64 0] 79)) (w.heap.size + 1) 79 (insC6 op []) := Blk.atNew _ _ (by simp)
  have hk : Keeps w ((w.alloc (.cells #[.int .i64 0, .int .i64 0, .int .i64 0, .int .i64 0, .int .i64 0] 79)).alloc (.cells #[.int .i64 op, .int .i64 0, .int .i64 0, .int .i64 0, .int .i64 0] 79)) [] := ((Keeps.refl w []).alloc _).alloc _
  have hz0 : Blk ((w.alloc (.cells #[.int .i64 0, .int .i64 0, .int .i64 0, .int .i64 0, .int .i64 0] 79)).alloc (.cells #[.int .i64 op, .int .i64 0, .int .i64 0, .int .i64 0, .int .i64 0] 79)) w.heap.size 79 #[.int .i64 0, .int .i64 0, .int .i64 0, .int .i64 0, .int .i64 0] := (Blk.new w _ _).alloc _
  obtain ⟨w3, hr, hb3, hk3⟩ := copy_ins (c := c) (hN.keep (w' := (w.alloc (.cells #[.int .i64 0, .int .i64 0, .int .i64 0, .int .i64 0, .int .i64 0] 79)).alloc (.cells #[.int .i64 op, .int .i64 0, .int .i64 0, .int .i64 0, .int .i64 0] 79)) (fun p hp => hk.cell hp (by simp))) hz
  have hIV : insV (insW op l) = .agg (insC6 op l) := rfl
  obtain ⟨a0, a1, a2, a3, hC⟩ : ∃ a0 a1 a2 a3 : Int, insC6 op l = #[.int .i64 op, .int .i64 a0, .int .i64 a1, .int .i64 a2, .int .i64 a3] := ⟨_, _, _, _, rfl⟩
  rw [hC] at hb3 hIV
  have HIV := Lib.hid hIV
  have HZ := Lib.hid (hz0.keep hk3 (by simp))
  have HK2 : Hid (Keeps w w3 []) := Keeps.past6 hk hk3 (fun q hq => by simp at hq; omega)
  have y0 := hb3.cell 0
  have y1 := hb3.cell 1
  have y2 := hb3.cell 2
  have y3 := hb3.cell 3
  have y4 := hb3.cell 4
  have x0 := HZ.out.frozen 0
  have x1 := HZ.out.frozen 1
  have x2 := HZ.out.frozen 2
  have x3 := HZ.out.frozen 3
  have x4 := HZ.out.frozen 4
  have v0 := HZ.out.cell 0
  have v1 := HZ.out.cell 1
  have v2 := HZ.out.cell 2
  have v3 := HZ.out.cell 3
  have v4 := HZ.out.cell 4
  clear hz hk hz0 hb3 hk3 hIV hC hN
  go_enter Tryz.func82, Tryz.ntmps82
  go_wp2_with fail
  have HB := Lib.hid (blk_fill HZ.out op a0 a1 a2 a3)
  have HKf := Lib.hid (keeps_fill w3 w.heap.size op a0 a1 a2 a3)
  dsimp only [fillW] at HB HKf
  clear x0 x1 x2 x3 x4 v0 v1 v2 v3 v4 y0 y1 y2 y3 y4
  generalize ((((((w3).setCell ⟨w.heap.size, 0, none⟩ (.int .i64 op)).setCell ⟨w.heap.size, 1, none⟩ (.int .i64 a0)).setCell ⟨w.heap.size, 2, none⟩ (.int .i64 a1)).setCell ⟨w.heap.size, 3, none⟩ (.int .i64 a2)).setCell ⟨w.heap.size, 4, none⟩ (.int .i64 a3)) = W at *
  have y0 := HB.out.cell 0
  have y1 := HB.out.cell 1
  have y2 := HB.out.cell 2
  have y3 := HB.out.cell 3
  have y4 := HB.out.cell 4
  refine bodyPost_ret (v := .agg #[.int .i64 op, .int .i64 a0, .int .i64 a1, .int .i64 a2, .int .i64 a3]) (by simp [results, Tryz.results82, go_sem, y0, y1, y2, y3, y4]) rfl ⟨by rw [HIV.out], ?_⟩
  exact HK2.out.past6 HKf.out (fun q hq => by simp at hq; omega)
end Go.Proofs.YtpcihhdalofdiaaGreatDoor

/- Instructions in words: the document's names, Name, Named, Make. -/
namespace Go.Proofs.YtpcihhdalofdiaaGreatDoor
open Go.RowKit

def NamesMade (w : World) (e : Ending) (w' : World) : Prop :=
  ∃ b, e = .returned (.slice (some ⟨b, 0, none⟩) 27 27) ∧ Keeps w w' [] ∧ ∀ k, k < 27 → w'.cell? ⟨b, k, none⟩ = some (.string (opName k))
theorem names_cells : ∀ k, k < 27 → ((opNames.map Value.string).toArray)[k]? = some (.string (opName k)) := by
  intro k hk
  have hl : opNames.length = 27 := rfl
  simp only [List.getElem?_toArray, List.getElem?_map]
  rw [List.getElem?_eq_getElem (by omega), opName, List.getD_eq_getElem?_getD, List.getElem?_eq_getElem (by omega)]
  rfl
set_option maxRecDepth 100000 in
theorem names_any (w : World) : Calls Tryz.prog 86 #[] w (NamesMade w) := by
  go_enter Tryz.func86, Tryz.ntmps86
  go_wp2_with fail
  go_ret
  exact ⟨_, rfl, (Keeps.refl w []).alloc _, fun k hk => ((Blk.new w 9 (opNames.map Value.string).toArray).cell k).trans (names_cells k hk)⟩
set_option maxHeartbeats 800000 in
theorem refName6_any (op : Int) (w : World) : Calls Tryz.prog 71 #[.int .i64 op] w fun e w' => e = .returned (.string (nameOf op)) ∧ Keeps w w' [] := by
  by_cases h0 : op < 0
  · have d0 : decide (op < 0) = true := by simpa using h0
    have HN : Hid (nameOf op = ⟨#[]⟩) := if_neg (by omega)
    clear h0
    go_enter Tryz.func71, Tryz.ntmps71
    go_wp2_with fail
    go_ret
    exact ⟨by rw [HN.out]; rfl, Keeps.refl _ _⟩
  have d0 : decide (op < 0) = false := by simpa using h0
  by_cases h1 : 26 < op
  · have d1 : decide (26 < op) = true := by simpa using h1
    have HN : Hid (nameOf op = ⟨#[]⟩) := if_neg (by omega)
    clear h0 h1
    go_enter Tryz.func71, Tryz.ntmps71
    go_wp2_with fail
    go_ret
    exact ⟨by rw [HN.out]; rfl, Keeps.refl _ _⟩
  have d1 : decide (26 < op) = false := by simpa using h1
  obtain ⟨k, rfl⟩ := Int.eq_ofNat_of_zero_le (show 0 ≤ op by omega)
  have hk : k < 27 := by omega
  have HN : Hid (nameOf (k : Int) = opName k) := nameOf_of rfl hk
  have b1 : (k : Int) < 27 := by omega
  clear h0 h1
  go_enter Tryz.func71, Tryz.ntmps71
  go_wp2_with fail
  refine (names_any _).mono ?_
  rintro e w1 ⟨b, rfl, k1, hc⟩
  have q := hc k hk
  have HK := Lib.hid k1
  clear hc k1
  go_wp2_with fail
  go_ret
  exact ⟨by rw [HN.out]; rfl, HK.out⟩
theorem names_full : ∀ k : Nat, k < 27 → nameT (k : Int) ≠ [] := by decide +kernel
set_option maxHeartbeats 1600000 in
theorem refNamed_any (s : ByteArray) (w : World) : Calls Tryz.prog 56 #[.string s] w fun e w' => e = .returned (.int .i64 (namedT s.data.toList)) ∧ Keeps w w' [] := by
  go_enter Tryz.func56, Tryz.ntmps56
  go_wp2_with fail
  refine (names_any _).mono ?_
  rintro e w1 ⟨b, rfl, k1, hc⟩
  have HC := Lib.hid hc
  have HK := Lib.hid k1
  clear hc k1
  go_wp2_with fail
  go_loopw [4] (fun i4 wr => ∃ j : Nat, j ≤ 27 ∧ i4 = .int .i64 j ∧ wr = w1 ∧ ∀ i : Nat, i < j → nameT (i : Int) ≠ s.data.toList) (fun i4 _ => 27 - (intOf i4).toNat)
  case atStart => exact ⟨0, Nat.zero_le _, rfl, rfl, fun i hi => absurd hi (Nat.not_lt_zero _)⟩
  case round =>
    obtain ⟨j, hj, rfl, rfl, hno⟩ := hrel
    have HN := Lib.hid hno
    clear hno
    by_cases hlj : j < 27
    · have q0 := HC.out j hlj
      have b1 : (j : Int) < 27 := by omega
      cases he : ((opName j).toList == s.toList) with
      | true =>
        have hne := (nameT_at hlj).trans (bytes_eq.1 he)
        have HE : Hid (namedT s.data.toList = j) := named_hit (fun h => names_full j hlj (hne.trans h)) hlj hne HN.out
        clear hne
        go_wp2_with fail
        go_ret
        exact ⟨by rw [HE.out]; rfl, HK.out⟩
      | false =>
        have HE : Hid (nameT (j : Int) ≠ s.data.toList) := by
          intro h
          rw [bytes_eq.2 ((nameT_at hlj).symm.trans h)] at he
          cases he
        go_wp2_with fail
        go_roundw
        case rel =>
          refine ⟨j + 1, by omega, by go_num, by first | rfl | trivial, fun i hi => ?_⟩
          rcases Nat.lt_succ_iff_lt_or_eq.1 hi with h | rfl
          · exact HN.out i h
          · exact HE.out
        case measure => simp [intOf]; omega
    · obtain rfl : j = 27 := by omega
      have HE : Hid (namedT s.data.toList = -1) := by
        by_cases hs : s.data.toList = []
        · exact if_pos hs
        · exact named_miss hs HN.out
      go_wp2_with fail
      go_ret
      exact ⟨by rw [HE.out]; rfl, HK.out⟩
end Go.Proofs.YtpcihhdalofdiaaGreatDoor

/- Instructions in words: the document's operand, Text. -/
namespace Go.Proofs.YtpcihhdalofdiaaGreatDoor
open Go.RowKit

theorem Keeps.ofDrewN (w : World) (k : Nat) : Keeps w (w.drewN k) [] := ⟨rfl, rfl, rfl, Nat.le_refl _, fun _ _ _ => rfl⟩
set_option maxHeartbeats 1600000 in
theorem refOperand_any (k n : Nat) (hn : n ≤ 65535) (w : World) :
    Calls Tryz.prog 101 #[.int .i64 k, .int .i64 n] w fun e w' => e = .returned (.string (stB (opTxt k n))) ∧ ∃ m, w' = w.drewN m := by
  have num := fun (n : Nat) (hn : n ≤ 65535) (w : World) => num_any n w (by omega)
  by_cases h1 : k = 1
  · subst h1
    have d1 : (((1 : Nat) : Int) == 1) = true := rfl
    by_cases h16 : 16 ≤ n
    · have d2 : decide (16 ≤ (n : Int)) = true := by simp only [decide_eq_true_eq]; omega
      have HV : Hid (opTxt 1 n = 89 :: Lib.decDigits (n - 16)) := if_pos ⟨rfl, h16⟩
      have hi := num (n - 16) (by omega) w
      rw [show (((n - 16 : Nat) : Int)) = (n : Int) - 16 by omega] at hi
      have HI := Lib.hid hi
      have ha := add_one (n := n - 16) 89 (by omega)
      clear hi num
      go_enter Tryz.func101, Tryz.ntmps101
      go_wp2_with fail
      refine HI.out.mono ?_
      rintro e w1 ⟨rfl, m, rfl⟩
      rw [digits_stB]
      go_wp2_with fail
      go_ret
      exact ⟨by rw [HV.out]; rfl, m, rfl⟩
    · have d2 : decide (16 ≤ (n : Int)) = false := by simp only [decide_eq_false_iff_not]; omega
      have HV : Hid (opTxt 1 n = 88 :: Lib.decDigits n) := by show _ = _; rw [opTxt, if_neg (fun h => h16 h.2), if_pos (.inl rfl)]
      have HI := Lib.hid (num n hn w)
      have ha := add_one (n := n) 88 hn
      clear num
      go_enter Tryz.func101, Tryz.ntmps101
      go_wp2_with fail
      refine HI.out.mono ?_
      rintro e w1 ⟨rfl, m, rfl⟩
      rw [digits_stB]
      go_wp2_with fail
      go_ret
      exact ⟨by rw [HV.out]; rfl, m, rfl⟩
  have d1 : ((k : Int) == 1) = false := by simp; omega
  by_cases h2 : k = 2
  · have d2 : ((k : Int) == 2) = true := by simp; omega
    have HV : Hid (opTxt k n = 88 :: Lib.decDigits n) := by show _ = _; rw [opTxt, if_neg (fun h => h1 h.1), if_pos (.inr h2)]
    have HI := Lib.hid (num n hn w)
    have ha := add_one (n := n) 88 hn
    clear num
    go_enter Tryz.func101, Tryz.ntmps101
    go_wp2_with fail
    refine HI.out.mono ?_
    rintro e w1 ⟨rfl, m, rfl⟩
    rw [digits_stB]
    go_wp2_with fail
    go_ret
    exact ⟨by rw [HV.out]; rfl, m, rfl⟩
  have d2 : ((k : Int) == 2) = false := by simp; omega
  by_cases h9 : k = 9
  · have d3 : ((k : Int) == 9) = true := by simp; omega
    have HV : Hid (opTxt k n = 89 :: Lib.decDigits n) := by show _ = _; rw [opTxt, if_neg (fun h => h1 h.1), if_neg (by omega), if_pos h9]
    have HI := Lib.hid (num n hn w)
    have ha := add_one (n := n) 89 hn
    clear num
    go_enter Tryz.func101, Tryz.ntmps101
    go_wp2_with fail
    refine HI.out.mono ?_
    rintro e w1 ⟨rfl, m, rfl⟩
    rw [digits_stB]
    go_wp2_with fail
    go_ret
    exact ⟨by rw [HV.out]; rfl, m, rfl⟩
  have d3 : ((k : Int) == 9) = false := by simp; omega
  by_cases h6 : n = 65535
  · have d4 : ((n : Int) == 65535) = true := by simp; omega
    have HV : Hid (opTxt k n = [45]) := by show _ = _; rw [opTxt, if_neg (fun h => h1 h.1), if_neg (by omega), if_neg h9, if_pos h6]
    clear num
    go_enter Tryz.func101, Tryz.ntmps101
    go_wp2_with fail
    go_ret
    exact ⟨by rw [HV.out]; rfl, 0, rfl⟩
  · have d4 : ((n : Int) == 65535) = false := by simp; omega
    have HV : Hid (opTxt k n = Lib.decDigits n) := by show _ = _; rw [opTxt, if_neg (fun h => h1 h.1), if_neg (by omega), if_neg h9, if_neg h6]
    have HI := Lib.hid (num n hn w)
    clear num
    go_enter Tryz.func101, Tryz.ntmps101
    go_wp2_with fail
    refine HI.out.mono ?_
    rintro e w1 ⟨rfl, m, rfl⟩
    rw [digits_stB]
    go_wp2_with fail
    go_ret
    exact ⟨by rw [HV.out]; rfl, m, rfl⟩
theorem joinT_snoc (w : Txt) : ∀ ws : List Txt, ws ≠ [] → joinT (ws ++ [w]) = joinT ws ++ 32 :: w
  | [], h => absurd rfl h
  | [x], _ => rfl
  | x :: y :: l, _ => by
    have ih := joinT_snoc w (y :: l) (by simp)
    rw [List.cons_append, List.cons_append, joinT, joinT, ← List.cons_append, ih, List.append_assoc]
    rfl
theorem joinT_step {ws : List Txt} {j : Nat} {w : Txt} (h : ws[j + 1]? = some w) : joinT (ws.take (j + 1 + 1)) = joinT (ws.take (j + 1)) ++ 32 :: w := by
  have hl := (List.getElem?_eq_some_iff.1 h).1
  rw [List.take_add_one (i := j + 1), h]
  exact joinT_snoc w _ (fun h0 => by
    have h1 : min (j + 1) ws.length = 0 := by rw [← List.length_take, h0]; rfl
    omega)
theorem joinT_take_len {M : Nat} {ws : List Txt} (h : ∀ w ∈ ws, w.length ≤ M) (j : Nat) : (joinT (ws.take j)).length ≤ ws.length * (M + 1) :=
  Nat.le_trans (joinT_len _ (fun w hw => h w (List.mem_of_mem_take hw))) (Nat.mul_le_mul_right _ (by rw [List.length_take]; omega))
attribute [local irreducible] kindsOf nameOf wordsOf opTxt

theorem words_j {i : LIns} {j q : Nat} (hy : (kindsOf i.op)[j]? = some (q : Int)) : joinT ((wordsOf i).take (j + 1 + 1)) = joinT ((wordsOf i).take (j + 1)) ++ 32 :: opTxt q (i.arg j).toNat := joinT_step (words_at hy)
set_option maxRecDepth 100000 in
set_option maxHeartbeats 1600000 in
theorem refText_any (i : LIns) (w : World) : Calls Tryz.prog 72 #[insV i] w fun e w' => e = .returned (.string (stB (insTxt i))) ∧ Keeps w w' [] := by
  have HB0 : Hid (Blk (w.alloc (.cells #[.int .i64 i.op, .int .i64 i.a0, .int .i64 i.a1, .int .i64 i.a2, .int .i64 i.a3] 72)) w.heap.size 72 #[.int .i64 i.op, .int .i64 i.a0, .int .i64 i.a1, .int .i64 i.a2, .int .i64 i.a3]) := Blk.new _ _ _
  have HK0 : Hid (Keeps w (w.alloc (.cells #[.int .i64 i.op, .int .i64 i.a0, .int .i64 i.a1, .int .i64 i.a2, .int .i64 i.a3] 72)) []) := (Keeps.refl _ []).alloc _
  have HR := Lib.hid (refRight6_any i)
  unfold insV at HR ⊢
  go_enter Tryz.func72, Tryz.ntmps72
  cases hok : insOk i with
  | false =>
    have HV : Hid (insTxt i = []) := by show _ = _; rw [insTxt, if_neg (by rw [hok]; simp)]
    rw [hok] at HR
    go_wp2_with (go_at_call 69; refine (HR.out _).mono ?_; rintro e w1 ⟨rfl, k1⟩)
    go_ret
    exact ⟨by rw [HV.out]; rfl, HK0.out.trans k1⟩
  | true =>
    have HV : Hid (insTxt i = joinT (wordsOf i)) := if_pos hok
    have HArg := Lib.hid (fun (k : Nat) hk => insOk_arg6 hok (k := k) hk)
    have HLen := Lib.hid (joinT_take_len (words_len hok))
    have HCnt := Lib.hid (words_count i)
    rw [hok] at HR
    clear hok
    go_wp2_with (go_at_call 69; refine (HR.out _).mono ?_; rintro e w1 ⟨rfl, k1⟩; have HB1 := Lib.hid (HB0.out.keep k1 (by simp)); have HK1 := Lib.hid (HK0.out.trans k1); have p0 := HB1.out.cell 0; clear k1 HB0 HK0)
    refine (refName6_any i.op _).mono ?_
    rintro e w2 ⟨rfl, k2⟩
    have HB2 := Lib.hid (HB1.out.keep k2 (by simp))
    have HK2 := Lib.hid (HK1.out.trans k2)
    have p0' := HB2.out.cell 0
    clear k2 p0 HB1 HK1
    go_wp2_with fail
    refine (refKindsF_any i.op _).mono ?_
    rintro e w3 ⟨A5, c5, rfl, hN, k3, hfr⟩
    have HB3 := Lib.hid (HB2.out.keep k3 (by simp))
    have HK3 := Lib.hid (HK2.out.trans k3)
    have HN := Lib.hid hN
    have hfew := kinds_few i.op
    have HWs : Hid (∀ (j q : Nat), (kindsOf i.op)[j]? = some (q : Int) → joinT ((wordsOf i).take (j + 1 + 1)) = joinT ((wordsOf i).take (j + 1)) ++ 32 :: opTxt q (i.arg j).toNat) := fun j q h => words_j h
    have HW0 : Hid (stB (joinT ((wordsOf i).take 1)) = nameOf i.op) := by show _ = _; rw [words_one, joinT, nameT, stB_of]
    obtain ⟨m, hm⟩ : ∃ m, (kindsOf i.op).length = m := ⟨_, rfl⟩
    have hwl : (wordsOf i).length = m + 1 := by rw [words_num, hm]
    rw [hm] at hfew ⊢
    have HM := Lib.hid hm
    clear k3 hN hm p0' HB2 HK2 hfr
    go_wp2_with fail
    go_loopw [3, 5] (fun v i9 wr => ∃ j : Nat, j ≤ m ∧ i9 = .int .i64 j ∧ v = .string (stB (joinT ((wordsOf i).take (j + 1)))) ∧ ∃ d, wr = w3.drewN d) (fun _ i9 _ => m - (intOf i9).toNat)
    case atStart => exact ⟨0, Nat.zero_le _, rfl, by rw [HW0.out], 0, rfl⟩
    case round =>
      obtain ⟨j, hj, rfl, rfl, hd⟩ := hrel
      have hkd : Keeps w3 wr [] := by
        obtain ⟨d, rfl⟩ := hd
        exact Keeps.ofDrewN _ _
      have HK := Lib.hid hkd
      have HD := Lib.hid hd
      clear hkd hd
      by_cases hlj : j < m
      · obtain ⟨b7, off7, y, hA7, hb7, hc7, hy⟩ := HN.out j (by rw [HM.out]; exact hlj)
        subst hA7
        have hx1 := kinds_mem i.op y (List.mem_of_getElem? hy)
        obtain ⟨q, rfl⟩ := Int.eq_ofNat_of_zero_le (show 0 ≤ y by omega)
        have q1 := (HK.out.cell (p := ⟨b7, off7 + j, none⟩) hb7 (by simp)).trans hc7
        have q2 := ins_cell (HB3.out.keep HK.out (by simp)) j (by omega)
        have ha := HArg.out j (by rw [HM.out]; exact hlj)
        have HWj := Lib.hid (HWs.out j q hy)
        obtain ⟨nv, hnv⟩ := Int.eq_ofNat_of_zero_le ha.1
        rw [hnv] at q2 ha
        have hn2 : (i.arg j).toNat = nv := by omega
        rw [hn2] at HWj
        have b0 : (0 : Int) ≤ (j : Int) := Int.natCast_nonneg _
        have b1 : (j : Int) < (m : Int) := by omega
        have b4 : (j : Int) < 4 := by omega
        have HTx := Lib.hid (refOperand_any q nv (by omega))
        have hl1 := HLen.out (j + 1)
        have hl2 := opTxt_len (k := q) (n := nv) (by omega)
        have ha1 : ∀ w, (Op.stringOp .add (stB (joinT ((wordsOf i).take (j + 1)))) (⟨#[32]⟩ : ByteArray)).run Tryz.prog w = .ok (.string (stB (joinT ((wordsOf i).take (j + 1)) ++ [32]))) w := fun w => by
          rw [run_string_add_sum (P := Tryz.prog) w _ _ (by rw [stB_size]; have : (⟨#[32]⟩ : ByteArray).size = 1 := rfl; omega)]
          rw [show (⟨#[32]⟩ : ByteArray) = stB [32] from rfl, stB_app]
        have ha2 : ∀ w, (Op.stringOp .add (stB (joinT ((wordsOf i).take (j + 1)) ++ [32])) (stB (opTxt q nv))).run Tryz.prog w = .ok (.string (stB (joinT ((wordsOf i).take (j + 1 + 1))))) w := fun w => by
          rw [run_string_add_sum (P := Tryz.prog) w _ _ (by rw [stB_size, stB_size, List.length_append]; simp only [List.length_singleton]; omega), stB_app, HWj.out, List.append_assoc]
          rfl
        clear hy hnv hn2 hl1 hl2 hc7
        go_wp2_with fail
        go_quiet ((go_at_call 101; exact Calls.quiet_of (HTx.out _)))
        go_wp2_with fail
        go_roundw
        case rel =>
          obtain ⟨d, rfl⟩ := HD.out
          exact ⟨j + 1, by omega, by go_num, rfl, d + _, by rw [World.drewN_drewN]⟩
        case measure => simp [intOf]; omega
      · obtain rfl : m = j := by omega
        have HE : Hid (stB (insTxt i) = stB (joinT ((wordsOf i).take (m + 1)))) := by show _ = _; rw [HV.out, List.take_of_length_le (by omega)]
        go_wp2_with fail
        go_ret
        exact ⟨by rw [HE.out]; rfl, HK3.out.trans HK.out⟩
end Go.Proofs.YtpcihhdalofdiaaGreatDoor

/- Instructions in words: the document's Num. -/
namespace Go.Proofs.YtpcihhdalofdiaaGreatDoor
open Go.RowKit

theorem dat_at (s : ByteArray) (j : Nat) (h : j < s.size) : s.data.toList[j]? = some s[j] := by
  rw [Array.getElem?_toList, Array.getElem?_eq_getElem h]
  rfl
theorem valT_lt (l : Txt) (h : ∀ c ∈ l, isDig c = true) : valT l < 10 ^ l.length := by
  have go : ∀ (l : Txt) (a : Nat), (∀ c ∈ l, isDig c = true) → l.foldl (fun n c => 10 * n + (c.toNat - 48)) a < (a + 1) * 10 ^ l.length := by
    intro l
    induction l with
    | nil => intro a _; simp
    | cons c l ih =>
      intro a h
      have h2 := h c (by simp)
      simp only [isDig, Bool.and_eq_true, decide_eq_true_eq] at h2
      have h1 := ih (10 * a + (c.toNat - 48)) (fun x hx => h x (by simp [hx]))
      rw [List.foldl_cons, List.length_cons, Nat.pow_succ]
      refine Nat.lt_of_lt_of_le h1 ?_
      rw [Nat.mul_comm (10 ^ l.length) 10, ← Nat.mul_assoc]
      exact Nat.mul_le_mul_right _ (by omega)
  have := go l 0 h
  rw [valT]
  simpa using this
theorem numT_size {w : Txt} (h : w.length < 1 ∨ 7 < w.length) : numT w = -1 := if_pos h
theorem numT_bad {w : Txt} {j : Nat} {c : UInt8} (hj : w[j]? = some c) (hc : isDig c = false) : numT w = -1 := by
  unfold numT
  split
  · rfl
  · rw [if_pos]
    rw [List.all_eq_false]
    exact ⟨c, List.mem_of_getElem? hj, by simp [hc]⟩
theorem numT_ok {w : Txt} (h1 : ¬ (w.length < 1 ∨ 7 < w.length)) (h : ∀ c ∈ w, isDig c = true) : numT w = if Lib.decDigits (valT w) = w then (valT w : Int) else -1 := by
  unfold numT
  rw [if_neg h1, if_neg]
  rw [List.all_eq_true.2 h]
  simp
attribute [local irreducible] numT valT

set_option maxHeartbeats 3200000 in
theorem refNum_any (s : ByteArray) (w : World) : Calls Tryz.prog 55 #[.string s] w fun e w' => e = .returned (.int .i64 (numT s.data.toList)) ∧ ∃ m, w' = w.drewN m := by
  have hsz : s.data.toList.length = s.size := rfl
  by_cases h0 : s.size < 1
  · have d0 : decide ((s.size : Int) < 1) = true := by simp only [decide_eq_true_eq]; omega
    have HE : Hid (numT s.data.toList = -1) := numT_size (.inl (by omega))
    clear h0 hsz
    go_enter Tryz.func55, Tryz.ntmps55
    go_wp2_with fail
    go_ret
    exact ⟨by rw [HE.out]; rfl, 0, rfl⟩
  have d0 : decide ((s.size : Int) < 1) = false := by simp only [decide_eq_false_iff_not]; omega
  by_cases h7 : 7 < s.size
  · have d1 : decide (7 < (s.size : Int)) = true := by simp only [decide_eq_true_eq]; omega
    have HE : Hid (numT s.data.toList = -1) := numT_size (.inr (by omega))
    clear h7 h0 hsz
    go_enter Tryz.func55, Tryz.ntmps55
    go_wp2_with fail
    go_ret
    exact ⟨by rw [HE.out]; rfl, 0, rfl⟩
  have d1 : decide (7 < (s.size : Int)) = false := by simp only [decide_eq_false_iff_not]; omega
  have HOk : Hid ((∀ c ∈ s.data.toList, isDig c = true) → numT s.data.toList = if Lib.decDigits (valT s.data.toList) = s.data.toList then (valT s.data.toList : Int) else -1) := fun h => numT_ok (by omega) h
  go_enter Tryz.func55, Tryz.ntmps55
  go_wp2_with fail
  go_loopw [3, 4] (fun v3 i4 wr => ∃ j : Nat, j ≤ s.size ∧ i4 = .int .i64 j ∧ v3 = .int .i64 (valT (s.data.toList.take j)) ∧ (∀ c ∈ s.data.toList.take j, isDig c = true) ∧ ∃ d, wr = w.drewN d) (fun _ i4 _ => s.size - (intOf i4).toNat)
  case atStart => exact ⟨0, Nat.zero_le _, rfl, by rw [List.take_zero]; unfold valT; rfl, by simp, 0, rfl⟩
  case round =>
    obtain ⟨j, hj, rfl, rfl, hd, d, rfl⟩ := hrel
    have hv := valT_lt _ hd
    have hv2 : (10 : Nat) ^ (s.data.toList.take j).length ≤ 10 ^ 7 := Nat.pow_le_pow_right (by omega) (by rw [List.length_take]; omega)
    have HD := Lib.hid hd
    clear hd
    by_cases hlj : j < s.size
    · have hx := dat_at s j hlj
      have b1 : (j : Int) < (s.size : Int) := by omega
      have hr := s[j].toNat_lt
      have HX := Lib.hid hx
      clear hx
      obtain ⟨x, hxs⟩ : ∃ x, s[j] = x := ⟨_, rfl⟩
      rw [hxs] at HX hr
      by_cases c1 : x.toNat < 48
      · have HE : Hid (numT s.data.toList = -1) := numT_bad HX.out (by simp [isDig]; omega)
        have c2 : (x.toNat : Int) < 48 := by omega
        clear c1
        go_wp2_with fail
        go_ret
        exact ⟨by rw [HE.out]; rfl, d, rfl⟩
      have c2 : ¬ (x.toNat : Int) < 48 := by omega
      by_cases c3 : 57 < x.toNat
      · have HE : Hid (numT s.data.toList = -1) := numT_bad HX.out (by simp [isDig]; omega)
        have c4 : 57 < (x.toNat : Int) := by omega
        clear c3
        go_wp2_with fail
        go_ret
        exact ⟨by rw [HE.out]; rfl, d, rfl⟩
      have c4 : ¬ 57 < (x.toNat : Int) := by omega
      have hdx : isDig x = true := by simp [isDig]; omega
      have HTk : Hid (s.data.toList.take (j + 1) = s.data.toList.take j ++ [x]) := by show _ = _; rw [List.take_add_one, HX.out]; rfl
      have HVx : Hid (valT (s.data.toList.take (j + 1)) = 10 * valT (s.data.toList.take j) + (x.toNat - 48)) := by show _ = _; rw [HTk.out, valT_snoc]
      have HDx := Lib.hid hdx
      have hv3 : valT (s.data.toList.take j) < 10000000 := by omega
      generalize valT (s.data.toList.take j) = vj at *
      clear c1 c3 hv hv2 hdx
      go_wp2_with fail
      go_roundw
      case rel =>
        refine ⟨j + 1, by omega, by go_num, ?_, ?_, d, rfl⟩
        · rw [HVx.out]
          have : ((10 * vj + (x.toNat - 48) : Nat) : Int) = 10 * (vj : Int) + ((x.toNat : Int) - 48) := by omega
          rw [this]
        · rw [HTk.out]
          intro c hc
          rcases List.mem_append.1 hc with h | h
          · exact HD.out c h
          · rw [List.mem_singleton.1 h]; exact HDx.out
      case measure => simp [intOf]; omega
    · obtain rfl : j = s.size := by omega
      have hall : s.data.toList.take s.size = s.data.toList := List.take_of_length_le (by omega)
      rw [hall] at HD hv hv2 ⊢
      have HE := HOk.out HD.out
      have hbig : valT s.data.toList ≤ 9223372036854775807 := by omega
      have HN := Lib.hid (num_any (valT s.data.toList) (w.drewN d) hbig)
      rw [digits_stB] at HN
      by_cases he : Lib.decDigits (valT s.data.toList) = s.data.toList
      · have d3 : ((stB (Lib.decDigits (valT s.data.toList))).toList == s.toList) = true := bytes_eq.2 (by rw [stB_list, he])
        have HE2 : Hid (numT s.data.toList = (valT s.data.toList : Int)) := HE.trans (if_pos he)
        clear HE he hv hv2 hbig
        generalize valT s.data.toList = v at *
        generalize Lib.decDigits v = t at *
        go_wp2_with fail
        refine HN.out.mono ?_
        rintro e w' ⟨rfl, m, rfl⟩
        go_wp2_with fail
        go_ret
        exact ⟨by rw [HE2.out]; rfl, d + m, rfl⟩
      · have d3 : ((stB (Lib.decDigits (valT s.data.toList))).toList == s.toList) = false := by
          cases h : ((stB (Lib.decDigits (valT s.data.toList))).toList == s.toList) with
          | false => rfl
          | true => exact absurd ((stB_list _).symm.trans (bytes_eq.1 h)) he
        have HE2 : Hid (numT s.data.toList = -1) := HE.trans (if_neg he)
        clear HE he hv hv2 hbig
        generalize valT s.data.toList = v at *
        generalize Lib.decDigits v = t at *
        go_wp2_with fail
        refine HN.out.mono ?_
        rintro e w' ⟨rfl, m, rfl⟩
        go_wp2_with fail
        go_ret
        exact ⟨by rw [HE2.out]; rfl, d + m, rfl⟩
end Go.Proofs.YtpcihhdalofdiaaGreatDoor

/- Instructions in words: the document's Words. -/
namespace Go.Proofs.YtpcihhdalofdiaaGreatDoor
open Go.RowKit

theorem split_blank : ∀ p : Txt, splitT (p ++ [32]) = splitT p ++ [[]]
  | [] => rfl
  | c :: p => by
    have ih := split_blank p
    rw [List.cons_append, splitT, splitT, ih]
    by_cases hc : c = 32
    · rw [if_pos hc, if_pos hc]; rfl
    · rw [if_neg hc, if_neg hc]
      cases hp : splitT p with
      | nil => exact absurd hp (splitT_ne p)
      | cons x r => rfl
theorem split_more {c : UInt8} (hc : c ≠ 32) : ∀ (p : Txt) (d : List Txt) (w : Txt), splitT p = d ++ [w] → splitT (p ++ [c]) = d ++ [w ++ [c]]
  | [], d, w, h => by
    have h1 : d = [] ∧ w = [] := by
      rw [splitT] at h
      cases d with
      | nil => simpa using h.symm
      | cons x r => simp at h
    obtain ⟨rfl, rfl⟩ := h1
    rw [List.nil_append, splitT, if_neg hc]
    rfl
  | b :: p, d, w, h => by
    rw [List.cons_append, splitT]
    rw [splitT] at h
    by_cases hb : b = 32
    · rw [if_pos hb] at h ⊢
      cases d with
      | nil => simp at h; exact absurd h.2 (splitT_ne p)
      | cons x r =>
        rw [List.cons_append] at h
        injection h with h1 h2
        rw [split_more hc p r w h2, ← h1]
        rfl
    · rw [if_neg hb] at h ⊢
      cases hp : splitT p with
      | nil => exact absurd hp (splitT_ne p)
      | cons x r =>
        rw [hp] at h
        cases d with
        | nil =>
          rw [List.nil_append] at h
          injection h with h1 h2
          subst h2
          have := split_more hc p [] x (by rw [hp]; rfl)
          rw [this]
          simp only [List.nil_append]
          rw [← h1]
          rfl
        | cons y t =>
          rw [List.cons_append] at h
          injection h with h1 h2
          have := split_more hc p (x :: t) w (by rw [hp, h2]; rfl)
          rw [this]
          simp only [List.cons_append]
          rw [← h1]
/-- What the document's loop knows behind i bytes. -/
def Cut (l : Txt) (i f : Nat) (done : List Txt) : Prop :=
  i ≤ l.length + 1 ∧ f ≤ i ∧ (i ≤ l.length → splitT (l.take i) = done ++ [(l.take i).drop f]) ∧ (i = l.length + 1 → done = splitT l)
theorem Cut.zero (l : Txt) : Cut l 0 0 [] := ⟨by omega, by omega, fun _ => rfl, fun h => absurd h (by omega)⟩
theorem Cut.blank {l : Txt} {i f : Nat} {done : List Txt} (h : Cut l i f done) (hi : l[i]? = some 32) : Cut l (i + 1) (i + 1) (done ++ [(l.take i).drop f]) := by
  obtain ⟨h1, h2, h3, h4⟩ := h
  have hlt := (List.getElem?_eq_some_iff.1 hi).1
  refine ⟨by omega, by omega, fun _ => ?_, fun h => absurd h (by omega)⟩
  rw [List.take_add_one, hi]
  show splitT (l.take i ++ [32]) = _
  rw [split_blank, h3 (by omega)]
  have : (l.take i ++ (some (32 : UInt8)).toList).drop (i + 1) = [] := by
    rw [List.drop_eq_nil_of_le]
    simp
    omega
  rw [this]
theorem Cut.more {l : Txt} {i f : Nat} {done : List Txt} {c : UInt8} (h : Cut l i f done) (hi : l[i]? = some c) (hc : c ≠ 32) : Cut l (i + 1) f done := by
  obtain ⟨h1, h2, h3, h4⟩ := h
  have hlt := (List.getElem?_eq_some_iff.1 hi).1
  refine ⟨by omega, by omega, fun _ => ?_, fun h => absurd h (by omega)⟩
  rw [List.take_add_one, hi]
  show splitT (l.take i ++ [c]) = done ++ [(l.take i ++ [c]).drop f]
  rw [split_more hc _ _ _ (h3 (by omega)), List.drop_append_of_le_length (by rw [List.length_take]; omega)]
theorem Cut.last {l : Txt} {f : Nat} {done : List Txt} (h : Cut l l.length f done) : Cut l (l.length + 1) (l.length + 1) (done ++ [(l.take l.length).drop f]) := by
  obtain ⟨h1, h2, h3, h4⟩ := h
  refine ⟨by omega, by omega, fun h => absurd h (by omega), fun _ => ?_⟩
  rw [← h3 (by omega), List.take_of_length_le (Nat.le_refl _)]
theorem piece_is (s : ByteArray) (f i : Nat) : s.extract f i = stB ((s.data.toList.take i).drop f) := by
  have h : (s.extract f i).data.toList = (s.data.toList.take i).drop f := by rw [Lib.extract_data, List.drop_take]
  rw [← h, stB_of]
theorem split_num (l : Txt) : (splitT l).length ≤ l.length + 1 := by
  induction l with
  | nil => simp [splitT]
  | cons c l ih =>
    rw [splitT]
    split
    · simp; exact ih
    · split
      · simp
      · next h => rw [h] at ih; simp at ih ⊢; omega
/-- A row of texts, of the call's own. -/
def WordsMade (w : World) (ws : List Txt) (e : Ending) (w' : World) : Prop :=
  ∃ A c, e = .returned (.slice A ws.length c) ∧ w'.ownsRow w.heap.size 9 1 (.slice A ws.length c) ws.length (ws.map fun x => Value.string (stB x)) ∧ Keeps w w' []
set_option maxHeartbeats 3200000 in
theorem refWords_any (s : ByteArray) (hs : s.size ≤ 4294967280) (w : World) : Calls Tryz.prog 52 #[.string s] w (WordsMade w (splitT s.data.toList)) := by
  have hsz : s.data.toList.length = s.size := rfl
  go_enter Tryz.func52, Tryz.ntmps52
  go_wp2_with fail
  go_loopw [3, 4, 5] (fun v3 i4 i5 wr => ∃ (i f : Nat) (done : List Txt), i5 = .int .i64 i ∧ i4 = .int .i64 f ∧ Cut s.data.toList i f done ∧ done.length ≤ i ∧ (∃ A c, v3 = .slice A done.length c ∧ wr.ownsRow w.heap.size 9 1 (.slice A done.length c) done.length (done.map fun x => Value.string (stB x))) ∧ Keeps w wr []) (fun _ _ i5 _ => s.size + 1 - (intOf i5).toNat)
  case atStart => exact ⟨0, 0, [], rfl, rfl, Cut.zero _, Nat.le_refl _, ⟨none, 0, rfl, World.ownsRow_nil _ _ _ _⟩, Keeps.refl _ _⟩
  case round =>
    obtain ⟨i, f, done, rfl, rfl, hcut, hdl, ⟨A, c, rfl, hown⟩, hk⟩ := hrel
    have hif := hcut.2.1
    have hi1 := hcut.1
    have HC := Lib.hid hcut
    have HO := Lib.hid hown
    have HK := Lib.hid hk
    obtain ⟨n, hn⟩ : ∃ n, done.length = n := ⟨_, rfl⟩
    rw [hn] at HO hdl ⊢
    have HL := Lib.hid hn
    clear hcut hown hk hn
    by_cases hle : i ≤ s.size
    · have b1 : (i : Int) ≤ (s.size : Int) := by omega
      have b2 : (f : Int) ≤ (i : Int) := by omega
      have b3 : (0 : Int) ≤ (f : Int) := Int.natCast_nonneg _
      have HP := Lib.hid (piece_is s f i)
      by_cases hlt : i < s.size
      · have hx := dat_at s i hlt
        have b4 : (i : Int) < (s.size : Int) := by omega
        have b5 : ((i : Int) == (s.size : Int)) = false := by simp; omega
        have hr := s[i].toNat_lt
        have HX := Lib.hid hx
        clear hx
        obtain ⟨x, hxs⟩ : ∃ x, s[i] = x := ⟨_, rfl⟩
        rw [hxs] at HX hr
        by_cases hbl : x = 32
        · subst hbl
          have HC2 := Lib.hid (HC.out.blank HX.out)
          have K5 : Keeps wr (wr.alloc (.cells #[.string (s.extract f i)] 9)) [] := (Keeps.refl wr []).alloc _
          clear HX hr
          go_wp2_with (at_builtin; refine wpList_app _ el_str rfl (.tmp 22) (.tmp 27) rfl w.heap.size A n c _ rfl (own_keep0 HO.out K5) (some ⟨wr.heap.size, 0, none⟩) 1 1 [.string (s.extract f i)] rfl (Rd.one wr _ [.string (s.extract f i)]) rfl (by simp) (by simp [Value.oneCell']) (by omega) (by simp; have := HK.out.size; omega) ?_; intro A' c' w9 hown hgrow _; have ho4 := own_keep0 HO.out K5; have HK9 := Lib.hid ((HK.out.trans K5).app ho4 (Nat.le_refl _) hgrow))
          go_roundw
          case rel =>
            refine ⟨i + 1, i + 1, _, by go_num, by go_num, HC2.out, by simp only [List.length_append, List.length_singleton]; have := HL.out; omega, ⟨A', c', ?_, ?_⟩, HK9.out⟩
            · simp only [List.length_append, List.length_singleton, HL.out]
            · simp only [List.length_append, List.length_singleton, HL.out, List.map_append, List.map_cons, List.map_nil]
              rw [HP.out] at hown
              exact hown
          case measure => simp [intOf]; omega
        · have HC2 := Lib.hid (HC.out.more HX.out hbl)
          have b6 : ((x.toNat : Int) == 32) = false := by
            simp only [beq_eq_false_iff_ne, ne_eq]
            intro h
            apply hbl
            apply UInt8.toNat_inj.1
            show x.toNat = 32
            omega
          clear HX hbl
          go_wp2_with fail
          go_roundw
          case rel =>
            refine ⟨i + 1, f, done, by go_num, rfl, HC2.out, by have := HL.out; omega, ⟨A, c, by rw [HL.out], by rw [HL.out]; exact HO.out⟩, HK.out⟩
          case measure => simp [intOf]; omega
      · obtain rfl : i = s.size := by omega
        have HC2 := Lib.hid (HC.out.last)
        have HW : Hid (done ++ [(s.data.toList.take s.size).drop f] = splitT s.data.toList) := HC2.out.2.2.2 rfl
        have K5 : Keeps wr (wr.alloc (.cells #[.string (s.extract f s.size)] 9)) [] := (Keeps.refl wr []).alloc _
        go_wp2_with (at_builtin; refine wpList_app _ el_str rfl (.tmp 22) (.tmp 27) rfl w.heap.size A n c _ rfl (own_keep0 HO.out K5) (some ⟨wr.heap.size, 0, none⟩) 1 1 [.string (s.extract f s.size)] rfl (Rd.one wr _ [.string (s.extract f s.size)]) rfl (by simp) (by simp [Value.oneCell']) (by omega) (by simp; have := HK.out.size; omega) ?_; intro A' c' w9 hown hgrow _; have ho4 := own_keep0 HO.out K5; have HK9 := Lib.hid ((HK.out.trans K5).app ho4 (Nat.le_refl _) hgrow))
        go_roundw
        case rel =>
          refine ⟨s.size + 1, s.size + 1, _, by go_num, by go_num, HC2.out, by simp only [List.length_append, List.length_singleton]; have := HL.out; omega, ⟨A', c', ?_, ?_⟩, HK9.out⟩
          · simp only [List.length_append, List.length_singleton, HL.out]
          · simp only [List.length_append, List.length_singleton, HL.out, List.map_append, List.map_cons, List.map_nil]
            rw [HP.out] at hown
            exact hown
        case measure => simp [intOf]
    · have b1 : ¬ (i : Int) ≤ (s.size : Int) := by omega
      obtain rfl : i = s.data.toList.length + 1 := by omega
      have HW : Hid (done = splitT s.data.toList) := HC.out.2.2.2 rfl
      go_wp2_with fail
      go_ret
      refine ⟨A, c, ?_, ?_, HK.out⟩
      · rw [← HW.out, HL.out]; rfl
      · rw [← HW.out, HL.out]; exact HO.out
end Go.Proofs.YtpcihhdalofdiaaGreatDoor

/- Instructions in words: the document's Parse. Printed by gen_refparse.py. -/
namespace Go.Proofs.YtpcihhdalofdiaaGreatDoor
open Go.RowKit

theorem numT_range (w : Txt) : -1 ≤ numT w ∧ numT w ≤ 10000000 := by
  unfold numT
  split
  · omega
  · split
    · omega
    · split
      · next h1 h2 _ =>
        have ha : w.all isDig = true := by simpa using h2
        have hv := valT_lt w (List.all_eq_true.1 ha)
        have hv2 : (10 : Nat) ^ w.length ≤ 10 ^ 7 := Nat.pow_le_pow_right (by omega) (by omega)
        omega
      · omega
theorem opR_dash {k : Nat} {w : Txt} (h : w = [45]) : opR k w = 65535 := if_pos h
theorem opR_X {k : Nat} {w : Txt} (h : w ≠ [45]) (h1 : 1 < w.length) (h2 : w.head? = some 88) : opR k w = numT w.tail := by rw [opR, if_neg h, if_pos ⟨h1, h2⟩]
theorem opR_Y {k : Nat} {w : Txt} (h : w ≠ [45]) (h1 : 1 < w.length) (h2 : w.head? = some 89) : opR k w = if k = 1 then numT w.tail + 16 else numT w.tail := by
  rw [opR, if_neg h, if_neg (fun h => by rw [h2] at h; exact absurd h.2 (by decide)), if_pos ⟨h1, h2⟩]
theorem opR_num {k : Nat} {w : Txt} (h : w ≠ [45]) (h1 : ¬ (1 < w.length ∧ w.head? = some 88)) (h2 : ¬ (1 < w.length ∧ w.head? = some 89)) : opR k w = numT w := by
  rw [opR, if_neg h, if_neg h1, if_neg h2]
theorem own_strs {w w1 : World} {ws : List Txt} {e : Ending} (h : WordsMade w ws e w1) (hne : ws ≠ []) :
    ∃ g c, e = .returned (.slice (some ⟨g, 0, none⟩) ws.length c) ∧ Keeps w w1 [] ∧ g < w1.heap.size ∧ ∀ t x, ws[t]? = some x → w1.cell? ⟨g, t, none⟩ = some (.string (stB x)) := by
  obtain ⟨A, c, rfl, hown, hk⟩ := h
  have hpos : 0 < ws.length := List.length_pos_iff.2 hne
  obtain ⟨g, hAg⟩ : ∃ g, A = some ⟨g, 0, none⟩ := by
    rcases hown.2 with ⟨h2, h3⟩ | ⟨g, cap, cur, h2, _⟩
    · omega
    · injection h2 with h2
      exact ⟨g, h2⟩
  subst hAg
  refine ⟨g, c, rfl, hk, (own_room6 hown).2 _ rfl, fun t x hx => ?_⟩
  have hrd := Rd.of_own hown
  have ht := (List.getElem?_eq_some_iff.1 hx).1
  obtain ⟨b, off, v, e, _, hc, hv⟩ := hrd t (by rw [List.length_map]; exact ht)
  injection e with e
  injection e with e1 e2
  subst e1 e2
  rw [Nat.zero_add] at hc
  rw [hc, ← hv]
  simp only [List.getElem?_map, hx, Option.map_some]
theorem tail_of (x : ByteArray) : (x.extract 1 x.size).data.toList = x.data.toList.tail := by
  rw [Lib.extract_data]
  have : x.data.toList.length = x.size := rfl
  rw [List.take_of_length_le (by rw [List.length_drop]; omega), List.drop_one]
theorem head_of (x : ByteArray) (h : 0 < x.size) : x.data.toList.head? = some x[0] := by
  rw [List.head?_eq_getElem?, dat_at x 0 h]
theorem refNumK_any (s : ByteArray) (w : World) : Calls Tryz.prog 55 #[.string s] w fun e w' => e = .returned (.int .i64 (numT s.data.toList)) ∧ Keeps w w' [] :=
  (refNum_any s w).mono fun _ _ ⟨h, m, hm⟩ => ⟨h, hm ▸ Keeps.ofDrewN w m⟩
theorem byte_eq {x y : UInt8} : ((x.toNat : Int) == (y.toNat : Int)) = decide (x = y) := by
  by_cases h : x = y
  · subst h; simp
  · have : x.toNat ≠ y.toNat := fun h' => h (UInt8.toNat_inj.1 h')
    simp [h]
    omega
theorem argsW_rest (f : Nat → Txt → Int) (op : Int) (ks : List Int) (ws : List Txt) (n : Nat) (hn : ws.length = n + 1) (j : Nat) (hj : n ≤ j) : insC6 op (argsW f ks ws) = insC6 op ((argsW f ks ws).take j) := by
  have h : ∀ k, (argsW f ks ws).getD k 0 = ((argsW f ks ws).take j).getD k 0 := by
    intro k
    rw [List.getD_eq_getElem?_getD, List.getD_eq_getElem?_getD, List.getElem?_take]
    by_cases hk : k < j
    · rw [if_pos hk]
    · rw [if_neg hk]
      have h0 : ws[k + 1]? = none := List.getElem?_eq_none (by omega)
      by_cases hr : k < ks.length
      · rw [argsW, List.getElem?_map, List.getElem?_range hr]
        simp only [Option.map_some, h0]
        rfl
      · rw [argsW, List.getElem?_map, List.getElem?_eq_none (by simpa using hr)]
        rfl
  rw [insC6, h 0, h 1, h 2, h 3]
  rfl
theorem set_twice6 (cs : Array Value) (i : Nat) (u v : Value) : (cs.setIfInBounds i u).setIfInBounds i v = cs.setIfInBounds i v := by
  apply Array.ext_getElem?
  intro k
  simp only [Array.getElem?_setIfInBounds]
  by_cases h : i = k
  · simp [h]
  · simp [h]
attribute [local irreducible] kindsOf nameOf opR namedT splitT insTxt argsW numT

set_option maxRecDepth 100000 in
set_option maxHeartbeats 12800000 in
theorem refParse6_any (s : ByteArray) (hl : s.size ≤ 4294967280) (w : World) :
    Calls Tryz.prog 116 #[.string s] w fun e w' => e = .returned (.tuple #[insV (parseT opR s.data.toList).1, .bool (decide ((parseT opR s.data.toList).2 = 0))]) ∧ Keeps w w' [] := by
  have hwords := fun w => refWords_any s hl w
  have hnum := split_num s.data.toList
  have hsl : s.data.toList.length = s.size := rfl
  have hne := splitT_ne s.data.toList
  have hC0 : cand opR s.data.toList = insW (namedT ((splitT s.data.toList).headD [])) (argsW opR (kindsOf (namedT ((splitT s.data.toList).headD []))) (splitT s.data.toList)) := rfl
  generalize splitT s.data.toList = ws at *
  obtain ⟨n, hn⟩ : ∃ n, ws.length = n + 1 := ⟨ws.length - 1, by have := List.length_pos_iff.2 hne; omega⟩
  obtain ⟨b0, hb0⟩ : ∃ b0, ws[0]? = some b0 := ⟨ws[0]'(by omega), List.getElem?_eq_getElem _⟩
  obtain ⟨op, hop⟩ : ∃ op, namedT b0 = op := ⟨_, rfl⟩
  have hcand : cand opR s.data.toList = insW op (argsW opR (kindsOf op) ws) := by
    have hh : ws.headD [] = b0 := by
      cases ws with
      | nil => simp at hn
      | cons x r => simp at hb0; subst hb0; rfl
    rw [hC0, hh, hop]
  have HC := Lib.hid hcand
  have HWn := Lib.hid hn
  have HNe := Lib.hid hne
  have HNm : Hid (∀ w, Calls Tryz.prog 56 #[.string (stB b0)] w fun e w' => e = .returned (.int .i64 op) ∧ Keeps w w' []) := fun w => by
    have := refNamed_any (stB b0) w
    rw [stB_list, hop] at this
    exact this
  have HK0 : Hid (Keeps w (w.alloc (.cells #[.int .i64 0, .int .i64 0, .int .i64 0, .int .i64 0, .int .i64 0] 72)) []) := (Keeps.refl w []).alloc _
  have HR0 : Hid (Blk (w.alloc (.cells #[.int .i64 0, .int .i64 0, .int .i64 0, .int .i64 0, .int .i64 0] 72)) w.heap.size 72 #[.int .i64 0, .int .i64 0, .int .i64 0, .int .i64 0, .int .i64 0]) := Blk.new w _ _
  have HS := Lib.hid (hwords (w.alloc (.cells #[.int .i64 0, .int .i64 0, .int .i64 0, .int .i64 0, .int .i64 0] 72)))
  clear hwords hcand hop hC0 hne
  go_enter Tryz.func116, Tryz.ntmps116
  go_wp2_with fail
  refine HS.out.mono ?_
  intro e w1 hmade
  obtain ⟨g, cg, rfl, k1, hg, hcells⟩ := own_strs hmade HNe.out
  have HCl := Lib.hid hcells
  have c1 := hcells 0 b0 hb0
  have HK1 := Lib.hid (HK0.out.trans k1)
  have HR1 := Lib.hid (HR0.out.keep k1 (by simp))
  have hs1 := k1.size
  simp at hs1
  rw [hn]
  clear hmade k1 hcells HK0 HR0
  go_wp2_with fail
  refine (HNm.out _).mono ?_
  rintro e w2 ⟨rfl, k2⟩
  have HK2 := Lib.hid ((HK1.out.trans k2).alloc (.cells #[.int .i64 op, .int .i64 0, .int .i64 0, .int .i64 0, .int .i64 0] 72))
  have HR2 := Lib.hid ((HR1.out.keep k2 (by simp)).alloc (.cells #[.int .i64 op, .int .i64 0, .int .i64 0, .int .i64 0, .int .i64 0] 72))
  have HI2 : Hid (Blk (w2.alloc (.cells #[.int .i64 op, .int .i64 0, .int .i64 0, .int .i64 0, .int .i64 0] 72)) w2.heap.size 72 (insC6 op [])) := Blk.new w2 _ _
  have HG2 : Hid (∀ t x, ws[t]? = some x → (w2.alloc (.cells #[.int .i64 op, .int .i64 0, .int .i64 0, .int .i64 0, .int .i64 0] 72)).cell? ⟨g, t, none⟩ = some (.string (stB x))) := fun t x h => ((k2.alloc (.cells #[.int .i64 op, .int .i64 0, .int .i64 0, .int .i64 0, .int .i64 0] 72)).cell (p := ⟨g, t, none⟩) hg (by simp)).trans (HCl.out t x h)
  have hs2 := k2.size
  clear c1 k2 HK1 HR1
  go_wp2_with fail
  refine (refKindsF_any op _).mono ?_
  rintro e w3 ⟨A, c, rfl, hN, k3, hfr⟩
  have hfr2 : ∀ b off, A = some ⟨b, off, none⟩ → w2.heap.size < b := fun b off h => by have := hfr b off h; simp at this; omega
  have HFR := Lib.hid hfr2
  have HN := Lib.hid hN
  have HK3 := Lib.hid (HK2.out.trans k3)
  have HR3 := Lib.hid (HR2.out.keep k3 (by simp))
  have HI3 := Lib.hid (HI2.out.keep k3 (by simp))
  have HG3 : Hid (∀ t x, ws[t]? = some x → w3.cell? ⟨g, t, none⟩ = some (.string (stB x))) := fun t x h => (k3.cell (p := ⟨g, t, none⟩) (by simp; omega) (by simp)).trans (HG2.out t x h)
  have hs3 := k3.size
  simp at hs3
  have hfew := kinds_few op
  obtain ⟨m, hm⟩ : ∃ m, (kindsOf op).length = m := ⟨_, rfl⟩
  have hal := argsW_len opR (kindsOf op) ws
  rw [hm] at hfew hal ⊢
  have HM := Lib.hid hm
  have HAt : Hid (∀ (j : Nat) (y : Int), (kindsOf op)[j]? = some y → (argsW opR (kindsOf op) ws).take (j + 1) = (argsW opR (kindsOf op) ws).take j ++ [match ws[j + 1]? with
    | some w => opR y.toNat w
    | none => 0]) := fun _ _ h => argsW_at opR _ h
  have HZr : Hid (∀ j, n ≤ j → insC6 op (argsW opR (kindsOf op) ws) = insC6 op ((argsW opR (kindsOf op) ws).take j)) := argsW_rest opR op (kindsOf op) ws n hn
  generalize argsW opR (kindsOf op) ws = AR at *
  clear k3 hN hfr hfr2 hm HK2 HR2 HI2 HG2
  go_wp2_with fail
  go_loopw [7] (fun i wr => ∃ j : Nat, j ≤ m ∧ j ≤ n ∧ i = .int .i64 j ∧ Blk wr w2.heap.size 72 (insC6 op (AR.take j)) ∧ Keeps w3 wr [w2.heap.size]) (fun i _ => m - (intOf i).toNat)
  case atStart => exact ⟨0, Nat.zero_le _, Nat.zero_le _, rfl, by rw [List.take_zero]; exact HI3.out, Keeps.refl _ _⟩
  case round =>
    clear HI3
    obtain ⟨j, hj, hjn, rfl, hi, kr⟩ := hrel
    have HIr := Lib.hid hi
    have HKr := Lib.hid kr
    have hsr := kr.size
    clear hi kr
    by_cases hgo : j < m ∧ j < n
    · obtain ⟨hlj, hln⟩ := hgo
      obtain ⟨b7, off7, y, hA7, hb7, hc7, hy⟩ := HN.out j (by rw [HM.out]; exact hlj)
      subst hA7
      have hfr7 := HFR.out b7 off7 rfl
      have hx1 := kinds_mem op y (List.mem_of_getElem? hy)
      obtain ⟨q, rfl⟩ := Int.eq_ofNat_of_zero_le (show 0 ≤ y by omega)
      have b1 : (j : Int) < (m : Int) := by omega
      have b0 : (0 : Int) ≤ (j : Int) := Int.natCast_nonneg _
      have b4 : (j : Int) < 4 := by omega
      have b5 : (j : Int) < (n : Int) := by omega
      have b6 : (n : Int) ≤ 4294967280 := by omega
      obtain ⟨wd, hx⟩ : ∃ wd, ws[j + 1]? = some wd := ⟨ws[j + 1]'(by omega), List.getElem?_eq_getElem _⟩
      have HStep := Lib.hid (HAt.out j q hy)
      simp only [hx, Int.toNat_natCast] at HStep
      obtain ⟨x, hxw⟩ : ∃ x, stB wd = x := ⟨_, rfl⟩
      have hwx : wd = x.data.toList := by rw [← hxw, stB_list]
      have q1 := (HKr.out.cell (p := ⟨b7, off7 + j, none⟩) hb7 (by simp; omega)).trans hc7
      have c9 : wr.cell? ⟨g, j + 1, none⟩ = some (.string x) := by
        have h9 := HG3.out (j + 1) wd hx
        rw [hxw] at h9
        exact (HKr.out.cell (p := ⟨g, j + 1, none⟩) (lt_cell6 h9) (by simp; omega)).trans h9
      subst hwx
      have hlt : (AR.take j).length = j := by rw [List.length_take]; omega
      have HLen := Lib.hid hlt
      have hi0 := HIr.out
      have f0 := hi0.frozen (1 + j)
      have c0 : World.cell? _ ⟨w2.heap.size, 1 + j, none⟩ = (insC6 op (AR.take j))[1 + j]? := hi0.cell (1 + j)
      obtain ⟨u5, hu5⟩ := insC6_at op (AR.take j) j (by omega)
      rw [hu5] at c0
      have hcl : (x.toList == [45]) = decide (x.data.toList = [45]) := by rw [ByteArray.toList_eq]; by_cases h : x.data.toList = [45] <;> simp [h]
      have hxl : x.data.toList.length = x.size := rfl
      have HC7 := Lib.hid hc7
      clear hy hc7 hx hxw hlt
      by_cases h45 : x.data.toList = [45]
      · have d0 : (x.toList == [45]) = true := by rw [hcl]; exact decide_eq_true h45
        have HE := Lib.hid (opR_dash (k := q) h45)
        clear hcl h45
        have HI6 := Lib.hid (hi0.set_ (1 + j) (.int .i64 65535))
        have HK6 := Lib.hid (HKr.out.setCell (p := ⟨w2.heap.size, 1 + j, none⟩) (.inl (by simp)) (.int .i64 65535))
        clear hi0 hu5
        go_wp2_with fail
        go_roundw
        case rel =>
          refine ⟨j + 1, by omega, by omega, by go_num, ?_, HK6.out⟩
          rw [HStep.out, HE.out]
          have := HI6.out
          rw [insC6_set op _ (AR.take j) j HLen.out (by omega)] at this
          exact this
        case measure => simp [intOf]; omega
      have d0 : (x.toList == [45]) = false := by rw [hcl]; exact decide_eq_false h45
      clear f0 c0 hi0
      by_cases h1 : 1 < x.size
      · have bl1 : (1 : Int) < (x.size : Int) := by omega
        have hh := head_of x (by omega)
        obtain ⟨u, hu⟩ : ∃ u, x[0] = u := ⟨_, rfl⟩
        rw [hu] at hh
        have hur := u.toNat_lt
        by_cases h88 : u = 88
        · subst h88
          have HE := Lib.hid (opR_X (k := q) h45 (by omega) hh)
          have HNu : Hid (Calls Tryz.prog 55 #[.string (x.extract 1 x.size)] wr fun e w' => e = .returned (.int .i64 (numT x.data.toList.tail)) ∧ Keeps wr w' []) := by
            have := refNumK_any (x.extract 1 x.size) wr
            rw [tail_of] at this
            exact this
          clear hcl h45 hh hxl hur
          generalize numT x.data.toList.tail = v at *
          go_wp2_with fail
          refine HNu.out.mono ?_
          rintro e w5 ⟨rfl, k5⟩
          have hi5 := HIr.out.keep k5 (by simp)
          have f5 := hi5.frozen (1 + j)
          have c5 : World.cell? _ ⟨w2.heap.size, 1 + j, none⟩ = (insC6 op (AR.take j))[1 + j]? := hi5.cell (1 + j)
          rw [hu5] at c5
          have HI6 := Lib.hid (hi5.set_ (1 + j) (.int .i64 v))
          have HK6 := Lib.hid ((HKr.out.trans (k5.to_ _)).setCell (p := ⟨w2.heap.size, 1 + j, none⟩) (.inl (by simp)) (.int .i64 v))
          clear k5 hi5 hu5
          go_wp2_with fail
          go_roundw
          case rel =>
            refine ⟨j + 1, by omega, by omega, by go_num, ?_, HK6.out⟩
            rw [HStep.out, HE.out]
            have := HI6.out
            rw [insC6_set op _ (AR.take j) j HLen.out (by omega)] at this
            exact this
          case measure => simp [intOf]; omega
        have e88 : ((u.toNat : Int) == 88) = false := (byte_eq (y := 88)).trans (decide_eq_false h88)
        by_cases h89 : u = 89
        · subst h89
          have HE := Lib.hid (opR_Y (k := q) h45 (by omega) hh)
          have HNu : Hid (Calls Tryz.prog 55 #[.string (x.extract 1 x.size)] wr fun e w' => e = .returned (.int .i64 (numT x.data.toList.tail)) ∧ Keeps wr w' []) := by
            have := refNumK_any (x.extract 1 x.size) wr
            rw [tail_of] at this
            exact this
          obtain ⟨nr1, nr2⟩ := numT_range x.data.toList.tail
          clear hcl h45 hh hxl hur
          generalize numT x.data.toList.tail = v at *
          by_cases hq1 : q = 1
          · subst hq1
            simp only [if_true] at HE
            go_wp2_with fail
            refine HNu.out.mono ?_
            rintro e w5 ⟨rfl, k5⟩
            have hi5 := HIr.out.keep k5 (by simp)
            have f5 := hi5.frozen (1 + j)
            have c5 : World.cell? _ ⟨w2.heap.size, 1 + j, none⟩ = (insC6 op (AR.take j))[1 + j]? := hi5.cell (1 + j)
            rw [hu5] at c5
            have HI6 := Lib.hid (hi5.set_ (1 + j) (.int .i64 v))
            have HK6 := Lib.hid ((HKr.out.trans (k5.to_ _)).setCell (p := ⟨w2.heap.size, 1 + j, none⟩) (.inl (by simp)) (.int .i64 v))
            have h7 := HI6.out
            have f7 := h7.frozen (1 + j)
            have c7 : World.cell? _ ⟨w2.heap.size, 1 + j, none⟩ = ((insC6 op (AR.take j)).setIfInBounds (1 + j) (.int .i64 v))[1 + j]? := h7.cell (1 + j)
            rw [Array.getElem?_setIfInBounds_self_of_lt (by show 1 + j < 5; omega)] at c7
            have q2 := (HK6.out.cell (p := ⟨b7, off7 + j, none⟩) hb7 (by simp; omega)).trans HC7.out
            have HI8 := Lib.hid (h7.set_ (1 + j) (.int .i64 (v + 16)))
            have HK8 := Lib.hid (HK6.out.setCell (p := ⟨w2.heap.size, 1 + j, none⟩) (.inl (by simp)) (.int .i64 (v + 16)))
            clear k5 hi5 hu5 h7
            go_wp2_with fail
            go_roundw
            case rel =>
              refine ⟨j + 1, by omega, by omega, by go_num, ?_, HK8.out⟩
              rw [HStep.out, HE.out]
              have := HI8.out
              rw [set_twice6, insC6_set op _ (AR.take j) j HLen.out (by omega)] at this
              exact this
            case measure => simp [intOf]; omega
          · have e1 : ((q : Int) == 1) = false := by simp; omega
            rw [if_neg hq1] at HE
            go_wp2_with fail
            refine HNu.out.mono ?_
            rintro e w5 ⟨rfl, k5⟩
            have hi5 := HIr.out.keep k5 (by simp)
            have f5 := hi5.frozen (1 + j)
            have c5 : World.cell? _ ⟨w2.heap.size, 1 + j, none⟩ = (insC6 op (AR.take j))[1 + j]? := hi5.cell (1 + j)
            rw [hu5] at c5
            have HI6 := Lib.hid (hi5.set_ (1 + j) (.int .i64 v))
            have HK6 := Lib.hid ((HKr.out.trans (k5.to_ _)).setCell (p := ⟨w2.heap.size, 1 + j, none⟩) (.inl (by simp)) (.int .i64 v))
            have q2 := (HK6.out.cell (p := ⟨b7, off7 + j, none⟩) hb7 (by simp; omega)).trans HC7.out
            clear k5 hi5 hu5
            go_wp2_with fail
            go_roundw
            case rel =>
              refine ⟨j + 1, by omega, by omega, by go_num, ?_, HK6.out⟩
              rw [HStep.out, HE.out]
              have := HI6.out
              rw [insC6_set op _ (AR.take j) j HLen.out (by omega)] at this
              exact this
            case measure => simp [intOf]; omega
        have e89 : ((u.toNat : Int) == 89) = false := (byte_eq (y := 89)).trans (decide_eq_false h89)
        have HE := Lib.hid (opR_num (k := q) h45 (fun h => h88 (by have := h.2; rw [hh] at this; injection this)) (fun h => h89 (by have := h.2; rw [hh] at this; injection this)))
        have HNu := Lib.hid (refNumK_any x wr)
        clear hcl h45 hh hxl hur h88 h89
        generalize numT x.data.toList = v at *
        go_wp2_with fail
        refine HNu.out.mono ?_
        rintro e w5 ⟨rfl, k5⟩
        have hi5 := HIr.out.keep k5 (by simp)
        have f5 := hi5.frozen (1 + j)
        have c5 : World.cell? _ ⟨w2.heap.size, 1 + j, none⟩ = (insC6 op (AR.take j))[1 + j]? := hi5.cell (1 + j)
        rw [hu5] at c5
        have HI6 := Lib.hid (hi5.set_ (1 + j) (.int .i64 v))
        have HK6 := Lib.hid ((HKr.out.trans (k5.to_ _)).setCell (p := ⟨w2.heap.size, 1 + j, none⟩) (.inl (by simp)) (.int .i64 v))
        clear k5 hi5 hu5
        go_wp2_with fail
        go_roundw
        case rel =>
          refine ⟨j + 1, by omega, by omega, by go_num, ?_, HK6.out⟩
          rw [HStep.out, HE.out]
          have := HI6.out
          rw [insC6_set op _ (AR.take j) j HLen.out (by omega)] at this
          exact this
        case measure => simp [intOf]; omega
      have bl1 : ¬ (1 : Int) < (x.size : Int) := by omega
      have HE := Lib.hid (opR_num (k := q) h45 (fun h => h1 (by omega)) (fun h => h1 (by omega)))
      have HNu := Lib.hid (refNumK_any x wr)
      clear hcl h45 hxl h1
      generalize numT x.data.toList = v at *
      go_wp2_with fail
      refine HNu.out.mono ?_
      rintro e w5 ⟨rfl, k5⟩
      have hi5 := HIr.out.keep k5 (by simp)
      have f5 := hi5.frozen (1 + j)
      have c5 : World.cell? _ ⟨w2.heap.size, 1 + j, none⟩ = (insC6 op (AR.take j))[1 + j]? := hi5.cell (1 + j)
      rw [hu5] at c5
      have HI6 := Lib.hid (hi5.set_ (1 + j) (.int .i64 v))
      have HK6 := Lib.hid ((HKr.out.trans (k5.to_ _)).setCell (p := ⟨w2.heap.size, 1 + j, none⟩) (.inl (by simp)) (.int .i64 v))
      clear k5 hi5 hu5
      go_wp2_with fail
      go_roundw
      case rel =>
        refine ⟨j + 1, by omega, by omega, by go_num, ?_, HK6.out⟩
        rw [HStep.out, HE.out]
        have := HI6.out
        rw [insC6_set op _ (AR.take j) j HLen.out (by omega)] at this
        exact this
      case measure => simp [intOf]; omega
    · have hstop : ¬ (j : Int) < (m : Int) ∨ ¬ (j : Int) < (n : Int) := by omega
      have hall : insC6 op (AR.take j) = insC6 op AR := by
        by_cases h : n ≤ j
        · exact (HZr.out j h).symm
        · rw [List.take_of_length_le (by omega)]
      rw [hall] at HIr
      have z1 := HIr.out
      have z2 := HR3.out.keep HKr.out (by simp; omega)
      have HKw := Lib.hid (HK3.out.past6 HKr.out (fun q hq => by simp at hq; omega))
      have hT := refText_any (insW op AR)
      have HV : Hid (parseT opR s.data.toList = if s.data.toList = [] ∨ insTxt (insW op AR) ≠ s.data.toList then (⟨0, 0, 0, 0, 0⟩, 17) else (insW op AR, 0)) := by show _ = _; rw [parseT, HC.out]
      rw [insC6_V] at hT
      obtain ⟨a0, a1, a2, a3, hC⟩ : ∃ a0 a1 a2 a3 : Int, insC6 op AR = #[.int .i64 op, .int .i64 a0, .int .i64 a1, .int .i64 a2, .int .i64 a3] := ⟨_, _, _, _, rfl⟩
      have HIV : Hid (insV (insW op AR) = .agg #[.int .i64 op, .int .i64 a0, .int .i64 a1, .int .i64 a2, .int .i64 a3]) := by show _ = _; rw [insC6_V, hC]
      rw [hC] at z1 hT
      have HT := Lib.hid hT
      have z3 : Blk wr w.heap.size 72 #[.int .i64 0, .int .i64 0, .int .i64 0, .int .i64 0, .int .i64 0] := z2
      have HZ2 := Lib.hid z3
      have HZ1 := Lib.hid z1
      have y0 := z1.cell 0
      have y1 := z1.cell 1
      have y2 := z1.cell 2
      have y3 := z1.cell 3
      have y4 := z1.cell 4
      have x0 := z2.frozen 0
      have x1 := z2.frozen 1
      have x2 := z2.frozen 2
      have x3 := z2.frozen 3
      have x4 := z2.frozen 4
      have v0 := z3.cell 0
      have v1 := z3.cell 1
      have v2 := z3.cell 2
      have v3 := z3.cell 3
      have v4 := z3.cell 4
      have b6 : (n : Int) ≤ 4294967280 := by omega
      have b4 : (j : Int) ≤ 4 := by omega
      clear z1 z2 z3 hC hT HIr hall hgo
      have hps : s.data.toList = [] → s.toList.isEmpty = true := fun h => by rw [ByteArray.toList_eq, h]; rfl
      have hpn : s.data.toList ≠ [] → s.toList.isEmpty = false := fun h => by rw [ByteArray.toList_eq]; simpa using h
      by_cases hjm : (j : Int) < (m : Int)
      · have hjn2 : ¬ (j : Int) < (n : Int) := by omega
        clear hstop
        by_cases hs0 : s.data.toList = []
        · have d0 := hps hs0
          have HE : Hid (parseT opR s.data.toList = (⟨0, 0, 0, 0, 0⟩, 17)) := HV.out.trans (if_pos (.inl hs0))
          clear hs0 hps hpn
          go_wp2_with fail
          have HB := Lib.hid (blk_fill HZ2.out 0 0 0 0 0)
          have HKf := Lib.hid (keeps_fill wr w.heap.size 0 0 0 0 0)
          dsimp only [fillW] at HB HKf
          clear x0 x1 x2 x3 x4 v0 v1 v2 v3 v4 y0 y1 y2 y3 y4
          generalize ((((((wr).setCell ⟨w.heap.size, 0, none⟩ (.int .i64 0)).setCell ⟨w.heap.size, 1, none⟩ (.int .i64 0)).setCell ⟨w.heap.size, 2, none⟩ (.int .i64 0)).setCell ⟨w.heap.size, 3, none⟩ (.int .i64 0)).setCell ⟨w.heap.size, 4, none⟩ (.int .i64 0)) = W at *
          have y0 := HB.out.cell 0
          have y1 := HB.out.cell 1
          have y2 := HB.out.cell 2
          have y3 := HB.out.cell 3
          have y4 := HB.out.cell 4
          refine bodyPost_ret (v := .tuple #[.agg #[.int .i64 0, .int .i64 0, .int .i64 0, .int .i64 0, .int .i64 0], .bool false]) (by simp [results, Tryz.results116, go_sem, y0, y1, y2, y3, y4]) rfl ⟨by rw [HE.out]; rfl, ?_⟩
          exact HKw.out.past6 HKf.out (fun q hq => by simp at hq; omega)
        · have d0 := hpn hs0
          clear x0 x1 x2 x3 x4 v0 v1 v2 v3 v4 hps hpn
          by_cases ht : insTxt (insW op AR) = s.data.toList
          · have d1 : ((stB (insTxt (insW op AR))).toList == s.toList) = true := bytes_eq.2 (by rw [stB_list, ht])
            have HE : Hid (parseT opR s.data.toList = (insW op AR, 0)) := HV.out.trans (if_neg (by rintro (h | h); exact hs0 h; exact h ht))
            clear hs0 ht
            generalize insTxt (insW op AR) = tx at *
            go_wp2_with (go_at_call 72; refine (HT.out _).mono ?_; rintro e w5 ⟨rfl, k5⟩; have z2 := HZ2.out.keep k5 (by simp); have HZ5 := Lib.hid z2; have HK5 := Lib.hid (HKw.out.trans k5); have y0 := (HZ1.out.keep k5 (by simp)).cell 0; have y1 := (HZ1.out.keep k5 (by simp)).cell 1; have y2 := (HZ1.out.keep k5 (by simp)).cell 2; have y3 := (HZ1.out.keep k5 (by simp)).cell 3; have y4 := (HZ1.out.keep k5 (by simp)).cell 4; have x0 := z2.frozen 0; have x1 := z2.frozen 1; have x2 := z2.frozen 2; have x3 := z2.frozen 3; have x4 := z2.frozen 4; have v0 := z2.cell 0; have v1 := z2.cell 1; have v2 := z2.cell 2; have v3 := z2.cell 3; have v4 := z2.cell 4; clear k5 z2)
            have HB := Lib.hid (blk_fill HZ5.out op a0 a1 a2 a3)
            have HKf := Lib.hid (keeps_fill w5 w.heap.size op a0 a1 a2 a3)
            dsimp only [fillW] at HB HKf
            clear x0 x1 x2 x3 x4 v0 v1 v2 v3 v4 y0 y1 y2 y3 y4
            generalize ((((((w5).setCell ⟨w.heap.size, 0, none⟩ (.int .i64 op)).setCell ⟨w.heap.size, 1, none⟩ (.int .i64 a0)).setCell ⟨w.heap.size, 2, none⟩ (.int .i64 a1)).setCell ⟨w.heap.size, 3, none⟩ (.int .i64 a2)).setCell ⟨w.heap.size, 4, none⟩ (.int .i64 a3)) = W at *
            have y0 := HB.out.cell 0
            have y1 := HB.out.cell 1
            have y2 := HB.out.cell 2
            have y3 := HB.out.cell 3
            have y4 := HB.out.cell 4
            refine bodyPost_ret (v := .tuple #[.agg #[.int .i64 op, .int .i64 a0, .int .i64 a1, .int .i64 a2, .int .i64 a3], .bool true]) (by simp [results, Tryz.results116, go_sem, y0, y1, y2, y3, y4]) rfl ⟨by rw [HE.out]; dsimp only; rw [HIV.out]; rfl, ?_⟩
            exact HK5.out.past6 HKf.out (fun q hq => by simp at hq; omega)
          · have d1 : ((stB (insTxt (insW op AR))).toList == s.toList) = false := by
              cases h : ((stB (insTxt (insW op AR))).toList == s.toList) with
              | false => rfl
              | true => exact absurd ((stB_list _).symm.trans (bytes_eq.1 h)) ht
            have HE : Hid (parseT opR s.data.toList = (⟨0, 0, 0, 0, 0⟩, 17)) := HV.out.trans (if_pos (.inr ht))
            clear hs0 ht
            generalize insTxt (insW op AR) = tx at *
            go_wp2_with (go_at_call 72; refine (HT.out _).mono ?_; rintro e w5 ⟨rfl, k5⟩; have z2 := HZ2.out.keep k5 (by simp); have HZ5 := Lib.hid z2; have HK5 := Lib.hid (HKw.out.trans k5); have y0 := (HZ1.out.keep k5 (by simp)).cell 0; have y1 := (HZ1.out.keep k5 (by simp)).cell 1; have y2 := (HZ1.out.keep k5 (by simp)).cell 2; have y3 := (HZ1.out.keep k5 (by simp)).cell 3; have y4 := (HZ1.out.keep k5 (by simp)).cell 4; have x0 := z2.frozen 0; have x1 := z2.frozen 1; have x2 := z2.frozen 2; have x3 := z2.frozen 3; have x4 := z2.frozen 4; have v0 := z2.cell 0; have v1 := z2.cell 1; have v2 := z2.cell 2; have v3 := z2.cell 3; have v4 := z2.cell 4; clear k5 z2)
            have HB := Lib.hid (blk_fill HZ5.out 0 0 0 0 0)
            have HKf := Lib.hid (keeps_fill w5 w.heap.size 0 0 0 0 0)
            dsimp only [fillW] at HB HKf
            clear x0 x1 x2 x3 x4 v0 v1 v2 v3 v4 y0 y1 y2 y3 y4
            generalize ((((((w5).setCell ⟨w.heap.size, 0, none⟩ (.int .i64 0)).setCell ⟨w.heap.size, 1, none⟩ (.int .i64 0)).setCell ⟨w.heap.size, 2, none⟩ (.int .i64 0)).setCell ⟨w.heap.size, 3, none⟩ (.int .i64 0)).setCell ⟨w.heap.size, 4, none⟩ (.int .i64 0)) = W at *
            have y0 := HB.out.cell 0
            have y1 := HB.out.cell 1
            have y2 := HB.out.cell 2
            have y3 := HB.out.cell 3
            have y4 := HB.out.cell 4
            refine bodyPost_ret (v := .tuple #[.agg #[.int .i64 0, .int .i64 0, .int .i64 0, .int .i64 0, .int .i64 0], .bool false]) (by simp [results, Tryz.results116, go_sem, y0, y1, y2, y3, y4]) rfl ⟨by rw [HE.out]; rfl, ?_⟩
            exact HK5.out.past6 HKf.out (fun q hq => by simp at hq; omega)
      · clear hstop
        by_cases hs0 : s.data.toList = []
        · have d0 := hps hs0
          have HE : Hid (parseT opR s.data.toList = (⟨0, 0, 0, 0, 0⟩, 17)) := HV.out.trans (if_pos (.inl hs0))
          clear hs0 hps hpn
          go_wp2_with fail
          have HB := Lib.hid (blk_fill HZ2.out 0 0 0 0 0)
          have HKf := Lib.hid (keeps_fill wr w.heap.size 0 0 0 0 0)
          dsimp only [fillW] at HB HKf
          clear x0 x1 x2 x3 x4 v0 v1 v2 v3 v4 y0 y1 y2 y3 y4
          generalize ((((((wr).setCell ⟨w.heap.size, 0, none⟩ (.int .i64 0)).setCell ⟨w.heap.size, 1, none⟩ (.int .i64 0)).setCell ⟨w.heap.size, 2, none⟩ (.int .i64 0)).setCell ⟨w.heap.size, 3, none⟩ (.int .i64 0)).setCell ⟨w.heap.size, 4, none⟩ (.int .i64 0)) = W at *
          have y0 := HB.out.cell 0
          have y1 := HB.out.cell 1
          have y2 := HB.out.cell 2
          have y3 := HB.out.cell 3
          have y4 := HB.out.cell 4
          refine bodyPost_ret (v := .tuple #[.agg #[.int .i64 0, .int .i64 0, .int .i64 0, .int .i64 0, .int .i64 0], .bool false]) (by simp [results, Tryz.results116, go_sem, y0, y1, y2, y3, y4]) rfl ⟨by rw [HE.out]; rfl, ?_⟩
          exact HKw.out.past6 HKf.out (fun q hq => by simp at hq; omega)
        · have d0 := hpn hs0
          clear x0 x1 x2 x3 x4 v0 v1 v2 v3 v4 hps hpn
          by_cases ht : insTxt (insW op AR) = s.data.toList
          · have d1 : ((stB (insTxt (insW op AR))).toList == s.toList) = true := bytes_eq.2 (by rw [stB_list, ht])
            have HE : Hid (parseT opR s.data.toList = (insW op AR, 0)) := HV.out.trans (if_neg (by rintro (h | h); exact hs0 h; exact h ht))
            clear hs0 ht
            generalize insTxt (insW op AR) = tx at *
            go_wp2_with (go_at_call 72; refine (HT.out _).mono ?_; rintro e w5 ⟨rfl, k5⟩; have z2 := HZ2.out.keep k5 (by simp); have HZ5 := Lib.hid z2; have HK5 := Lib.hid (HKw.out.trans k5); have y0 := (HZ1.out.keep k5 (by simp)).cell 0; have y1 := (HZ1.out.keep k5 (by simp)).cell 1; have y2 := (HZ1.out.keep k5 (by simp)).cell 2; have y3 := (HZ1.out.keep k5 (by simp)).cell 3; have y4 := (HZ1.out.keep k5 (by simp)).cell 4; have x0 := z2.frozen 0; have x1 := z2.frozen 1; have x2 := z2.frozen 2; have x3 := z2.frozen 3; have x4 := z2.frozen 4; have v0 := z2.cell 0; have v1 := z2.cell 1; have v2 := z2.cell 2; have v3 := z2.cell 3; have v4 := z2.cell 4; clear k5 z2)
            have HB := Lib.hid (blk_fill HZ5.out op a0 a1 a2 a3)
            have HKf := Lib.hid (keeps_fill w5 w.heap.size op a0 a1 a2 a3)
            dsimp only [fillW] at HB HKf
            clear x0 x1 x2 x3 x4 v0 v1 v2 v3 v4 y0 y1 y2 y3 y4
            generalize ((((((w5).setCell ⟨w.heap.size, 0, none⟩ (.int .i64 op)).setCell ⟨w.heap.size, 1, none⟩ (.int .i64 a0)).setCell ⟨w.heap.size, 2, none⟩ (.int .i64 a1)).setCell ⟨w.heap.size, 3, none⟩ (.int .i64 a2)).setCell ⟨w.heap.size, 4, none⟩ (.int .i64 a3)) = W at *
            have y0 := HB.out.cell 0
            have y1 := HB.out.cell 1
            have y2 := HB.out.cell 2
            have y3 := HB.out.cell 3
            have y4 := HB.out.cell 4
            refine bodyPost_ret (v := .tuple #[.agg #[.int .i64 op, .int .i64 a0, .int .i64 a1, .int .i64 a2, .int .i64 a3], .bool true]) (by simp [results, Tryz.results116, go_sem, y0, y1, y2, y3, y4]) rfl ⟨by rw [HE.out]; dsimp only; rw [HIV.out]; rfl, ?_⟩
            exact HK5.out.past6 HKf.out (fun q hq => by simp at hq; omega)
          · have d1 : ((stB (insTxt (insW op AR))).toList == s.toList) = false := by
              cases h : ((stB (insTxt (insW op AR))).toList == s.toList) with
              | false => rfl
              | true => exact absurd ((stB_list _).symm.trans (bytes_eq.1 h)) ht
            have HE : Hid (parseT opR s.data.toList = (⟨0, 0, 0, 0, 0⟩, 17)) := HV.out.trans (if_pos (.inr ht))
            clear hs0 ht
            generalize insTxt (insW op AR) = tx at *
            go_wp2_with (go_at_call 72; refine (HT.out _).mono ?_; rintro e w5 ⟨rfl, k5⟩; have z2 := HZ2.out.keep k5 (by simp); have HZ5 := Lib.hid z2; have HK5 := Lib.hid (HKw.out.trans k5); have y0 := (HZ1.out.keep k5 (by simp)).cell 0; have y1 := (HZ1.out.keep k5 (by simp)).cell 1; have y2 := (HZ1.out.keep k5 (by simp)).cell 2; have y3 := (HZ1.out.keep k5 (by simp)).cell 3; have y4 := (HZ1.out.keep k5 (by simp)).cell 4; have x0 := z2.frozen 0; have x1 := z2.frozen 1; have x2 := z2.frozen 2; have x3 := z2.frozen 3; have x4 := z2.frozen 4; have v0 := z2.cell 0; have v1 := z2.cell 1; have v2 := z2.cell 2; have v3 := z2.cell 3; have v4 := z2.cell 4; clear k5 z2)
            have HB := Lib.hid (blk_fill HZ5.out 0 0 0 0 0)
            have HKf := Lib.hid (keeps_fill w5 w.heap.size 0 0 0 0 0)
            dsimp only [fillW] at HB HKf
            clear x0 x1 x2 x3 x4 v0 v1 v2 v3 v4 y0 y1 y2 y3 y4
            generalize ((((((w5).setCell ⟨w.heap.size, 0, none⟩ (.int .i64 0)).setCell ⟨w.heap.size, 1, none⟩ (.int .i64 0)).setCell ⟨w.heap.size, 2, none⟩ (.int .i64 0)).setCell ⟨w.heap.size, 3, none⟩ (.int .i64 0)).setCell ⟨w.heap.size, 4, none⟩ (.int .i64 0)) = W at *
            have y0 := HB.out.cell 0
            have y1 := HB.out.cell 1
            have y2 := HB.out.cell 2
            have y3 := HB.out.cell 3
            have y4 := HB.out.cell 4
            refine bodyPost_ret (v := .tuple #[.agg #[.int .i64 0, .int .i64 0, .int .i64 0, .int .i64 0, .int .i64 0], .bool false]) (by simp [results, Tryz.results116, go_sem, y0, y1, y2, y3, y4]) rfl ⟨by rw [HE.out]; rfl, ?_⟩
            exact HK5.out.past6 HKf.out (fun q hq => by simp at hq; omega)

end Go.Proofs.YtpcihhdalofdiaaGreatDoor
