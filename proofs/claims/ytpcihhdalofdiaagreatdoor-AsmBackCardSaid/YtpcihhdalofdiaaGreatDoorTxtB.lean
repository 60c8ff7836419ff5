/- Instructions in words: the program's Text. -/
import Derived.Test.YtpcihhdalofdiaaGreatDoorTxt
import Derived.Test.YtpcihhdalofdiaaGreatDoorOpF
namespace Go.Proofs.YtpcihhdalofdiaaGreatDoor
open Go.RowKit

theorem own_room6 {w : World} {base n c size : Nat} {e : TypeId} {A : Option Addr} {xs : List Value} (h : w.ownsRow base e size (.slice A n c) n xs) : n ≤ c ∧ ∀ a, A = some a → a.block < w.heap.size := by
  rcases h.2 with ⟨h2, h3⟩ | ⟨g, cap, cur, hv, hb, hg, hn, _⟩
  · injection h2 with h4 h5 h6
    subst h4
    exact ⟨by omega, fun a ha => by cases ha⟩
  · injection hv with h4 h5 h6
    subst h4 h6
    refine ⟨hn, fun a ha => ?_⟩
    injection ha with ha
    subst ha
    exact (Array.getElem?_eq_some_iff.1 hg).1
theorem el_str : ElemT Tryz.prog 22 9 1 := elemT_of (b := 16) (z := .string ⟨#[]⟩) Tryz.underlying22 (by kernel_rfl) (by omega) rfl (by omega)
theorem join_is : ∀ ws : List Txt, Lib.join ws [32] = joinT ws
  | [] => rfl
  | [x] => by rw [Lib.join_one, joinT]
  | x :: y :: l => by
    have ih := join_is (y :: l)
    rw [Lib.join_cons] at ih ⊢
    rw [joinT, ← ih]
    simp [Lib.joinTail]
theorem joinT_len {M : Nat} : ∀ ws : List Txt, (∀ w ∈ ws, w.length ≤ M) → (joinT ws).length ≤ ws.length * (M + 1)
  | [], _ => by simp [joinT]
  | [x], h => by have := h x (by simp); rw [joinT]; simp; omega
  | x :: y :: l, h => by
    have h1 := h x (by simp)
    have h2 := joinT_len (y :: l) (fun w hw => h w (by simp [hw]))
    have h3 : (x :: y :: l).length * (M + 1) = (y :: l).length * (M + 1) + (M + 1) := by rw [List.length_cons, Nat.succ_mul]
    rw [joinT, List.length_append, List.length_cons, h3]
    omega
theorem names_len : ∀ k : Nat, k < 27 → (nameT (k : Int)).length ≤ 10 := by decide +kernel
theorem opTxt_len {k n : Nat} (h : n ≤ 65535) : (opTxt k n).length ≤ 8 := by
  have h1 := fun m (hm : m ≤ 65535) => (digits_len m hm).2
  unfold opTxt
  split
  · have := h1 (n - 16) (by omega); simp; omega
  · split
    · have := h1 n h; simp; omega
    · split
      · have := h1 n h; simp; omega
      · split
        · simp
        · have := h1 n h; omega
theorem words_len {i : LIns} (h : insOk i = true) : ∀ w ∈ wordsOf i, w.length ≤ 10 := by
  intro w hw
  simp only [wordsOf, List.mem_cons, List.mem_map, List.mem_range] at hw
  have hop : opIn i.op = true := by simp only [insOk, Bool.and_eq_true] at h; exact h.1
  simp only [opIn, Bool.and_eq_true, decide_eq_true_eq] at hop
  rcases hw with rfl | ⟨j, hj, rfl⟩
  · obtain ⟨k, hk⟩ := Int.eq_ofNat_of_zero_le hop.1
    rw [hk]
    exact names_len k (by omega)
  · have := insOk_arg6 h hj
    exact Nat.le_trans (opTxt_len (by omega)) (by omega)
theorem words_count (i : LIns) : (wordsOf i).length ≤ 5 := by
  have := kinds_few i.op
  simp [wordsOf]
  omega
theorem words_at {i : LIns} {j q : Nat} (hy : (kindsOf i.op)[j]? = some (q : Int)) : (wordsOf i)[j + 1]? = some (opTxt q (i.arg j).toNat) := by
  have hj := (List.getElem?_eq_some_iff.1 hy).1
  rw [wordsOf, List.getElem?_cons_succ, List.getElem?_map, List.getElem?_range hj]
  simp only [Option.map_some]
  rw [List.getD_eq_getElem?_getD, hy]
  rfl
theorem words_one (i : LIns) : (wordsOf i).take 1 = [nameT i.op] := rfl
theorem words_num (i : LIns) : (wordsOf i).length = (kindsOf i.op).length + 1 := by simp [wordsOf]
attribute [local irreducible] kindsOf nameOf wordsOf opTxt
set_option maxRecDepth 100000 in
set_option maxHeartbeats 1600000 in
theorem ptext_any (i : LIns) (w : World) (ht : Tab w) : Calls Tryz.prog 65 #[insV i] w fun e w' => e = .returned (.string (stB (insTxt i))) ∧ Keeps w w' [] := by
  have HT := Lib.hid ht
  clear ht
  have HB0 : Hid (Blk (w.alloc (.cells #[.int .i64 i.op, .int .i64 i.a0, .int .i64 i.a1, .int .i64 i.a2, .int .i64 i.a3] 79)) w.heap.size 79 #[.int .i64 i.op, .int .i64 i.a0, .int .i64 i.a1, .int .i64 i.a2, .int .i64 i.a3]) := Blk.new _ _ _
  have HK0 : Hid (Keeps w (w.alloc (.cells #[.int .i64 i.op, .int .i64 i.a0, .int .i64 i.a1, .int .i64 i.a2, .int .i64 i.a3] 79)) []) := (Keeps.refl _ []).alloc _
  have HR := Lib.hid (right6_any i)
  unfold insV at HR ⊢
  go_enter Tryz.func65, Tryz.ntmps65
  cases hok : insOk i with
  | false =>
    have HV : Hid (insTxt i = []) := by show _ = _; rw [insTxt, if_neg (by rw [hok]; simp)]
    rw [hok] at HR
    go_wp2_with (go_at_call 61; refine (HR.out _).mono ?_; rintro e w1 ⟨rfl, k1⟩)
    go_ret
    exact ⟨by rw [HV.out]; rfl, HK0.out.trans k1⟩
  | true =>
    have HV : Hid (insTxt i = joinT (wordsOf i)) := if_pos hok
    have HArg := Lib.hid (fun (k : Nat) hk => insOk_arg6 hok (k := k) hk)
    have HLen := Lib.hid (joinT_len (wordsOf i) (words_len hok))
    have HCnt := Lib.hid (words_count i)
    rw [hok] at HR
    clear hok
    go_wp2_with (go_at_call 61; refine (HR.out _).mono ?_; rintro e w1 ⟨rfl, k1⟩; have HB1 := Lib.hid (HB0.out.keep k1 (by simp)); have HK1 := Lib.hid (HK0.out.trans k1); have p0 := HB1.out.cell 0; clear k1 HB0 HK0)
    refine (name6_any i.op _).mono ?_
    rintro e w2 ⟨rfl, k2⟩
    have HB2 := Lib.hid ((HB1.out.keep k2 (by simp)).alloc (.cells #[.string (nameOf i.op)] 9))
    have HK2 := Lib.hid ((HK1.out.trans k2).alloc (.cells #[.string (nameOf i.op)] 9))
    have ho2 : (w2.alloc (.cells #[.string (nameOf i.op)] 9)).ownsRow w.heap.size 9 1 (.slice (some ⟨w2.heap.size, 0, none⟩) 1 1) 1 [.string (nameOf i.op)] := World.ownsRow_lit w2 #[.string (nameOf i.op)] 1 (by have := HK1.out.size; have := k2.size; omega) (by unfold maxLen; omega) rfl
    have HO2 := Lib.hid ho2
    have p0' := HB2.out.cell 0
    clear k2 ho2 p0 HB1 HK1
    go_wp2_with fail
    refine (kindsF_any i.op _).mono ?_
    rintro e w3 ⟨A5, c5, rfl, hN, k3, hfr⟩
    have hfr2 : ∀ b off, A5 = some ⟨b, off, none⟩ → w2.heap.size < b := fun b off h => by have := hfr b off h; simp at this; omega
    have hsz3 : w2.heap.size < w3.heap.size := by have := k3.size; simp at this; omega
    have HB3 := Lib.hid (HB2.out.keep k3 (by simp))
    have HK3 := Lib.hid (HK2.out.trans k3)
    have HO3 := Lib.hid (own_keep0 HO2.out k3)
    have HN := Lib.hid hN
    have HFR := Lib.hid hfr2
    have hfew := kinds_few i.op
    have HWs : Hid (∀ (j q : Nat), (kindsOf i.op)[j]? = some (q : Int) → (wordsOf i)[j + 1]? = some (opTxt q (i.arg j).toNat)) := fun j q h => words_at h
    have HW0 : Hid ((wordsOf i).take 1 = [nameT i.op]) := words_one i
    obtain ⟨m, hm⟩ : ∃ m, (kindsOf i.op).length = m := ⟨_, rfl⟩
    have hwl : (wordsOf i).length = m + 1 := by rw [words_num, hm]
    rw [hm] at hfew ⊢
    have HM := Lib.hid hm
    clear k3 hN hm p0' HB2 HK2 HO2 hfr hfr2
    go_wp2_with fail
    go_loopw [3, 17] (fun v i9 wr => ∃ j : Nat, j ≤ m ∧ i9 = .int .i64 j ∧ ∃ A c, v = .slice A (j + 1) c ∧ wr.ownsRow w.heap.size 9 1 (.slice A (j + 1) c) (j + 1) (((wordsOf i).take (j + 1)).map fun x => Value.string (stB x)) ∧ (∀ q, (Value.slice A (j + 1) c).ownBlock = some q → q = w2.heap.size ∨ w3.heap.size ≤ q) ∧ Blk wr w.heap.size 79 #[.int .i64 i.op, .int .i64 i.a0, .int .i64 i.a1, .int .i64 i.a2, .int .i64 i.a3] ∧ Keeps w wr [] ∧ Keeps w3 wr [w2.heap.size]) (fun _ i9 _ => m - (intOf i9).toNat)
    case atStart => exact ⟨0, Nat.zero_le _, rfl, _, _, rfl, by rw [HW0.out]; have := HO3.out; simpa [stB_of, nameT] using this, fun q hq => by simp [Value.ownBlock] at hq; exact .inl hq.symm, HB3.out, HK3.out, Keeps.refl _ _⟩
    case round =>
      clear HB3 HK3 HO3
      obtain ⟨j, hj, rfl, A, c, rfl, hown, hq, hb, hk, hk3⟩ := hrel
      have HO := Lib.hid hown
      have HQ := Lib.hid hq
      have HB := Lib.hid hb
      have HK := Lib.hid hk
      have HK3 := Lib.hid hk3
      clear hown hq hb hk hk3
      by_cases hlj : j < m
      · obtain ⟨b7, off7, y, hA7, hb7, hc7, hy⟩ := HN.out j (by rw [HM.out]; exact hlj)
        subst hA7
        have hfr7 := HFR.out b7 off7 rfl
        have hx1 := kinds_mem i.op y (List.mem_of_getElem? hy)
        obtain ⟨q, rfl⟩ := Int.eq_ofNat_of_zero_le (show 0 ≤ y by omega)
        have q1 := (HK3.out.cell (p := ⟨b7, off7 + j, none⟩) hb7 (by simp; omega)).trans hc7
        have q2 := ins_cell HB.out j (by omega)
        have ha := HArg.out j (by rw [HM.out]; exact hlj)
        have HWj := Lib.hid (HWs.out j q hy)
        obtain ⟨nv, hnv⟩ := Int.eq_ofNat_of_zero_le ha.1
        rw [hnv] at q2 ha
        have hn2 : (i.arg j).toNat = nv := by omega
        rw [hn2] at HWj
        have b0 : (0 : Int) ≤ (j : Int) := Int.natCast_nonneg _
        have b1 : (j : Int) < (m : Int) := by omega
        have b4 : (j : Int) < 4 := by omega
        have HTx := Lib.hid (text_any q nv (by omega) wr (HT.out.keep HK.out))
        clear hy hc7 hnv hn2
        go_wp2_with (first
          | (go_at_call 96; refine HTx.out.mono ?_; rintro e w4 ⟨rfl, k4⟩; have K5 := k4.alloc (.cells #[.string (stB (opTxt q nv))] 9))
          | (at_builtin; refine wpList_app _ el_str rfl (.tmp 22) (.tmp 29) rfl w.heap.size A (j + 1) c _ rfl (own_keep0 HO.out K5) (some ⟨w4.heap.size, 0, none⟩) 1 1 [.string (stB (opTxt q nv))] rfl (Rd.one w4 _ [.string (stB (opTxt q nv))]) rfl (by simp) (by simp [Value.oneCell']) (by omega) (by simp; have := HK.out.size; have := k4.size; omega) ?_; intro A' c' w9 hown hgrow hat; have ho4 := own_keep0 HO.out K5; have HB9 := Lib.hid (blk_far (HB.out.keep K5 (by simp)) ho4 (by decide) hgrow); have HK9 := Lib.hid ((HK.out.trans K5).app ho4 (Nat.le_refl _) hgrow); have HK39 := Lib.hid ((HK3.out.trans (K5.to_ _)).grown hgrow (fun p hp => (HQ.out p hp).elim (fun h => .inl (by simp [h])) .inr))))
        go_roundw
        case rel =>
          refine ⟨j + 1, by omega, by go_num, A', c', rfl, ?_, ?_, HB9.out, HK9.out, HK39.out⟩
          · rw [List.take_add_one (i := j + 1), HWj.out, List.map_append]
            exact hown
          · intro p hp
            rcases hat with h | h
            · rw [hp] at h
              exact HQ.out p h.symm
            · rw [hp] at h
              injection h with h
              right
              have := HK3.out.size
              have := k4.size
              simp at h
              omega
        case measure => simp [intOf]; omega
      · obtain rfl : m = j := by omega
        obtain ⟨g, hAg⟩ : ∃ g, A = some ⟨g, 0, none⟩ := by
          rcases HO.out.2 with ⟨h2, h3⟩ | ⟨g, cap, cur, h2, _⟩
          · omega
          · injection h2 with h2
            exact ⟨g, h2⟩
        subst hAg
        have hrd := Rd.of_own HO.out
        have hroom := own_room6 HO.out
        rw [List.take_of_length_le (by omega)] at hrd
        have hj := Tryz.strings_Join g 0 c ((wordsOf i).map stB) ⟨#[32]⟩ wr (fun t x hx => by
          obtain ⟨b, off, v, e, _, hc, hv⟩ := hrd t (by rw [List.length_map]; have := (List.getElem?_eq_some_iff.1 hx).1; simpa using this)
          injection e with e
          injection e with e1 e2
          subst e1 e2
          rw [hc, ← hv]
          simp only [List.getElem?_map] at hx ⊢
          cases h9 : (wordsOf i)[t]? with
          | none => rw [h9] at hx; cases hx
          | some z => rw [h9] at hx; simp at hx ⊢; exact hx) (hroom.2 _ rfl) (by rw [List.length_map]; omega) (by rw [List.length_map]; omega) (by
          have : ((wordsOf i).map stB).map (·.data.toList) = wordsOf i := by simp [List.map_map, Function.comp_def, stB_list]
          rw [this]
          have h2 := HLen.out
          have h3 := join_is (wordsOf i)
          show (Lib.join (wordsOf i) [32]).length ≤ _
          rw [h3]
          omega)
        rw [List.length_map, hwl] at hj
        have hjt : (⟨(Lib.join (((wordsOf i).map stB).map (·.data.toList)) (ByteArray.mk #[32]).data.toList).toArray⟩ : ByteArray) = stB (insTxt i) := by
          have : ((wordsOf i).map stB).map (·.data.toList) = wordsOf i := by simp [List.map_map, Function.comp_def, stB_list]
          rw [this, HV.out, ← join_is]
          rfl
        rw [hjt] at hj
        have HJ := Lib.hid hj
        clear hj hrd hjt
        go_wp2_with fail
        refine HJ.out.mono ?_
        rintro e w9 ⟨rfl, bel⟩
        go_wp2_with fail
        go_ret
        exact ⟨rfl, HK.out.trans (Keeps.nil_of bel)⟩
end Go.Proofs.YtpcihhdalofdiaaGreatDoor
