/- Instructions in words: the program's Parse. -/
import Derived.Test.YtpcihhdalofdiaaGreatDoorTxtD
namespace Go.Proofs.YtpcihhdalofdiaaGreatDoor
open Go.RowKit

theorem split_all : ∀ l : Txt, Lib.splitK [32] 0 (Lib.count l [32]) l = splitT l
  | [] => by
    rw [Lib.count_miss (by simp [Lib.index])]
    rfl
  | c :: l => by
    have ih := split_all l
    by_cases hc : c = 32
    · subst hc
      have hix : Lib.index (32 :: l) [32] = 0 := by rw [Lib.index]; simp [List.isPrefixOf]
      rw [Lib.count_cons_eq, Nat.add_comm, Lib.splitK, hix, splitT, if_pos rfl, ← ih]
      simp
    · have hix : Lib.index (c :: l) [32] = if Lib.index l [32] == -1 then -1 else Lib.index l [32] + 1 := by rw [Lib.index]; simp [List.isPrefixOf, Ne.symm hc]
      rw [Lib.count_cons_ne c 32 l hc, splitT, if_neg hc]
      rcases Lib.index_ge l [32] |> (fun h => (show Lib.index l [32] = -1 ∨ 0 ≤ Lib.index l [32] by omega)) with hm | hm
      · rw [Lib.count_miss hm] at ih ⊢
        rw [← ih]
        rfl
      · obtain ⟨j, hj⟩ := Int.eq_ofNat_of_zero_le hm
        have hcn := Lib.count_hit (sub := [32]) (by simp) hj
        have n1 : ¬ (((j : Nat) : Int) == -1) = true := by simp
        rw [hcn, Nat.add_comm, Lib.splitK, hj, if_neg n1] at ih
        rw [hcn, Nat.add_comm, Lib.splitK, hix, hj, if_neg n1]
        rw [← ih]
        have e2 : ((j : Int) + 1).toNat = j + 1 := by omega
        have n2 : ¬ (((j : Nat) : Int) + 1 == -1) = true := by simp; omega
        rw [if_neg n2, e2]
        simp
theorem split_len : ∀ (l : Txt), ∀ w ∈ splitT l, w.length ≤ l.length
  | [], w, h => by simp [splitT] at h; simp [h]
  | c :: l, w, h => by
    have ih := split_len l
    rw [splitT] at h
    split at h
    · rcases List.mem_cons.1 h with rfl | h
      · simp
      · have := ih w h; simp; omega
    · revert h
      cases hl : splitT l with
      | nil => exact absurd hl (splitT_ne l)
      | cons x r =>
        intro h
        rw [hl] at ih
        rcases List.mem_cons.1 h with rfl | h
        · have := ih x (by simp); simp; omega
        · have := ih w (by simp [h]); simp; omega
/-- What Split hands back, as texts. -/
theorem splitB_all6 (s : ByteArray) : (Lib.splitB ⟨#[32]⟩ 0 (Lib.countB s ⟨#[32]⟩) s).map (·.data.toList) = splitT s.data.toList := by
  rw [Lib.splitB_data]
  exact split_all _
theorem Keeps.past6 {a b c : World} {S T : List Nat} (h : Keeps a b S) (k : Keeps b c T) (hT : ∀ q, q ∈ T → q ∈ S ∨ a.heap.size ≤ q) : Keeps a c S :=
  ⟨k.os.trans h.os, k.tape.trans h.tape, k.output.trans h.output, Nat.le_trans h.size k.size, fun i hi hn => (k.block i (Nat.lt_of_lt_of_le hi h.size) (fun hm => by
    rcases hT i hm with h' | h'
    · exact hn h'
    · omega)).trans (h.block i hi hn)⟩
def insC6 (op : Int) (l : List Int) : Array Value := #[.int .i64 op, .int .i64 (l.getD 0 0), .int .i64 (l.getD 1 0), .int .i64 (l.getD 2 0), .int .i64 (l.getD 3 0)]
theorem insC6_set (op v : Int) (l : List Int) (j : Nat) (hl : l.length = j) (hj : j < 4) : (insC6 op l).setIfInBounds (1 + j) (.int .i64 v) = insC6 op (l ++ [v]) := by
  subst hl
  match l, hj with
  | [], _ => rfl
  | [a], _ => rfl
  | [a, b], _ => rfl
  | [a, b, c], _ => rfl
theorem insC6_zero (op : Int) (l : List Int) : insC6 op (l ++ [0]) = insC6 op l := by
  match l with
  | [] => rfl
  | [a] => rfl
  | [a, b] => rfl
  | [a, b, c] => rfl
  | a :: b :: c :: d :: l => simp [insC6]
theorem insC6_V (op : Int) (l : List Int) : insV (insW op l) = .agg (insC6 op l) := rfl
theorem insC6_at (op : Int) (l : List Int) (j : Nat) (hj : j < 4) : ∃ u, (insC6 op l)[1 + j]? = some (.int .i64 u) := by
  match j, hj with
  | 0, _ => exact ⟨_, rfl⟩
  | 1, _ => exact ⟨_, rfl⟩
  | 2, _ => exact ⟨_, rfl⟩
  | 3, _ => exact ⟨_, rfl⟩
theorem argsW_len (f : Nat → Txt → Int) (ks : List Int) (ws : List Txt) : (argsW f ks ws).length = ks.length := by simp [argsW]
theorem argsW_at (f : Nat → Txt → Int) {ks : List Int} (ws : List Txt) {j : Nat} {y : Int} (h : ks[j]? = some y) : (argsW f ks ws).take (j + 1) = (argsW f ks ws).take j ++ [match ws[j + 1]? with
    | some w => f y.toNat w
    | none => 0] := by
  have hj := (List.getElem?_eq_some_iff.1 h).1
  rw [List.take_add_one, argsW, List.getElem?_map, List.getElem?_range hj]
  simp only [Option.map_some]
  rw [List.getD_eq_getElem?_getD, h]
  rfl
abbrev fillW (w : World) (b : Nat) (o p q r t : Int) : World := ((((w.setCell ⟨b, 0, none⟩ (.int .i64 o)).setCell ⟨b, 1, none⟩ (.int .i64 p)).setCell ⟨b, 2, none⟩ (.int .i64 q)).setCell ⟨b, 3, none⟩ (.int .i64 r)).setCell ⟨b, 4, none⟩ (.int .i64 t)
theorem blk_fill {w : World} {b : Nat} {ty : TypeId} {o p q r t : Int} (h : Blk w b ty #[.int .i64 o, .int .i64 p, .int .i64 q, .int .i64 r, .int .i64 t]) (o' p' q' r' t' : Int) : Blk (fillW w b o' p' q' r' t') b ty #[.int .i64 o', .int .i64 p', .int .i64 q', .int .i64 r', .int .i64 t'] :=
  ((((h.set_ 0 (.int .i64 o')).set_ 1 (.int .i64 p')).set_ 2 (.int .i64 q')).set_ 3 (.int .i64 r')).set_ 4 (.int .i64 t')
theorem keeps_fill (w : World) (b : Nat) (o p q r t : Int) : Keeps w (fillW w b o p q r t) [b] :=
  (((((Keeps.refl w [b]).setCell (.inl (by simp)) _).setCell (.inl (by simp)) _).setCell (.inl (by simp)) _).setCell (.inl (by simp)) _).setCell (.inl (by simp)) _
attribute [local irreducible] kindsOf nameOf opP namedT splitT insTxt argsW
set_option maxRecDepth 100000 in
set_option maxHeartbeats 6400000 in
theorem parse6_any (s : ByteArray) (hl : s.size ≤ 4294967280) (w : World) (h : St w) :
    Calls Tryz.prog 132 #[.string s] w fun e w' => e = .returned (.tuple #[insV (parseT opP s.data.toList).1, .int .i64 (parseT opP s.data.toList).2]) ∧ Keeps w w' [] := by
  have HSt := Lib.hid h
  clear h
  have hsp := splitB_all6 s
  have hbl : (Lib.splitB ⟨#[32]⟩ 0 (Lib.countB s ⟨#[32]⟩) s).length = Lib.countB s ⟨#[32]⟩ + 1 := Lib.splitB_all _ (by decide) 0 _ s rfl
  have hS := fun (w : World) (hw : St w) => let ⟨m, hm⟩ := hw.most; Tryz.strings_Split s ⟨#[32]⟩ m w (by omega) hm (by decide)
  have hcl : Lib.countB s ⟨#[32]⟩ ≤ s.size := Lib.countB_le ⟨#[32]⟩ (by decide) _ s (Nat.le_refl _)
  have hwl : ∀ x ∈ Lib.splitB ⟨#[32]⟩ 0 (Lib.countB s ⟨#[32]⟩) s, x.size ≤ 281474976710656 := fun x hx => by
    have := split_len s.data.toList x.data.toList (by rw [← hsp]; exact List.mem_map.2 ⟨x, hx, rfl⟩)
    have e1 : x.data.toList.length = x.size := rfl
    have e2 : s.data.toList.length = s.size := rfl
    omega
  generalize Lib.splitB ⟨#[32]⟩ 0 (Lib.countB s ⟨#[32]⟩) s = BS at *
  generalize Lib.countB s ⟨#[32]⟩ = n at *
  obtain ⟨b0, hb0⟩ : ∃ b0, BS[0]? = some b0 := ⟨BS[0]'(by omega), List.getElem?_eq_getElem _⟩
  obtain ⟨op, hop⟩ : ∃ op, namedT b0.data.toList = op := ⟨_, rfl⟩
  have hcand : cand opP s.data.toList = insW op (argsW opP (kindsOf op) (BS.map (·.data.toList))) := by
    have hh : (BS.map (·.data.toList)).headD [] = b0.data.toList := by
      cases BS with
      | nil => simp at hbl
      | cons x r => simp at hb0; subst hb0; rfl
    rw [cand, ← hsp, hh, hop]
  have HC := Lib.hid hcand
  have HBS := Lib.hid hbl
  have HW := Lib.hid hwl
  have HNm : Hid (∀ w, Calls Tryz.prog 80 #[.string b0] w fun e w' => e = .returned (.int .i64 op) ∧ Keeps w w' []) := fun w => by
    have := named6_any b0 w
    rw [hop] at this
    exact this
  have HK0 : Hid (Keeps w (w.alloc (.cells #[.int .i64 0, .int .i64 0, .int .i64 0, .int .i64 0, .int .i64 0] 79)) []) := (Keeps.refl w []).alloc _
  have HR0 : Hid (Blk (w.alloc (.cells #[.int .i64 0, .int .i64 0, .int .i64 0, .int .i64 0, .int .i64 0] 79)) w.heap.size 79 #[.int .i64 0, .int .i64 0, .int .i64 0, .int .i64 0, .int .i64 0]) := Blk.new w _ _
  have HS := Lib.hid (hS _ (HSt.out.keep HK0.out))
  have HB1 : Hid (Blk ((w.alloc (.cells #[.int .i64 0, .int .i64 0, .int .i64 0, .int .i64 0, .int .i64 0] 79)).alloc (.cells (BS.map Value.string).toArray 9)) (w.heap.size + 1) 9 (BS.map Value.string).toArray) := Blk.atNew _ _ (by simp)
  have HK1 := Lib.hid (HK0.out.alloc (.cells (BS.map Value.string).toArray 9))
  have HR1 := Lib.hid (HR0.out.alloc (.cells (BS.map Value.string).toArray 9))
  clear hS hwl hcand hop hsp
  go_enter Tryz.func132, Tryz.ntmps132
  go_wp2_with fail
  refine HS.out.mono ?_
  rintro e w1 ⟨rfl, rfl⟩
  rw [World.size_alloc]
  have c1 := HB1.out.cell 0
  simp only [List.getElem?_toArray, List.getElem?_map, hb0, Option.map_some] at c1
  go_wp2_with fail
  refine (HNm.out _).mono ?_
  rintro e w2 ⟨rfl, k2⟩
  have HB2 := Lib.hid ((HB1.out.keep k2 (by simp)).alloc (.cells #[.int .i64 op, .int .i64 0, .int .i64 0, .int .i64 0, .int .i64 0] 79))
  have HK2 := Lib.hid ((HK1.out.trans k2).alloc (.cells #[.int .i64 op, .int .i64 0, .int .i64 0, .int .i64 0, .int .i64 0] 79))
  have HR2 := Lib.hid ((HR1.out.keep k2 (by simp)).alloc (.cells #[.int .i64 op, .int .i64 0, .int .i64 0, .int .i64 0, .int .i64 0] 79))
  have HI2 : Hid (Blk (w2.alloc (.cells #[.int .i64 op, .int .i64 0, .int .i64 0, .int .i64 0, .int .i64 0] 79)) w2.heap.size 79 (insC6 op [])) := Blk.new w2 _ _
  have hs2 := k2.size
  simp at hs2
  clear c1 k2 HB1 HK1 HR1 HK0 HR0
  go_wp2_with fail
  refine (kindsF_any op _).mono ?_
  rintro e w3 ⟨A, c, rfl, hN, k3, hfr⟩
  have hfr2 : ∀ b off, A = some ⟨b, off, none⟩ → w2.heap.size < b := fun b off h => by have := hfr b off h; simp at this; omega
  have HFR := Lib.hid hfr2
  have HN := Lib.hid hN
  have HB3 := Lib.hid (HB2.out.keep k3 (by simp))
  have HK3 := Lib.hid (HK2.out.trans k3)
  have HR3 := Lib.hid (HR2.out.keep k3 (by simp))
  have HI3 := Lib.hid (HI2.out.keep k3 (by simp))
  have hs3 := k3.size
  simp at hs3
  have hfew := kinds_few op
  obtain ⟨m, hm⟩ : ∃ m, (kindsOf op).length = m := ⟨_, rfl⟩
  have hal := argsW_len opP (kindsOf op) (BS.map (·.data.toList))
  rw [hm] at hfew hal ⊢
  have HM := Lib.hid hm
  have HAt : Hid (∀ (j : Nat) (y : Int), (kindsOf op)[j]? = some y → (argsW opP (kindsOf op) (BS.map (·.data.toList))).take (j + 1) = (argsW opP (kindsOf op) (BS.map (·.data.toList))).take j ++ [match (BS.map (·.data.toList))[j + 1]? with
    | some w => opP y.toNat w
    | none => 0]) := fun _ _ h => argsW_at opP _ h
  generalize argsW opP (kindsOf op) (BS.map (·.data.toList)) = AR at *
  clear k3 hN hfr hfr2 hm HB2 HK2 HR2 HI2
  go_wp2_with fail
  go_loopw [6, 7, 19] (fun v6 v7 i wr => ∃ j : Nat, j ≤ m ∧ i = .int .i64 j ∧ Blk wr w2.heap.size 79 (insC6 op (AR.take j)) ∧ Keeps w3 wr [w2.heap.size]) (fun _ _ i _ => m - (intOf i).toNat)
  case atStart => exact ⟨0, Nat.zero_le _, rfl, by rw [List.take_zero]; exact HI3.out, Keeps.refl _ _⟩
  case round =>
    clear HI3
    obtain ⟨j, hj, rfl, hi, kr⟩ := hrel
    have HIr := Lib.hid hi
    have HKr := Lib.hid kr
    clear hi kr
    by_cases hlj : j < m
    · obtain ⟨b7, off7, y, hA7, hb7, hc7, hy⟩ := HN.out j (by rw [HM.out]; exact hlj)
      subst hA7
      have hfr7 := HFR.out b7 off7 rfl
      have hx1 := kinds_mem op y (List.mem_of_getElem? hy)
      obtain ⟨q, rfl⟩ := Int.eq_ofNat_of_zero_le (show 0 ≤ y by omega)
      have q1 := (HKr.out.cell (p := ⟨b7, off7 + j, none⟩) hb7 (by simp; omega)).trans hc7
      have HStep := Lib.hid (HAt.out j q hy)
      have b1 : (j : Int) < (m : Int) := by omega
      have b0 : (0 : Int) ≤ (j : Int) := Int.natCast_nonneg _
      have b4 : (j : Int) < 4 := by omega
      clear hy hc7
      by_cases hjn : j < n
      · obtain ⟨x, hx⟩ : ∃ x, BS[j + 1]? = some x := ⟨BS[j + 1]'(by omega), List.getElem?_eq_getElem _⟩
        have HSt' := Lib.hid (HStep.out)
        simp only [List.getElem?_map, hx, Option.map_some, Int.toNat_natCast] at HSt'
        have HOp := Lib.hid (operand_any q x (HW.out x (List.mem_of_getElem? hx)) wr (HSt.out.keep (HK3.out.past6 HKr.out (fun q hq => by simp at hq; omega))))
        have cb := HB3.out.cell (j + 1)
        simp only [List.getElem?_toArray, List.getElem?_map, hx, Option.map_some] at cb
        have c9 := (HKr.out.cell (p := ⟨w.heap.size + 1, j + 1, none⟩) (by have := HB3.out.lt; exact this) (by simp; omega)).trans cb
        have b5 : (j : Int) < (n : Int) := by omega
        have b6 : (n : Int) ≤ 4294967280 := by omega
        generalize opP q x.data.toList = v at *
        clear cb hx HStep
        go_wp2_with fail
        refine HOp.out.mono ?_
        rintro e w5 ⟨rfl, k5⟩
        have hi5 := HIr.out.keep k5 (by simp)
        have f5 := hi5.frozen (1 + j)
        have c5 : World.cell? _ ⟨w2.heap.size, 1 + j, none⟩ = (insC6 op (AR.take j))[1 + j]? := hi5.cell (1 + j)
        obtain ⟨u5, hu5⟩ := insC6_at op (AR.take j) j (by omega)
        rw [hu5] at c5
        have HI6 := Lib.hid (hi5.set_ (1 + j) (.int .i64 v))
        have HK6 := Lib.hid ((HKr.out.trans (k5.to_ _)).setCell (p := ⟨w2.heap.size, 1 + j, none⟩) (.inl (by simp)) (.int .i64 v))
        have hlt : (AR.take j).length = j := by rw [List.length_take]; omega
        have HLen := Lib.hid hlt
        clear k5 hi5 hu5 hlt
        go_wp2_with fail
        go_roundw
        case rel =>
          refine ⟨j + 1, by omega, by go_num, ?_, HK6.out⟩
          rw [HSt'.out]
          have := HI6.out
          rw [insC6_set op v (AR.take j) j HLen.out (by omega)] at this
          exact this
        case measure => simp [intOf]; omega
      · have hx : BS[j + 1]? = none := List.getElem?_eq_none (by omega)
        have HSt' := Lib.hid (HStep.out)
        simp only [List.getElem?_map, hx, Option.map_none] at HSt'
        have b5 : ¬ (j : Int) < (n : Int) := by omega
        have b6 : (n : Int) ≤ 4294967280 := by omega
        clear hx HStep
        go_wp2_with fail
        go_roundw
        case rel =>
          refine ⟨j + 1, by omega, by go_num, ?_, HKr.out⟩
          rw [HSt'.out, insC6_zero]
          exact HIr.out
        case measure => simp [intOf]; omega
    · obtain rfl : m = j := by omega
      have hall : AR.take m = AR := List.take_of_length_le (by omega)
      rw [hall] at HIr
      have z1 := HIr.out
      have z2 := HR3.out.keep HKr.out (by simp; omega)
      have HKw := Lib.hid (HK3.out.past6 HKr.out (fun q hq => by simp at hq; omega))
      have HSr := Lib.hid (HSt.out.keep HKw.out)
      have hT := ptext_any (insW op AR)
      have HV : Hid (parseT opP s.data.toList = if s.data.toList = [] ∨ insTxt (insW op AR) ≠ s.data.toList then (⟨0, 0, 0, 0, 0⟩, 17) else (insW op AR, 0)) := by show _ = _; rw [parseT, HC.out]
      rw [insC6_V] at hT
      obtain ⟨a0, a1, a2, a3, hC⟩ : ∃ a0 a1 a2 a3 : Int, insC6 op AR = #[.int .i64 op, .int .i64 a0, .int .i64 a1, .int .i64 a2, .int .i64 a3] := ⟨_, _, _, _, rfl⟩
      have HIV : Hid (insV (insW op AR) = .agg #[.int .i64 op, .int .i64 a0, .int .i64 a1, .int .i64 a2, .int .i64 a3]) := by show _ = _; rw [insC6_V, hC]
      rw [hC] at z1 hT
      have HT := Lib.hid hT
      have z3 : Blk wr w.heap.size 79 #[.int .i64 0, .int .i64 0, .int .i64 0, .int .i64 0, .int .i64 0] := z2
      have HZ2 := Lib.hid z3
      have HZ1 := Lib.hid z1
      have y0 := z1.cell 0
      have y1 := z1.cell 1
      have y2 := z1.cell 2
      have y3 := z1.cell 3
      have y4 := z1.cell 4
      have x0 := z2.frozen 0
      have x1 := z2.frozen 1
      have x2 := z2.frozen 2
      have x3 := z2.frozen 3
      have x4 := z2.frozen 4
      have v0 := z3.cell 0
      have v1 := z3.cell 1
      have v2 := z3.cell 2
      have v3 := z3.cell 3
      have v4 := z3.cell 4
      clear z1 z2 z3 hC hT HIr
      by_cases hs0 : s.data.toList = []
      · have d0 : s.toList.isEmpty = true := by rw [ByteArray.toList_eq, hs0]; rfl
        have HE : Hid (parseT opP s.data.toList = (⟨0, 0, 0, 0, 0⟩, 17)) := HV.out.trans (if_pos (.inl hs0))
        clear hs0
        go_wp2_with fail
        have HB := Lib.hid (blk_fill HZ2.out 0 0 0 0 0)
        have HKf := Lib.hid (keeps_fill wr w.heap.size 0 0 0 0 0)
        dsimp only [fillW] at HB HKf
        clear x0 x1 x2 x3 x4 v0 v1 v2 v3 v4 y0 y1 y2 y3 y4
        generalize ((((((wr).setCell ⟨w.heap.size, 0, none⟩ (.int .i64 0)).setCell ⟨w.heap.size, 1, none⟩ (.int .i64 0)).setCell ⟨w.heap.size, 2, none⟩ (.int .i64 0)).setCell ⟨w.heap.size, 3, none⟩ (.int .i64 0)).setCell ⟨w.heap.size, 4, none⟩ (.int .i64 0)) = W at *
        have y0 := HB.out.cell 0
        have y1 := HB.out.cell 1
        have y2 := HB.out.cell 2
        have y3 := HB.out.cell 3
        have y4 := HB.out.cell 4
        refine bodyPost_ret (v := .tuple #[.agg #[.int .i64 0, .int .i64 0, .int .i64 0, .int .i64 0, .int .i64 0], .int .i64 17]) (by simp [results, Tryz.results132, go_sem, y0, y1, y2, y3, y4]) rfl ⟨by rw [HE.out]; rfl, ?_⟩
        exact HKw.out.past6 HKf.out (fun q hq => by simp at hq; omega)
      · have d0 : s.toList.isEmpty = false := by rw [ByteArray.toList_eq]; simpa using hs0
        clear x0 x1 x2 x3 x4 v0 v1 v2 v3 v4 y0 y1 y2 y3 y4
        have y0 := HZ1.out.cell 0
        have y1 := HZ1.out.cell 1
        have y2 := HZ1.out.cell 2
        have y3 := HZ1.out.cell 3
        have y4 := HZ1.out.cell 4
        by_cases ht : insTxt (insW op AR) = s.data.toList
        · have d1 : ((stB (insTxt (insW op AR))).toList == s.toList) = true := bytes_eq.2 (by rw [stB_list, ht])
          have HE : Hid (parseT opP s.data.toList = (insW op AR, 0)) := HV.out.trans (if_neg (by rintro (h | h); exact hs0 h; exact h ht))
          clear hs0 ht
          generalize insTxt (insW op AR) = tx at *
          go_wp2_with (go_at_call 65; refine (HT.out _ HSr.out.tab).mono ?_; rintro e w5 ⟨rfl, k5⟩; have z2 := HZ2.out.keep k5 (by simp); have HZ5 := Lib.hid z2; have HK5 := Lib.hid (HKw.out.trans k5); have y0 := (HZ1.out.keep k5 (by simp)).cell 0; have y1 := (HZ1.out.keep k5 (by simp)).cell 1; have y2 := (HZ1.out.keep k5 (by simp)).cell 2; have y3 := (HZ1.out.keep k5 (by simp)).cell 3; have y4 := (HZ1.out.keep k5 (by simp)).cell 4; have x0 := z2.frozen 0; have x1 := z2.frozen 1; have x2 := z2.frozen 2; have x3 := z2.frozen 3; have x4 := z2.frozen 4; have v0 := z2.cell 0; have v1 := z2.cell 1; have v2 := z2.cell 2; have v3 := z2.cell 3; have v4 := z2.cell 4; clear k5 z2)
          have HB := Lib.hid (blk_fill HZ5.out op a0 a1 a2 a3)
          have HKf := Lib.hid (keeps_fill w5 w.heap.size op a0 a1 a2 a3)
          dsimp only [fillW] at HB HKf
          clear x0 x1 x2 x3 x4 v0 v1 v2 v3 v4 y0 y1 y2 y3 y4
          generalize ((((((w5).setCell ⟨w.heap.size, 0, none⟩ (.int .i64 op)).setCell ⟨w.heap.size, 1, none⟩ (.int .i64 a0)).setCell ⟨w.heap.size, 2, none⟩ (.int .i64 a1)).setCell ⟨w.heap.size, 3, none⟩ (.int .i64 a2)).setCell ⟨w.heap.size, 4, none⟩ (.int .i64 a3)) = W at *
          have y0 := HB.out.cell 0
          have y1 := HB.out.cell 1
          have y2 := HB.out.cell 2
          have y3 := HB.out.cell 3
          have y4 := HB.out.cell 4
          refine bodyPost_ret (v := .tuple #[.agg #[.int .i64 op, .int .i64 a0, .int .i64 a1, .int .i64 a2, .int .i64 a3], .int .i64 0]) (by simp [results, Tryz.results132, go_sem, y0, y1, y2, y3, y4]) rfl ⟨by rw [HE.out]; dsimp only; rw [HIV.out], ?_⟩
          exact HK5.out.past6 HKf.out (fun q hq => by simp at hq; omega)
        · have d1 : ((stB (insTxt (insW op AR))).toList == s.toList) = false := by
            cases h : ((stB (insTxt (insW op AR))).toList == s.toList) with
            | false => rfl
            | true => exact absurd ((stB_list _).symm.trans (bytes_eq.1 h)) ht
          have HE : Hid (parseT opP s.data.toList = (⟨0, 0, 0, 0, 0⟩, 17)) := HV.out.trans (if_pos (.inr ht))
          clear hs0 ht
          generalize insTxt (insW op AR) = tx at *
          go_wp2_with (go_at_call 65; refine (HT.out _ HSr.out.tab).mono ?_; rintro e w5 ⟨rfl, k5⟩; have z2 := HZ2.out.keep k5 (by simp); have HZ5 := Lib.hid z2; have HK5 := Lib.hid (HKw.out.trans k5); have y0 := (HZ1.out.keep k5 (by simp)).cell 0; have y1 := (HZ1.out.keep k5 (by simp)).cell 1; have y2 := (HZ1.out.keep k5 (by simp)).cell 2; have y3 := (HZ1.out.keep k5 (by simp)).cell 3; have y4 := (HZ1.out.keep k5 (by simp)).cell 4; have x0 := z2.frozen 0; have x1 := z2.frozen 1; have x2 := z2.frozen 2; have x3 := z2.frozen 3; have x4 := z2.frozen 4; have v0 := z2.cell 0; have v1 := z2.cell 1; have v2 := z2.cell 2; have v3 := z2.cell 3; have v4 := z2.cell 4; clear k5 z2)
          have HB := Lib.hid (blk_fill HZ5.out 0 0 0 0 0)
          have HKf := Lib.hid (keeps_fill w5 w.heap.size 0 0 0 0 0)
          dsimp only [fillW] at HB HKf
          clear x0 x1 x2 x3 x4 v0 v1 v2 v3 v4 y0 y1 y2 y3 y4
          generalize ((((((w5).setCell ⟨w.heap.size, 0, none⟩ (.int .i64 0)).setCell ⟨w.heap.size, 1, none⟩ (.int .i64 0)).setCell ⟨w.heap.size, 2, none⟩ (.int .i64 0)).setCell ⟨w.heap.size, 3, none⟩ (.int .i64 0)).setCell ⟨w.heap.size, 4, none⟩ (.int .i64 0)) = W at *
          have y0 := HB.out.cell 0
          have y1 := HB.out.cell 1
          have y2 := HB.out.cell 2
          have y3 := HB.out.cell 3
          have y4 := HB.out.cell 4
          refine bodyPost_ret (v := .tuple #[.agg #[.int .i64 0, .int .i64 0, .int .i64 0, .int .i64 0, .int .i64 0], .int .i64 17]) (by simp [results, Tryz.results132, go_sem, y0, y1, y2, y3, y4]) rfl ⟨by rw [HE.out]; rfl, ?_⟩
          exact HK5.out.past6 HKf.out (fun q hq => by simp at hq; omega)
end Go.Proofs.YtpcihhdalofdiaaGreatDoor
