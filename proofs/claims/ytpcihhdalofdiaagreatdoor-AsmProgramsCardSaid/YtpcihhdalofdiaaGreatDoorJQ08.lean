/- An instruction comes: the program's instr. Printed by gen_asinstr.py. -/
import Derived.Test.YtpcihhdalofdiaaGreatDoorJQ07
import Derived.Test.YtpcihhdalofdiaaGreatDoorJQ02
import Derived.Test.YtpcihhdalofdiaaGreatDoorJQ05
namespace Go.Proofs.YtpcihhdalofdiaaGreatDoor
open Go.RowKit Go.Maps
attribute [local irreducible] numT kindsOf nameOf checkE fitsP operandP plainP labelP slashP namedT

/-- The operands' kinds with their words. -/
def zipW (op : Int) (ws : List Txt) : List (Nat × Txt) := ((kindsOf op).map Int.toNat).zip ws.tail
def bad17 (op : Int) (ws : List Txt) : Prop := op < 0 ∨ ws.length ≠ (kindsOf op).length + 1 ∨ ((zipW op ws).all fun x => fitsP op x.1 x.2) = false
theorem instr_bad {S : AS} {ws : List Txt} {w0 : Txt} {op : Int} {n : Nat} (h0 : ws.headD [] = w0) (h1 : namedT w0 = op) (hb : bad17 op ws) : instrP S ws n = (S, 17) := by
  unfold instrP
  rw [h0, h1]
  dsimp only
  rw [List.length_map]
  exact if_pos hb
theorem instr_ok {S : AS} {ws : List Txt} {w0 : Txt} {op : Int} {n : Nat} (h0 : ws.headD [] = w0) (h1 : namedT w0 = op) (hb : ¬ bad17 op ws) : instrP S ws n = ({ S with o := { (operandsP S.o.code.length n S.o 0 (zipW op ws)).1 with code := (operandsP S.o.code.length n S.o 0 (zipW op ws)).1.code ++ [insW op (operandsP S.o.code.length n S.o 0 (zipW op ws)).2.1] }, uses := S.uses ++ (operandsP S.o.code.length n S.o 0 (zipW op ws)).2.2 }, 0) := by
  unfold instrP
  rw [h0, h1]
  dsimp only
  rw [List.length_map]
  exact if_neg hb
theorem zipW_at {op : Int} {ws : List ByteArray} {j q : Nat} {x : ByteArray} (hk : (kindsOf op)[j]? = some (q : Int)) (hx : ws[j + 1]? = some x) : (zipW op (ws.map (·.data.toList)))[j]? = some (q, x.data.toList) := by
  unfold zipW
  refine zip_at ?_ ?_
  · rw [List.getElem?_map, hk]
    rfl
  · rw [List.getElem?_tail, List.getElem?_map, hx]
    rfl
theorem zipW_len {op : Int} {ws : List ByteArray} {m : Nat} (hm : (kindsOf op).length = m) (hn : ws.length = m + 1) : (zipW op (ws.map (·.data.toList))).length = m := by
  unfold zipW
  rw [List.length_zip, List.length_map, List.length_tail, List.length_map]
  omega
theorem operandsP_uses (n at_ : Nat) : ∀ (l : List (Nat × Txt)) (o : LObj) (j : Nat), (operandsP n at_ o j l).2.2.length ≤ l.length
  | [], _, _ => Nat.le_refl _
  | (k, w) :: l, o, j => by
    have h := operandsP_uses n at_ l (operandP o k w).1 (j + 1)
    rw [operandsP]
    simp only [List.length_append, List.length_cons]
    split <;> simp <;> omega
theorem insC6_last (op v : Int) (l : List Int) (j : Nat) (hl : l.length = j) (hj : j < 4) : (insC6 op (l ++ [v]))[1 + j]? = some (.int .i64 v) := by
  subst hl
  match l, hj with
  | [], _ => rfl
  | [a], _ => rfl
  | [a, b], _ => rfl
  | [a, b, c], _ => rfl
/-- The state while the operands are read. -/
structure IRun (w0 w4 : World) (ab nl : Nat) (L : List Nat) (S : AS) (wr : World) (ib : Nat) (op : Int) (q : LObj × List Int × List (Nat × Nat × Nat)) : Prop where
  ex : ∃ L', As w0 wr ab L' nl { S with o := q.1, uses := S.uses ++ q.2.2 } ∧ ∀ b ∈ L', b ∈ L ∨ w4.heap.size ≤ b
  ins : Blk wr ib 79 (insC6 op q.2.1)
  keep : Keeps w4 wr (ib :: L)
theorem keeps_drop {w w4 wr : World} {L : List Nat} {ib : Nat} (h : Keeps w w4 []) (k : Keeps w4 wr (ib :: L)) (hi : w.heap.size ≤ ib) : Keeps w wr L :=
  ⟨k.os.trans h.os, k.tape.trans h.tape, k.output.trans h.output, Nat.le_trans h.size k.size, fun i hi' hn => (k.block i (Nat.lt_of_lt_of_le hi' h.size) (fun hm => by
    rcases List.mem_cons.1 hm with rfl | hm
    · omega
    · exact hn hm)).trans (h.block i hi' (by simp))⟩
/-- What the tables may have. -/
structure Few (S : AS) : Prop where
  atoms : S.o.atoms.length ≤ 60000
  funs : S.o.funs.length ≤ 60000
  preds : S.o.preds.length ≤ 60000
  code : S.o.code.length ≤ 60000
  uses : S.uses.length ≤ 1000000
  begins : S.begins.length ≤ 1000000
set_option maxRecDepth 100000 in
set_option maxHeartbeats 6400000 in
theorem instrA_any {w0 w : World} {ab nl : Nat} {L : List Nat} {S : AS} (hA : As w0 w ab L nl S) (hfew : Few S) (g c n : Nat) (ws : List ByteArray) (hn : ws.length = n) (hn0 : 0 < n) (hn9 : n ≤ 4294967280) (hW : Blk w g 9 (ws.map Value.string).toArray) (hg : g ∉ L) (hsz : ∀ x ∈ ws, x.size ≤ 4294967000) (line : Nat) :
    Calls Tryz.prog 50 #[.pointer (some ⟨ab, 0, none⟩), .slice (some ⟨g, 0, none⟩) n c, .int .i64 line] w (LnDone w0 w ab nl L (instrP S (ws.map (·.data.toList)) line)) := by
  have HAs := Lib.hid hA
  have HFew := Lib.hid hfew
  have HW := Lib.hid hW
  have HSz := Lib.hid hsz
  have HLn := Lib.hid hn
  obtain ⟨x0, hx0⟩ : ∃ x0, ws[0]? = some x0 := ⟨ws[0]'(by omega), List.getElem?_eq_getElem _⟩
  have h0 : (ws.map (·.data.toList)).headD [] = x0.data.toList := by
    cases ws with
    | nil => simp at hx0
    | cons y r => simp at hx0; subst hx0; rfl
  obtain ⟨op, hop⟩ : ∃ op, namedT x0.data.toList = op := ⟨_, rfl⟩
  have HBad := Lib.hid (@instr_bad S _ _ op line h0 hop)
  have HOk := Lib.hid (@instr_ok S _ _ op line h0 hop)
  have HNm := Lib.hid (named6_any x0 w)
  rw [hop] at HNm
  have c0 := hW.cell 0
  simp only [List.getElem?_toArray, List.getElem?_map, hx0, Option.map_some] at c0
  have HG := Lib.hid hg
  have b00 : (0 : Int) < (n : Int) := by omega
  clear hop h0 hx0 hA hfew hW hsz hn hg
  go_enter Tryz.func50, Tryz.ntmps50
  go_wp2_with fail
  refine HNm.out.mono ?_
  rintro e w1 ⟨rfl, k1⟩
  have HK1 := Lib.hid k1
  clear k1 c0 HNm
  go_wp2_with fail
  refine (kindsF_any op _).mono ?_
  rintro e w2 ⟨A, ck, rfl, hN, k2, hfr⟩
  have HK2 := Lib.hid (HK1.out.trans k2)
  have HN := Lib.hid hN
  have HFR : Hid (∀ b off, A = some ⟨b, off, none⟩ → w.heap.size ≤ b) := fun b off h => Nat.le_trans HK1.out.size (hfr b off h)
  obtain ⟨m, hm⟩ : ∃ m, (kindsOf op).length = m := ⟨_, rfl⟩
  have hm4 := kinds_few op
  rw [hm] at hm4 ⊢
  have HM := Lib.hid hm
  clear hN k2 hfr hm HK1
  by_cases hop : op < 0
  · have HV := Lib.hid (HBad.out (.inl hop))
    go_wp2_with fail
    go_ret
    exact ⟨by rw [HV.out]; rfl, L, S, HAs.out.keep0 HK2.out, ASt.of_keeps HK2.out L, fun h0 => by rw [HV.out] at h0; cases h0⟩
  have d0 : decide (op < 0) = false := decide_eq_false hop
  by_cases hnm : n = m + 1
  case neg =>
    have HV := Lib.hid (HBad.out (.inr (.inl (by rw [List.length_map, HLn.out, HM.out]; exact hnm))))
    have d1 : ((n : Int) == (m : Int) + 1) = false := by rw [beq_eq_false_iff_ne]; omega
    have d2 : ((n : Int) != (m : Int) + 1) = true := by rw [bne_iff_ne]; omega
    clear hnm hop
    go_wp2_with fail
    go_ret
    exact ⟨by rw [HV.out]; rfl, L, S, HAs.out.keep0 HK2.out, ASt.of_keeps HK2.out L, fun h0 => by rw [HV.out] at h0; cases h0⟩
  have d1 : ((n : Int) == (m : Int) + 1) = true := by rw [beq_iff_eq]; omega
  have d2 : ((n : Int) != (m : Int) + 1) = false := by rw [bne_eq_false_iff_eq]; omega
  have HZl := Lib.hid (zipW_len HM.out (HLn.out.trans hnm))
  have HW2 := Lib.hid (HW.out.keep HK2.out (by simp))
  have HNm := Lib.hid hnm
  clear hnm
  go_wp2_with fail
  go_loopw [9, 10, 32] (fun v9 v10 i wr => ∃ j : Nat, j ≤ m ∧ i = .int .i64 j ∧ Hid (((zipW op (ws.map (·.data.toList))).take j).all (fun x => fitsP op x.1 x.2) = true) ∧ Keeps w2 wr []) (fun _ _ i _ => m - (intOf i).toNat)
  case atStart => exact ⟨0, Nat.zero_le _, rfl, rfl, Keeps.refl _ _⟩
  case round =>
    obtain ⟨j, hj, rfl, HAll, kr⟩ := hrel
    have HKr := Lib.hid kr
    clear kr
    by_cases hlj : j < m
    · obtain ⟨b7, off7, y, hA7, hb7, hc7, hy⟩ := HN.out j (by rw [HM.out]; exact hlj)
      subst hA7
      have hx1 := kinds_mem op y (List.mem_of_getElem? hy)
      obtain ⟨q, rfl⟩ := Int.eq_ofNat_of_zero_le (show 0 ≤ y by omega)
      obtain ⟨x, hx⟩ : ∃ x, ws[j + 1]? = some x := ⟨ws[j + 1]'(by have := HLn.out; have := HNm.out; omega), List.getElem?_eq_getElem _⟩
      have HZ := Lib.hid (zipW_at hy hx)
      have q1 := (HKr.out.cell (p := ⟨b7, off7 + j, none⟩) hb7 (by simp)).trans hc7
      have c9 := (HW2.out.keep HKr.out (by simp)).cell (j + 1)
      simp only [List.getElem?_toArray, List.getElem?_map, hx, Option.map_some] at c9
      have HF := Lib.hid (fits9_any op q (by omega) x (HSz.out x (List.mem_of_getElem? hx)) wr (HAs.out.st_.keep (HK2.out.trans HKr.out)))
      have b1 : (j : Int) < (m : Int) := by omega
      have b0 : (0 : Int) ≤ (j : Int) := Int.natCast_nonneg _
      have b5 : (j : Int) + 1 < (n : Int) := by have := HNm.out; omega
      have b6 : (0 : Int) ≤ (j : Int) + 1 := by omega
      clear hy hc7 hx hx1
      cases hfit : fitsP op q x.data.toList with
      | false =>
        rw [hfit] at HF
        have HV := Lib.hid (HBad.out (.inr (.inr (all_noA HZ.out hfit))))
        clear hfit
        go_wp2_with fail
        refine HF.out.mono ?_
        rintro e w3 ⟨rfl, k3⟩
        go_wp2_with fail
        go_ret
        exact ⟨by rw [HV.out]; rfl, L, S, HAs.out.keep0 ((HK2.out.trans HKr.out).trans k3), ASt.of_keeps ((HK2.out.trans HKr.out).trans k3) L, fun h0 => by rw [HV.out] at h0; cases h0⟩
      | true =>
        rw [hfit] at HF
        have HAll2 : Hid (((zipW op (ws.map (·.data.toList))).take (j + 1)).all (fun x => fitsP op x.1 x.2) = true) := all_take HZ.out HAll.out hfit
        clear hfit
        go_wp2_with fail
        refine HF.out.mono ?_
        rintro e w3 ⟨rfl, k3⟩
        go_wp2_with fail
        go_roundw
        case rel => exact ⟨j + 1, by omega, by go_num, HAll2, HKr.out.trans k3⟩
        case measure => simp [intOf]; omega
    · obtain rfl : m = j := by omega
      obtain ⟨w3, hw3⟩ : ∃ w3, w3 = wr := ⟨wr, rfl⟩
      subst hw3
      have hall : ((zipW op (ws.map (·.data.toList))).all fun x => fitsP op x.1 x.2) = true := by
        have := HAll.out
        rwa [List.take_of_length_le (by rw [HZl.out]; omega)] at this
      have HAT := Lib.hid hall
      have HV := Lib.hid (HOk.out (fun h => by
        rcases h with h | h | h
        · omega
        · rw [List.length_map, HLn.out, HM.out, HNm.out] at h; exact h rfl
        · rw [hall] at h; cases h))
      have hmk := make6_any op none 0 [] w3 Nums.nil
      rw [show insV (insW op []) = .agg #[.int .i64 op, .int .i64 0, .int .i64 0, .int .i64 0, .int .i64 0] from rfl] at hmk
      have HMk := Lib.hid hmk
      have HK3 := Lib.hid (HK2.out.trans HKr.out)
      clear hall hmk HAll hlj hj HBad HOk
      go_wp2_with fail
      refine HMk.out.mono ?_
      rintro e w4 ⟨rfl, k4⟩
      have HK24 := Lib.hid ((HKr.out.trans k4).alloc (.cells #[.int .i64 op, .int .i64 0, .int .i64 0, .int .i64 0, .int .i64 0] 79))
      have HK4 := Lib.hid ((HK3.out.trans k4).alloc (.cells #[.int .i64 op, .int .i64 0, .int .i64 0, .int .i64 0, .int .i64 0] 79))
      have HIb : Hid (Blk (w4.alloc (.cells #[.int .i64 op, .int .i64 0, .int .i64 0, .int .i64 0, .int .i64 0] 79)) w4.heap.size 79 (insC6 op [])) := Blk.new _ _ _
      have HIg : Hid (w.heap.size ≤ w4.heap.size ∧ w2.heap.size ≤ w4.heap.size) := ⟨(HK3.out.trans k4).size, (HKr.out.trans k4).size⟩
      generalize hib : w4.heap.size = ib at *
      obtain ⟨nc, hnc⟩ : ∃ nc, S.o.code.length = nc := ⟨_, rfl⟩
      have HNc := Lib.hid hnc
      rw [hnc] at HV
      obtain ⟨Q, hQ⟩ : ∃ Q : Nat → LObj × List Int × List (Nat × Nat × Nat), ∀ j, Q j = operandsP nc line S.o 0 ((zipW op (ws.map (·.data.toList))).take j) := ⟨fun j => _, fun j => rfl⟩
      have HQ := Lib.hid hQ
      have HQm : Hid (operandsP nc line S.o 0 (zipW op (ws.map (·.data.toList))) = Q m) := Lib.hid (by rw [hQ, List.take_of_length_le (by rw [HZl.out]; omega)])
      rw [HQm.out] at HV
      have HGr : Hid (∀ j, j ≤ m → Grows S.o (Q j).1 4 ∧ (Q j).2.1.length = j ∧ (Q j).2.2.length ≤ j) := fun j hj => by
        rw [HQ.out]
        have hl : ((zipW op (ws.map (·.data.toList))).take j).length = j := by rw [List.length_take, HZl.out]; omega
        have h1 := operandsP_grows nc line ((zipW op (ws.map (·.data.toList))).take j) S.o 0
        rw [hl] at h1
        have h2 := operandsP_len nc line ((zipW op (ws.map (·.data.toList))).take j) S.o 0
        have h3 := operandsP_uses nc line ((zipW op (ws.map (·.data.toList))).take j) S.o 0
        have a1 := h1.atoms
        have a2 := h1.funs
        have a3 := h1.preds
        exact ⟨⟨by omega, by omega, by omega, h1.code⟩, by rw [h2, hl], by rw [hl] at h3; exact h3⟩
      have H0 : Hid (IRun w0 (w4.alloc (.cells #[.int .i64 op, .int .i64 0, .int .i64 0, .int .i64 0, .int .i64 0] 79)) ab nl L S (w4.alloc (.cells #[.int .i64 op, .int .i64 0, .int .i64 0, .int .i64 0, .int .i64 0] 79)) ib op (Q 0)) := by
        have e0 : Q 0 = (S.o, [], []) := by rw [HQ.out, List.take_zero]; rfl
        rw [e0]
        refine ⟨⟨L, ?_, fun b hb => .inl hb⟩, HIb.out, Keeps.refl _ _⟩
        have := HAs.out.keep0 HK4.out
        rw [List.append_nil]
        exact this
      clear hnc hQ k4 HIb HMk
      go_wp2_with fail
      have HIlt : Hid (ib < (w4.alloc (.cells #[.int .i64 op, .int .i64 0, .int .i64 0, .int .i64 0, .int .i64 0] 79)).heap.size) := Lib.hid (by rw [World.size_alloc]; omega)
      generalize w4.alloc (.cells #[.int .i64 op, .int .i64 0, .int .i64 0, .int .i64 0, .int .i64 0] 79) = w5 at *
      clear hib w4
      go_loopw [12, 13, 51] (fun v12 v13 i wr => ∃ j : Nat, j ≤ m ∧ i = .int .i64 j ∧ IRun w0 w5 ab nl L S wr ib op (Q j)) (fun _ _ i _ => m - (intOf i).toNat)
      case atStart => exact ⟨0, Nat.zero_le _, rfl, H0.out⟩
      case round =>
        clear H0
        obtain ⟨j, hj, rfl, hrun⟩ := hrel
        have HR := Lib.hid hrun
        by_cases hlj : j < m
        · obtain ⟨b7, off7, y, hA7, hb7, hc7, hy⟩ := HN.out j (by rw [HM.out]; exact hlj)
          subst hA7
          have hx1 := kinds_mem op y (List.mem_of_getElem? hy)
          obtain ⟨q, rfl⟩ := Int.eq_ofNat_of_zero_le (show 0 ≤ y by omega)
          obtain ⟨x, hx⟩ : ∃ x, ws[j + 1]? = some x := ⟨ws[j + 1]'(by have := HLn.out; have := HNm.out; omega), List.getElem?_eq_getElem _⟩
          have hz := zipW_at hy hx
          have hf7 := HFR.out b7 off7 rfl
          have q1 := (HR.out.keep.cell (p := ⟨b7, off7 + j, none⟩) (Nat.lt_of_lt_of_le hb7 HK24.out.size) (fun hm => by
            rcases List.mem_cons.1 hm with h1 | h1
            · have := HIg.out.2
              simp only at h1 hb7
              omega
            · have := (HAs.out.lt _ h1).2
              simp only at this
              omega)).trans ((HK24.out.cell (p := ⟨b7, off7 + j, none⟩) hb7 (by simp)).trans hc7)
          have c9 := ((HW2.out.keep HK24.out (by simp)).keep HR.out.keep (fun hm => by
            rcases List.mem_cons.1 hm with h1 | h1
            · have := HW.out.lt
              have := HIg.out.1
              omega
            · exact HG.out h1)).cell (j + 1)
          simp only [List.getElem?_toArray, List.getElem?_map, hx, Option.map_some] at c9
          have hfit : fitsP op q x.data.toList = true := by
            have := List.all_eq_true.1 HAT.out _ (List.mem_of_getElem? hz)
            exact this
          have HSn : Hid (Q (j + 1) = ((operandP (Q j).1 q x.data.toList).1, (Q j).2.1 ++ [(operandP (Q j).1 q x.data.toList).2], (Q j).2.2 ++ (if q = 8 ∧ (operandP (Q j).1 q x.data.toList).2 ≠ 65535 then [(nc, j, line)] else []))) := Lib.hid (by
            rw [HQ.out, take_snocA hz, operandsP_snoc, ← HQ.out, List.length_take, HZl.out, Nat.zero_add, Nat.min_eq_left hj])
          obtain ⟨Lr, hAr, hown⟩ := hrun.ex
          have hgr := (HGr.out j hj).1
          have hga := hgr.atoms
          have hgf := hgr.funs
          have hgp := hgr.preds
          have hfe := HFew.out
          have hfa := hfe.atoms
          have hff := hfe.funs
          have hfp := hfe.preds
          have hfc := hfe.code
          have hgl := (HGr.out j hj).2.1
          have HOp := Lib.hid (operandA_any hAr op q (by omega) x (HSz.out x (List.mem_of_getElem? hx)) ⟨by simp only; omega, by simp only; omega, by simp only; omega, by simp only; rw [hgr.code]; omega⟩ ⟨by simp only; omega, by simp only; omega, by simp only; omega⟩ hfit)
          have HIbn : Hid (ib ∉ Lr) := fun hm => by
            rcases hown ib hm with h1 | h1
            · have := (HAs.out.lt _ h1).2
              have := HIg.out.1
              omega
            · have := HIlt.out
              omega
          have HOwn := Lib.hid hown
          have HBase : Hid (w0.heap.size ≤ ib) := Lib.hid (by
            have h1 := HAs.out.bel.size
            have h2 := HIg.out.1
            omega)
          have b1 : (j : Int) < (m : Int) := by omega
          have b0 : (0 : Int) ≤ (j : Int) := Int.natCast_nonneg _
          have b4 : (j : Int) < 4 := by omega
          have b5 : (j : Int) + 1 < (n : Int) := by have := HNm.out; omega
          have b6 : (0 : Int) ≤ (j : Int) + 1 := by omega
          have HLe := Lib.hid hgl
          have HCode : Hid ((operandP (Q j).1 q x.data.toList).1.code.length = nc) := Lib.hid (by rw [operandP_code, hgr.code, HNc.out])
          have HUl : Hid ((Q j).2.2.length ≤ 4) := Lib.hid (by have := (HGr.out j hj).2.2; omega)
          clear hrun hy hc7 hx hz hfit hAr hown hgr hga hgf hgp hfe hfa hff hfp hfc hgl hf7
          generalize operandP (Q j).1 q x.data.toList = r at *
          obtain ⟨r1, v⟩ := r
          unfold OpDone at HOp
          dsimp only at HOp HSn HCode
          go_wp2_with fail
          refine HOp.out.mono ?_
          rintro e w6 ⟨rfl, L6, hA6, hs6⟩
          have hi6 := HR.out.ins.keep hs6.keep HIbn.out
          have hib6 : ib ∉ L6 := fun hm => by
            rcases hs6.own ib hm with h1 | h1
            · exact HIbn.out h1
            · have := HR.out.ins.lt
              omega
          have f6 := hi6.frozen (1 + j)
          have c6 : World.cell? _ ⟨ib, 1 + j, none⟩ = (insC6 op (Q j).2.1)[1 + j]? := hi6.cell (1 + j)
          obtain ⟨u6, hu6⟩ := insC6_at op (Q j).2.1 j (by omega)
          rw [hu6] at c6
          have hi7 := hi6.set_ (1 + j) (.int .i64 v)
          rw [insC6_set op v (Q j).2.1 j HLe.out (by omega)] at hi7
          have k67 : Keeps w6 (w6.setCell ⟨ib, 1 + j, none⟩ (.int .i64 v)) [ib] := (Keeps.refl w6 [ib]).setCell (.inl (by simp)) _
          have hA7 := hA6.keep k67 (by simp only [List.mem_cons, List.not_mem_nil, or_false]; rintro _ rfl; exact ⟨hib6, HBase.out⟩)
          have HA7 := Lib.hid hA7
          have HI7 := Lib.hid hi7
          have HIb6 := Lib.hid hib6
          have HK7 : Hid (Keeps w5 (w6.setCell ⟨ib, 1 + j, none⟩ (.int .i64 v)) (ib :: L)) := by
            have h1 : Keeps wr w6 (ib :: L ++ Lr) := hs6.keep.more (fun b _ hb => by simp [hb])
            have h2 : Keeps w5 w6 (ib :: L) := ⟨h1.os.trans HR.out.keep.os, h1.tape.trans HR.out.keep.tape, h1.output.trans HR.out.keep.output, Nat.le_trans HR.out.keep.size h1.size, fun b hb hn' => (hs6.keep.block b (Nat.lt_of_lt_of_le hb HR.out.keep.size) (fun hm => by
              rcases HOwn.out b hm with h3 | h3
              · exact hn' (by simp [h3])
              · omega)).trans (HR.out.keep.block b hb hn')⟩
            exact h2.setCell (.inl (by simp)) _
          have HO7 : Hid (∀ b ∈ L6, b ∈ L ∨ w5.heap.size ≤ b) := fun b hb => by
            rcases hs6.own b hb with h1 | h1
            · exact HOwn.out b h1
            · exact .inr (Nat.le_trans HR.out.keep.size h1)
          have y6 : World.cell? (w6.setCell ⟨ib, 1 + j, none⟩ (.int .i64 v)) ⟨ib, 1 + j, none⟩ = some (.int .i64 v) := by
            have h1 := hi7.cell (1 + j)
            rw [show (insC6 op ((Q j).2.1 ++ [v]))[1 + j]? = some (.int .i64 v) from insC6_last op v _ j HLe.out (by omega)] at h1
            exact h1
          clear hi6 hu6 k67 hA7 hA6 hs6 hi7 hib6 HOp HR
          by_cases hq : q = 8
          case neg =>
            have d8 : ((q : Int) == 8) = false := by rw [beq_eq_false_iff_ne]; omega
            have HS2 : Hid (Q (j + 1) = (r1, (Q j).2.1 ++ [v], (Q j).2.2)) := Lib.hid (by rw [HSn.out, if_neg (by rintro ⟨h1, h2⟩; exact hq h1), List.append_nil])
            clear HSn
            go_wp2_with fail
            go_roundw
            case rel =>
              refine ⟨j + 1, by omega, by go_num, ?_⟩
              rw [HS2.out]
              exact ⟨⟨L6, HA7.out, HO7.out⟩, HI7.out, HK7.out⟩
            case measure => simp [intOf]; omega
          have d8 : ((q : Int) == 8) = true := by rw [beq_iff_eq]; omega
          by_cases hv : v = 65535
          · have d9 : (v == 65535) = true := by simpa using hv
            have d10 : (v != 65535) = false := by simpa using hv
            have HS2 : Hid (Q (j + 1) = (r1, (Q j).2.1 ++ [v], (Q j).2.2)) := Lib.hid (by rw [HSn.out, if_neg (by rintro ⟨h1, h2⟩; exact h2 hv), List.append_nil])
            clear HSn hv
            go_wp2_with fail
            go_roundw
            case rel =>
              refine ⟨j + 1, by omega, by go_num, ?_⟩
              rw [HS2.out]
              exact ⟨⟨L6, HA7.out, HO7.out⟩, HI7.out, HK7.out⟩
            case measure => simp [intOf]; omega
          · have d9 : (v == 65535) = false := by simpa using hv
            have d10 : (v != 65535) = true := by simpa using hv
            have HS2 : Hid (Q (j + 1) = (r1, (Q j).2.1 ++ [v], (Q j).2.2 ++ [(nc, j, line)])) := Lib.hid (by rw [HSn.out, if_pos ⟨hq, hv⟩])
            clear HSn hv hq
            go_upto_region 17 with fail
            generalize w6.setCell ⟨ib, 1 + j, none⟩ (.int .i64 v) = w7 at *
            clear y6
            obtain ⟨vb, AA, FA, PA, CA, UA, BA, ca, cf, cp, cc, cu, cb, hm7, hL7, hlt7⟩ := HA7.out
            have HM7 := Lib.hid hm7
            have HL7 := Lib.hid hL7
            have HLt7 := Lib.hid hlt7
            clear hm7 hL7 hlt7
            obtain ⟨nu, hnu⟩ : ∃ nu, (S.uses ++ (Q j).2.2).length = nu := ⟨_, rfl⟩
            have HNu := Lib.hid hnu
            have HNu2 : Hid (nu ≤ 1000004) := Lib.hid (by rw [← hnu, List.length_append]; have := HFew.out.uses; have := HUl.out; omega)
            clear hnu
            have HO5 : Hid (w7.ownsRow w0.heap.size 105 3 (.slice UA nu cu) nu ((S.uses ++ (Q j).2.2).flatMap useE)) := Lib.hid (by have := HM7.out.uses; simp only at this; rw [HNu.out] at this; exact this)
            have HF8 : Hid (∀ W, Keeps w7 W [] → (W.cell? ⟨ab, 5, none⟩ = some (.slice UA nu cu) ∧ W.cell? ⟨ab, 3, none⟩ = some (.slice CA nc cc)) ∧ W.frozen? ⟨ab, 5, none⟩ = false) := fun W kk => by
              have b := HM7.out.blk.keep kk (by simp)
              have q5 := b.cell 5
              have q3 := b.cell 3
              simp only [List.getElem?_toArray, List.getElem?_cons_zero, List.getElem?_cons_succ, HNu.out, HCode.out] at q5 q3
              exact ⟨⟨q5, q3⟩, b.frozen 5⟩
            refine wp_region_tx (fun W' => (W'.cell? ⟨ab, 5, none⟩ = some (.slice UA nu cu) ∧ W'.cell? ⟨ab, 3, none⟩ = some (.slice CA nc cc)) ∧ W'.frozen? ⟨ab, 5, none⟩ = false) [(0, true), (1, true), (2, true), (3, true), (4, true), (5, true), (6, true), (7, true), (8, true), (9, true), (10, true), (11, true), (12, true), (13, true), (14, false), (15, false), (16, true), (17, true), (18, false)] (by kernel_rfl) (by kernel_rfl) (HF8.out _ (Keeps.refl _ _).drew) (fun hHeld => ?_)
            (repeat (first | (refine wpTx_take (v := ?_) rfl (by assumption) ?_ (by rfl) ?_; rotate_left; (focus (intro w' hSw; (try dsimp only at hSw); go_simp; (try with_reducible rfl); done)); simp only [Act.put, List.setIfInBounds_toArray, List.set_cons_zero, List.set_cons_succ]) | (refine wpTx_skip rfl (by assumption) (by rfl) ?_; simp only [Act.put, List.setIfInBounds_toArray, List.set_cons_zero, List.set_cons_succ])))
            refine wpTx_go rfl (fun K hK => ?_)
            go_simp
            refine hK.out _ _ ?_ ?_
            · exact HF8.out _ ((Keeps.refl _ _).drew.alloc _)
            (clear hHeld; intro hHeld; clear hK K; (try simp only [Act.put, List.setIfInBounds_toArray, List.set_cons_zero, List.set_cons_succ]))
            refine wpTx_go rfl (fun K hK => ?_)
            have K5 : Keeps w7 (w7.drew.alloc (.cells #[.int .i64 nc, .int .i64 j, .int .i64 line] 105)) [] := (Keeps.refl w7 []).drew.alloc _
            refine step_app _ el_useA (by rfl) _ _ (by rfl) w0.heap.size UA nu cu ((S.uses ++ (Q j).2.2).flatMap useE) (by rfl) (own_keep0 HO5.out K5) (some ⟨w7.heap.size, 0, none⟩) 1 1 (useE (nc, j, line)) (by rfl) (Rd.one w7.drew _ (useE (nc, j, line))) rfl (by simp) (by simp [useE, Value.oneCell']) (by have := HNu2.out; omega) (Nat.le_trans HM7.out.bel.size K5.size) ?_
            intro A' c' w8 hown hgrow hat
            have HAp := Lib.hid (app_factsA K5 hown hgrow hat)
            have hB8 := HM7.out.blk.grownA K5 hgrow (own_outA HM7.out.uses HM7.out.blk (by decide))
            have q5 := hB8.cell 5
            have q3 := hB8.cell 3
            simp only [List.getElem?_toArray, List.getElem?_cons_zero, List.getElem?_cons_succ, HNu.out, HCode.out] at q5 q3
            have HB8 := Lib.hid (And.intro (And.intro q5 q3) (hB8.frozen 5))
            clear hown hgrow hat K5 hB8 q5 q3
            refine hK.out _ _ ?_ ?_
            · exact HB8.out
            (clear hHeld; intro hHeld; clear hK K; (try simp only [Act.put, List.setIfInBounds_toArray, List.set_cons_zero, List.set_cons_succ]))
            (repeat (first | (refine wpTx_take (v := ?_) rfl (by assumption) ?_ (by rfl) ?_; rotate_left; (focus (intro w' hSw; (try dsimp only at hSw); go_simp; (try with_reducible rfl); done)); simp only [Act.put, List.setIfInBounds_toArray, List.set_cons_zero, List.set_cons_succ]) | (refine wpTx_skip rfl (by assumption) (by rfl) ?_; simp only [Act.put, List.setIfInBounds_toArray, List.set_cons_zero, List.set_cons_succ])))
            refine wpTx_last rfl (fun K hK => ?_)
            go_simp
            refine hK.out _ _ (NoPanic.normal ?_); clear hK K; (try simp only [Act.put, List.setIfInBounds_toArray, List.set_cons_zero, List.set_cons_succ])
            clear hHeld
            obtain ⟨a1, a2, a3⟩ := HAp.out
            have hlen : ((S.uses ++ (Q j).2.2) ++ [(nc, j, line)]).length = nu + 1 := by rw [List.length_append, HNu.out]; rfl
            obtain ⟨L', g1, g2⟩ := HM7.out.uses_pack HL7.out HLt7.out a2 (A' := A') (c' := c') (l' := (S.uses ++ (Q j).2.2) ++ [(nc, j, line)]) (by rw [hlen, List.flatMap_append]; simpa using a1) a3
            rw [hlen] at g1 g2
            rw [List.append_assoc] at g1
            have HG1 := Lib.hid g1
            have HI8 := Lib.hid (g2.blk HI7.out HIb6.out).1
            have HO8 : Hid (∀ b ∈ L', b ∈ L ∨ w5.heap.size ≤ b) := fun b hb => by
              rcases g2.own b hb with h1 | h1
              · exact HO7.out b h1
              · exact .inr (Nat.le_trans HK7.out.size h1)
            have HK8 : Hid (Keeps w5 (w8.setCell ⟨ab, 5, none⟩ (.slice A' (nu + 1) c')) (ib :: L)) := ⟨g2.keep.os.trans HK7.out.os, g2.keep.tape.trans HK7.out.tape, g2.keep.output.trans HK7.out.output, Nat.le_trans HK7.out.size g2.keep.size, fun b hb hn' => (g2.keep.block b (Nat.lt_of_lt_of_le hb HK7.out.size) (fun hm => by
              rcases HO7.out b hm with h3 | h3
              · exact hn' (by simp [h3])
              · omega)).trans (HK7.out.block b hb hn')⟩
            clear a1 a2 a3 hlen g1 g2
            generalize w8.setCell ⟨ab, 5, none⟩ (.slice A' (nu + 1) c') = w9 at *
            go_wp2_with fail
            go_roundw
            case rel =>
              refine ⟨j + 1, by omega, by go_num, ?_⟩
              rw [HS2.out]
              exact ⟨⟨L', HG1.out, HO8.out⟩, HI8.out, HK8.out⟩
            case measure => simp [intOf]; omega
        · obtain rfl : m = j := by omega
          obtain ⟨w6, hw6⟩ : ∃ w6, w6 = wr := ⟨wr, rfl⟩
          subst hw6
          obtain ⟨Lr, hAr, hown⟩ := HR.out.ex
          have HOwn := Lib.hid hown
          have HIbn : Hid (ib ∉ Lr) := fun hm => by
            rcases hown ib hm with h1 | h1
            · have := (HAs.out.lt _ h1).2
              have := HIg.out.1
              omega
            · have := HIlt.out
              omega
          obtain ⟨vb, AA, FA, PA, CA, UA, BA, ca, cf, cp, cc, cu, cb, hm7, hL7, hlt7⟩ := hAr
          have HM7 := Lib.hid hm7
          have HL7 := Lib.hid hL7
          have HLt7 := Lib.hid hlt7
          clear hm7 hL7 hlt7 hown hrun
          have hcode : (Q m).1.code.length = nc := by rw [(HGr.out m (Nat.le_refl _)).1.code, HNc.out]
          have HCd := Lib.hid hcode
          have HNc2 : Hid (nc ≤ 60000) := Lib.hid (by rw [← HNc.out]; exact HFew.out.code)
          obtain ⟨a0, a1, a2, a3, hC⟩ : ∃ a0 a1 a2 a3 : Int, insW op (Q m).2.1 = ⟨op, a0, a1, a2, a3⟩ := ⟨_, _, _, _, rfl⟩
          have hC2 : insC6 op (Q m).2.1 = #[.int .i64 op, .int .i64 a0, .int .i64 a1, .int .i64 a2, .int .i64 a3] := by
            have h1 : insC6 op (Q m).2.1 = #[.int .i64 (insW op (Q m).2.1).op, .int .i64 (insW op (Q m).2.1).a0, .int .i64 (insW op (Q m).2.1).a1, .int .i64 (insW op (Q m).2.1).a2, .int .i64 (insW op (Q m).2.1).a3] := rfl
            rw [h1, hC]
          have hI := HR.out.ins
          rw [hC2] at hI
          have HI := Lib.hid hI
          have HKf := Lib.hid HR.out.keep
          have HC := Lib.hid hC
          have HO5 : Hid (w6.ownsRow w0.heap.size 79 5 (.slice CA nc cc) nc ((Q m).1.code.flatMap insE)) := Lib.hid (by have := HM7.out.code; simp only at this; rw [hcode] at this; exact this)
          have HF8 : Hid (∀ W, Keeps w6 W [] → (W.cell? ⟨ab, 3, none⟩ = some (.slice CA nc cc) ∧ W.cell? ⟨ib, 0, none⟩ = some (.int .i64 op) ∧ W.cell? ⟨ib, 1, none⟩ = some (.int .i64 a0) ∧ W.cell? ⟨ib, 2, none⟩ = some (.int .i64 a1) ∧ W.cell? ⟨ib, 3, none⟩ = some (.int .i64 a2) ∧ W.cell? ⟨ib, 4, none⟩ = some (.int .i64 a3)) ∧ W.frozen? ⟨ab, 3, none⟩ = false) := fun W kk => by
            have b := HM7.out.blk.keep kk (by simp)
            have q3 := b.cell 3
            simp only [List.getElem?_toArray, List.getElem?_cons_zero, List.getElem?_cons_succ, HCd.out] at q3
            have bi := HI.out.keep kk (by simp)
            exact ⟨⟨q3, bi.cell 0, bi.cell 1, bi.cell 2, bi.cell 3, bi.cell 4⟩, b.frozen 3⟩
          clear hC hC2 hI HR hcode hj hlj
          go_upto_region 19 with fail
          refine wp_region_tx (fun W' => (W'.cell? ⟨ab, 3, none⟩ = some (.slice CA nc cc) ∧ W'.cell? ⟨ib, 0, none⟩ = some (.int .i64 op) ∧ W'.cell? ⟨ib, 1, none⟩ = some (.int .i64 a0) ∧ W'.cell? ⟨ib, 2, none⟩ = some (.int .i64 a1) ∧ W'.cell? ⟨ib, 3, none⟩ = some (.int .i64 a2) ∧ W'.cell? ⟨ib, 4, none⟩ = some (.int .i64 a3)) ∧ W'.frozen? ⟨ab, 3, none⟩ = false) [(0, true), (1, true), (2, true), (3, true), (4, true), (5, true), (6, true), (7, false), (8, false), (9, true), (10, true), (11, true), (12, false)] (by kernel_rfl) (by kernel_rfl) (HF8.out _ (Keeps.refl _ _).drew) (fun hHeld => ?_)
          (repeat (first | (refine wpTx_take (v := ?_) rfl (by assumption) ?_ (by rfl) ?_; rotate_left; (focus (intro w' hSw; (try dsimp only at hSw); go_simp; (try with_reducible rfl); done)); simp only [Act.put, List.setIfInBounds_toArray, List.set_cons_zero, List.set_cons_succ]) | (refine wpTx_skip rfl (by assumption) (by rfl) ?_; simp only [Act.put, List.setIfInBounds_toArray, List.set_cons_zero, List.set_cons_succ])))
          refine wpTx_go rfl (fun K hK => ?_)
          go_simp
          refine hK.out _ _ ?_ ?_
          · exact HF8.out _ ((Keeps.refl _ _).drew.alloc _)
          (clear hHeld; intro hHeld; clear hK K; (try simp only [Act.put, List.setIfInBounds_toArray, List.set_cons_zero, List.set_cons_succ]))
          refine wpTx_go rfl (fun K hK => ?_)
          have K5 : Keeps w6 (w6.drew.alloc (.cells #[.int .i64 op, .int .i64 a0, .int .i64 a1, .int .i64 a2, .int .i64 a3] 79)) [] := (Keeps.refl w6 []).drew.alloc _
          refine step_app _ el_insA (by rfl) _ _ (by rfl) w0.heap.size CA nc cc ((Q m).1.code.flatMap insE) (by rfl) (own_keep0 HO5.out K5) (some ⟨w6.heap.size, 0, none⟩) 1 1 (insE ⟨op, a0, a1, a2, a3⟩) (by rfl) (Rd.one w6.drew _ (insE ⟨op, a0, a1, a2, a3⟩)) rfl (by simp) (by simp [insE, Value.oneCell']) (by have := HNc2.out; omega) (Nat.le_trans HM7.out.bel.size K5.size) ?_
          intro A' c' w8 hown hgrow hat
          have HAp := Lib.hid (app_factsA K5 hown hgrow hat)
          have hB8 := HM7.out.blk.grownA K5 hgrow (own_outA HM7.out.code HM7.out.blk (by decide))
          have hi8 := HI.out.grownA K5 hgrow (fun hm => HIbn.out (HL7.out _ (by unfold asL; simp [hm])))
          have q3 := hB8.cell 3
          simp only [List.getElem?_toArray, List.getElem?_cons_zero, List.getElem?_cons_succ, HCd.out] at q3
          have HB8 : Hid ((w8.cell? ⟨ab, 3, none⟩ = some (.slice CA nc cc) ∧ w8.cell? ⟨ib, 0, none⟩ = some (.int .i64 op) ∧ w8.cell? ⟨ib, 1, none⟩ = some (.int .i64 a0) ∧ w8.cell? ⟨ib, 2, none⟩ = some (.int .i64 a1) ∧ w8.cell? ⟨ib, 3, none⟩ = some (.int .i64 a2) ∧ w8.cell? ⟨ib, 4, none⟩ = some (.int .i64 a3)) ∧ w8.frozen? ⟨ab, 3, none⟩ = false) := ⟨⟨q3, hi8.cell 0, hi8.cell 1, hi8.cell 2, hi8.cell 3, hi8.cell 4⟩, hB8.frozen 3⟩
          clear hown hgrow hat K5 hB8 q3 hi8
          refine hK.out _ _ ?_ ?_
          · exact HB8.out
          (clear hHeld; intro hHeld; clear hK K; (try simp only [Act.put, List.setIfInBounds_toArray, List.set_cons_zero, List.set_cons_succ]))
          (repeat (first | (refine wpTx_take (v := ?_) rfl (by assumption) ?_ (by rfl) ?_; rotate_left; (focus (intro w' hSw; (try dsimp only at hSw); go_simp; (try with_reducible rfl); done)); simp only [Act.put, List.setIfInBounds_toArray, List.set_cons_zero, List.set_cons_succ]) | (refine wpTx_skip rfl (by assumption) (by rfl) ?_; simp only [Act.put, List.setIfInBounds_toArray, List.set_cons_zero, List.set_cons_succ])))
          refine wpTx_last rfl (fun K hK => ?_)
          go_simp
          refine hK.out _ _ (NoPanic.normal ?_); clear hK K; (try simp only [Act.put, List.setIfInBounds_toArray, List.set_cons_zero, List.set_cons_succ])
          clear hHeld
          go_wp2_with fail
          go_ret
          obtain ⟨e1, e2, e3⟩ := HAp.out
          have hlen : ((Q m).1.code ++ [(⟨op, a0, a1, a2, a3⟩ : LIns)]).length = nc + 1 := by rw [List.length_append, HCd.out]; rfl
          obtain ⟨L', g1, g2⟩ := HM7.out.code_pack HL7.out HLt7.out e2 (A' := A') (c' := c') (l' := (Q m).1.code ++ [⟨op, a0, a1, a2, a3⟩]) (by rw [hlen, List.flatMap_append]; simpa using e1) e3
          rw [hlen] at g1 g2
          refine ⟨by rw [HV.out]; rfl, L', _, g1, ?_, fun _ => by rw [HV.out, HC.out]⟩
          have kA := keeps_drop HK4.out HKf.out HIg.out.1
          refine ASt.trans (M := Lr) ⟨kA, fun b hb => ?_⟩ g2
          rcases HOwn.out b hb with h1 | h1
          · exact .inl h1
          · exact .inr (Nat.le_trans HK4.out.size h1)
end Go.Proofs.YtpcihhdalofdiaaGreatDoor

/- A line comes: the program's line. Printed by gen_asline.py. -/
namespace Go.Proofs.YtpcihhdalofdiaaGreatDoor
open Go.RowKit Go.Maps
attribute [local irreducible] numT kindsOf nameOf checkE fitsP operandP plainP labelP slashP namedT

/-- A text's words. -/
def wordsB (s : ByteArray) : List ByteArray := Lib.splitB ⟨#[32]⟩ 0 (Lib.countB s ⟨#[32]⟩) s
theorem wordsB_is (s : ByteArray) : (wordsB s).map (·.data.toList) = splitT s.data.toList := splitB_all6 s
theorem wordsB_len (s : ByteArray) : (wordsB s).length = Lib.countB s ⟨#[32]⟩ + 1 := Lib.splitB_all _ (by decide) 0 _ s rfl
theorem wordsB_few (s : ByteArray) : (wordsB s).length ≤ s.size + 1 := by
  rw [wordsB_len]
  have := Lib.countB_le ⟨#[32]⟩ (by decide) _ s (Nat.le_refl _)
  omega
theorem wordsB_size (s : ByteArray) : ∀ x ∈ wordsB s, x.size ≤ s.size := fun x hx => by
  have := split_len s.data.toList x.data.toList (by rw [← wordsB_is]; exact List.mem_map.2 ⟨x, hx, rfl⟩)
  exact this
theorem split_any (s : ByteArray) (hl : s.size ≤ 4294967280) (w : World) (h : St w) :
    Calls Tryz.prog 46 #[.string s, .string ⟨#[32]⟩] w fun e w' => e = .returned (.slice (some ⟨w.heap.size, 0, none⟩) (wordsB s).length (wordsB s).length) ∧ w' = w.alloc (.cells ((wordsB s).map Value.string).toArray 9) := by
  obtain ⟨m, hm⟩ := h.most
  have := Tryz.strings_Split s ⟨#[32]⟩ m w (by omega) hm (by decide)
  rw [wordsB_len]
  exact this
theorem LnDone.more {w0 w : World} {ab nl : Nat} {L : List Nat} {r : AS × Int} {e : Ending} {w' : World} (h : LnDone w0 w ab nl L r e w') : LnDone w0 w ab (nl + 1) L r e w' := by
  obtain ⟨h1, L', S', h2, h3⟩ := h
  exact ⟨h1, L', S', h2.more (by omega), h3⟩
theorem LnDone.after {w0 w w1 : World} {ab nl : Nat} {L : List Nat} {r : AS × Int} {e : Ending} {w' : World} (h : LnDone w0 w1 ab nl L r e w') (k : Keeps w w1 []) : LnDone w0 w ab nl L r e w' := by
  obtain ⟨h1, L', S', h2, h3, h4⟩ := h
  exact ⟨h1, L', S', h2, (ASt.of_keeps k L).trans h3, h4⟩
theorem line_begin {S : AS} {s : Txt} {n : Nat} (h1 : (splitT s).length = 2) (h2 : (splitT s).headD [] = predW) : lineP S s n = beginP S ((splitT s).getD 1 []) n := by
  unfold lineP
  exact if_pos ⟨h1, h2⟩
theorem line_mark {S : AS} {s : Txt} {n : Nat} (h1 : (splitT s).length = 1) (h2 : s.head? = some 64) : lineP S s n = markP S s := by
  unfold lineP
  rw [if_neg (by rintro ⟨h3, _⟩; omega), if_pos ⟨h1, h2⟩]
theorem line_instr {S : AS} {s : Txt} {n : Nat} (h1 : ¬ ((splitT s).length = 2 ∧ (splitT s).headD [] = predW)) (h2 : ¬ ((splitT s).length = 1 ∧ s.head? = some 64)) : lineP S s n = instrP S (splitT s) n := by
  unfold lineP
  rw [if_neg h1, if_neg h2]
theorem pred_str (x : ByteArray) : (x.toList == [112, 114, 101, 100]) = decide (x.data.toList = predW) := by
  rw [ByteArray.toList_eq]
  unfold predW
  by_cases h : x.data.toList = [112, 114, 101, 100] <;> simp [h]
set_option maxRecDepth 100000 in
set_option maxHeartbeats 6400000 in
theorem lineA_any {w0 w : World} {ab nl : Nat} {L : List Nat} {S : AS} (hA : As w0 w ab L nl S) (hI : InvB S) (hfew : Few S) (hnl : nl ≤ 1000000) (s : ByteArray) (hl : s.size ≤ 4294967000) (line : Nat) :
    Calls Tryz.prog 18 #[.pointer (some ⟨ab, 0, none⟩), .string s, .int .i64 line] w (LnDone w0 w ab (nl + 1) L (lineP S s.data.toList line)) := by
  have HAs := Lib.hid hA
  have HInv := Lib.hid hI
  have HFew := Lib.hid hfew
  have HS := Lib.hid (split_any s (by omega) w hA.st_)
  have HK : Hid (Keeps w (w.alloc (.cells ((wordsB s).map Value.string).toArray 9)) []) := (Keeps.refl w []).alloc _
  have HB : Hid (Blk (w.alloc (.cells ((wordsB s).map Value.string).toArray 9)) w.heap.size 9 ((wordsB s).map Value.string).toArray) := Blk.new _ _ _
  have HG : Hid (w.heap.size ∉ L) := fun hm => Nat.lt_irrefl _ (hA.lt _ hm).2
  have HWs := Lib.hid (wordsB_is s)
  have hwl := wordsB_few s
  have HSz : Hid (∀ x ∈ wordsB s, x.size ≤ 4294967000) := fun x hx => Nat.le_trans (wordsB_size s x hx) hl
  have hpos : 0 < (wordsB s).length := by rw [wordsB_len]; omega
  generalize wordsB s = WS at *
  obtain ⟨n, hn⟩ : ∃ n, WS.length = n := ⟨_, rfl⟩
  rw [hn] at HS hwl hpos
  have HN := Lib.hid hn
  have HTl : Hid ((splitT s.data.toList).length = n) := Lib.hid (by rw [← HWs.out, List.length_map, hn])
  obtain ⟨x0, hx0⟩ : ∃ x0, WS[0]? = some x0 := ⟨WS[0]'(by omega), List.getElem?_eq_getElem _⟩
  have HHd : Hid ((splitT s.data.toList).headD [] = x0.data.toList) := Lib.hid (by
    rw [← HWs.out]
    cases WS with
    | nil => simp at hx0
    | cons y r => simp at hx0; subst hx0; rfl)
  have c0 := HB.out.cell 0
  simp only [List.getElem?_toArray, List.getElem?_map, hx0, Option.map_some] at c0
  have HA1 := Lib.hid (hA.keep0 HK.out)
  have hps := pred_str x0
  have hhp : Hid (∀ w, Calls Tryz.prog 48 #[.string s, .string ⟨#[64]⟩] w fun e w' => e = .returned (.bool (decide (s.data.toList.head? = some 64))) ∧ w' = w) := fun w => by
    have := Tryz.strings_HasPrefix s ⟨#[64]⟩ w
    rw [show ((⟨#[64]⟩ : ByteArray).data.toList) = [64] from rfl, head64] at this
    exact this
  have HL := Lib.hid hl
  have HIn := Lib.hid (fun h1 h2 => (line_instr (S := S) (s := s.data.toList) (n := line) h1 h2))
  have b00 : (0 : Int) < (n : Int) := by omega
  clear hn hA hI hfew
  by_cases h2 : n = 2
  · have d2 : ((n : Int) == 2) = true := by rw [beq_iff_eq]; omega
    by_cases hp : x0.data.toList = predW
    · have d3 : (x0.toList == [112, 114, 101, 100]) = true := by rw [hps]; exact decide_eq_true hp
      obtain ⟨x1, hx1⟩ : ∃ x1, WS[1]? = some x1 := ⟨WS[1]'(by have := HN.out; omega), List.getElem?_eq_getElem _⟩
      have c1 := HB.out.cell 1
      simp only [List.getElem?_toArray, List.getElem?_map, hx1, Option.map_some] at c1
      have b11 : (1 : Int) < (n : Int) := by omega
      have HV : Hid (lineP S s.data.toList line = beginP S x1.data.toList line) := Lib.hid (by
        rw [line_begin (HTl.out.trans h2) (HHd.out.trans hp)]
        congr 1
        rw [← HWs.out, List.getD_eq_getElem?_getD, List.getElem?_map, hx1]
        rfl)
      have HC := Lib.hid (beginA_any HA1.out HInv.out x1 (HSz.out _ (List.mem_of_getElem? hx1)) line ⟨by have := HFew.out.atoms; omega, by have := HFew.out.funs; omega, by have := HFew.out.preds; omega, by have := HFew.out.code; omega⟩ ⟨by have := HFew.out.preds; omega, HFew.out.begins, by have := HFew.out.code; omega⟩)
      clear h2 hp hps hx0 hx1
      go_enter Tryz.func18, Tryz.ntmps18
      go_wp2_with fail
      refine HS.out.mono ?_
      rintro e w1 ⟨rfl, rfl⟩
      go_wp2_with fail
      refine HC.out.mono ?_
      rintro e w2 ⟨rfl, hd⟩
      have HD := Lib.hid hd
      clear hd
      go_wp2_with fail
      go_ret
      rw [HV.out]
      exact (LnDone.after (w1 := w.alloc _) ⟨rfl, HD.out⟩ HK.out).more
    · have d3 : (x0.toList == [112, 114, 101, 100]) = false := by rw [hps]; exact decide_eq_false hp
      have HV := Lib.hid (HIn.out (by rintro ⟨_, h⟩; exact hp (HHd.out.symm.trans h)) (by rintro ⟨h, _⟩; rw [HTl.out] at h; omega))
      have d1 : ((n : Int) == 1) = false := by rw [beq_eq_false_iff_ne]; omega
      have HC := Lib.hid (instrA_any HA1.out HFew.out w.heap.size n n WS HN.out hpos (by have := HL.out; omega) HB.out HG.out HSz.out line)
      clear h2 hp hps hx0
      go_enter Tryz.func18, Tryz.ntmps18
      go_wp2_with fail
      refine HS.out.mono ?_
      rintro e w1 ⟨rfl, rfl⟩
      go_wp2_with fail
      refine HC.out.mono ?_
      rintro e w2 ⟨rfl, hd⟩
      have HD := Lib.hid hd
      clear hd
      go_wp2_with fail
      go_ret
      rw [HV.out, ← HWs.out]
      exact (LnDone.after (w1 := w.alloc _) ⟨rfl, HD.out⟩ HK.out).more
  have d2 : ((n : Int) == 2) = false := by rw [beq_eq_false_iff_ne]; omega
  by_cases h1 : n = 1
  · have d1 : ((n : Int) == 1) = true := by rw [beq_iff_eq]; omega
    by_cases hh : s.data.toList.head? = some 64
    · have HV := Lib.hid (line_mark (S := S) (n := line) (HTl.out.trans h1) hh)
      rw [decide_eq_true hh] at hhp
      have HC := Lib.hid (markA_any HA1.out hnl s HL.out (by have := HFew.out.code; omega))
      clear h1 h2 hh hps hx0
      go_enter Tryz.func18, Tryz.ntmps18
      go_wp2_with fail
      refine HS.out.mono ?_
      rintro e w1 ⟨rfl, rfl⟩
      go_wp2_with fail
      refine (hhp.out _).mono ?_
      rintro e w1 ⟨rfl, hw⟩
      subst hw
      go_wp2_with fail
      refine HC.out.mono ?_
      rintro e w2 ⟨rfl, hd⟩
      have HD := Lib.hid hd
      clear hd
      go_wp2_with fail
      go_ret
      rw [HV.out]
      exact LnDone.after (w1 := w.alloc _) ⟨rfl, HD.out⟩ HK.out
    · have HV := Lib.hid (HIn.out (by rintro ⟨h, _⟩; rw [HTl.out] at h; omega) (by rintro ⟨_, h⟩; exact hh h))
      rw [decide_eq_false hh] at hhp
      have HC := Lib.hid (instrA_any HA1.out HFew.out w.heap.size n n WS HN.out hpos (by have := HL.out; omega) HB.out HG.out HSz.out line)
      clear h1 h2 hh hps hx0
      go_enter Tryz.func18, Tryz.ntmps18
      go_wp2_with fail
      refine HS.out.mono ?_
      rintro e w1 ⟨rfl, rfl⟩
      go_wp2_with fail
      refine (hhp.out _).mono ?_
      rintro e w1 ⟨rfl, hw⟩
      subst hw
      go_wp2_with fail
      refine HC.out.mono ?_
      rintro e w2 ⟨rfl, hd⟩
      have HD := Lib.hid hd
      clear hd
      go_wp2_with fail
      go_ret
      rw [HV.out, ← HWs.out]
      exact (LnDone.after (w1 := w.alloc _) ⟨rfl, HD.out⟩ HK.out).more
  have d1 : ((n : Int) == 1) = false := by rw [beq_eq_false_iff_ne]; omega
  have HV := Lib.hid (HIn.out (by rintro ⟨h, _⟩; rw [HTl.out] at h; omega) (by rintro ⟨h, _⟩; rw [HTl.out] at h; omega))
  have HC := Lib.hid (instrA_any HA1.out HFew.out w.heap.size n n WS HN.out hpos (by have := HL.out; omega) HB.out HG.out HSz.out line)
  clear h1 h2 hps hx0
  go_enter Tryz.func18, Tryz.ntmps18
  go_wp2_with fail
  refine HS.out.mono ?_
  rintro e w1 ⟨rfl, rfl⟩
  go_wp2_with fail
  refine HC.out.mono ?_
  rintro e w2 ⟨rfl, hd⟩
  have HD := Lib.hid hd
  clear hd
  go_wp2_with fail
  go_ret
  rw [HV.out, ← HWs.out]
  exact (LnDone.after (w1 := w.alloc _) ⟨rfl, HD.out⟩ HK.out).more
end Go.Proofs.YtpcihhdalofdiaaGreatDoor

/- Labels become places: the program's settle. Printed by gen_assettle.py. -/
namespace Go.Proofs.YtpcihhdalofdiaaGreatDoor
open Go.RowKit Go.Maps
attribute [local irreducible] numT kindsOf nameOf checkE fitsP operandP plainP labelP slashP namedT

set_option maxRecDepth 100000 in
set_option maxHeartbeats 6400000 in
theorem worse_any (f at_ : Int) (lb eb : Nat) (er : Int × Int) (w : World) (hl : Blk w lb 3 #[.int .i64 er.2]) (he : Blk w eb 32 #[.int .i64 er.1]) :
    Calls Tryz.prog 51 #[.int .i64 f, .int .i64 at_, .pointer (some ⟨lb, 0, none⟩), .pointer (some ⟨eb, 0, none⟩)] w fun e w' => e = .returned (.tuple #[]) ∧ Blk w' lb 3 #[.int .i64 (worse er f at_).2] ∧ Blk w' eb 32 #[.int .i64 (worse er f at_).1] ∧ Keeps w w' [lb, eb] := by
  obtain ⟨ec, line⟩ := er
  dsimp only at hl he
  have hne : lb ≠ eb := hl.ne_ he (by decide)
  have x0 := hl.cell 0
  have f0 := hl.frozen 0
  have y0 := he.cell 0
  have g0 := he.frozen 0
  have HL := Lib.hid hl
  have HE := Lib.hid he
  clear hl he
  by_cases h : line < 0 ∨ at_ < line
  · have HV : Hid (worse (ec, line) f at_ = (f, at_)) := if_pos h
    have H1 : Hid (Blk ((w.setCell ⟨eb, 0, none⟩ (.int .i64 f)).setCell ⟨lb, 0, none⟩ (.int .i64 at_)) lb 3 #[.int .i64 at_]) := Lib.hid ((HL.out.far (p := ⟨eb, 0, none⟩) hne _).set_ 0 (.int .i64 at_))
    have H2 : Hid (Blk ((w.setCell ⟨eb, 0, none⟩ (.int .i64 f)).setCell ⟨lb, 0, none⟩ (.int .i64 at_)) eb 32 #[.int .i64 f]) := Lib.hid ((HE.out.set_ 0 (.int .i64 f)).far (p := ⟨lb, 0, none⟩) (Ne.symm hne) _)
    have H3 : Hid (Keeps w ((w.setCell ⟨eb, 0, none⟩ (.int .i64 f)).setCell ⟨lb, 0, none⟩ (.int .i64 at_)) [lb, eb]) := ((Keeps.refl w _).setCell (.inl (by simp)) _).setCell (.inl (by simp)) _
    rcases Classical.em (line < 0) with h1 | h1
    · have d1 : decide (line < 0) = true := decide_eq_true h1
      clear h
      go_enter Tryz.func51, Tryz.ntmps51
      go_wp2_with fail
      go_end0
      rw [HV.out]
      exact ⟨rfl, H1.out, H2.out, H3.out⟩
    · have d1 : decide (line < 0) = false := decide_eq_false h1
      have d2 : decide (at_ < line) = true := decide_eq_true (h.resolve_left h1)
      clear h
      go_enter Tryz.func51, Tryz.ntmps51
      go_wp2_with fail
      go_end0
      rw [HV.out]
      exact ⟨rfl, H1.out, H2.out, H3.out⟩
  · have HV : Hid (worse (ec, line) f at_ = (ec, line)) := if_neg h
    have d1 : decide (line < 0) = false := decide_eq_false (fun e => h (.inl e))
    have d2 : decide (at_ < line) = false := decide_eq_false (fun e => h (.inr e))
    clear h
    go_enter Tryz.func51, Tryz.ntmps51
    go_wp2_with fail
    go_end0
    rw [HV.out]
    exact ⟨rfl, HL.out, HE.out, Keeps.refl _ _⟩
theorem wrapK (k : Nat) (h : k ≤ 1000000) : IntKind.i64.wrap ((k : Int) + 1) = (k : Int) + 1 := by
  simp only [IntKind.wrap_i64]
  omega
theorem insE_arg (i : LIns) (j : Nat) (h : j < 4) : (insE i)[1 + j]? = some (.int .i64 (i.arg j)) := by
  match j, h with
  | 0, _ => rfl
  | 1, _ => rfl
  | 2, _ => rfl
  | 3, _ => rfl
theorem setArg_flat (i : LIns) (j : Nat) (h : j < 4) (v : Int) : (insE i).set (1 + j) (.int .i64 v) = insE (setArg i j v) := by
  match j, h with
  | 0, _ => rfl
  | 1, _ => rfl
  | 2, _ => rfl
  | 3, _ => rfl
theorem set_flat5A (i : LIns) (j : Nat) (hj : j < 4) (v : Int) : ∀ (l : List LIns) (k : Nat), l[k]? = some i → (l.flatMap insE).set (k * 5 + 1 + j) (.int .i64 v) = (l.modify k fun i => setArg i j v).flatMap insE
  | [], k, h => by simp at h
  | y :: l, 0, h => by
    simp at h
    subst h
    rw [List.flatMap_cons, List.modify_zero_cons, List.flatMap_cons, ← setArg_flat _ _ hj, List.set_append_left _ _ (by rw [insE_len]; omega)]

  | y :: l, k + 1, h => by
    have ih := set_flat5A i j hj v l k (by simpa using h)
    rw [List.flatMap_cons, List.modify_succ_cons, List.flatMap_cons, ← ih, List.set_append_right _ _ (by rw [insE_len]; omega), insE_len, show (k + 1) * 5 + 1 + j - 5 = k * 5 + 1 + j by omega]
/-- The state while the labels become places. -/
structure SRun (w0 w2 wr : World) (ab vb : Nat) (AA FA PA CA UA BA : Option Addr) (ca cf cp cc cu cb nl : Nat) (S : AS) (lb eb k : Nat) (er : Int × Int) : Prop where
  am : AsM w0 wr ab vb AA FA PA CA UA BA ca cf cp cc cu cb nl { S with o := { S.o with code := codeK S k } }
  line : Blk wr lb 3 #[.int .i64 er.2]
  err : Blk wr eb 32 #[.int .i64 er.1]
  keep : Keeps w2 wr (lb :: eb :: ownL (.slice CA 0 0))
set_option maxRecDepth 100000 in
set_option maxHeartbeats 6400000 in
theorem settleA_any {w0 w : World} {ab nl : Nat} {L : List Nat} {S : AS} (hA : As w0 w ab L nl S) (hU : UsesI S) (hB : ∀ b ∈ S.begins, b.1 < S.o.preds.length) (hfew : Few S) :
    Calls Tryz.prog 20 #[.pointer (some ⟨ab, 0, none⟩)] w fun e w' => e = .returned (.tuple #[.int .i64 (least (0, -1) (wrongs S)).1, .int .i64 (least (0, -1) (wrongs S)).2]) ∧ ∃ L', As w0 w' ab L' nl { S with o := { S.o with code := codeK S S.uses.length } } ∧ ASt w L w' L' := by
  have HAs := Lib.hid hA
  have HU := Lib.hid hU
  have HBg := Lib.hid hB
  have HFew := Lib.hid hfew
  obtain ⟨vb, AA, FA, PA, CA, UA, BA, ca, cf, cp, cc, cu, cb, hm, hL, hlt⟩ := hA
  have HM := Lib.hid hm
  have HL := Lib.hid hL
  have HLt := Lib.hid hlt
  obtain ⟨nc, hnc⟩ : ∃ n, S.o.code.length = n := ⟨_, rfl⟩
  obtain ⟨nu, hnu⟩ : ∃ n, S.uses.length = n := ⟨_, rfl⟩
  obtain ⟨nb, hnb⟩ : ∃ n, S.begins.length = n := ⟨_, rfl⟩
  obtain ⟨np, hnp⟩ : ∃ n, S.o.preds.length = n := ⟨_, rfl⟩
  have HNc := Lib.hid hnc
  have HNu := Lib.hid hnu
  have HNb := Lib.hid hnb
  have HNp := Lib.hid hnp
  have hnu6 : nu ≤ 1000000 := by rw [← hnu]; exact hfew.uses
  have hnb6 : nb ≤ 1000000 := by rw [← hnb]; exact hfew.begins
  have q3 := hm.blk.cell 3
  simp only [List.getElem?_toArray, List.getElem?_cons_zero, List.getElem?_cons_succ, hnc] at q3
  have HK1 : Hid (Keeps w ((w.alloc (.cells #[.int .i64 0] 32)).alloc (.cells #[.int .i64 (-1)] 3)) []) := ((Keeps.refl w []).alloc _).alloc _
  have HEb : Hid (Blk ((w.alloc (.cells #[.int .i64 0] 32)).alloc (.cells #[.int .i64 (-1)] 3)) w.heap.size 32 #[.int .i64 0]) := (Blk.new _ _ _).alloc _
  have HLb : Hid (Blk ((w.alloc (.cells #[.int .i64 0] 32)).alloc (.cells #[.int .i64 (-1)] 3)) (w.heap.size + 1) 3 #[.int .i64 (-1)]) := Blk.newAt _ _ (by simp)
  have hmf : ∀ (fn : Fn) (first cap : Array Value) (w : World), (Instr.makeFunc fn first cap).run Tryz.prog w = .ok (.func fn first cap) w := fun _ _ _ _ => rfl
  clear hm hL hlt hU hB hfew hnc hnu hnb hnp
  go_enter Tryz.func20, Tryz.ntmps20
  go_upto_region 4 with fail
  generalize (w.alloc (.cells #[.int .i64 0] 32)).alloc (.cells #[.int .i64 (-1)] 3) = w2 at *
  have HM2 := Lib.hid (HM.out.keep0 HK1.out)
  have q5 := HM2.out.blk.cell 5
  simp only [List.getElem?_toArray, List.getElem?_cons_zero, List.getElem?_cons_succ, HNu.out] at q5
  clear q3
  have H0 : Hid (SRun w0 w2 w2 ab vb AA FA PA CA UA BA ca cf cp cc cu cb nl S (w.heap.size + 1) w.heap.size 0 (0, -1)) := ⟨by rw [codeK_zero]; exact HM2.out, HLb.out, HEb.out, Keeps.refl _ _⟩
  have HB0 : Hid (w.heap.size ∉ L ∧ w.heap.size + 1 ∉ L) := ⟨fun hm => by have := (HLt.out _ hm).2; omega, fun hm => by have := (HLt.out _ hm).2; omega⟩
  clear HEb HLb hmf
  go_wp2_with fail
  go_loopw [9, 10, 11, 27] (fun v9 v10 v11 i wr => ∃ k : Nat, k ≤ nu ∧ i = .int .i64 k ∧ ∃ er : Int × Int, SRun w0 w2 wr ab vb AA FA PA CA UA BA ca cf cp cc cu cb nl S (w.heap.size + 1) w.heap.size k er ∧ Hid (least er (useW S (S.uses.drop k) ++ begW S S.begins) = least (0, -1) (wrongs S))) (fun _ _ _ i _ => nu - (intOf i).toNat)
  case atStart => exact ⟨0, Nat.zero_le _, rfl, (0, -1), H0.out, rfl⟩
  case round =>
    clear H0 q5
    obtain ⟨k, hk, rfl, er, hrun, HLs⟩ := hrel
    have HR := Lib.hid hrun
    by_cases hlk : k < nu
    · obtain ⟨u, hu⟩ := at_of HNu.out hlk
      obtain ⟨b, off, rfl, hb, hc⟩ := (Rd.of_own hrun.am.uses).field useE_len hu (by omega)
      obtain ⟨i, hci, harg, hlo, hhi, hu4⟩ := codeK_arg HU.out hu
      have huc : u.1 < nc := by have := (List.getElem?_eq_some_iff.1 hci).1; rw [codeK_len, HNc.out] at this; exact this
      obtain ⟨gc, hCA, hcap⟩ := own_atA hrun.am.code (by simp only; rw [codeK_len, HNc.out]; omega)
      obtain ⟨b2, off2, e2, hb2, hc2⟩ := (Rd.of_own hrun.am.code).field insE_len hci (by omega)
      rw [hCA] at e2
      injection e2 with e2
      injection e2 with e3 e4
      subst e3 e4
      have y0 := hc2 (1 + u.2.1) _ (insE_arg i u.2.1 hu4)
      rw [Nat.zero_add, ← Nat.add_assoc] at y0
      obtain ⟨u1, u2, u3⟩ := u
      dsimp only at y0 harg hlo hhi hu4 huc hci
      have p0 : wr.cell? ⟨b, off + k * 3, none⟩ = some (.int .i64 u1) := hc 0 _ rfl
      have p1 : wr.cell? ⟨b, off + k * 3 + 1, none⟩ = some (.int .i64 u2) := hc 1 _ rfl
      have p2 : wr.cell? ⟨b, off + k * 3 + 2, none⟩ = some (.int .i64 u3) := hc 2 _ rfl
      have HCi := Lib.hid hci
      have HU0 := Lib.hid hu
      have HY0 := Lib.hid y0
      obtain ⟨x, hx⟩ : ∃ x, i.arg u2 = x := ⟨_, rfl⟩
      have HX : Hid (x = (S.o.code.getD u1 noI).arg u2) := Lib.hid (by rw [← hx]; exact harg)
      have hxi : I64A x := ⟨by omega, by omega⟩
      rw [hx] at HY0
      obtain ⟨o, ho⟩ : ∃ o, S.labels x = o := ⟨_, rfl⟩
      have HBad : Hid (badUse S (u1, u2, u3) = (o.map fun p => decide (nc ≤ p)).getD true) := Lib.hid (by
        have h1 : useAt S (u1, u2, u3) = o := by show S.labels ((S.o.code.getD u1 noI).arg u2) = o; rw [← HX.out, ho]
        unfold badUse
        rw [h1, HNc.out]
        cases o <;> rfl)
      have HGet : Hid (useAt S (u1, u2, u3) = o) := Lib.hid (by show S.labels ((S.o.code.getD u1 noI).arg u2) = o; rw [← HX.out, ho])
      have HO := Lib.hid ho
      have HXi := Lib.hid hxi
      obtain ⟨pl, hpl⟩ : ∃ pl : Int, ((o.getD 0 : Nat) : Int) = pl := ⟨_, rfl⟩
      obtain ⟨is, his⟩ : ∃ is, o.isSome = is := ⟨_, rfl⟩
      have hfz : wr.frozen? ⟨gc, u1 * 5 + 1 + u2, none⟩ = false := by
        have ho' := hrun.am.code
        rw [hCA] at ho'
        obtain ⟨cur, hbk, _⟩ := own_block ho'
        exact hbk.frozen _
      have HFz := Lib.hid hfz
      have KB : Keeps wr (wr.alloc (.cells #[.int .i64 u1, .int .i64 u2, .int .i64 u3] 105)) [] := (Keeps.refl wr []).alloc _
      have HKB := Lib.hid KB
      have HBx : Hid (Blk (wr.alloc (.cells #[.int .i64 u1, .int .i64 u2, .int .i64 u3] 105)) wr.heap.size 105 #[.int .i64 u1, .int .i64 u2, .int .i64 u3]) := Blk.new _ _ _
      have HF7 : Hid (∀ W, Keeps (wr.alloc (.cells #[.int .i64 u1, .int .i64 u2, .int .i64 u3] 105)) W [] → (W.cell? ⟨ab, 4, none⟩ = some (.map (some vb)) ∧ W.cell? ⟨ab, 3, none⟩ = some (.slice (some ⟨gc, 0, none⟩) nc cc) ∧ W.cell? ⟨wr.heap.size, 0, none⟩ = some (.int .i64 u1) ∧ W.cell? ⟨wr.heap.size, 1, none⟩ = some (.int .i64 u2) ∧ W.cell? ⟨gc, u1 * 5 + 1 + u2, none⟩ = some (.int .i64 x)) ∧ (Instr.lookup 54 (.map (some vb)) (.int .i64 x) true).run Tryz.prog W = .ok (.tuple #[.int .i64 pl, .bool is]) W) := fun W kk => by
        have am := HR.out.am.keep0 (HKB.out.trans kk)
        have b4 := am.blk.cell 4
        have b3 := am.blk.cell 3
        simp only [List.getElem?_toArray, List.getElem?_cons_zero, List.getElem?_cons_succ, codeK_len, HNc.out, hCA] at b4 b3
        have hl := am.labels.look HXi.out
        dsimp only at hl
        rw [ho, hpl, his] at hl
        exact ⟨⟨b4, b3, (HBx.out.keep kk (by simp)).cell 0, (HBx.out.keep kk (by simp)).cell 1, ((HKB.out.trans kk).cell0 (block_lt_of_cell HY0.out)).trans HY0.out⟩, hl⟩
      have HCA := Lib.hid hCA
      have HU4 := Lib.hid hu4
      have b1 : (k : Int) < (nu : Int) := by omega
      have b0 : (0 : Int) ≤ (k : Int) := Int.natCast_nonneg _
      have b5 : (u1 : Int) < (nc : Int) := by omega
      have b6 : (0 : Int) ≤ (u1 : Int) := Int.natCast_nonneg _
      have b7 : (u2 : Int) < 4 := by omega
      have b8 : (0 : Int) ≤ (u2 : Int) := Int.natCast_nonneg _
      clear hrun hu hc hci harg hlo hhi hb hb2 hc2 y0 hx hxi ho hfz KB hCA hcap
      go_upto_region 7 with fail
      clear p0 p1 p2
      refine wp_region_tx (fun W' => (W'.cell? ⟨ab, 4, none⟩ = some (.map (some vb)) ∧ W'.cell? ⟨ab, 3, none⟩ = some (.slice (some ⟨gc, 0, none⟩) nc cc) ∧ W'.cell? ⟨wr.heap.size, 0, none⟩ = some (.int .i64 u1) ∧ W'.cell? ⟨wr.heap.size, 1, none⟩ = some (.int .i64 u2) ∧ W'.cell? ⟨gc, u1 * 5 + 1 + u2, none⟩ = some (.int .i64 x)) ∧ (Instr.lookup 54 (.map (some vb)) (.int .i64 x) true).run Tryz.prog W' = .ok (.tuple #[.int .i64 pl, .bool is]) W') [(0, true), (1, true), (2, true), (3, true), (4, true), (5, true), (6, true), (7, true), (8, true), (9, true), (10, true), (11, true), (12, true), (13, true), (14, true), (15, true), (16, true), (17, true), (18, true), (19, true), (20, true), (21, false), (22, false)] (by kernel_rfl) (by kernel_rfl) (HF7.out _ (Keeps.refl _ _).drew) (fun hHeld => ?_)
      (repeat (first | (refine wpTx_take (v := ?_) rfl (by assumption) ?_ (by rfl) ?_; rotate_left; (focus (intro w' hSw; (try dsimp only at hSw); go_simp; (try with_reducible rfl); done)); simp only [Act.put, List.setIfInBounds_toArray, List.set_cons_zero, List.set_cons_succ]) | (refine wpTx_skip rfl (by assumption) (by rfl) ?_; simp only [Act.put, List.setIfInBounds_toArray, List.set_cons_zero, List.set_cons_succ])))
      refine wpTx_go rfl (fun K hK => ?_)
      go_simp
      refine hK.out _ _ ?_ ?_
      · exact HF7.out _ (Keeps.refl _ _).drew
      (clear hHeld; intro hHeld; clear hK K; (try simp only [Act.put, List.setIfInBounds_toArray, List.set_cons_zero, List.set_cons_succ]))
      refine wpTx_last rfl (fun K hK => ?_)
      go_simp
      refine hK.out _ _ (NoPanic.normal ?_); clear hK K; (try simp only [Act.put, List.setIfInBounds_toArray, List.set_cons_zero, List.set_cons_succ])
      clear hHeld HF7
      have HK6 : Hid (Keeps wr (wr.alloc (.cells #[.int .i64 u1, .int .i64 u2, .int .i64 u3] 105)).drew []) := HKB.out.drew
      have HBx6 := Lib.hid HBx.out.drew
      have HL6 := Lib.hid (HR.out.line.keep HK6.out (by simp))
      have HE6 := Lib.hid (HR.out.err.keep HK6.out (by simp))
      have HM6 := Lib.hid (HR.out.am.keep0 HK6.out)
      have HLL : Hid (∀ z ∈ asL ab vb AA FA PA CA (some ⟨b, off, none⟩) BA, z ∈ L) := Lib.hid HL.out
      have HBase : Hid (w0.heap.size ≤ w.heap.size) := Lib.hid HM.out.bel.size
      clear HBx HKB
      generalize (wr.alloc (.cells #[.int .i64 u1, .int .i64 u2, .int .i64 u3] 105)).drew = w6 at *
      have HF10 : Hid ((w6.drew.cell? ⟨ab, 3, none⟩ = some (.slice (some ⟨gc, 0, none⟩) nc cc) ∧ w6.drew.cell? ⟨wr.heap.size, 0, none⟩ = some (.int .i64 u1) ∧ w6.drew.cell? ⟨wr.heap.size, 1, none⟩ = some (.int .i64 u2) ∧ w6.drew.cell? ⟨gc, u1 * 5 + 1 + u2, none⟩ = some (.int .i64 x)) ∧ w6.drew.frozen? ⟨gc, u1 * 5 + 1 + u2, none⟩ = false) := by
        have b3 := HM6.out.blk.cell 3
        simp only [List.getElem?_toArray, List.getElem?_cons_zero, List.getElem?_cons_succ, codeK_len, HNc.out, HCA.out] at b3
        exact ⟨⟨b3, HBx6.out.cell 0, HBx6.out.cell 1, (HK6.out.cell0 (block_lt_of_cell HY0.out)).trans HY0.out⟩, (HK6.out.frozen (p := ⟨gc, u1 * 5 + 1 + u2, none⟩) (block_lt_of_cell HY0.out) (by simp)).trans HFz.out⟩
      have z2 := HBx6.out.cell 2
      cases o with
      | none =>
        obtain rfl : pl = 0 := hpl.symm
        obtain rfl : is = false := his.symm
        clear hpl his
        have HBd : Hid (badUse S (u1, u2, u3) = true) := Lib.hid (by rw [HBad.out]; rfl)
        have HW7 := Lib.hid (worse_any 10 u3 (w.heap.size + 1) w.heap.size er w6 (HL6.out) (HE6.out))
        clear HF10
        go_wp2_with fail
        refine HW7.out.mono ?_
        rintro e w7 ⟨rfl, g1, g2, g3⟩
        have HAm : Hid (AsM w0 w7 ab vb AA FA PA CA (some ⟨b, off, none⟩) BA ca cf cp cc cu cb nl { S with o := { S.o with code := codeK S (k + 1) } }) := Lib.hid (by
          have h1 := HM6.out.keep g3 (by
            intro q hq
            have hh := HBase.out
            simp only [List.mem_cons, List.not_mem_nil, or_false] at hq
            rcases hq with rfl | rfl
            · exact ⟨fun hm => HB0.out.2 (HLL.out _ hm), by omega⟩
            · exact ⟨fun hm => HB0.out.1 (HLL.out _ hm), by omega⟩)
          rw [codeK_succ HU0.out]
          unfold putU
          rw [if_pos HBd.out]
          exact h1)
        have HLs2 : Hid (least (worse er 10 u3) (useW S (S.uses.drop (k + 1)) ++ begW S S.begins) = least (0, -1) (wrongs S)) := Lib.hid (by
          have h1 := HLs.out
          rw [List.drop_eq_getElem_cons (by rw [HNu.out]; exact hlk), (List.getElem?_eq_some_iff.1 HU0.out).2, useW_cons, if_pos HBd.out] at h1
          exact h1)
        have HKe : Hid (Keeps w2 w7 ((w.heap.size + 1) :: w.heap.size :: ownL (.slice CA 0 0))) := Lib.hid ((HR.out.keep.trans (HK6.out.to_ _)).trans (g3.more (fun b _ hb => by simp only [List.mem_cons, List.not_mem_nil, or_false] at hb ⊢; rcases hb with h | h <;> simp [h])))
        have HG1 := Lib.hid g1
        have HG2 := Lib.hid g2
        clear g1 g2 g3
        go_wp2_with fail
        go_roundw
        case rel => exact ⟨k + 1, by omega, by go_num, _, ⟨HAm.out, HG1.out, HG2.out, HKe.out⟩, HLs2⟩
        case measure => simp [intOf]; omega
      | some p =>
        obtain rfl : is = true := his.symm
        simp only [Option.getD_some] at hpl
        clear his
        by_cases hp : nc ≤ p
        · have d0 : decide ((nc : Int) ≤ pl) = true := decide_eq_true (by omega)
          have HBd : Hid (badUse S (u1, u2, u3) = true) := Lib.hid (by rw [HBad.out]; exact decide_eq_true hp)
          have HW7 := Lib.hid (worse_any 10 u3 (w.heap.size + 1) w.heap.size er w6 (HL6.out) (HE6.out))
          clear HF10
          go_wp2_with fail
          refine HW7.out.mono ?_
          rintro e w7 ⟨rfl, g1, g2, g3⟩
          have HAm : Hid (AsM w0 w7 ab vb AA FA PA CA (some ⟨b, off, none⟩) BA ca cf cp cc cu cb nl { S with o := { S.o with code := codeK S (k + 1) } }) := Lib.hid (by
            have h1 := HM6.out.keep g3 (by
              intro q hq
              have hh := HBase.out
              simp only [List.mem_cons, List.not_mem_nil, or_false] at hq
              rcases hq with rfl | rfl
              · exact ⟨fun hm => HB0.out.2 (HLL.out _ hm), by omega⟩
              · exact ⟨fun hm => HB0.out.1 (HLL.out _ hm), by omega⟩)
            rw [codeK_succ HU0.out]
            unfold putU
            rw [if_pos HBd.out]
            exact h1)
          have HLs2 : Hid (least (worse er 10 u3) (useW S (S.uses.drop (k + 1)) ++ begW S S.begins) = least (0, -1) (wrongs S)) := Lib.hid (by
            have h1 := HLs.out
            rw [List.drop_eq_getElem_cons (by rw [HNu.out]; exact hlk), (List.getElem?_eq_some_iff.1 HU0.out).2, useW_cons, if_pos HBd.out] at h1
            exact h1)
          have HKe : Hid (Keeps w2 w7 ((w.heap.size + 1) :: w.heap.size :: ownL (.slice CA 0 0))) := Lib.hid ((HR.out.keep.trans (HK6.out.to_ _)).trans (g3.more (fun b _ hb => by simp only [List.mem_cons, List.not_mem_nil, or_false] at hb ⊢; rcases hb with h | h <;> simp [h])))
          have HG1 := Lib.hid g1
          have HG2 := Lib.hid g2
          clear g1 g2 g3
          go_wp2_with fail
          go_roundw
          case rel => exact ⟨k + 1, by omega, by go_num, _, ⟨HAm.out, HG1.out, HG2.out, HKe.out⟩, HLs2⟩
          case measure => simp [intOf]; omega
        · have d0 : decide ((nc : Int) ≤ pl) = false := decide_eq_false (by omega)
          have HGood : Hid (badUse S (u1, u2, u3) = false) := Lib.hid (by rw [HBad.out]; exact decide_eq_false hp)
          have HPl := Lib.hid hpl
          clear hp hpl z2
          go_upto_region 10 with fail
          refine wp_region_tx (fun W' => (W'.cell? ⟨ab, 3, none⟩ = some (.slice (some ⟨gc, 0, none⟩) nc cc) ∧ W'.cell? ⟨wr.heap.size, 0, none⟩ = some (.int .i64 u1) ∧ W'.cell? ⟨wr.heap.size, 1, none⟩ = some (.int .i64 u2) ∧ W'.cell? ⟨gc, u1 * 5 + 1 + u2, none⟩ = some (.int .i64 x)) ∧ W'.frozen? ⟨gc, u1 * 5 + 1 + u2, none⟩ = false) [(0, true), (1, true), (2, true), (3, true), (4, true), (5, true), (6, true), (7, true), (8, true), (9, true), (10, true), (11, true), (12, true), (13, false)] (by kernel_rfl) (by kernel_rfl) HF10.out (fun hHeld => ?_)
          (repeat (first | (refine wpTx_take (v := ?_) rfl (by assumption) ?_ (by rfl) ?_; rotate_left; (focus (intro w' hSw; (try dsimp only at hSw); go_simp; (try with_reducible rfl); done)); simp only [Act.put, List.setIfInBounds_toArray, List.set_cons_zero, List.set_cons_succ]) | (refine wpTx_skip rfl (by assumption) (by rfl) ?_; simp only [Act.put, List.setIfInBounds_toArray, List.set_cons_zero, List.set_cons_succ])))
          refine wpTx_last rfl (fun K hK => ?_)
          go_simp
          refine hK.out _ _ (NoPanic.normal ?_); clear hK K; (try simp only [Act.put, List.setIfInBounds_toArray, List.set_cons_zero, List.set_cons_succ])
          clear hHeld HF10
          have HM6' := HM6.out
          have hgm : gc ∈ ownL (.slice CA 0 0) := by rw [HCA.out]; simp [ownL, Value.ownBlock]
          have k7 : Keeps w6 (w6.setCell ⟨gc, u1 * 5 + 1 + u2, none⟩ (.int .i64 pl)).drew (ownL (.slice CA 0 0)) := ((Keeps.refl w6 _).setCell (.inl hgm) _).drew
          have HAm : Hid (AsM w0 (w6.setCell ⟨gc, u1 * 5 + 1 + u2, none⟩ (.int .i64 pl)).drew ab vb AA FA PA CA (some ⟨b, off, none⟩) BA ca cf cp cc cu cb nl { S with o := { S.o with code := codeK S (k + 1) } }) := Lib.hid (by
            have hh := HM6'.code_in (l' := codeK S (k + 1)) k7 (by simp only [codeK_len]) (by
              have h1 := HM6'.code
              rw [HCA.out] at h1 ⊢
              have h2 := own_cellA h1 (u1 * 5 + 1 + u2) (.int .i64 pl)
              rw [set_flat5A _ u2 HU4.out pl _ _ HCi.out] at h2
              rw [codeK_succ HU0.out]
              unfold putU
              rw [if_neg (by rw [HGood.out]; exact Bool.false_ne_true), HGet.out]
              simp only [Option.getD_some]
              rw [HPl.out]
              exact h2)
            exact hh)
          have HLs2 : Hid (least er (useW S (S.uses.drop (k + 1)) ++ begW S S.begins) = least (0, -1) (wrongs S)) := Lib.hid (by
            have h1 := HLs.out
            rw [List.drop_eq_getElem_cons (by rw [HNu.out]; exact hlk), (List.getElem?_eq_some_iff.1 HU0.out).2, useW_cons, if_neg (by rw [HGood.out]; exact Bool.false_ne_true)] at h1
            exact h1)
          have HKe : Hid (Keeps w2 (w6.setCell ⟨gc, u1 * 5 + 1 + u2, none⟩ (.int .i64 pl)).drew ((w.heap.size + 1) :: w.heap.size :: ownL (.slice CA 0 0))) := Lib.hid ((HR.out.keep.trans (HK6.out.to_ _)).trans (k7.more (fun b _ hb => by simp [hb])))
          have HG1 := Lib.hid (HL6.out.keep k7 (fun hm => HB0.out.2 (HLL.out _ (by unfold asL; simp [hm]))))
          have HG2 := Lib.hid (HE6.out.keep k7 (fun hm => HB0.out.1 (HLL.out _ (by unfold asL; simp [hm]))))
          clear HM6' hgm k7
          generalize (w6.setCell ⟨gc, u1 * 5 + 1 + u2, none⟩ (.int .i64 pl)).drew = w7 at *
          go_wp2_with fail
          go_roundw
          case rel => exact ⟨k + 1, by omega, by go_num, _, ⟨HAm.out, HG1.out, HG2.out, HKe.out⟩, HLs2⟩
          case measure => simp [intOf]; omega
    · obtain rfl : nu = k := by omega
      obtain ⟨w3, hw3⟩ : ∃ w3, w3 = wr := ⟨wr, rfl⟩
      subst hw3
      have H3 : Hid (least er (begW S S.begins) = least (0, -1) (wrongs S)) := Lib.hid (by
        have h1 := HLs.out
        rw [List.drop_of_length_le (by rw [HNu.out]; exact Nat.le_refl _)] at h1
        exact h1)
      have q6 := hrun.am.blk.cell 6
      simp only [List.getElem?_toArray, List.getElem?_cons_zero, List.getElem?_cons_succ, HNb.out] at q6
      have H0 := Lib.hid hrun
      clear hrun HLs HR hk hlk
      go_wp2_with fail
      go_loopw [12, 13, 14, 82] (fun v12 v13 v14 i wr => ∃ k : Nat, k ≤ nb ∧ i = .int .i64 k ∧ ∃ er : Int × Int, SRun w0 w2 wr ab vb AA FA PA CA UA BA ca cf cp cc cu cb nl S (w.heap.size + 1) w.heap.size nu er ∧ Hid (least er (begW S (S.begins.drop k)) = least (0, -1) (wrongs S))) (fun _ _ _ i _ => nb - (intOf i).toNat)
      case atStart => exact ⟨0, Nat.zero_le _, rfl, er, H0.out, H3.out⟩
      case round =>
        clear H0 q6 H3 er
        obtain ⟨k, hk, rfl, er, hrun, HLs⟩ := hrel
        have HR := Lib.hid hrun
        by_cases hlk : k < nb
        · obtain ⟨b, hb⟩ := at_of HNb.out hlk
          obtain ⟨gb, hBA, _⟩ := own_atA hrun.am.begins (by simp only; rw [HNb.out]; omega)
          subst hBA
          obtain ⟨b1', off1, e1, hb1, hc⟩ := (Rd.of_own hrun.am.begins).field begE_len hb (by omega)
          injection e1 with e1
          injection e1 with e3 e4
          subst e3 e4
          obtain ⟨p, ln⟩ := b
          have hpn : p < np := by have := HBg.out _ (List.mem_of_getElem? hb); rw [HNp.out] at this; exact this
          obtain ⟨pr, hpr⟩ := at_of HNp.out hpn
          obtain ⟨gp, hPA, _⟩ := own_atA hrun.am.preds (by simp only; rw [HNp.out]; omega)
          subst hPA
          obtain ⟨b2', off2, e2, hb2, hc2⟩ := (Rd.of_own hrun.am.preds).field predE_len hpr (by omega)
          injection e2 with e2
          injection e2 with e3 e4
          subst e3 e4
          have p0 : wr.cell? ⟨gb, 0 + k * 2, none⟩ = some (.int .i64 p) := hc 0 _ rfl
          have p1 : wr.cell? ⟨gb, 0 + k * 2 + 1, none⟩ = some (.int .i64 ln) := hc 1 _ rfl
          have y2 : wr.cell? ⟨gp, 0 + p * 3 + 2, none⟩ = some (.int .i64 pr.entry) := hc2 2 _ rfl
          rw [Nat.zero_add] at p0 p1 y2
          obtain ⟨en, hen⟩ : ∃ en, pr.entry = en := ⟨_, rfl⟩
          rw [hen] at y2
          have HY2 := Lib.hid y2
          have HEn : Hid (entryAt S (p, ln) = en) := Lib.hid (by
            unfold entryAt
            rw [List.getD_eq_getElem?_getD, hpr]
            exact hen)
          have HDr : Hid (S.begins.drop k = (p, ln) :: S.begins.drop (k + 1)) := Lib.hid (by
            rw [List.drop_eq_getElem_cons (by rw [HNb.out]; exact hlk), (List.getElem?_eq_some_iff.1 hb).2])
          have KB : Keeps wr (wr.alloc (.cells #[.int .i64 p, .int .i64 ln] 108)) [] := (Keeps.refl wr []).alloc _
          have HKB := Lib.hid KB
          have HBx : Hid (Blk (wr.alloc (.cells #[.int .i64 p, .int .i64 ln] 108)) wr.heap.size 108 #[.int .i64 p, .int .i64 ln]) := Blk.new _ _ _
          have HF15 : Hid (∀ W, Keeps (wr.alloc (.cells #[.int .i64 p, .int .i64 ln] 108)) W [] → W.cell? ⟨ab, 2, none⟩ = some (.slice (some ⟨gp, 0, none⟩) np cp) ∧ W.cell? ⟨wr.heap.size, 0, none⟩ = some (.int .i64 p) ∧ W.cell? ⟨gp, p * 3 + 2, none⟩ = some (.int .i64 en)) := fun W kk => by
            have am := HR.out.am.keep0 (HKB.out.trans kk)
            have b2 := am.blk.cell 2
            simp only [List.getElem?_toArray, List.getElem?_cons_zero, List.getElem?_cons_succ, HNp.out] at b2
            exact ⟨b2, (HBx.out.keep kk (by simp)).cell 0, ((HKB.out.trans kk).cell0 (block_lt_of_cell HY2.out)).trans HY2.out⟩
          have c1 : (k : Int) < (nb : Int) := by omega
          have c0 : (0 : Int) ≤ (k : Int) := Int.natCast_nonneg _
          have c5 : (p : Int) < (np : Int) := by omega
          have c6 : (0 : Int) ≤ (p : Int) := Int.natCast_nonneg _
          have HLL : Hid (∀ z ∈ asL ab vb AA FA (some ⟨gp, 0, none⟩) CA UA (some ⟨gb, 0, none⟩), z ∈ L) := Lib.hid HL.out
          have HBase : Hid (w0.heap.size ≤ w.heap.size) := Lib.hid HM.out.bel.size
          clear hrun hb hc hpr hc2 hb1 hb2 y2 hen KB hpn
          go_upto_region 15 with fail
          clear p0 p1
          refine wp_region_tx (fun W' => W'.cell? ⟨ab, 2, none⟩ = some (.slice (some ⟨gp, 0, none⟩) np cp) ∧ W'.cell? ⟨wr.heap.size, 0, none⟩ = some (.int .i64 p) ∧ W'.cell? ⟨gp, p * 3 + 2, none⟩ = some (.int .i64 en)) [(0, true), (1, true), (2, true), (3, true), (4, true), (5, true), (6, true), (7, true), (8, true), (9, true), (10, false)] (by kernel_rfl) (by kernel_rfl) (HF15.out _ (Keeps.refl _ _).drew) (fun hHeld => ?_)
          (repeat (first | (refine wpTx_take (v := ?_) rfl (by assumption) ?_ (by rfl) ?_; rotate_left; (focus (intro w' hSw; (try dsimp only at hSw); go_simp; (try with_reducible rfl); done)); simp only [Act.put, List.setIfInBounds_toArray, List.set_cons_zero, List.set_cons_succ]) | (refine wpTx_skip rfl (by assumption) (by rfl) ?_; simp only [Act.put, List.setIfInBounds_toArray, List.set_cons_zero, List.set_cons_succ])))
          refine wpTx_last rfl (fun K hK => ?_)
          go_simp
          refine hK.out _ _ (NoPanic.normal ?_); clear hK K; (try simp only [Act.put, List.setIfInBounds_toArray, List.set_cons_zero, List.set_cons_succ])
          clear hHeld HF15
          have HK6 : Hid (Keeps wr (wr.alloc (.cells #[.int .i64 p, .int .i64 ln] 108)).drew []) := HKB.out.drew
          have HBx6 := Lib.hid HBx.out.drew
          clear HBx HKB
          generalize (wr.alloc (.cells #[.int .i64 p, .int .i64 ln] 108)).drew = w6 at *
          have HDw : Hid (IntKind.i64.wrap ((k : Int) + 1) = (k : Int) + 1) := Lib.hid (wrapK k (by omega))
          have HF6 : Hid (w6.drew.cell? ⟨ab, 6, none⟩ = some (.slice (some ⟨gb, 0, none⟩) nb cb) ∧ w6.drew.cell? ⟨ab, 2, none⟩ = some (.slice (some ⟨gp, 0, none⟩) np cp)) := by
            have am := HR.out.am.keep0 HK6.out.drew
            have b6 := am.blk.cell 6
            have b2 := am.blk.cell 2
            simp only [List.getElem?_toArray, List.getElem?_cons_zero, List.getElem?_cons_succ, HNb.out, HNp.out] at b6 b2
            exact ⟨b6, b2⟩
          by_cases hen : (nc : Int) ≤ en
          · have d0 : decide ((nc : Int) ≤ en) = true := decide_eq_true hen
            have HBd : Hid (begBad S (p, ln) (S.begins.drop (k + 1)) = true) := Lib.hid (by unfold begBad; rw [HNc.out, HEn.out, d0]; rfl)
            go_upto_region 16 with fail
            refine wp_region_tx (fun W' => W'.cell? ⟨ab, 6, none⟩ = some (.slice (some ⟨gb, 0, none⟩) nb cb) ∧ W'.cell? ⟨ab, 2, none⟩ = some (.slice (some ⟨gp, 0, none⟩) np cp)) [(0, true), (1, true), (2, true), (3, true), (4, true), (5, true), (6, true), (7, true), (8, true), (9, true), (10, true), (11, true), (12, true), (13, true), (14, true), (15, true), (16, true), (17, true), (18, true), (19, true), (20, true), (21, true), (22, true), (23, true), (24, true), (25, true), (26, true), (27, true), (28, true), (29, true), (30, true), (31, true), (32, true), (33, false)] (by kernel_rfl) (by kernel_rfl) HF6.out (fun hHeld => ?_)
            have dw := HDw.out
            (repeat (first | (refine wpTx_take (v := ?_) rfl (by assumption) ?_ (by rfl) ?_; rotate_left; (focus (intro w' hSw; (try dsimp only at hSw); go_simp; (try with_reducible rfl); done)); simp only [Act.put, List.setIfInBounds_toArray, List.set_cons_zero, List.set_cons_succ]) | (refine wpTx_skip rfl (by assumption) (by rfl) ?_; simp only [Act.put, List.setIfInBounds_toArray, List.set_cons_zero, List.set_cons_succ])))
            refine wpTx_last rfl (fun K hK => ?_)
            go_simp
            refine hK.out _ _ (NoPanic.normal ?_); clear hK K; (try simp only [Act.put, List.setIfInBounds_toArray, List.set_cons_zero, List.set_cons_succ])
            clear hHeld dw
            have HK7 : Hid (Keeps wr w6.drew []) := HK6.out.drew
            have HBx7 := Lib.hid HBx6.out.drew
            have HL7 := Lib.hid (HR.out.line.keep HK7.out (by simp))
            have HE7 := Lib.hid (HR.out.err.keep HK7.out (by simp))
            have HM7 := Lib.hid (HR.out.am.keep0 HK7.out)
            generalize w6.drew = w7 at *
            have HLs2 : Hid (least (worse er 7 ln) (begW S (S.begins.drop (k + 1))) = least (0, -1) (wrongs S)) := Lib.hid (by
              have h1 := HLs.out
              rw [HDr.out, begW_cons, if_pos HBd.out] at h1
              exact h1)
            have HW7 := Lib.hid (worse_any 7 ln (w.heap.size + 1) w.heap.size er w7 HL7.out HE7.out)
            have z1 := HBx7.out.cell 1
            go_wp2_with fail
            refine HW7.out.mono ?_
            rintro e w8 ⟨rfl, g1, g2, g3⟩
            have HAm : Hid (AsM w0 w8 ab vb AA FA (some ⟨gp, 0, none⟩) CA UA (some ⟨gb, 0, none⟩) ca cf cp cc cu cb nl { S with o := { S.o with code := codeK S nu } }) := Lib.hid (by
              refine HM7.out.keep g3 ?_
              intro q hq
              have hh := HBase.out
              simp only [List.mem_cons, List.not_mem_nil, or_false] at hq
              rcases hq with rfl | rfl
              · exact ⟨fun hm => HB0.out.2 (HLL.out _ hm), by omega⟩
              · exact ⟨fun hm => HB0.out.1 (HLL.out _ hm), by omega⟩)
            have HKe : Hid (Keeps w2 w8 ((w.heap.size + 1) :: w.heap.size :: ownL (.slice CA 0 0))) := Lib.hid ((HR.out.keep.trans (HK7.out.to_ _)).trans (g3.more (fun b _ hb => by simp only [List.mem_cons, List.not_mem_nil, or_false] at hb ⊢; rcases hb with h | h <;> simp [h])))
            have HG1 := Lib.hid g1
            have HG2 := Lib.hid g2
            clear g1 g2 g3
            go_wp2_with fail
            go_roundw
            case rel => exact ⟨k + 1, by omega, by go_num, _, ⟨HAm.out, HG1.out, HG2.out, HKe.out⟩, HLs2⟩
            case measure => simp [intOf]; omega
          · have d0 : decide ((nc : Int) ≤ en) = false := decide_eq_false hen
            by_cases hk1 : k + 1 < nb
            · obtain ⟨b2, hb2⟩ := at_of HNb.out hk1
              obtain ⟨b1', off1, e1, hb1, hc⟩ := (Rd.of_own HR.out.am.begins).field begE_len hb2 (by omega)
              injection e1 with e1
              injection e1 with e3 e4
              subst e3 e4
              obtain ⟨p2, ln2⟩ := b2
              have hpn : p2 < np := by have := HBg.out _ (List.mem_of_getElem? hb2); rw [HNp.out] at this; exact this
              obtain ⟨pr2, hpr2⟩ := at_of HNp.out hpn
              obtain ⟨b2', off2, e2', hb2', hc2⟩ := (Rd.of_own HR.out.am.preds).field predE_len hpr2 (by omega)
              injection e2' with e2'
              injection e2' with e3 e4
              subst e3 e4
              have r0 : wr.cell? ⟨gb, 0 + (k + 1) * 2, none⟩ = some (.int .i64 p2) := hc 0 _ rfl
              have r2 : wr.cell? ⟨gp, 0 + p2 * 3 + 2, none⟩ = some (.int .i64 pr2.entry) := hc2 2 _ rfl
              rw [Nat.zero_add] at r0 r2
              obtain ⟨e2, he2⟩ : ∃ en, pr2.entry = en := ⟨_, rfl⟩
              rw [he2] at r2
              have HEn2 : Hid (entryAt S (p2, ln2) = e2) := Lib.hid (by
                unfold entryAt
                rw [List.getD_eq_getElem?_getD, hpr2]
                exact he2)
              have HDr2 : Hid (S.begins.drop (k + 1) = (p2, ln2) :: S.begins.drop (k + 2)) := Lib.hid (by
                rw [List.drop_eq_getElem_cons (by rw [HNb.out]; exact hk1), (List.getElem?_eq_some_iff.1 hb2).2])
              have HF16 : Hid (w6.drew.cell? ⟨ab, 6, none⟩ = some (.slice (some ⟨gb, 0, none⟩) nb cb) ∧ w6.drew.cell? ⟨ab, 2, none⟩ = some (.slice (some ⟨gp, 0, none⟩) np cp) ∧ w6.drew.cell? ⟨gb, (k + 1) * 2, none⟩ = some (.int .i64 p2) ∧ w6.drew.cell? ⟨gp, p2 * 3 + 2, none⟩ = some (.int .i64 e2)) := ⟨HF6.out.1, HF6.out.2, (HK6.out.drew.cell0 (block_lt_of_cell r0)).trans r0, (HK6.out.drew.cell0 (block_lt_of_cell r2)).trans r2⟩
              have d1 : (k : Int) + 1 < (nb : Int) := by omega
              have d2 : (0 : Int) ≤ (k : Int) + 1 := by omega
              have d3 : (p2 : Int) < (np : Int) := by omega
              have d4 : (0 : Int) ≤ (p2 : Int) := Int.natCast_nonneg _
              clear hb2 hb1 hc hc2 hpr2 hb2' r0 r2 he2 hpn
              by_cases hee : e2 = en
              · have d5 : (e2 == en) = true := by simpa using hee
                have HBd : Hid (begBad S (p, ln) (S.begins.drop (k + 1)) = true) := Lib.hid (by rw [HDr2.out]; unfold begBad; rw [HNc.out, HEn.out, d0]; simp only [HEn2.out, Bool.false_or]; exact decide_eq_true hee)
                clear hee
                go_upto_region 16 with fail
                refine wp_region_tx (fun W' => W'.cell? ⟨ab, 6, none⟩ = some (.slice (some ⟨gb, 0, none⟩) nb cb) ∧ W'.cell? ⟨ab, 2, none⟩ = some (.slice (some ⟨gp, 0, none⟩) np cp) ∧ W'.cell? ⟨gb, (k + 1) * 2, none⟩ = some (.int .i64 p2) ∧ W'.cell? ⟨gp, p2 * 3 + 2, none⟩ = some (.int .i64 e2)) [(0, true), (1, true), (2, true), (3, true), (4, true), (5, true), (6, true), (7, true), (8, true), (9, true), (10, true), (11, true), (12, true), (13, true), (14, true), (15, true), (16, true), (17, true), (18, true), (19, true), (20, true), (21, true), (22, true), (23, true), (24, true), (25, true), (26, true), (27, true), (28, true), (29, true), (30, true), (31, true), (32, true), (33, false)] (by kernel_rfl) (by kernel_rfl) HF16.out (fun hHeld => ?_)
                have dw := HDw.out
                (repeat (first | (refine wpTx_take (v := ?_) rfl (by assumption) ?_ (by rfl) ?_; rotate_left; (focus (intro w' hSw; (try dsimp only at hSw); go_simp; (try with_reducible rfl); done)); simp only [Act.put, List.setIfInBounds_toArray, List.set_cons_zero, List.set_cons_succ]) | (refine wpTx_skip rfl (by assumption) (by rfl) ?_; simp only [Act.put, List.setIfInBounds_toArray, List.set_cons_zero, List.set_cons_succ])))
                refine wpTx_last rfl (fun K hK => ?_)
                go_simp
                refine hK.out _ _ (NoPanic.normal ?_); clear hK K; (try simp only [Act.put, List.setIfInBounds_toArray, List.set_cons_zero, List.set_cons_succ])
                clear hHeld dw
                have HK7 : Hid (Keeps wr w6.drew []) := HK6.out.drew
                have HBx7 := Lib.hid HBx6.out.drew
                have HL7 := Lib.hid (HR.out.line.keep HK7.out (by simp))
                have HE7 := Lib.hid (HR.out.err.keep HK7.out (by simp))
                have HM7 := Lib.hid (HR.out.am.keep0 HK7.out)
                generalize w6.drew = w7 at *
                have HLs2 : Hid (least (worse er 7 ln) (begW S (S.begins.drop (k + 1))) = least (0, -1) (wrongs S)) := Lib.hid (by
                  have h1 := HLs.out
                  rw [HDr.out, begW_cons, if_pos HBd.out] at h1
                  exact h1)
                have HW7 := Lib.hid (worse_any 7 ln (w.heap.size + 1) w.heap.size er w7 HL7.out HE7.out)
                have z1 := HBx7.out.cell 1
                go_wp2_with fail
                refine HW7.out.mono ?_
                rintro e w8 ⟨rfl, g1, g2, g3⟩
                have HAm : Hid (AsM w0 w8 ab vb AA FA (some ⟨gp, 0, none⟩) CA UA (some ⟨gb, 0, none⟩) ca cf cp cc cu cb nl { S with o := { S.o with code := codeK S nu } }) := Lib.hid (by
                  refine HM7.out.keep g3 ?_
                  intro q hq
                  have hh := HBase.out
                  simp only [List.mem_cons, List.not_mem_nil, or_false] at hq
                  rcases hq with rfl | rfl
                  · exact ⟨fun hm => HB0.out.2 (HLL.out _ hm), by omega⟩
                  · exact ⟨fun hm => HB0.out.1 (HLL.out _ hm), by omega⟩)
                have HKe : Hid (Keeps w2 w8 ((w.heap.size + 1) :: w.heap.size :: ownL (.slice CA 0 0))) := Lib.hid ((HR.out.keep.trans (HK7.out.to_ _)).trans (g3.more (fun b _ hb => by simp only [List.mem_cons, List.not_mem_nil, or_false] at hb ⊢; rcases hb with h | h <;> simp [h])))
                have HG1 := Lib.hid g1
                have HG2 := Lib.hid g2
                clear g1 g2 g3
                go_wp2_with fail
                go_roundw
                case rel => exact ⟨k + 1, by omega, by go_num, _, ⟨HAm.out, HG1.out, HG2.out, HKe.out⟩, HLs2⟩
                case measure => simp [intOf]; omega
              · have d5 : (e2 == en) = false := by simpa using hee
                have HBd : Hid (begBad S (p, ln) (S.begins.drop (k + 1)) = false) := Lib.hid (by rw [HDr2.out]; unfold begBad; rw [HNc.out, HEn.out, d0]; simp only [HEn2.out, Bool.false_or]; exact decide_eq_false hee)
                clear hee
                go_upto_region 16 with fail
                refine wp_region_tx (fun W' => W'.cell? ⟨ab, 6, none⟩ = some (.slice (some ⟨gb, 0, none⟩) nb cb) ∧ W'.cell? ⟨ab, 2, none⟩ = some (.slice (some ⟨gp, 0, none⟩) np cp) ∧ W'.cell? ⟨gb, (k + 1) * 2, none⟩ = some (.int .i64 p2) ∧ W'.cell? ⟨gp, p2 * 3 + 2, none⟩ = some (.int .i64 e2)) [(0, true), (1, true), (2, true), (3, true), (4, true), (5, true), (6, true), (7, true), (8, true), (9, true), (10, true), (11, true), (12, true), (13, true), (14, true), (15, true), (16, true), (17, true), (18, true), (19, true), (20, true), (21, true), (22, true), (23, true), (24, true), (25, true), (26, true), (27, true), (28, true), (29, true), (30, true), (31, true), (32, true), (33, false)] (by kernel_rfl) (by kernel_rfl) HF16.out (fun hHeld => ?_)
                have dw := HDw.out
                (repeat (first | (refine wpTx_take (v := ?_) rfl (by assumption) ?_ (by rfl) ?_; rotate_left; (focus (intro w' hSw; (try dsimp only at hSw); go_simp; (try with_reducible rfl); done)); simp only [Act.put, List.setIfInBounds_toArray, List.set_cons_zero, List.set_cons_succ]) | (refine wpTx_skip rfl (by assumption) (by rfl) ?_; simp only [Act.put, List.setIfInBounds_toArray, List.set_cons_zero, List.set_cons_succ])))
                refine wpTx_last rfl (fun K hK => ?_)
                go_simp
                refine hK.out _ _ (NoPanic.normal ?_); clear hK K; (try simp only [Act.put, List.setIfInBounds_toArray, List.set_cons_zero, List.set_cons_succ])
                clear hHeld dw
                have HK7 : Hid (Keeps wr w6.drew []) := HK6.out.drew
                have HBx7 := Lib.hid HBx6.out.drew
                have HL7 := Lib.hid (HR.out.line.keep HK7.out (by simp))
                have HE7 := Lib.hid (HR.out.err.keep HK7.out (by simp))
                have HM7 := Lib.hid (HR.out.am.keep0 HK7.out)
                generalize w6.drew = w7 at *
                have HLs2 : Hid (least er (begW S (S.begins.drop (k + 1))) = least (0, -1) (wrongs S)) := Lib.hid (by
                  have h1 := HLs.out
                  rw [HDr.out, begW_cons, if_neg (by rw [HBd.out]; exact Bool.false_ne_true)] at h1
                  exact h1)
                have HKe : Hid (Keeps w2 w7 ((w.heap.size + 1) :: w.heap.size :: ownL (.slice CA 0 0))) := Lib.hid (HR.out.keep.trans (HK7.out.to_ _))
                go_wp2_with fail
                go_roundw
                case rel => exact ⟨k + 1, by omega, by go_num, _, ⟨HM7.out, HL7.out, HE7.out, HKe.out⟩, HLs2⟩
                case measure => simp [intOf]; omega
            · have d1 : ¬ (k : Int) + 1 < (nb : Int) := by omega
              have HBd : Hid (begBad S (p, ln) (S.begins.drop (k + 1)) = false) := Lib.hid (by
                rw [List.drop_of_length_le (by rw [HNb.out]; omega)]
                unfold begBad
                rw [HNc.out, HEn.out, d0]
                rfl)
              go_upto_region 16 with fail
              refine wp_region_tx (fun W' => W'.cell? ⟨ab, 6, none⟩ = some (.slice (some ⟨gb, 0, none⟩) nb cb) ∧ W'.cell? ⟨ab, 2, none⟩ = some (.slice (some ⟨gp, 0, none⟩) np cp)) [(0, true), (1, true), (2, true), (3, true), (4, true), (5, true), (6, true), (7, true), (8, true), (9, true), (10, true), (11, true), (12, true), (13, true), (14, true), (15, true), (16, true), (17, true), (18, true), (19, true), (20, true), (21, true), (22, true), (23, true), (24, true), (25, true), (26, true), (27, true), (28, true), (29, true), (30, true), (31, true), (32, true), (33, false)] (by kernel_rfl) (by kernel_rfl) HF6.out (fun hHeld => ?_)
              have dw := HDw.out
              (repeat (first | (refine wpTx_take (v := ?_) rfl (by assumption) ?_ (by rfl) ?_; rotate_left; (focus (intro w' hSw; (try dsimp only at hSw); go_simp; (try with_reducible rfl); done)); simp only [Act.put, List.setIfInBounds_toArray, List.set_cons_zero, List.set_cons_succ]) | (refine wpTx_skip rfl (by assumption) (by rfl) ?_; simp only [Act.put, List.setIfInBounds_toArray, List.set_cons_zero, List.set_cons_succ])))
              refine wpTx_last rfl (fun K hK => ?_)
              go_simp
              refine hK.out _ _ (NoPanic.normal ?_); clear hK K; (try simp only [Act.put, List.setIfInBounds_toArray, List.set_cons_zero, List.set_cons_succ])
              clear hHeld dw
              have HK7 : Hid (Keeps wr w6.drew []) := HK6.out.drew
              have HBx7 := Lib.hid HBx6.out.drew
              have HL7 := Lib.hid (HR.out.line.keep HK7.out (by simp))
              have HE7 := Lib.hid (HR.out.err.keep HK7.out (by simp))
              have HM7 := Lib.hid (HR.out.am.keep0 HK7.out)
              generalize w6.drew = w7 at *
              have HLs2 : Hid (least er (begW S (S.begins.drop (k + 1))) = least (0, -1) (wrongs S)) := Lib.hid (by
                have h1 := HLs.out
                rw [HDr.out, begW_cons, if_neg (by rw [HBd.out]; exact Bool.false_ne_true)] at h1
                exact h1)
              have HKe : Hid (Keeps w2 w7 ((w.heap.size + 1) :: w.heap.size :: ownL (.slice CA 0 0))) := Lib.hid (HR.out.keep.trans (HK7.out.to_ _))
              go_wp2_with fail
              go_roundw
              case rel => exact ⟨k + 1, by omega, by go_num, _, ⟨HM7.out, HL7.out, HE7.out, HKe.out⟩, HLs2⟩
              case measure => simp [intOf]; omega
        · obtain rfl : nb = k := by omega
          have HE : Hid (er = least (0, -1) (wrongs S)) := Lib.hid (by
            have h1 := HLs.out
            rw [List.drop_of_length_le (by rw [HNb.out]; exact Nat.le_refl _)] at h1
            exact h1)
          have x0 := hrun.err.cell 0
          have x1 := hrun.line.cell 0
          clear hrun
          go_upto_region 19 with fail
          refine wp_region_tx (fun W' => W'.cell? ⟨w.heap.size, 0, none⟩ = some (.int .i64 er.1) ∧ W'.cell? ⟨w.heap.size + 1, 0, none⟩ = some (.int .i64 er.2)) [(0, true), (1, true), (2, false), (3, false)] (by kernel_rfl) (by kernel_rfl) ⟨x0, x1⟩ (fun hHeld => ?_)
          (repeat (first | (refine wpTx_take (v := ?_) rfl (by assumption) ?_ (by rfl) ?_; rotate_left; (focus (intro w' hSw; (try dsimp only at hSw); go_simp; (try with_reducible rfl); done)); simp only [Act.put, List.setIfInBounds_toArray, List.set_cons_zero, List.set_cons_succ]) | (refine wpTx_skip rfl (by assumption) (by rfl) ?_; simp only [Act.put, List.setIfInBounds_toArray, List.set_cons_zero, List.set_cons_succ])))
          refine wpTx_go rfl (fun K hK => ?_)
          go_simp
          refine hK.out _ _ ?_ ?_
          · exact ⟨x0, x1⟩
          (clear hHeld; intro hHeld; clear hK K; (try simp only [Act.put, List.setIfInBounds_toArray, List.set_cons_zero, List.set_cons_succ]))
          refine wpTx_last rfl (fun K hK => ?_)
          go_simp
          refine hK.out _ _ (NoPanic.normal ?_); clear hK K; (try simp only [Act.put, List.setIfInBounds_toArray, List.set_cons_zero, List.set_cons_succ])
          clear hHeld
          go_wp2_with fail
          go_ret2
          rw [← HE.out, HNu.out]
          have kk := HR.out.keep.drew
          refine ⟨rfl, L, ⟨_, _, _, _, _, _, _, _, _, _, _, _, _, HR.out.am.keep0 (Keeps.refl _ _).drew, HL.out, fun b hb => ⟨(HLt.out b hb).1, Nat.lt_of_lt_of_le (HLt.out b hb).2 (Nat.le_trans HK1.out.size kk.size)⟩⟩, ⟨?_, fun b hb => .inl hb⟩⟩
          refine ⟨kk.os.trans HK1.out.os, kk.tape.trans HK1.out.tape, kk.output.trans HK1.out.output, Nat.le_trans HK1.out.size kk.size, fun i hi hn => (kk.block i (Nat.lt_of_lt_of_le hi HK1.out.size) (fun hm => ?_)).trans (HK1.out.block i hi (by simp))⟩
          simp only [List.mem_cons] at hm
          rcases hm with rfl | rfl | hm
          · omega
          · omega
          · exact hn (HL.out i (by unfold asL; simp [hm]))
end Go.Proofs.YtpcihhdalofdiaaGreatDoor

/- A line that begins a predicate; a label's line; is there too much: the document's. Printed by gen_rsbegin.py. -/
namespace Go.Proofs.YtpcihhdalofdiaaGreatDoor
open Go.RowKit Go.Maps
attribute [local irreducible] rsCells numT kindsOf nameOf checkE fitsP operandP plainP labelP slashP namedT slR

/-- A line's end: what is wrong; where nothing is, the object behind it. -/
def LnR (w0 w : World) (ab : Nat) (L : List Nat) (r : AS × Int) (e : Ending) (w' : World) : Prop := e = .returned (.int .i64 r.2) ∧ ∃ L' S', Rs w0 w' ab L' (fun _ => 0) S' ∧ ASt w L w' L' ∧ (r.2 = 0 → S' = r.1)
/-- A text's words, where they lie. -/
structure Wrds (w w1 : World) (A : Option Addr) (ws : List Txt) (g : Nat) (cur : Array Value) : Prop where
  at_ : A = some ⟨g, 0, none⟩
  new : w.heap.size ≤ g
  blk : Blk w1 g 9 cur
  el : ∀ (j : Nat) (x : Txt), ws[j]? = some x → cur[j]? = some (.string (stB x))
theorem words_row {w w1 : World} {A : Option Addr} {n c : Nat} {ws : List Txt} (h : w1.ownsRow w.heap.size 9 1 (.slice A n c) n (ws.map fun x => Value.string (stB x))) (hn : 0 < n) : ∃ g cur, Wrds w w1 A ws g cur := by
  rcases h.2 with ⟨_, h2⟩ | ⟨g, cap, cur, he, hb, hg, h3, h4, h5, h6⟩
  · omega
  · injection he with he _ _
    refine ⟨g, cur, he, hb, hg, fun j x hx => ?_⟩
    have h7 : (cur.toList.take (n * 1))[j]? = some (.string (stB x)) := by rw [h6, List.getElem?_map, hx]; rfl
    rw [List.getElem?_take] at h7
    split at h7
    · simpa using h7
    · cases h7
theorem Wrds.cell {w w1 : World} {A : Option Addr} {ws : List Txt} {g : Nat} {cur : Array Value} (h : Wrds w w1 A ws g cur) {w' : World} (hb : Blk w' g 9 cur) {j : Nat} {x : Txt} (hx : ws[j]? = some x) : w'.cell? ⟨g, j, none⟩ = some (.string (stB x)) := (hb.cell j).trans (h.el j x hx)
theorem stB_eq (x : Txt) (l : List UInt8) : ((stB x).toList == l) = decide (x = l) := by
  rw [ByteArray.toList_eq, stB_list]
  by_cases h : x = l
  · subst h; simp
  · rw [decide_eq_false h, beq_eq_false_iff_ne]; exact h
theorem begAny_no {l : List (Nat × Nat)} {p : Nat} (h : ∀ y ∈ l, y.1 ≠ p) : l.any (fun b => b.1 == p) = false := by
  rw [List.any_eq_false]
  intro y hy
  simpa using h y hy
theorem begAny_yes {l : List (Nat × Nat)} {p j : Nat} {y : Nat × Nat} (h : l[j]? = some y) (e : y.1 = p) : l.any (fun b => b.1 == p) = true := List.any_eq_true.2 ⟨y, List.mem_of_getElem? h, by simpa using e⟩
set_option maxRecDepth 100000 in
set_option maxHeartbeats 12800000 in
theorem lineR_begin {w0 w : World} {ab : Nat} {L : List Nat} {S : AS} (hA : Rs w0 w ab L (fun _ => 0) S) (hfew : Few S) (s : ByteArray) (hl : s.size ≤ 4294967000) (line : Nat) (h2 : (splitT s.data.toList).length = 2) (hp : (splitT s.data.toList).headD [] = predW) :
    Calls Tryz.prog 21 #[.pointer (some ⟨ab, 0, none⟩), .string s, .int .i64 line] w (LnR w0 w ab L (lineP S s.data.toList line)) := by
  have HAs := Lib.hid hA
  have HFew := Lib.hid hfew
  have HW := Lib.hid (refWords_any s (by omega) w)
  have HB := Lib.hid (line_begin (S := S) (n := line) h2 hp)
  obtain ⟨ws, hws⟩ : ∃ ws, splitT s.data.toList = ws := ⟨_, rfl⟩
  have hlen : ∀ x ∈ ws, x.length ≤ s.size := fun x hx => split_len s.data.toList x (by rw [hws]; exact hx)
  rw [hws] at h2 hp HW HB
  unfold WordsMade at HW
  rw [h2] at HW
  obtain ⟨x1, hx1⟩ : ∃ x, ws[1]? = some x := ⟨ws[1]'(by omega), List.getElem?_eq_getElem _⟩
  have hx0 : ws[0]? = some predW := by
    match ws, h2, hp with
    | [a, b], _, hp => simp at hp; simp [hp]
  have hg : ws.getD 1 [] = x1 := by rw [List.getD_eq_getElem?_getD, hx1]; rfl
  rw [hg] at HB
  have hxl := hlen x1 (List.mem_of_getElem? hx1)
  have hx1s : (stB x1).size ≤ 4294967280 := by rw [stB_size]; omega
  have HSl : Hid (∀ w, _) := fun w => refSlash_any (stB x1) 0 (by omega) hx1s w
  rw [stB_list] at HSl
  have HX0 := Lib.hid hx0
  have HX1 := Lib.hid hx1
  have d3 : ((stB predW).toList == [112, 114, 101, 100]) = true := by rw [stB_eq]; decide
  clear hws hlen h2 hp hx0 hg hxl hx1s hfew hx1
  obtain ⟨pw, hpw⟩ : ∃ pw, stB predW = pw := ⟨_, rfl⟩
  rw [hpw] at d3
  cases hs : slashP x1 0 with
  | none =>
    have hsl : slR x1 0 = (⟨#[]⟩, -1) := by unfold slR; rw [hs]
    have HV : Hid (beginP S x1 line = (S, 17)) := Lib.hid (by unfold beginP; rw [hs])
    rw [hsl] at HSl
    dsimp only at HSl
    clear hs hsl hA
    go_enter Tryz.func21, Tryz.ntmps21
    go_wp2_with fail
    refine HW.out.mono ?_
    rintro e w1 ⟨A, c, rfl, ho, k1⟩
    obtain ⟨g, cur, hw⟩ := words_row ho (by omega)
    have HK1 := Lib.hid k1
    obtain rfl := hw.at_
    have q0 := hw.cell hw.blk HX0.out
    have q1 := hw.cell hw.blk HX1.out
    rw [hpw] at q0
    clear k1 ho hw
    go_wp2_with fail
    refine (HSl.out w1).mono ?_
    rintro e w2 ⟨rfl, k2⟩
    have HK2 := Lib.hid (HK1.out.trans k2)
    clear k2
    go_wp2_with fail
    go_ret
    exact ⟨by rw [HB.out, HV.out]; rfl, L, S, HAs.out.keep0 HK2.out, ASt.of_keeps HK2.out L, fun h0 => by rw [HB.out, HV.out] at h0; cases h0⟩
  | some f =>
    have hsl : slR x1 0 = (f.name, f.arity) := by unfold slR; rw [hs]
    have hok := slash_ok hs
    rw [hsl] at HSl
    dsimp only at HSl
    have HV : Hid (beginP S x1 line = if S.begins.any (fun b => b.1 == (predP S.o f).2) then (S, 11) else ({ S with o := { (predP S.o f).1 with preds := (predP S.o f).1.preds.modify (predP S.o f).2 fun p => { p with entry := (S.o.code.length : Int) } }, begins := S.begins ++ [((predP S.o f).2, line)] }, 0)) := Lib.hid (by unfold beginP; rw [hs])
    have HP : Hid (∀ w1, Keeps w w1 [] → _) := fun w1 (k1 : Keeps w w1 []) => predR_any (hA.keep0 k1) f ⟨by have := HFew.out.atoms; omega, by have := HFew.out.funs; omega, by have := HFew.out.preds; omega, by have := HFew.out.code; omega⟩ (by have := HFew.out.preds; omega)
    have hlt := predP_lt S.o f
    have hgr := predP_grows S.o f
    obtain ⟨o1, ho1⟩ : ∃ o1, (predP S.o f).1 = o1 := ⟨_, rfl⟩
    obtain ⟨p, hp⟩ : ∃ p, (predP S.o f).2 = p := ⟨_, rfl⟩
    rw [ho1, hp] at hlt HV
    rw [ho1, hp] at HP
    rw [ho1] at hgr
    have hcode : S.o.code.length = o1.code.length := by rw [hgr.code]
    rw [hcode] at HV
    have gP := hgr.preds
    have d9 : ¬ f.arity < 0 := by omega
    clear hs hsl hok hA ho1 hp hgr
    obtain ⟨x, hx⟩ : ∃ x, o1.preds[p]? = some x := ⟨_, List.getElem?_eq_getElem hlt⟩
    have HX := Lib.hid hx
    have HLt := Lib.hid hlt
    have HgP := Lib.hid gP
    have HCd := Lib.hid hcode
    clear hx hcode gP
    go_enter Tryz.func21, Tryz.ntmps21
    go_wp2_with fail
    refine HW.out.mono ?_
    rintro e w1 ⟨A, c, rfl, ho, k1⟩
    obtain ⟨g, cur, hw⟩ := words_row ho (by omega)
    have HK1 := Lib.hid k1
    obtain rfl := hw.at_
    have q0 := hw.cell hw.blk HX0.out
    have q1 := hw.cell hw.blk HX1.out
    rw [hpw] at q0
    clear k1 ho hw
    go_wp2_with fail
    refine (HSl.out w1).mono ?_
    rintro e w2 ⟨rfl, k2⟩
    have HK2 := Lib.hid (HK1.out.trans k2)
    have HP2 := Lib.hid (HP.out w2 HK2.out)
    clear k2 q0 q1 HP
    go_wp2_with fail
    refine HP2.out.mono ?_
    rintro e w3 ⟨rfl, L3, hA3, hs3, _⟩
    have HA3 := Lib.hid hA3
    have HS3 := Lib.hid ((ASt.of_keeps HK2.out L).trans hs3)
    obtain ⟨AA, FA, PA, CA, UA, BA, ca, cf, cp, cc, cu, cb, hm, hok, hL, hlt3⟩ := hA3
    have HM := Lib.hid hm
    have HOk3 := Lib.hid hok
    have HL := Lib.hid hL
    have HLt3 := Lib.hid hlt3
    clear hm hL hlt3 hs3 HP2 hok
    obtain ⟨g2, hPA, hcap⟩ := own_atA HM.out.preds (by have := HLt.out; simp only; omega)
    subst hPA
    obtain ⟨b, off, e0, hb, hc⟩ := (Rd.of_own HM.out.preds).field predE_len HX.out (by omega)
    injection e0 with e0
    injection e0 with e0 e1
    subst e0 e1
    have y2 := hc 2 _ rfl
    simp only [Nat.zero_add] at y2
    have HY2 := Lib.hid y2
    obtain ⟨cur2, hbk, _⟩ := own_block HM.out.preds
    have HFz := Lib.hid (hbk.frozen (p * 3 + 2))
    obtain ⟨n, hnl⟩ : ∃ n, S.begins.length = n := ⟨_, rfl⟩
    have HNl := Lib.hid hnl
    have hnb : n ≤ 1000000 := by have := HFew.out.begins; omega
    have HBg := Lib.hid (Rd.of_own HM.out.begins)
    clear hb hc y2 hbk hnl
    go_wp2_with fail
    go_loopw [11] (fun i wr => ∃ j : Nat, j ≤ n ∧ i = .int .i64 j ∧ Hid (∀ y ∈ S.begins.take j, y.1 ≠ p) ∧ Keeps w3 wr []) (fun i _ => n - (intOf i).toNat)
    case atStart => exact ⟨0, Nat.zero_le _, rfl, fun y hy => by simp at hy, Keeps.refl _ _⟩
    case round =>
      obtain ⟨j, hj, rfl, HNo, kr⟩ := hrel
      have HKr := Lib.hid kr
      have HMr := Lib.hid (HM.out.keep0 kr)
      have q5 : wr.cell? ⟨ab, 1029, none⟩ = some (.slice BA n cb) := by have := HMr.out.cellB; simp only [HNl.out] at this; exact this
      clear kr
      by_cases hlj : j < n
      · obtain ⟨y, hy⟩ := at_of HNl.out hlj
        obtain ⟨b, off, rfl, hb1, hc⟩ := (HBg.out.keep HKr.out).field begE_len hy (by omega)
        have p0 : wr.cell? ⟨b, off + j * 2, none⟩ = some (.int .i64 y.1) := by have := hc 0 _ rfl; simpa using this
        have HY := Lib.hid hy
        have b1 : (j : Int) < (n : Int) := by omega
        have b0 : (0 : Int) ≤ (j : Int) := Int.natCast_nonneg _
        clear hy hb1 hc
        by_cases hyp : y.1 = p
        · have d0 : ((y.1 : Int) == (p : Int)) = true := by rw [beq_iff_eq]; omega
          have HV2 : Hid (beginP S x1 line = (S, 11)) := HV.out.trans (if_pos (begAny_yes HY.out hyp))
          clear hyp
          go_wp2_with fail
          go_ret
          exact ⟨by rw [HB.out, HV2.out]; rfl, L3, _, HA3.out.keep0 HKr.out, HS3.out.trans (ASt.of_keeps HKr.out L3), fun h0 => by rw [HB.out, HV2.out] at h0; cases h0⟩
        · have d0 : ((y.1 : Int) == (p : Int)) = false := by rw [beq_eq_false_iff_ne]; omega
          have HB2 : Hid (∀ y ∈ S.begins.take (j + 1), y.1 ≠ p) := by
            show ∀ y ∈ S.begins.take (j + 1), y.1 ≠ p
            rw [take_snocA HY.out]
            intro z hz
            rcases List.mem_append.1 hz with hz | hz
            · exact HNo.out z hz
            · obtain rfl := List.mem_singleton.1 hz
              exact hyp
          clear hyp
          go_wp2_with fail
          go_roundw
          case rel => exact ⟨j + 1, by omega, by go_num, HB2, HKr.out⟩
          case measure => simp [intOf]; omega
      · obtain rfl : n = j := by omega
        have HV2 := Lib.hid (HV.out.trans (if_neg (by rw [begAny_no (by have := HNo.out; rwa [List.take_of_length_le (by rw [HNl.out]; exact Nat.le_refl _)] at this)]; exact Bool.false_ne_true)))
        have b1 : ¬ (n : Int) < (n : Int) := by omega
        clear hlj hj HV
        obtain ⟨w4, hw4⟩ : ∃ w4, w4 = wr := ⟨_, rfl⟩
        rw [← hw4] at HKr HMr q5 ⊢
        clear hw4
        have HFz4 := Lib.hid ((HKr.out.frozen (p := ⟨g2, p * 3 + 2, none⟩) (block_lt_of_cell HY2.out) (by simp)).trans HFz.out)
        have HY4 := Lib.hid ((HKr.out.cell0 (block_lt_of_cell HY2.out)).trans HY2.out)
        have HF7 : Hid ((w4.drew.cell? ⟨ab, 2, none⟩ = some (.slice (some ⟨g2, 0, none⟩) o1.preds.length cp) ∧ w4.drew.cell? ⟨ab, 3, none⟩ = some (.slice CA o1.code.length cc) ∧ w4.drew.cell? ⟨g2, p * 3 + 2, none⟩ = some (.int .i64 x.entry)) ∧ w4.drew.frozen? ⟨g2, p * 3 + 2, none⟩ = false) := ⟨⟨HMr.out.c2, HMr.out.c3, HY4.out⟩, HFz4.out⟩
        have b2 : (p : Int) < (o1.preds.length : Int) := by have := HLt.out; omega
        have b3 : (0 : Int) ≤ (p : Int) := Int.natCast_nonneg _
        go_upto_region 12 with fail
        clear q5 b1
        refine wp_region_tx (fun W' => (W'.cell? ⟨ab, 2, none⟩ = some (.slice (some ⟨g2, 0, none⟩) o1.preds.length cp) ∧ W'.cell? ⟨ab, 3, none⟩ = some (.slice CA o1.code.length cc) ∧ W'.cell? ⟨g2, p * 3 + 2, none⟩ = some (.int .i64 x.entry)) ∧ W'.frozen? ⟨g2, p * 3 + 2, none⟩ = false) [(0, true), (1, true), (2, true), (3, true), (4, true), (5, true), (6, true), (7, true), (8, true), (9, true), (10, true), (11, true), (12, true), (13, true), (14, false)] (by kernel_rfl) (by kernel_rfl) HF7.out (fun hHeld => ?_)
        (repeat (first | (refine wpTx_take (v := ?_) rfl (by assumption) ?_ (by rfl) ?_; rotate_left; (focus (intro w' hSw; (try dsimp only at hSw); go_simp; (try with_reducible rfl); done)); simp only [Act.put, List.setIfInBounds_toArray, List.set_cons_zero, List.set_cons_succ]) | (refine wpTx_skip rfl (by assumption) (by rfl) ?_; simp only [Act.put, List.setIfInBounds_toArray, List.set_cons_zero, List.set_cons_succ])))
        refine wpTx_last rfl (fun K hK => ?_)
        go_simp
        refine hK.out _ _ (NoPanic.normal ?_); clear hK K; (try simp only [Act.put, List.setIfInBounds_toArray, List.set_cons_zero, List.set_cons_succ])
        clear hHeld HF7
        have hgm : g2 ∈ ownL (.slice (some ⟨g2, 0, none⟩) 0 0) := by simp [ownL, Value.ownBlock]
        have k5 : Keeps w4 (w4.setCell ⟨g2, p * 3 + 2, none⟩ (.int .i64 o1.code.length)).drew (ownL (.slice (some ⟨g2, 0, none⟩) 0 0)) := ((Keeps.refl w4 _).setCell (.inl hgm) _).drew
        have HM1 := Lib.hid (HMr.out.preds_in (l' := o1.preds.modify p fun q => { q with entry := (o1.code.length : Int) }) k5 (by simp) (by
          have h1 := own_cellA HMr.out.preds (p * 3 + 2) (.int .i64 o1.code.length)
          rw [set_flat2 x _ _ _ HX.out] at h1
          exact h1))
        have HS5 : Hid (ASt w4 L3 (w4.setCell ⟨g2, p * 3 + 2, none⟩ (.int .i64 o1.code.length)).drew L3) := ⟨k5.more (fun b _ hb => HL.out b (by unfold rsL; simp [hb])), fun b hb => .inl hb⟩
        have HZ5 := Lib.hid (Nat.le_trans HKr.out.size k5.size)
        clear k5 hgm
        generalize (w4.setCell ⟨g2, p * 3 + 2, none⟩ (.int .i64 o1.code.length)).drew = w5 at *
        have HO1 : Hid (w5.ownsRow w0.heap.size 73 2 (.slice BA n cb) n (S.begins.flatMap begE)) := Lib.hid (by have := HM1.out.begins; simp only [HNl.out] at this; exact this)
        have q1 : w5.cell? ⟨ab, 1029, none⟩ = some (.slice BA n cb) := by have := HM1.out.cellB; simp only [HNl.out] at this; exact this
        have f1 := HM1.out.blk.frozen 1029
        go_wp2_with (at_builtin; have K5 := (Keeps.refl w5 []).alloc (.cells #[.int .i64 p, .int .i64 line] 73); refine wpList_app _ el_begR (by rfl) (.tmp 81) (.tmp 85) (by rfl) w0.heap.size BA n cb (S.begins.flatMap begE) (by rfl) (own_keep0 HO1.out K5) (some ⟨w5.heap.size, 0, none⟩) 1 1 (begE (p, line)) (by rfl) (Rd.one w5 _ (begE (p, line))) rfl (by simp) (by simp [begE, Value.oneCell']) (by omega) (Nat.le_trans HM1.out.bel.size K5.size) ?_; intro A' c' w6 hown hgrow hat; have HAp := Lib.hid (app_factsA K5 hown hgrow hat); have hB2 := HM1.out.blk.grownA K5 hgrow (own_outA HM1.out.begins HM1.out.blk (by decide)); have q2 : w6.cell? ⟨ab, 1029, none⟩ = some (.slice BA S.begins.length cb) := (hB2.cell 1029).trans (rsCells_1029 _ _ _ _ _ _ _); have f2 := hB2.frozen 1029; clear hown hgrow hat K5 hB2)
        go_ret
        obtain ⟨a1, a2, a3⟩ := HAp.out
        have hlen : (S.begins ++ [(p, line)]).length = n + 1 := by rw [List.length_append, HNl.out]; rfl
        obtain ⟨L', g1, g3⟩ := HM1.out.begins_pack (OkP.zero _ _ _ _ _ _) HL.out (fun b hb => ⟨(HLt3.out b hb).1, Nat.lt_of_lt_of_le (HLt3.out b hb).2 HZ5.out⟩) a2 (A' := A') (c' := c') (l' := S.begins ++ [(p, line)]) (by simp) (by rw [hlen, List.flatMap_append]; simpa using a1) a3
        rw [hlen] at g1 g3
        exact ⟨by rw [HB.out, HV2.out]; rfl, L', _, g1, ((HS3.out.trans (ASt.of_keeps HKr.out L3)).trans HS5.out).trans g3, fun _ => by rw [HB.out, HV2.out]⟩
set_option maxRecDepth 100000 in
set_option maxHeartbeats 12800000 in
theorem lineR_mark {w0 w : World} {ab : Nat} {L : List Nat} {S : AS} (hA : Rs w0 w ab L (fun _ => 0) S) (hfew : Few S) (s : ByteArray) (hl : s.size ≤ 4294967000) (line : Nat) (h2 : (splitT s.data.toList).length = 1) (hh : s.data.toList.head? = some 64) (hz : 1 < s.size) :
    Calls Tryz.prog 21 #[.pointer (some ⟨ab, 0, none⟩), .string s, .int .i64 line] w (LnR w0 w ab L (lineP S s.data.toList line)) := by
  have HAs := Lib.hid hA
  have HW := Lib.hid (refWords_any s (by omega) w)
  have HB := Lib.hid (line_mark (S := S) (n := line) h2 hh)
  obtain ⟨ws, hws⟩ : ∃ ws, splitT s.data.toList = ws := ⟨_, rfl⟩
  rw [hws] at h2 HW
  unfold WordsMade at HW
  rw [h2] at HW
  have hln := label_num (l := s.data.toList)
  have hlv := label_val (l := s.data.toList)
  have hsz : s.data.toList.length = s.size := rfl
  rw [hsz] at hln
  simp only [hh, hz, true_and] at hln
  have b0 : (0 : Int) < (s.size : Int) := by omega
  have b1 : (1 : Int) < (s.size : Int) := by omega
  have b2 : (1 : Int) ≤ (s.size : Int) := by omega
  have hx := dat_at s 0 (by omega)
  obtain ⟨x, hxs⟩ : ∃ x, s[0] = x := ⟨_, rfl⟩
  rw [hxs] at hx
  have hc : x = 64 := by
    have hhd : s.data.toList.head? = some x := by rw [List.head?_eq_getElem?]; exact hx
    rw [hhd] at hh
    exact Option.some.inj hh
  have c1 : ((x.toNat : Int) == 64) = true := by rw [hc]; rfl
  have HNu : Hid (∀ w, Calls Tryz.prog 55 #[.string (s.extract 1 s.size)] w fun e w' => e = .returned (.int .i64 (numT s.data.toList.tail)) ∧ ∃ m, w' = w.drewN m) := Lib.hid (by
    rw [extract1 s]
    have := refNum_any (stB s.data.toList.tail)
    rw [stB_list] at this
    exact this)
  have hv0 : ¬ (0 ≤ numT s.data.toList.tail ∧ numT s.data.toList.tail ≤ 1023) → markP S s.data.toList = (S, 17) := fun h => by
    unfold markP
    rw [if_pos]
    exact Int.not_le.1 fun e => h (hln.1 e)
  have hv1 : ∀ m : Nat, numT s.data.toList.tail = m → m ≤ 1023 → markP S s.data.toList = if (S.labels m).isSome then (S, 11) else ({ S with labels := fun n => if n = (m : Int) then some S.o.code.length else S.labels n }, 0) := fun m e hm => by
    have h0 : 0 ≤ labelP s.data.toList := hln.2 (by omega)
    have h1 := hlv h0
    unfold markP
    rw [if_neg (by omega), h1, e]
  have HV0 := Lib.hid hv0
  have HV1 := Lib.hid hv1
  clear hx hc hh hv0 hv1 hln hlv hA hws h2
  obtain ⟨v, hv⟩ : ∃ v, numT s.data.toList.tail = v := ⟨_, rfl⟩
  rw [hv] at HNu HV0
  by_cases hr : 0 ≤ v ∧ v ≤ 1023
  case neg =>
    have HV := Lib.hid (HV0.out hr)
    clear HV0 HV1 hv
    by_cases hv0 : v < 0
    · go_enter Tryz.func21, Tryz.ntmps21
      go_wp2_with fail
      refine HW.out.mono ?_
      rintro e w1 ⟨A, c, rfl, ho, k1⟩
      have HK1 := Lib.hid k1
      clear k1 ho
      go_wp2_with fail
      refine (HNu.out w1).mono ?_
      rintro e w2 ⟨rfl, m, rfl⟩
      go_wp2_with fail
      go_ret
      exact ⟨by rw [HB.out, HV.out]; rfl, L, S, HAs.out.keep0 (HK1.out.trans (Keeps.ofDrewN _ _)), ASt.of_keeps (HK1.out.trans (Keeps.ofDrewN _ _)) L, fun h0 => by rw [HB.out, HV.out] at h0; cases h0⟩
    · have hv1 : 1023 < v := by omega
      clear hr
      go_enter Tryz.func21, Tryz.ntmps21
      go_wp2_with fail
      refine HW.out.mono ?_
      rintro e w1 ⟨A, c, rfl, ho, k1⟩
      have HK1 := Lib.hid k1
      clear k1 ho
      go_wp2_with fail
      refine (HNu.out w1).mono ?_
      rintro e w2 ⟨rfl, m, rfl⟩
      go_wp2_with fail
      go_ret
      exact ⟨by rw [HB.out, HV.out]; rfl, L, S, HAs.out.keep0 (HK1.out.trans (Keeps.ofDrewN _ _)), ASt.of_keeps (HK1.out.trans (Keeps.ofDrewN _ _)) L, fun h0 => by rw [HB.out, HV.out] at h0; cases h0⟩
  case pos =>
    obtain ⟨m, rfl⟩ := Int.eq_ofNat_of_zero_le hr.1
    have hm : m ≤ 1023 := by omega
    have HV := Lib.hid (HV1.out m hv hm)
    have b5 : ¬ (m : Int) < 0 := by omega
    have b6 : ¬ (1023 : Int) < (m : Int) := by omega
    have b7 : (m : Int) < 1024 := by omega
    have b8 : (0 : Int) ≤ (m : Int) := Int.natCast_nonneg _
    clear HV0 HV1 hv hr
    obtain ⟨AA, FA, PA, CA, UA, BA, ca, cf, cp, cc, cu, cb, hmm, hok, hL, hlt⟩ := HAs.out
    have HM := Lib.hid hmm
    have HL := Lib.hid hL
    have HLt := Lib.hid hlt
    have HFew := Lib.hid hfew
    clear hmm hok hL hlt hfew
    go_enter Tryz.func21, Tryz.ntmps21
    go_wp2_with fail
    refine HW.out.mono ?_
    rintro e w1 ⟨A, c, rfl, ho, k1⟩
    have HK1 := Lib.hid k1
    clear k1 ho
    go_wp2_with fail
    refine (HNu.out w1).mono ?_
    rintro e w2' ⟨rfl, md, hw2⟩
    have HK2 : Hid (Keeps w w2' []) := Lib.hid (by rw [hw2]; exact HK1.out.trans (Keeps.ofDrewN _ _))
    clear hw2
    have HM2 := Lib.hid (HM.out.keep0 HK2.out)
    have q4 := HM2.out.cl (n := m) (by omega)
    cases hlb : S.labels (m : Int) with
    | some q =>
      rw [hlb] at q4 HV
      unfold labV at q4
      have d1 : ((q : Int) + 1 == 0) = false := by rw [beq_eq_false_iff_ne]; omega
      have d2 : ((q : Int) + 1 != 0) = true := by rw [bne_iff_ne]; omega
      clear hlb
      go_wp2_with fail
      go_ret
      exact ⟨by rw [HB.out, HV.out]; rfl, L, S, HAs.out.keep0 HK2.out, ASt.of_keeps HK2.out L, fun h0 => by rw [HB.out, HV.out] at h0; cases h0⟩
    | none =>
      rw [hlb] at q4 HV
      unfold labV at q4
      clear hlb
      dsimp only at q4
      obtain ⟨nc, hnc⟩ : ∃ n, S.o.code.length = n := ⟨_, rfl⟩
      have HNc := Lib.hid hnc
      have hncb : nc ≤ 60000 := by have := HFew.out.code; omega
      have HF7 : Hid ((w2'.drew.cell? ⟨ab, 3, none⟩ = some (.slice CA nc cc) ∧ w2'.drew.cell? ⟨ab, 4 + m, none⟩ = some (.int .i64 0)) ∧ w2'.drew.frozen? ⟨ab, 4 + m, none⟩ = false) := ⟨⟨by have := HM2.out.c3; rw [hnc] at this; exact this, q4⟩, HM2.out.blk.frozen (4 + m)⟩
      have hwn : IntKind.i64.wrap ((nc : Int) + 1) = (nc : Int) + 1 := wrapK nc (by omega)
      clear hnc
      go_upto_region 21 with fail
      clear q4
      refine wp_region_tx (fun W' => (W'.cell? ⟨ab, 3, none⟩ = some (.slice CA nc cc) ∧ W'.cell? ⟨ab, 4 + m, none⟩ = some (.int .i64 0)) ∧ W'.frozen? ⟨ab, 4 + m, none⟩ = false) [(0, true), (1, true), (2, true), (3, true), (4, true), (5, true), (6, true), (7, true), (8, true), (9, true), (10, true), (11, true), (12, false)] (by kernel_rfl) (by kernel_rfl) HF7.out (fun hHeld => ?_)
      (repeat (first | (refine wpTx_take (v := ?_) rfl (by assumption) ?_ (by rfl) ?_; rotate_left; (focus (intro w' hSw; (try dsimp only at hSw); go_simp; (try with_reducible rfl); done)); simp only [Act.put, List.setIfInBounds_toArray, List.set_cons_zero, List.set_cons_succ]) | (refine wpTx_skip rfl (by assumption) (by rfl) ?_; simp only [Act.put, List.setIfInBounds_toArray, List.set_cons_zero, List.set_cons_succ])))
      refine wpTx_last rfl (fun K hK => ?_)
      go_simp
      refine hK.out _ _ (NoPanic.normal ?_); clear hK K; (try simp only [Act.put, List.setIfInBounds_toArray, List.set_cons_zero, List.set_cons_succ])
      clear hHeld HF7
      go_wp2_with fail
      go_ret
      have hz3 : ((w2'.setCell ⟨ab, 4 + m, none⟩ (.int .i64 ((nc : Int) + 1))).drew).heap.size = w2'.heap.size := by simp [World.setCell, World.drew]
      refine ⟨by rw [HB.out, HV.out]; rfl, L, _, ⟨_, _, _, _, _, _, _, _, _, _, _, _, (HM2.out.labels_ (n := m) (by omega) (some nc)).keep0 (Keeps.refl _ []).drew, OkP.zero _ _ _ _ _ _, HL.out, fun b hb => ⟨(HLt.out b hb).1, ?_⟩⟩, ?_, fun _ => by rw [HB.out, HV.out, HNc.out]; rfl⟩
      · exact Nat.lt_of_lt_of_le (HLt.out b hb).2 (Nat.le_trans HK2.out.size (Nat.le_of_eq hz3.symm))
      · exact (ASt.of_keeps HK2.out L).trans ⟨((Keeps.refl w2' L).setCell (.inl (HL.out _ (by unfold rsL; simp))) _).drew, fun b hb => .inl hb⟩
set_option maxRecDepth 100000 in
set_option maxHeartbeats 12800000 in
theorem fullR_any {w0 w : World} {ab : Nat} {L : List Nat} {p : Nat → Nat} {S : AS} (hA : Rs w0 w ab L p S) :
    Calls Tryz.prog 22 #[.pointer (some ⟨ab, 0, none⟩)] w fun e w' => e = .returned (.bool (fullP S.o)) ∧ Keeps w w' [] := by
  unfold fullP
  obtain ⟨AA, FA, PA, CA, UA, BA, ca, cf, cp, cc, cu, cb, hm, hok, hL, hlt⟩ := hA
  have q0 := hm.c0
  have q1 := hm.c1
  have q2 := hm.c2
  have q3 := hm.c3
  clear hm hL hlt hok
  generalize S.o.atoms.length = na at *
  generalize S.o.funs.length = nf at *
  generalize S.o.preds.length = n at *
  generalize S.o.code.length = nc at *
  have HI : Hid ((decide (256 < na) || decide (256 < nf) || decide (64 < n) || decide (1024 < nc)) = (decide ((256 : Int) < (na : Int)) || decide ((256 : Int) < (nf : Int)) || decide ((64 : Int) < (n : Int)) || decide ((1024 : Int) < (nc : Int)))) := Lib.hid (by rw [Bool.eq_iff_iff]; simp only [Bool.or_eq_true, decide_eq_true_eq]; omega)
  cases d0 : decide ((256 : Int) < (na : Int)) <;> cases d1 : decide ((256 : Int) < (nf : Int)) <;> cases d2 : decide ((64 : Int) < (n : Int)) <;> cases d3 : decide ((1024 : Int) < (nc : Int)) <;>
    (rw [d0, d1, d2, d3] at HI
     go_enter Tryz.func22, Tryz.ntmps22
     go_wp2_with fail
     go_ret
     exact ⟨by rw [HI.out]; rfl, Keeps.refl w []⟩)
end Go.Proofs.YtpcihhdalofdiaaGreatDoor

/- The object that is tried, upon the same rows. -/
namespace Go.Proofs.YtpcihhdalofdiaaGreatDoor
open Go.RowKit Go.Maps
attribute [local irreducible] rsCells

theorem Blk.eqR {w : World} {g : Nat} {t : TypeId} {cs cs' : Array Value} (h : Blk w g t cs) (e : cs = cs') : Blk w g t cs' := e ▸ h
/-- How much of each row is wanted: all of it. -/
noncomputable def protP (AA FA PA : Option Addr) (a f p : Nat) (g : Nat) : Nat := if g ∈ ownL (.slice AA 0 0) then a * 1 else if g ∈ ownL (.slice FA 0 0) then f * 2 else if g ∈ ownL (.slice PA 0 0) then p * 3 else 0
/-- The blocks that may turn while it is tried. -/
def tryL (tb : Nat) (AA FA PA : Option Addr) : List Nat := tb :: (ownL (.slice AA 0 0) ++ (ownL (.slice FA 0 0) ++ ownL (.slice PA 0 0)))
theorem protP_no {AA FA PA : Option Addr} {a f p g : Nat} (h1 : g ∉ ownL (.slice AA 0 0)) (h2 : g ∉ ownL (.slice FA 0 0)) (h3 : g ∉ ownL (.slice PA 0 0)) : protP AA FA PA a f p g = 0 := by
  unfold protP
  rw [if_neg h1, if_neg h2, if_neg h3]
theorem protP_a {AA FA PA : Option Addr} {a f p g : Nat} (h1 : g ∈ ownL (.slice AA 0 0)) : protP AA FA PA a f p g = a * 1 := by
  unfold protP
  rw [if_pos h1]
theorem protP_f {AA FA PA : Option Addr} {a f p g : Nat} (h1 : g ∉ ownL (.slice AA 0 0)) (h2 : g ∈ ownL (.slice FA 0 0)) : protP AA FA PA a f p g = f * 2 := by
  unfold protP
  rw [if_neg h1, if_pos h2]
theorem protP_p {AA FA PA : Option Addr} {a f p g : Nat} (h1 : g ∉ ownL (.slice AA 0 0)) (h2 : g ∉ ownL (.slice FA 0 0)) (h3 : g ∈ ownL (.slice PA 0 0)) : protP AA FA PA a f p g = p * 3 := by
  unfold protP
  rw [if_neg h1, if_neg h2, if_pos h3]
section
variable {w0 w : World} {ab : Nat} {AA FA PA CA UA BA : Option Addr} {ca cf cp cc cu cb : Nat} {S : AS}
theorem RsM.try_ (h : RsM w0 w ab AA FA PA CA UA BA ca cf cp cc cu cb S) {w5 : World} (k : Keeps w w5 []) (hb : Blk w5 w.heap.size 67 (rsCells (.slice AA S.o.atoms.length ca) (.slice FA S.o.funs.length cf) (.slice PA S.o.preds.length cp) (.slice none 0 0) (fun _ => none) (.slice none 0 0) (.slice none 0 0))) :
    Rs w0 w5 w.heap.size (tryL w.heap.size AA FA PA) (protP AA FA PA S.o.atoms.length S.o.funs.length S.o.preds.length) ⟨{ S.o with code := [] }, fun _ => none, [], []⟩ := by
  have h5 := h.keep0 k
  have la := own_ltA h.atoms
  have lf := own_ltA h.funs
  have lp := own_ltA h.preds
  have ks := k.size
  refine ⟨AA, FA, PA, none, none, none, ca, cf, cp, 0, 0, 0, ⟨hb, h5.atoms, h5.funs, h5.preds, World.ownsRow_nil _ _ _ _, World.ownsRow_nil _ _ _ _, World.ownsRow_nil _ _ _ _, h.bel.size, h5.bel, h.st⟩, ⟨?_, ?_, ?_, ?_, ?_⟩, ?_, ?_⟩
  · exact protP_no (fun e => by have := la _ e; omega) (fun e => by have := lf _ e; omega) (fun e => by have := lp _ e; omega)
  · intro g hg
    rw [protP_a hg]
    exact Nat.le_refl _
  · intro g hg
    rw [protP_f (own_disjA h.funs h.atoms (by decide) g hg) hg]
    exact Nat.le_refl _
  · intro g hg
    rw [protP_p (own_disjA h.preds h.atoms (by decide) g hg) (own_disjA h.preds h.funs (by decide) g hg) hg]
    exact Nat.le_refl _
  · intro g hg
    exact protP_no (fun e => by have := la _ e; omega) (fun e => by have := lf _ e; omega) (fun e => by have := lp _ e; omega)
  · intro b hb'
    unfold rsL at hb'
    unfold tryL
    simp only [List.mem_append, List.mem_cons, List.not_mem_nil, or_false] at hb' ⊢
    rcases hb' with rfl | h1 | h1 | h1 | h1 | h1 | h1
    · exact .inl rfl
    · exact .inr (.inl h1)
    · exact .inr (.inr (.inl h1))
    · exact .inr (.inr (.inr h1))
    all_goals simp [ownL, Value.ownBlock] at h1
  · intro b hb'
    have := h.bel.size
    have hlt := hb.lt
    unfold tryL at hb'
    simp only [List.mem_append, List.mem_cons] at hb'
    rcases hb' with rfl | h1 | h1 | h1
    · exact ⟨this, hlt⟩
    · exact ⟨(la _ h1).1, by have := (la _ h1).2; omega⟩
    · exact ⟨(lf _ h1).1, by have := (lf _ h1).2; omega⟩
    · exact ⟨(lp _ h1).1, by have := (lp _ h1).2; omega⟩
theorem RsM.tried (h : RsM w0 w ab AA FA PA CA UA BA ca cf cp cc cu cb S) {L : List Nat} (hL : ∀ b ∈ rsL ab AA FA PA CA UA BA, b ∈ L) (hlt : ∀ b ∈ L, w0.heap.size ≤ b ∧ b < w.heap.size) {w5 wr : World} (k : Keeps w w5 []) (k2 : Keeps w5 wr (tryL w.heap.size AA FA PA)) (kp : Prot w5 wr (protP AA FA PA S.o.atoms.length S.o.funs.length S.o.preds.length)) :
    Rs w0 wr ab L (fun _ => 0) S ∧ Keeps w wr L := by
  have h5 := h.keep0 k
  have la := own_ltA h.atoms
  have lf := own_ltA h.funs
  have lp := own_ltA h.preds
  have lc := own_ltA h.code
  have lu := own_ltA h.uses
  have lb := own_ltA h.begins
  have ha := h.blk.lt
  have hz := h.bel.size
  have hin : ∀ b ∈ tryL w.heap.size AA FA PA, b = w.heap.size ∨ b ∈ L := by
    intro b hb
    unfold tryL at hb
    unfold rsL at hL
    simp only [List.mem_append, List.mem_cons, List.not_mem_nil, or_false] at hb hL
    rcases hb with rfl | h1 | h1 | h1
    · exact .inl rfl
    · exact .inr (hL b (.inr (.inl h1)))
    · exact .inr (hL b (.inr (.inr (.inl h1))))
    · exact .inr (hL b (.inr (.inr (.inr (.inl h1)))))
  refine ⟨⟨AA, FA, PA, CA, UA, BA, ca, cf, cp, cc, cu, cb, h5.keepP k2 kp ?_ ?_ ?_ ?_, OkP.zero _ _ _ _ _ _, hL, fun b hb => ⟨(hlt b hb).1, Nat.lt_of_lt_of_le (hlt b hb).2 (Nat.le_trans k.size k2.size)⟩⟩, ⟨k2.os.trans k.os, k2.tape.trans k.tape, k2.output.trans k.output, Nat.le_trans k.size k2.size, fun b hb hn => (k2.block b (Nat.lt_of_lt_of_le hb k.size) (fun hm => ?_)).trans (k.block b hb (by simp))⟩⟩
  · intro b hb
    unfold tryL at hb
    simp only [List.mem_append, List.mem_cons] at hb
    rcases hb with rfl | h1 | h1 | h1
    · exact ⟨by omega, fun e => by have := lc _ e; omega, fun e => by have := lu _ e; omega, fun e => by have := lb _ e; omega, hz⟩
    · exact ⟨fun e => own_outA h.atoms h.blk (by decide) (e ▸ h1), own_disjA h.atoms h.code (by decide) b h1, own_disjA h.atoms h.uses (by decide) b h1, own_disjA h.atoms h.begins (by decide) b h1, (la b h1).1⟩
    · exact ⟨fun e => own_outA h.funs h.blk (by decide) (e ▸ h1), own_disjA h.funs h.code (by decide) b h1, own_disjA h.funs h.uses (by decide) b h1, own_disjA h.funs h.begins (by decide) b h1, (lf b h1).1⟩
    · exact ⟨fun e => own_outA h.preds h.blk (by decide) (e ▸ h1), own_disjA h.preds h.code (by decide) b h1, own_disjA h.preds h.uses (by decide) b h1, own_disjA h.preds h.begins (by decide) b h1, (lp b h1).1⟩
  · intro g hg
    rw [protP_a hg]
    exact Nat.le_refl _
  · intro g hg
    rw [protP_f (own_disjA h.funs h.atoms (by decide) g hg) hg]
    exact Nat.le_refl _
  · intro g hg
    rw [protP_p (own_disjA h.preds h.atoms (by decide) g hg) (own_disjA h.preds h.funs (by decide) g hg) hg]
    exact Nat.le_refl _
  · rcases hin b hm with h1 | h1
    · omega
    · exact hn h1
end
/-- The state while it is tried. -/
structure TRun (w0 w5 : World) (tb : Nat) (T : List Nat) (p : Nat → Nat) (S : AS) (j : Nat) (wr : World) : Prop where
  ex : ∃ L' S', Rs w0 wr tb L' p S' ∧ ASt w5 T wr L' ∧ Grows { S.o with code := [] } S'.o j
  prot : Prot w5 wr p
theorem TRun.step {w0 w5 wr w6 : World} {tb : Nat} {T L' : List Nat} {p : Nat → Nat} {S S' : AS} {j : Nat} (h2 : ASt w5 T wr L') (h3 : Grows { S.o with code := [] } S'.o j) (hp : Prot w5 wr p) {q : Nat} {l : Txt} (hd : RsDone w0 wr tb L' p { S' with o := (operandP S'.o q l).1 } w6) : TRun w0 w5 tb T p S (j + 1) w6 := by
  obtain ⟨L6, g1, g2, g3⟩ := hd
  have hg := operandP_grows S'.o q l
  have a1 := hg.atoms
  have a2 := hg.funs
  have a3 := hg.preds
  have b1 := h3.atoms
  have b2 := h3.funs
  have b3 := h3.preds
  dsimp only at b1 b2 b3
  exact ⟨⟨L6, _, g1, h2.trans g2, ⟨by dsimp only; omega, by dsimp only; omega, by dsimp only; omega, by rw [hg.code, h3.code]⟩⟩, hp.trans g3⟩
theorem TRun.bad {w0 w5 wr w6 : World} {tb : Nat} {T L' : List Nat} {p : Nat → Nat} {S' : AS} (h2 : ASt w5 T wr L') (hp : Prot w5 wr p) (hd : RsDone w0 wr tb L' p S' w6) : Keeps w5 w6 T ∧ Prot w5 w6 p := by
  obtain ⟨L6, g1, g2, g3⟩ := hd
  exact ⟨(h2.trans g2).keep, hp.trans g3⟩
/-- The operands' kinds with their words. -/
theorem zipT_at {op : Int} {ws : List Txt} {j q : Nat} {x : Txt} (hk : (kindsOf op)[j]? = some (q : Int)) (hx : ws[j + 1]? = some x) : (zipW op ws)[j]? = some (q, x) := by
  unfold zipW
  refine zip_at ?_ ?_
  · rw [List.getElem?_map, hk]
    rfl
  · rw [List.getElem?_tail, hx]
theorem zipT_len {op : Int} {ws : List Txt} {m : Nat} (hm : (kindsOf op).length = m) (hn : ws.length = m + 1) : (zipW op ws).length = m := by
  unfold zipW
  rw [List.length_zip, List.length_map, List.length_tail]
  omega
theorem keeps_dropL {w w6 wr : World} {L : List Nat} {ib : Nat} (h : Keeps w w6 L) (k : Keeps w6 wr (ib :: L)) (hi : w.heap.size ≤ ib) : Keeps w wr L :=
  ⟨k.os.trans h.os, k.tape.trans h.tape, k.output.trans h.output, Nat.le_trans h.size k.size, fun i hi' hn => (k.block i (Nat.lt_of_lt_of_le hi' h.size) (fun hm => by
    rcases List.mem_cons.1 hm with rfl | hm
    · omega
    · exact hn hm)).trans (h.block i hi' hn)⟩
/-- The state while the operands are read. -/
structure IRunR (w0 w4 : World) (ab : Nat) (L : List Nat) (S : AS) (wr : World) (ib : Nat) (op : Int) (q : LObj × List Int × List (Nat × Nat × Nat)) : Prop where
  ex : ∃ L', Rs w0 wr ab L' (fun _ => 0) { S with o := q.1, uses := S.uses ++ q.2.2 } ∧ ∀ b ∈ L', b ∈ L ∨ w4.heap.size ≤ b
  ins : Blk wr ib 72 (insC6 op q.2.1)
  keep : Keeps w4 wr (ib :: L)
/-! ### The ways to come to an instruction -/
def lead0 (_ : ByteArray) (n : Nat) (xs : ByteArray) : Prop := ((n : Int) == 2) = true ∧ (xs.toList == [112, 114, 101, 100]) = false ∧ ((n : Int) == 1) = false
def lead1 (_ : ByteArray) (n : Nat) (_ : ByteArray) : Prop := ((n : Int) == 2) = false ∧ ((n : Int) == 1) = false
def lead2 (s : ByteArray) (n : Nat) (_ : ByteArray) : Prop := ((n : Int) == 2) = false ∧ ((n : Int) == 1) = true ∧ ¬ (1 : Int) < (s.size : Int)
def lead3 (s : ByteArray) (n : Nat) (_ : ByteArray) : Prop := ((n : Int) == 2) = false ∧ ((n : Int) == 1) = true ∧ (1 : Int) < (s.size : Int) ∧ (0 : Int) < (s.size : Int) ∧ ∃ (h : 0 < s.size) (x : UInt8), s[0] = x ∧ ((x.toNat : Int) == 64) = false
theorem lead_any {s : ByteArray} {n : Nat} {x0 : Txt} (h1 : ¬ (n = 2 ∧ x0 = predW)) (h2 : ¬ (n = 1 ∧ 1 < s.size ∧ s.data.toList.head? = some 64)) : lead0 s n (stB x0) ∨ lead1 s n (stB x0) ∨ lead2 s n (stB x0) ∨ lead3 s n (stB x0) := by
  by_cases hn2 : n = 2
  · refine .inl ⟨by rw [beq_iff_eq]; omega, ?_, by rw [beq_eq_false_iff_ne]; omega⟩
    rw [stB_eq]
    exact decide_eq_false (fun e => h1 ⟨hn2, e⟩)
  · by_cases hn1 : n = 1
    · by_cases hz : 1 < s.size
      · refine .inr (.inr (.inr ⟨by rw [beq_eq_false_iff_ne]; omega, by rw [beq_iff_eq]; omega, by omega, by omega, by omega, s[0], rfl, ?_⟩))
        rw [beq_eq_false_iff_ne]
        intro e
        refine h2 ⟨hn1, hz, ?_⟩
        rw [List.head?_eq_getElem?, dat_at s 0 (by omega)]
        congr 1
        exact UInt8.toNat_inj.1 (by have h9 : (s[0]'(by omega)).toNat = 64 := by omega
                                    rw [h9]; rfl)
      · exact .inr (.inr (.inl ⟨by rw [beq_eq_false_iff_ne]; omega, by rw [beq_iff_eq]; omega, by omega⟩))
    · exact .inr (.inl ⟨by rw [beq_eq_false_iff_ne]; omega, by rw [beq_eq_false_iff_ne]; omega⟩)
end Go.Proofs.YtpcihhdalofdiaaGreatDoor

/- The document's look, line by line, at what is wrong: the first of the least line. No program in sight. -/
namespace Go.Proofs.YtpcihhdalofdiaaGreatDoor

theorem least_stay (f : Int) (k : Nat) : ∀ (l : List (Int × Nat)), (∀ y ∈ l, k ≤ y.2) → least (f, (k : Int)) l = (f, (k : Int))
  | [], _ => rfl
  | (g, n) :: r, h => by
    have h1 : k ≤ n := h (g, n) (by simp)
    rw [least, if_neg (by simp only; omega)]
    exact least_stay f k r (fun y hy => h y (List.mem_cons_of_mem _ hy))
theorem least_first (k : Nat) (x : Int × Nat) : ∀ (l : List (Int × Nat)) (e : Int × Int), (e.2 < 0 ∨ (k : Int) < e.2) → (∀ y ∈ l, k ≤ y.2) → l.find? (fun y => y.2 == k) = some x → least e l = (x.1, (k : Int))
  | [], _, _, _, h => by simp at h
  | (g, n) :: r, e, he, hl, h => by
    have h1 : k ≤ n := hl (g, n) (by simp)
    have hr : ∀ y ∈ r, k ≤ y.2 := fun y hy => hl y (List.mem_cons_of_mem _ hy)
    rw [least]
    by_cases hn : n = k
    · subst hn
      rw [List.find?_cons_of_pos (by simp)] at h
      obtain rfl := Option.some.inj h
      rw [if_pos he]
      exact least_stay g n r hr
    · rw [List.find?_cons_of_neg (by simpa using hn)] at h
      refine least_first k x r _ ?_ hr h
      split
      · right; simp only; omega
      · exact he
/-- Is the k-th beginning wrong? -/
def BegBad (S : AS) (k : Nat) (b : Nat × Nat) : Prop := (S.o.code.length : Int) ≤ entryAt S b ∨ ∃ c, S.begins[k + 1]? = some c ∧ entryAt S c = entryAt S b
theorem badBegins_mem (S : AS) (n : Nat) : ∀ (l : List (Nat × Nat)), n ∈ badBegins S l ↔ ∃ k b, l[k]? = some b ∧ b.2 = n ∧ ((S.o.code.length : Int) ≤ entryAt S b ∨ ∃ c, l[k + 1]? = some c ∧ entryAt S c = entryAt S b)
  | [] => by simp [badBegins]
  | [b] => by
    rw [badBegins]
    constructor
    · intro h
      split at h
      · rename_i h1
        exact ⟨0, b, rfl, (List.mem_singleton.1 h).symm, .inl h1⟩
      · cases h
    · rintro ⟨k, b', hk, hb, h⟩
      match k, hk with
      | 0, hk =>
        simp at hk
        subst hk
        rcases h with h | ⟨c, hc, _⟩
        · rw [if_pos h]; simp [hb]
        · simp at hc
  | b :: c :: r => by
    rw [badBegins, List.mem_append, badBegins_mem S n (c :: r)]
    constructor
    · rintro (h | ⟨k, b', hk, h⟩)
      · split at h
        · rename_i h1
          exact ⟨0, b, rfl, (List.mem_singleton.1 h).symm, h1.imp id fun e => ⟨c, rfl, e⟩⟩
        · cases h
      · exact ⟨k + 1, b', by simpa using hk, by simpa using h⟩
    · rintro ⟨k, b', hk, hb, h⟩
      match k, hk with
      | 0, hk =>
        left
        simp at hk
        subst hk
        rw [if_pos (h.imp id fun ⟨c', hc', e⟩ => by simp at hc'; subst hc'; exact e)]
        simp [hb]
      | k + 1, hk => exact .inr ⟨k, b', by simpa using hk, hb, by simpa using h⟩
theorem scan_use {S : AS} {i k : Nat} {u : Nat × Nat × Nat} (hl : ∀ y ∈ wrongs S, i ≤ y.2) (hu : S.uses[k]? = some u) (hi : u.2.2 = i) (hb : badUse S u = true) : least (0, -1) (wrongs S) = (10, (i : Int)) := by
  cases hf : (wrongs S).find? (fun y => y.2 == i) with
  | none =>
    rw [List.find?_eq_none] at hf
    refine absurd ?_ (hf ((10 : Int), u.2.2) (List.mem_append_left _ (List.mem_map.2 ⟨u, List.mem_filter.2 ⟨List.mem_of_getElem? hu, hb⟩, rfl⟩)))
    simp [hi]
  | some x =>
    rw [least_first i x _ _ (.inl (by decide)) hl hf]
    unfold wrongs at hf
    rw [List.find?_append] at hf
    cases hg : ((S.uses.filter (badUse S)).map (fun u => ((10 : Int), u.2.2))).find? (fun y => y.2 == i) with
    | none =>
      rw [List.find?_eq_none] at hg
      refine absurd ?_ (hg ((10 : Int), u.2.2) (List.mem_map.2 ⟨u, List.mem_filter.2 ⟨List.mem_of_getElem? hu, hb⟩, rfl⟩))
      simp [hi]
    | some y =>
      rw [hg] at hf
      obtain rfl := Option.some.inj hf
      obtain ⟨u', _, rfl⟩ := List.mem_map.1 (List.mem_of_find?_eq_some hg)
      rfl
theorem scan_begin {S : AS} {i k : Nat} {b : Nat × Nat} (hl : ∀ y ∈ wrongs S, i ≤ y.2) (hno : ∀ u ∈ S.uses, u.2.2 = i → badUse S u = false) (hu : S.begins[k]? = some b) (hi : b.2 = i) (hb : BegBad S k b) : least (0, -1) (wrongs S) = (7, (i : Int)) := by
  have hm : ((7 : Int), i) ∈ (badBegins S S.begins).map (fun n => ((7 : Int), n)) := List.mem_map.2 ⟨i, (badBegins_mem S i _).2 ⟨k, b, hu, hi, hb⟩, rfl⟩
  cases hf : (wrongs S).find? (fun y => y.2 == i) with
  | none =>
    rw [List.find?_eq_none] at hf
    refine absurd ?_ (hf ((7 : Int), i) (List.mem_append_right _ hm))
    simp
  | some x =>
    rw [least_first i x _ _ (.inl (by decide)) hl hf]
    unfold wrongs at hf
    rw [List.find?_append, List.find?_eq_none.2 (fun y hy => by
      obtain ⟨u, hu', rfl⟩ := List.mem_map.1 hy
      obtain ⟨h1, h2⟩ := List.mem_filter.1 hu'
      intro e
      rw [hno u h1 (by simpa using e)] at h2
      cases h2)] at hf
    obtain ⟨n, _, rfl⟩ := List.mem_map.1 (List.mem_of_find?_eq_some hf)
    rfl
theorem scan_next {S : AS} {i : Nat} (hl : ∀ y ∈ wrongs S, i ≤ y.2) (hno : ∀ u ∈ S.uses, u.2.2 = i → badUse S u = false) (hnb : ∀ k b, S.begins[k]? = some b → b.2 = i → ¬ BegBad S k b) : ∀ y ∈ wrongs S, i + 1 ≤ y.2 := by
  intro y hy
  have h1 := hl y hy
  rcases List.mem_append.1 hy with h | h
  · obtain ⟨u, hu', rfl⟩ := List.mem_map.1 h
    obtain ⟨h2, h3⟩ := List.mem_filter.1 hu'
    refine Nat.lt_of_le_of_ne h1 fun e => ?_
    rw [hno u h2 e.symm] at h3
    cases h3
  · obtain ⟨n, hn, rfl⟩ := List.mem_map.1 h
    obtain ⟨k, b, hk, hb, hbb⟩ := (badBegins_mem S n _).1 hn
    refine Nat.lt_of_le_of_ne h1 fun e => ?_
    exact hnb k b hk (hb.trans e.symm) hbb
/-- What the document's look wants of the uses, of the beginnings, behind k lines. -/
structure RsI (S : AS) (k : Nat) : Prop where
  uses : ∀ u ∈ S.uses, u.2.1 < 4 ∧ u.2.2 < k ∧ ∃ i, S.o.code[u.1]? = some i ∧ 0 ≤ i.arg u.2.1 ∧ i.arg u.2.1 ≤ 1023
  begins : ∀ b ∈ S.begins, b.2 < k
theorem RsI.start : RsI AS0 0 := ⟨fun _ hu => absurd hu (List.not_mem_nil), fun _ hu => absurd hu (List.not_mem_nil)⟩
theorem scan_end {S : AS} {n : Nat} (h : RsI S n) (hl : ∀ y ∈ wrongs S, n ≤ y.2) : least (0, -1) (wrongs S) = (0, -1) := by
  have : wrongs S = [] := by
    cases hw : wrongs S with
    | nil => rfl
    | cons y r =>
      exfalso
      have hy : y ∈ wrongs S := by rw [hw]; simp
      have h1 := hl y hy
      rcases List.mem_append.1 hy with h2 | h2
      · obtain ⟨u, hu', rfl⟩ := List.mem_map.1 h2
        have h3 := (h.uses u (List.mem_filter.1 hu').1).2.1
        simp only at h1
        omega
      · obtain ⟨m, hm, rfl⟩ := List.mem_map.1 h2
        obtain ⟨k, b, hk, hb, _⟩ := (badBegins_mem S m _).1 hm
        have h3 := h.begins b (List.mem_of_getElem? hk)
        simp only at h1
        omega
  rw [this]
  rfl
theorem operand8_fit (op : Int) (o : LObj) (w : Txt) (hf : fitsP op 8 w = true) (hv : (operandP o 8 w).2 ≠ 65535) : 0 ≤ (operandP o 8 w).2 ∧ (operandP o 8 w).2 ≤ 1023 := by
  have h1 := operand_in o hf
  rcases h1.label rfl with h2 | h2
  · exact ⟨h1.low, h2⟩
  · exact absurd h2.1 hv
theorem operandsP_useR (op : Int) (n at_ : Nat) : ∀ (l : List (Nat × Txt)) (o : LObj) (j : Nat), (l.all fun x => fitsP op x.1 x.2) = true → ∀ u ∈ (operandsP n at_ o j l).2.2, u.1 = n ∧ u.2.2 = at_ ∧ j ≤ u.2.1 ∧ u.2.1 < j + l.length ∧ ∃ v, (operandsP n at_ o j l).2.1[u.2.1 - j]? = some v ∧ 0 ≤ v ∧ v ≤ 1023
  | [], _, _, _ => fun u hu => absurd hu (List.not_mem_nil)
  | (k, w) :: l, o, j, hf => by
    rw [List.all_cons, Bool.and_eq_true] at hf
    have h1 := operandsP_useR op n at_ l (operandP o k w).1 (j + 1) hf.2
    rw [operandsP]
    simp only
    intro u hu
    rcases List.mem_append.1 hu with hu | hu
    · split at hu
      · rename_i hc
        obtain ⟨hk8, hv⟩ := hc
        obtain rfl := List.mem_singleton.1 hu
        subst hk8
        exact ⟨rfl, rfl, Nat.le_refl _, by simp, _, by rw [Nat.sub_self, List.getElem?_cons_zero], operand8_fit op o w hf.1 hv⟩
      · cases hu
    · obtain ⟨g1, g2, g3, g4, v, g5, g6⟩ := h1 u hu
      refine ⟨g1, g2, by omega, by rw [List.length_cons]; omega, v, ?_, g6⟩
      rw [show u.2.1 - j = (u.2.1 - (j + 1)) + 1 by omega, List.getElem?_cons_succ]
      exact g5
theorem RsI.line {S : AS} {k : Nat} (h : RsI S k) (s : Txt) : RsI (lineP S s k).1 (k + 1) := by
  have h' : RsI S (k + 1) := ⟨fun u hu => by have := h.uses u hu; exact ⟨this.1, by omega, this.2.2⟩, fun b hb => by have := h.begins b hb; omega⟩
  unfold lineP
  split
  · unfold beginP
    split
    · exact h'
    · simp only
      split
      · exact h'
      · refine ⟨fun u hu => ?_, fun b hb => ?_⟩
        · obtain ⟨h4, h5, i, hi, h6⟩ := h'.uses u hu
          refine ⟨h4, h5, i, ?_, h6⟩
          simp only [predP_code]
          exact hi
        · rcases List.mem_append.1 hb with hb | hb
          · exact h'.begins b hb
          · obtain rfl := List.mem_singleton.1 hb
            exact Nat.lt_succ_self _
  · split
    · unfold markP
      split
      · exact h'
      · split
        · exact h'
        · exact ⟨h'.uses, h'.begins⟩
    · unfold instrP
      simp only
      split
      · exact h'
      · rename_i hc
        have hlen := Classical.byContradiction fun e => hc (.inr (.inl e))
        have hall : ((((kindsOf (namedT ((splitT s).headD []))).map Int.toNat).zip (splitT s).tail).all fun x => fitsP (namedT ((splitT s).headD [])) x.1 x.2) = true := by
          cases hb : ((((kindsOf (namedT ((splitT s).headD []))).map Int.toNat).zip (splitT s).tail).all fun x => fitsP (namedT ((splitT s).headD [])) x.1 x.2) with
          | true => rfl
          | false => exact absurd (.inr (.inr hb)) hc
        generalize namedT ((splitT s).headD []) = op at hlen hall ⊢
        have g1 := operandsP_useR op S.o.code.length k (((kindsOf op).map Int.toNat).zip (splitT s).tail) S.o 0 hall
        have hl := operandsP_len S.o.code.length k (((kindsOf op).map Int.toNat).zip (splitT s).tail) S.o 0
        have hcd := operandsP_code (n := S.o.code.length) (at_ := k) (((kindsOf op).map Int.toNat).zip (splitT s).tail) S.o 0
        have hk4 := kinds_few op
        have hz : (((kindsOf op).map Int.toNat).zip (splitT s).tail).length ≤ 4 := by
          rw [List.length_zip, List.length_map]
          omega
        generalize operandsP S.o.code.length k S.o 0 (((kindsOf op).map Int.toNat).zip (splitT s).tail) = q at g1 hl hcd ⊢
        refine ⟨fun u hu => ?_, h'.begins⟩
        simp only at hu ⊢
        rw [hcd]
        rcases List.mem_append.1 hu with hu | hu
        · obtain ⟨h4, h5, i, hi, h6⟩ := h'.uses u hu
          exact ⟨h4, h5, i, by rw [List.getElem?_append_left (List.getElem?_eq_some_iff.1 hi).1]; exact hi, h6⟩
        · obtain ⟨e1, e2, _, e3, v, e4, e5⟩ := g1 u hu
          have hu4 : u.2.1 < 4 := by omega
          refine ⟨hu4, by omega, insW op q.2.1, by rw [e1, List.getElem?_append_right (Nat.le_refl _)]; simp, ?_⟩
          rw [insW_arg op q.2.1 hu4, List.getD_eq_getElem?_getD]
          rw [Nat.sub_zero] at e4
          rw [e4]
          exact e5
end Go.Proofs.YtpcihhdalofdiaaGreatDoor
