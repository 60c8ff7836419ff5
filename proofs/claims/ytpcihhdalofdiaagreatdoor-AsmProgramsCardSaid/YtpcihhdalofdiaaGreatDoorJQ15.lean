/- told, few and Strings of the law. Printed by gen_astold.py. -/
import Derived.Test.YtpcihhdalofdiaaGreatDoorJQ13
import Derived.Test.YtpcihhdalofdiaaGreatDoorJQ07
import Derived.Test.YtpcihhdalofdiaaGreatDoorJQ14
import Derived.Test.YtpcihhdalofdiaaGreatDoorJQ02
import Derived.Test.YtpcihhdalofdiaaGreatDoorJQ03
namespace Go.Proofs.YtpcihhdalofdiaaGreatDoor
open Go.RowKit Go.Maps

theorem told1 : programP ([⟨#[112, 114, 101, 100, 32, 112, 47, 49]⟩, ⟨#[103, 101, 116, 99, 111, 110, 32, 97, 32, 88, 48]⟩, ⟨#[112, 114, 111, 99, 101, 101, 100]⟩].map fun s : ByteArray => s.data.toList) = (⟨[⟨#[97]⟩], [], [⟨⟨#[112]⟩, 1, 0⟩], [⟨3, 0, 0, 0, 0⟩, ⟨19, 0, 0, 0, 0⟩]⟩, 0, -1) := by kernel_rfl
theorem told2 : programP ([⟨#[112, 114, 101, 100, 32, 112, 47, 49]⟩, ⟨#[116, 114, 121, 32, 64, 53]⟩].map fun s : ByteArray => s.data.toList) = (⟨[], [], [], []⟩, 10, 1) := by kernel_rfl
attribute [local irreducible] numT kindsOf nameOf checkE fitsP operandP plainP labelP slashP namedT programP

set_option maxRecDepth 100000 in
set_option maxHeartbeats 6400000 in
theorem told9_any (w : World) (h : St w) : Calls Tryz.prog 7 #[] w fun e w' => e = .returned (.bool true) ∧ Keeps w w' [] := by
  have k1 : Keeps w (w.alloc (.cells #[.string ⟨#[112, 114, 101, 100, 32, 112, 47, 49]⟩, .string ⟨#[103, 101, 116, 99, 111, 110, 32, 97, 32, 88, 48]⟩, .string ⟨#[112, 114, 111, 99, 101, 101, 100]⟩] 9)) [] := (Keeps.refl w []).alloc _
  have HP1 := programA_any [⟨#[112, 114, 101, 100, 32, 112, 47, 49]⟩, ⟨#[103, 101, 116, 99, 111, 110, 32, 97, 32, 88, 48]⟩, ⟨#[112, 114, 111, 99, 101, 101, 100]⟩] (some ⟨w.heap.size, 0, none⟩) 3 3 (w.alloc (.cells #[.string ⟨#[112, 114, 101, 100, 32, 112, 47, 49]⟩, .string ⟨#[103, 101, 116, 99, 111, 110, 32, 97, 32, 88, 48]⟩, .string ⟨#[112, 114, 111, 99, 101, 101, 100]⟩] 9)) (h.keep k1) rfl (by omega) (Rd.of_blk (Blk.new _ _ _)) (by decide)
  rw [told1] at HP1
  have HP1 := Lib.hid HP1
  have HK1 := Lib.hid k1
  have HSt := Lib.hid h
  clear k1 h
  go_enter Tryz.func7, Tryz.ntmps7
  go_wp2_with fail
  refine HP1.out.mono ?_
  rintro e w1 ⟨Aa, Af, Ap, Ac, ca, cf, cp, cc, rfl, hob, k2⟩
  obtain ⟨b, off, rfl, hb, hc⟩ := hob.preds.field predE_len (k := 0) rfl (by omega)
  have y0 : w1.cell? ⟨b, off + 0 * 3 + 2, none⟩ = some (.int .i64 0) := hc 2 _ rfl
  rw [Nat.zero_mul, Nat.add_zero] at y0
  have HK2 := Lib.hid ((HK1.out.trans k2).alloc (.cells #[.slice Aa 1 ca, .slice Af 0 cf, .slice (some ⟨b, off, none⟩) 1 cp, .slice Ac 2 cc] 31))
  have HB : Hid (Blk (w1.alloc (.cells #[.slice Aa 1 ca, .slice Af 0 cf, .slice (some ⟨b, off, none⟩) 1 cp, .slice Ac 2 cc] 31)) w1.heap.size 31 #[.slice Aa 1 ca, .slice Af 0 cf, .slice (some ⟨b, off, none⟩) 1 cp, .slice Ac 2 cc]) := Blk.new _ _ _
  have HY : Hid ((w1.alloc (.cells #[.slice Aa 1 ca, .slice Af 0 cf, .slice (some ⟨b, off, none⟩) 1 cp, .slice Ac 2 cc] 31)).cell? ⟨b, off + 2, none⟩ = some (.int .i64 0)) := (((Keeps.refl w1 []).alloc _).cell0 hb).trans y0
  clear hob k2 hc hb y0 HP1 HK1
  dsimp only [List.length_cons, List.length_nil, Nat.zero_add]
  go_upto_region 2 with fail
  generalize w1.alloc (.cells #[.slice Aa 1 ca, .slice Af 0 cf, .slice (some ⟨b, off, none⟩) 1 cp, .slice Ac 2 cc] 31) = w2 at *
  have k3 : Keeps w2 (w2.alloc (.cells #[.string ⟨#[112, 114, 101, 100, 32, 112, 47, 49]⟩, .string ⟨#[116, 114, 121, 32, 64, 53]⟩] 9)) [] := (Keeps.refl w2 []).alloc _
  have HP2 := programA_any [⟨#[112, 114, 101, 100, 32, 112, 47, 49]⟩, ⟨#[116, 114, 121, 32, 64, 53]⟩] (some ⟨w2.heap.size, 0, none⟩) 2 2 (w2.alloc (.cells #[.string ⟨#[112, 114, 101, 100, 32, 112, 47, 49]⟩, .string ⟨#[116, 114, 121, 32, 64, 53]⟩] 9)) (HSt.out.keep (HK2.out.trans k3)) rfl (by omega) (Rd.of_blk (Blk.new _ _ _)) (by decide)
  rw [told2] at HP2
  have HP2 := Lib.hid HP2
  have HK3 := Lib.hid k3
  clear k3
  go_wp2_with fail
  refine HP2.out.mono ?_
  rintro e w3 ⟨Aa2, Af2, Ap2, Ac2, ca2, cf2, cp2, cc2, rfl, _, k4⟩
  have HK4 := Lib.hid ((HK3.out.trans k4).alloc (.cells #[.slice Aa2 0 ca2, .slice Af2 0 cf2, .slice Ap2 0 cp2, .slice Ac2 0 cc2] 31))
  have q0 := (HB.out.keep HK4.out (by simp)).cell 0
  have q2 := (HB.out.keep HK4.out (by simp)).cell 2
  have q3 := (HB.out.keep HK4.out (by simp)).cell 3
  have y0 := (HK4.out.cell0 (block_lt_of_cell HY.out)).trans HY.out
  clear k4
  dsimp only [List.length_nil]
  go_upto_region 3 with fail
  generalize w3.alloc (.cells #[.slice Aa2 0 ca2, .slice Af2 0 cf2, .slice Ap2 0 cp2, .slice Ac2 0 cc2] 31) = w4 at *
  go_wp2_with fail
  go_ret
  exact ⟨rfl, HK2.out.trans HK4.out⟩
/-- No more lines, none longer, than can be looked at. -/
def fewB (ls : List ByteArray) : Bool := (ls.all fun s => decide (s.size ≤ 200)) && decide (ls.length ≤ 200)
set_option maxRecDepth 100000 in
set_option maxHeartbeats 6400000 in
theorem few9_any (ls : List ByteArray) (A : Option Addr) (n c : Nat) (w : World) (hl : ls.length = n) (hn : n ≤ 9223372036854775807) (hA : Rd w A (ls.flatMap strE)) :
    Calls Tryz.prog 6 #[.slice A n c] w fun e w' => e = .returned (.bool (fewB ls)) ∧ Keeps w w' [] := by
  have HL := Lib.hid hl
  have HA := Lib.hid hA
  clear hl hA
  go_enter Tryz.func6, Tryz.ntmps6
  go_wp2_with fail
  go_loopw [3] (fun i wr => ∃ k : Nat, k ≤ n ∧ i = .int .i64 k ∧ Hid ((ls.take k).all (fun s => decide (s.size ≤ 200)) = true) ∧ Keeps w wr []) (fun i _ => n - (intOf i).toNat)
  case atStart => exact ⟨0, Nat.zero_le _, rfl, rfl, Keeps.refl _ _⟩
  case round =>
    obtain ⟨k, hk, rfl, HAll, kr⟩ := hrel
    have HK := Lib.hid kr
    clear kr
    by_cases hlt : k < n
    · obtain ⟨s, hs⟩ := at_of HL.out hlt
      obtain ⟨b, off, rfl, hb, hc⟩ := (HA.out.keep HK.out).field strE_len hs (by omega)
      have p0 : wr.cell? ⟨b, off + k, none⟩ = some (.string s) := by have := hc 0 _ rfl; simpa using this
      have HS := Lib.hid hs
      have b1 : (k : Int) < (n : Int) := by omega
      have b0 : (0 : Int) ≤ (k : Int) := Int.natCast_nonneg _
      clear hs hb hc
      by_cases h2 : s.size ≤ 200
      · have HAll2 : Hid ((ls.take (k + 1)).all (fun s => decide (s.size ≤ 200)) = true) := all_take HS.out HAll.out (decide_eq_true h2)
        have d0 : ¬ (200 : Int) < (s.size : Int) := by omega
        go_wp2_with fail
        go_roundw
        case rel => exact ⟨k + 1, by omega, by go_num, HAll2, HK.out⟩
        case measure => simp [intOf]; omega
      · have HV : Hid (fewB ls = false) := Lib.hid (by unfold fewB; rw [all_noA HS.out (decide_eq_false h2)]; rfl)
        have d0 : (200 : Int) < (s.size : Int) := by omega
        go_wp2_with fail
        go_ret
        exact ⟨by rw [HV.out]; rfl, HK.out⟩
    · obtain rfl : n = k := by omega
      have HV : Hid (fewB ls = decide ((n : Int) ≤ 200)) := Lib.hid (by
        have h1 := HAll.out
        rw [List.take_of_length_le (by rw [HL.out]; exact Nat.le_refl _)] at h1
        unfold fewB
        rw [h1, HL.out, Bool.eq_iff_iff]
        simp only [Bool.true_and, decide_eq_true_eq]
        omega)
      go_wp2_with fail
      go_ret
      exact ⟨by rw [HV.out]; rfl, HK.out⟩
end Go.Proofs.YtpcihhdalofdiaaGreatDoor

/- What lines make is an object that may be: its end. No program in sight. -/
namespace Go.Proofs.YtpcihhdalofdiaaGreatDoor

theorem predP_keep (o : LObj) (f : LFun) {i : Nat} {p : LPred} (h : o.preds[i]? = some p) : (predP o f).1.preds[i]? = some p := by
  unfold predP
  split
  · exact h
  · simp only
    rw [List.getElem?_append_left (List.getElem?_eq_some_iff.1 h).1]
    exact h
theorem operandP_keep (o : LObj) (k : Nat) (w : Txt) {i : Nat} {p : LPred} (h : o.preds[i]? = some p) : (operandP o k w).1.preds[i]? = some p := by
  unfold operandP
  split
  · exact h
  · split
    · split <;> exact h
    · split
      · split
        · exact predP_keep o _ h
        · exact h
      · split <;> exact h
theorem operandsP_keep {n at_ : Nat} {i : Nat} {p : LPred} : ∀ (l : List (Nat × Txt)) (o : LObj) (j : Nat), o.preds[i]? = some p → (operandsP n at_ o j l).1.preds[i]? = some p
  | [], _, _, h => h
  | (k, w) :: l, o, j, h => by
    rw [operandsP]
    exact operandsP_keep l _ _ (operandP_keep o k w h)
/-- Where predicates begin: in order. -/
structure EntI (S : AS) : Prop where
  at_ : ∀ b ∈ S.begins, ∃ p, S.o.preds[b.1]? = some p ∧ 0 ≤ p.entry ∧ p.entry ≤ S.o.code.length
  sorted : S.begins.Pairwise fun b c => entryAt S b ≤ entryAt S c
  one : (S.begins.map (·.1)).Nodup
theorem EntI.start : EntI AS0 := ⟨fun _ hb => absurd hb (List.not_mem_nil), List.Pairwise.nil, List.nodup_nil⟩
theorem entryAt_is {S : AS} {b : Nat × Nat} {p : LPred} (h : S.o.preds[b.1]? = some p) : entryAt S b = p.entry := by
  unfold entryAt
  rw [List.getD_eq_getElem?_getD, h]
  rfl
theorem EntI.grow {S S' : AS} (h : EntI S) (h1 : S'.begins = S.begins) (h2 : S.o.code.length ≤ S'.o.code.length) (h3 : ∀ (i : Nat) (p : LPred), S.o.preds[i]? = some p → S'.o.preds[i]? = some p) : EntI S' := by
  have he : ∀ b ∈ S.begins, entryAt S' b = entryAt S b := fun b hb => by
    obtain ⟨p, hp, _⟩ := h.at_ b hb
    rw [entryAt_is hp, entryAt_is (h3 _ _ hp)]
  refine ⟨fun b hb => ?_, ?_, ?_⟩
  · rw [h1] at hb
    obtain ⟨p, hp, e1, e2⟩ := h.at_ b hb
    exact ⟨p, h3 _ _ hp, e1, by omega⟩
  · rw [h1]
    refine h.sorted.imp_of_mem fun {b c} hb hc hbc => ?_
    rw [he b hb, he c hc]
    exact hbc
  · rw [h1]; exact h.one
theorem EntI.line {S : AS} (h : EntI S) (s : Txt) (n : Nat) : EntI (lineP S s n).1 := by
  unfold lineP
  split
  · unfold beginP
    split
    · exact h
    · rename_i f hf
      simp only
      split
      · exact h
      · rename_i hany
        have hno : ∀ b ∈ S.begins, b.1 ≠ (predP S.o f).2 := fun b hb e => by
          refine hany (List.any_eq_true.2 ⟨b, hb, ?_⟩)
          simpa using e
        have hk : ∀ b ∈ S.begins, ∀ p, S.o.preds[b.1]? = some p → ((predP S.o f).1.preds.modify (predP S.o f).2 fun p => { p with entry := (S.o.code.length : Int) })[b.1]? = some p := fun b hb p hp => by
          rw [List.getElem?_modify, predP_keep _ _ hp]
          have := hno b hb
          simp [Ne.symm this]
        have hnew : ∃ p, ((predP S.o f).1.preds.modify (predP S.o f).2 fun p => { p with entry := (S.o.code.length : Int) })[(predP S.o f).2]? = some p ∧ p.entry = S.o.code.length := by
          rw [List.getElem?_modify, List.getElem?_eq_getElem (predP_lt S.o f)]
          exact ⟨_, by simp; rfl, rfl⟩
        refine ⟨fun b hb => ?_, ?_, ?_⟩
        · simp only [predP_code]
          rcases List.mem_append.1 hb with hb | hb
          · obtain ⟨p, hp, e1, e2⟩ := h.at_ b hb
            exact ⟨p, hk b hb p hp, e1, e2⟩
          · obtain rfl := List.mem_singleton.1 hb
            obtain ⟨p, hp, e⟩ := hnew
            exact ⟨p, hp, by omega, by omega⟩
        · simp only
          refine List.pairwise_append.2 ⟨h.sorted.imp_of_mem fun {b c} hb hc hbc => ?_, List.pairwise_singleton _ _, fun b hb c hc => ?_⟩
          · obtain ⟨p, hp, _⟩ := h.at_ b hb
            obtain ⟨q, hq, _⟩ := h.at_ c hc
            rw [entryAt_is hp, entryAt_is hq] at hbc
            rw [entryAt_is (hk b hb p hp), entryAt_is (hk c hc q hq)]
            exact hbc
          · obtain rfl := List.mem_singleton.1 hc
            obtain ⟨p, hp, _, e2⟩ := h.at_ b hb
            obtain ⟨q, hq, e⟩ := hnew
            rw [entryAt_is (hk b hb p hp), entryAt_is hq]
            omega
        · simp only [List.map_append, List.map_cons, List.map_nil]
          refine List.nodup_append.2 ⟨h.one, by simp, fun a ha b hb => ?_⟩
          obtain rfl := List.mem_singleton.1 hb
          obtain ⟨c, hc, rfl⟩ := List.mem_map.1 ha
          exact hno c hc
  · split
    · unfold markP
      split
      · exact h
      · split
        · exact h
        · exact h.grow rfl (Nat.le_refl _) (fun _ _ h => h)
    · unfold instrP
      simp only
      split
      · exact h
      · refine h.grow rfl ?_ ?_
        · simp only [operandsP_code, List.length_append, List.length_singleton]
          omega
        · intro i p hp
          exact operandsP_keep _ _ _ hp
theorem entries_strict {S : AS} : ∀ {l : List (Nat × Nat)}, l.Pairwise (fun b c => entryAt S b ≤ entryAt S c) → begW S l = [] → l.Pairwise (fun b c => entryAt S b < entryAt S c) ∧ ∀ b ∈ l, entryAt S b < S.o.code.length
  | [], _, _ => ⟨List.Pairwise.nil, fun _ hb => absurd hb (List.not_mem_nil)⟩
  | b :: r, hp, hw => by
    rw [begW_cons, List.append_eq_nil_iff] at hw
    have hb : begBad S b r = false := by
      cases hq : begBad S b r with
      | false => rfl
      | true => rw [hq] at hw; simp at hw
    have hp2 := List.pairwise_cons.1 hp
    obtain ⟨h1, h2⟩ := entries_strict hp2.2 hw.2
    unfold begBad at hb
    simp only [Bool.or_eq_false_iff, decide_eq_false_iff_not] at hb
    refine ⟨List.pairwise_cons.2 ⟨fun c hc => ?_, h1⟩, fun c hc => ?_⟩
    · cases r with
      | nil => cases hc
      | cons c0 r =>
        have hne := hb.2
        simp only [decide_eq_false_iff_not] at hne
        have h3 := hp2.1 c0 (by simp)
        rcases List.mem_cons.1 hc with rfl | hc
        · omega
        · have := (List.pairwise_cons.1 hp2.2).1 c hc
          omega
    · rcases List.mem_cons.1 hc with rfl | hc
      · omega
      · exact h2 c hc
theorem codeK_used {S : AS} (h : UsesI S) (hb : ∀ u ∈ S.uses, badUse S u = false) {u : Nat × Nat × Nat} (hu : u ∈ S.uses) : ((codeK S S.uses.length)[u.1]?).map (·.arg u.2.1) = some (((useAt S u).getD 0 : Nat) : Int) := by
  obtain ⟨l1, l2, hl⟩ := List.append_of_mem hu
  obtain ⟨h4, i, hi, _⟩ := h.here u hu
  unfold codeK
  rw [List.take_length, hl, List.foldl_append, List.foldl_cons]
  have hone := h.one
  rw [hl, List.map_append, List.map_cons] at hone
  have hn2 := (List.nodup_cons.1 (List.nodup_append.1 hone).2.1).1
  rw [fold_arg S h4 l2 _ (fun x hx => ⟨(h.here x (by rw [hl]; simp [hx])).1, fun e => hn2 (by rw [← e]; exact List.mem_map.2 ⟨x, hx, rfl⟩)⟩)]
  have hlen : (l1.foldl (putU S) S.o.code).length = S.o.code.length := fold_len S _ _
  have hlt := (List.getElem?_eq_some_iff.1 hi).1
  generalize l1.foldl (putU S) S.o.code = c at *
  unfold putU
  rw [if_neg (by rw [hb u hu]; exact Bool.false_ne_true), List.getElem?_modify]
  rw [List.getElem?_eq_getElem (by rw [hlen]; exact hlt)]
  simp only [if_true]
  show some ((setArg _ u.2.1 (((useAt S u).getD 0 : Nat) : Int)).arg u.2.1) = _
  rw [setArg_arg h4 h4, if_pos rfl]
theorem codeK_other {S : AS} (h : UsesI S) {a j : Nat} (hj : j < 4) (hn : ∀ u ∈ S.uses, (u.1, u.2.1) ≠ (a, j)) (k : Nat) : ((codeK S k)[a]?).map (·.arg j) = (S.o.code[a]?).map (·.arg j) :=
  fold_arg S hj _ _ fun x hx => ⟨(h.here x (List.mem_of_mem_take hx)).1, hn x (List.mem_of_mem_take hx)⟩
theorem setArg_op (i : LIns) (k : Nat) (v : Int) : (setArg i k v).op = i.op := by
  unfold setArg
  split
  · rfl
  · split
    · rfl
    · split <;> rfl
theorem fold_op (S : AS) (a : Nat) : ∀ (l : List (Nat × Nat × Nat)) (c : List LIns), ((l.foldl (putU S) c)[a]?).map (·.op) = (c[a]?).map (·.op)
  | [], _ => rfl
  | u :: l, c => by
    rw [List.foldl_cons, fold_op S a l]
    unfold putU
    split
    · rfl
    · rw [List.getElem?_modify]
      cases c[a]? with
      | none => rfl
      | some i =>
        by_cases h : u.1 = a
        · simp only [h, if_true]
          show some (setArg i u.2.1 _).op = some i.op
          rw [setArg_op]
        · simp [h]
theorem codeK_op (S : AS) (a k : Nat) : ((codeK S k)[a]?).map (·.op) = (S.o.code[a]?).map (·.op) := fold_op S a _ _
/-- All that is known of lines that make an object. -/
structure Made (S : AS) : Prop where
  tab : TabOk S.o
  room : fullP S.o = false
  code : CodeIn S.o
  usesI : UsesI S
  usesA : UsesA S
  inv : InvB S
  ent : EntI S
theorem Made.start : Made AS0 := ⟨TabOk.start, rfl, fun _ hi => absurd hi (List.not_mem_nil), UsesI.start, UsesA.start, fun k p hk => by simp [AS0] at hk, EntI.start⟩
theorem line_inv {S : AS} (h : InvB S) (s : Txt) (k : Nat) : InvB (lineP S s k).1 := by
  unfold lineP
  split
  · unfold beginP
    split
    · exact h
    · simp only
      split
      · exact h
      · exact begin_inv h _ _ _
  · split
    · unfold markP
      split
      · exact h
      · split
        · exact h
        · exact h
    · unfold instrP
      simp only
      split
      · exact h
      · generalize namedT ((splitT s).headD []) = op
        have key : ∀ (l : List (Nat × Txt)) (o : LObj) (j : Nat), InvB { S with o := o } → InvB { S with o := (operandsP S.o.code.length k o j l).1 } := by
          intro l
          induction l with
          | nil => intro o j ho; exact ho
          | cons x l ih =>
            intro o j ho
            obtain ⟨kk, w⟩ := x
            rw [operandsP]
            exact ih _ _ (operand_inv ho kk w)
        exact key _ S.o 0 h
theorem Made.line {S : AS} (h : Made S) (s : Txt) (k : Nat) (hr : fullP (lineP S s k).1.o = false) : Made (lineP S s k).1 :=
  ⟨h.tab.line s k, hr, h.code.line s k, h.usesI.line s k, h.usesA.line s k, line_inv h.inv s k, h.ent.line s k⟩
theorem made_lines : ∀ (l : List Txt) (S S' : AS) (n : Nat), Made S → linesP S n l = (S', 0, -1) → Made S'
  | [], S, S', n, h, hl => by
    rw [linesP] at hl
    injection hl with e _
    subst e
    exact h
  | s :: l, S, S', n, h, hl => by
    rw [lines_cons] at hl
    split at hl
    · rename_i h0
      injection hl with _ e
      injection e with e _
      exact absurd e h0
    · split at hl
      · injection hl with _ e
        injection e with e _
        omega
      · rename_i hf
        exact made_lines l _ S' _ (h.line s n (by simpa using hf)) hl
/-- What was made: its state, nothing wrong, all labels places. -/
theorem prog_made {l : List Txt} {o : LObj} {m : Int} (h : programP l = (o, 0, m)) : ∃ S, linesP AS0 0 l = (S, 0, -1) ∧ Made S ∧ wrongs S = [] ∧ o = { S.o with code := codeK S S.uses.length } := by
  obtain ⟨S, e, k, hS⟩ : ∃ S e k, linesP AS0 0 l = (S, e, k) := ⟨_, _, _, rfl⟩
  by_cases he : e = 0
  · subst he
    have hk : k = -1 := by
      have key : ∀ (l : List Txt) (S S' : AS) (n : Nat) (k : Int), linesP S n l = (S', 0, k) → k = -1 := by
        intro l
        induction l with
        | nil =>
          intro S S' n k h
          rw [linesP] at h
          injection h with _ h
          injection h with _ h
          exact h.symm
        | cons s l ih =>
          intro S S' n k h
          rw [lines_cons] at h
          split at h
          · rename_i h0
            injection h with _ e
            injection e with e _
            exact absurd e h0
          · split at h
            · injection h with _ e
              injection e with e _
              omega
            · exact ih _ _ _ _ h
      exact key l _ _ _ _ hS
    subst hk
    rw [prog_settle hS] at h
    split at h
    · rename_i h0
      injection h with _ h
      injection h with h _
      exact absurd h h0
    · rename_i h0
      have h0' : (least (0, -1) (wrongs S)).1 = 0 := Classical.not_not.1 h0
      injection h with h _
      exact ⟨S, hS, made_lines l _ _ _ Made.start hS, least_zero (wrongs_ne S) h0', by rw [← h, settle_good h0']⟩
  · rw [prog_bad hS he] at h
    injection h with _ h
    injection h with h _
    exact absurd h he
end Go.Proofs.YtpcihhdalofdiaaGreatDoor

/- What lines make, Check lets by. No program in sight. -/
namespace Go.Proofs.YtpcihhdalofdiaaGreatDoor

theorem bad_none {S : AS} (h : wrongs S = []) : (∀ u ∈ S.uses, badUse S u = false) ∧ begW S S.begins = [] := by
  rw [wrongs_is, List.append_eq_nil_iff] at h
  refine ⟨fun u hu => ?_, h.2⟩
  cases hq : badUse S u with
  | false => rfl
  | true =>
    have : ((10 : Int), u.2.2) ∈ useW S S.uses := List.mem_map.2 ⟨u, List.mem_filter.2 ⟨hu, hq⟩, rfl⟩
    rw [h.1] at this
    cases this
theorem use_good {S : AS} {u : Nat × Nat × Nat} (h : badUse S u = false) : ∃ p, useAt S u = some p ∧ p < S.o.code.length := by
  unfold badUse at h
  cases hu : useAt S u with
  | none => rw [hu] at h; cases h
  | some p =>
    rw [hu] at h
    simp only [decide_eq_false_iff_not] at h
    exact ⟨p, rfl, by omega⟩
/-- An argument behind settle. -/
theorem settled_arg {S : AS} (hm : Made S) (hw : wrongs S = []) {a j : Nat} {i i' : LIns} (hj : j < 4) (hi : S.o.code[a]? = some i) (hi' : (codeK S S.uses.length)[a]? = some i') :
    i'.op = i.op ∧ ((((kindsOf i.op)[j]? = some 8 ∧ i.arg j ≠ 65535) ∧ ∃ p : Nat, i'.arg j = (p : Int) ∧ p < S.o.code.length ∧ ∃ u ∈ S.uses, u.1 = a ∧ u.2.1 = j ∧ useAt S u = some p) ∨ (¬ ((kindsOf i.op)[j]? = some 8 ∧ i.arg j ≠ 65535) ∧ i'.arg j = i.arg j)) := by
  have hop := codeK_op S a S.uses.length
  rw [hi, hi'] at hop
  simp only [Option.map_some, Option.some.injEq] at hop
  refine ⟨hop, ?_⟩
  by_cases h8 : (kindsOf i.op)[j]? = some 8 ∧ i.arg j ≠ 65535
  · left
    obtain ⟨u, hu, e1, e2⟩ := hm.usesA.all a i j hi h8.1 h8.2
    have hb := (bad_none hw).1
    have h1 := codeK_used hm.usesI hb hu
    obtain ⟨p, hp, hlt⟩ := use_good (hb u hu)
    rw [e1, e2, hi', hp] at h1
    simp only [Option.map_some, Option.some.injEq, Option.getD_some] at h1
    exact ⟨h8, p, h1, hlt, u, hu, e1, e2, hp⟩
  · right
    refine ⟨h8, ?_⟩
    have h1 := codeK_other hm.usesI (a := a) hj (fun u hu e => by
      obtain ⟨i2, k1, k2, k3⟩ := hm.usesA.kind u hu
      injection e with e1 e2
      rw [e1, hi] at k1
      obtain rfl := Option.some.inj k1
      rw [e2] at k2 k3
      exact h8 ⟨k2, k3⟩) S.uses.length
    rw [hi, hi'] at h1
    simpa using h1
theorem arg_right {S : AS} (hm : Made S) (hw : wrongs S = []) {a j q : Nat} {i i' : LIns} (hi : S.o.code[a]? = some i) (hi' : (codeK S S.uses.length)[a]? = some i') (hq : (kindsOf i.op)[j]? = some (q : Int)) :
    mayOk i.op q (i'.arg j) = true ∧ hasB { S.o with code := codeK S S.uses.length } q (i'.arg j) = true := by
  have hk4 := kinds_few i.op
  have hjl := (List.getElem?_eq_some_iff.1 hq).1
  have hkm := kinds_mem i.op _ (List.mem_of_getElem? hq)
  obtain ⟨f1, f2, f3, f4⟩ := full_few hm.room
  obtain ⟨_, hs⟩ := settled_arg hm hw (by omega : j < 4) hi hi'
  have hc := (hm.code i (List.mem_of_getElem? hi)).2 j hjl
  rw [List.getD_eq_getElem?_getD, hq] at hc
  simp only [Option.getD_some, Int.toNat_natCast] at hc
  have hlow := hc.low
  have low : ∀ q : Nat, q ≠ 5 → leastOf6 q = 0 := fun q h => by unfold leastOf6; simp [h]
  by_cases h3 : q = 3
  · subst h3
    have h8 : ¬ ((kindsOf i.op)[j]? = some 8 ∧ i.arg j ≠ 65535) := fun h => by rw [hq] at h; simp at h
    rcases hs with hs | hs
    · exact absurd hs.1 h8
    · rw [hs.2]
      have := hc.atom rfl
      refine ⟨?_, ?_⟩
      · unfold mayOk
        rw [low 3 (by omega)]
        have : mostOf 3 = 255 := rfl
        rw [this]
        simp only [Bool.or_eq_true, Bool.and_eq_true, decide_eq_true_eq]
        omega
      · unfold hasB
        simp only [if_true, decide_eq_true_eq]
        omega
  by_cases h4 : q = 4
  · subst h4
    have h8 : ¬ ((kindsOf i.op)[j]? = some 8 ∧ i.arg j ≠ 65535) := fun h => by rw [hq] at h; simp at h
    rcases hs with hs | hs
    · exact absurd hs.1 h8
    · rw [hs.2]
      have := hc.fun_ rfl
      refine ⟨?_, ?_⟩
      · unfold mayOk
        rw [low 4 (by omega)]
        have : mostOf 4 = 255 := rfl
        rw [this]
        simp only [Bool.or_eq_true, Bool.and_eq_true, decide_eq_true_eq]
        omega
      · unfold hasB
        rw [if_neg (by omega), if_pos rfl]
        simp only [decide_eq_true_eq]
        omega
  by_cases h7 : q = 7
  · subst h7
    have h8 : ¬ ((kindsOf i.op)[j]? = some 8 ∧ i.arg j ≠ 65535) := fun h => by rw [hq] at h; simp at h
    rcases hs with hs | hs
    · exact absurd hs.1 h8
    · rw [hs.2]
      have := hc.pred rfl
      refine ⟨?_, ?_⟩
      · unfold mayOk
        rw [low 7 (by omega)]
        have : mostOf 7 = 63 := rfl
        rw [this]
        simp only [Bool.or_eq_true, Bool.and_eq_true, decide_eq_true_eq]
        omega
      · unfold hasB
        rw [if_neg (by omega), if_neg (by omega), if_pos rfl]
        simp only [decide_eq_true_eq]
        omega
  by_cases h8' : q = 8
  · subst h8'
    rcases hs with ⟨_, p, hp, hlt, _⟩ | ⟨h8, he⟩
    · rw [hp]
      refine ⟨?_, ?_⟩
      · unfold mayOk
        rw [low 8 (by omega)]
        have : mostOf 8 = 1023 := rfl
        rw [this]
        simp only [Bool.or_eq_true, Bool.and_eq_true, decide_eq_true_eq]
        omega
      · unfold hasB
        rw [if_neg (by omega), if_neg (by omega), if_neg (by omega), if_pos rfl]
        simp only [Bool.or_eq_true, decide_eq_true_eq, codeK_len]
        omega
    · have h65 : i.arg j = 65535 := Classical.byContradiction fun e => h8 ⟨hq, e⟩
      have h26 : i.op = 26 := by
        rcases hc.label rfl with h | h
        · omega
        · exact h.2
      rw [he, h65]
      refine ⟨?_, ?_⟩
      · unfold mayOk
        rw [h26]
        simp
      · unfold hasB
        rw [if_neg (by omega), if_neg (by omega), if_neg (by omega), if_pos rfl]
        simp
  have h8 : ¬ ((kindsOf i.op)[j]? = some 8 ∧ i.arg j ≠ 65535) := fun h => by
    rw [hq] at h
    have := Option.some.inj h.1
    omega
  rcases hs with hs | hs
  · exact absurd hs.1 h8
  · rw [hs.2]
    refine ⟨(hm.usesA.ins i (List.mem_of_getElem? hi)).plain j q hq ⟨h3, h4, h7, h8'⟩, ?_⟩
    unfold hasB
    rw [if_neg h3, if_neg h4, if_neg h7, if_neg h8']
theorem made_ok {S : AS} (hm : Made S) (hw : wrongs S = []) : ObjOk { S.o with code := codeK S S.uses.length } := by
  obtain ⟨f1, f2, f3, f4⟩ := full_few hm.room
  obtain ⟨hst, hel⟩ := entries_strict hm.ent.sorted (bad_none hw).2
  refine ⟨?_, hm.tab.atoms, fun f hf => ?_, fun p hp => ?_, ?_, ?_, fun i' hi' => ?_⟩
  · unfold bigO bigB
    simp only [codeK_len, Bool.or_eq_false_iff, decide_eq_false_iff_not]
    split <;> simp only [decide_eq_false_iff_not] <;> omega
  · have := hm.tab.funs f hf
    simp only [funOk, Bool.and_eq_true, decide_eq_true_eq]
    exact this
  · have := hm.tab.preds p hp
    simp only [predOk, Bool.and_eq_true, decide_eq_true_eq]
    exact this
  · unfold dupO
    simp only [Bool.or_eq_false_iff]
    exact ⟨dup_nodup hm.tab.one, dup_nodup hm.tab.two, dup_nodup hm.tab.three⟩
  · have hbeg : ∀ (k : Nat) (p : LPred), S.o.preds[k]? = some p → p.entry ≠ 65535 → ∃ b ∈ S.begins, b.1 = k ∧ entryAt S b = p.entry := fun k p hp he => by
      have h1 := hm.inv k p hp he
      rw [List.any_eq_true] at h1
      obtain ⟨b, hb, hk⟩ := h1
      have hk' : b.1 = k := by unfold isBeg at hk; simpa using hk
      exact ⟨b, hb, hk', entryAt_is (by rw [hk']; exact hp)⟩
    unfold entriesB
    simp only [codeK_len, Bool.and_eq_true, List.all_eq_true, Bool.not_eq_true']
    refine ⟨fun p hp => ?_, dup_nodup ?_⟩
    · unfold entB
      by_cases he : p.entry = 65535
      · simp [he]
      · obtain ⟨k, hk⟩ := List.getElem?_of_mem hp
        obtain ⟨b, hb, hbk, hbe⟩ := hbeg k p hk he
        have h1 := hel b hb
        obtain ⟨p', hp', e0, _⟩ := hm.ent.at_ b hb
        rw [hbk, hk] at hp'
        obtain rfl := Option.some.inj hp'
        simp only [Bool.or_eq_true, Bool.and_eq_true, decide_eq_true_eq]
        omega
    · unfold entL List.Nodup
      rw [List.pairwise_map, List.pairwise_filter]
      rw [List.pairwise_iff_getElem]
      intro x y hx hy hxy he1 he2 e
      obtain ⟨b, hb, hbk, hbe⟩ := hbeg x _ (List.getElem?_eq_getElem hx) (by simpa using he1)
      obtain ⟨c, hc, hck, hce⟩ := hbeg y _ (List.getElem?_eq_getElem hy) (by simpa using he2)
      obtain ⟨u, hu⟩ := List.getElem?_of_mem hb
      obtain ⟨v, hv⟩ := List.getElem?_of_mem hc
      obtain ⟨hu1, hu2⟩ := List.getElem?_eq_some_iff.1 hu
      obtain ⟨hv1, hv2⟩ := List.getElem?_eq_some_iff.1 hv
      have huv : u ≠ v := fun e' => by
        subst e'
        rw [hu2] at hv2
        subst hv2
        omega
      have hpw := List.pairwise_iff_getElem.1 hst
      rcases Nat.lt_or_gt_of_ne huv with h | h
      · have := hpw u v hu1 hv1 h
        rw [hu2, hv2] at this
        omega
      · have := hpw v u hv1 hu1 h
        rw [hu2, hv2] at this
        omega
  · obtain ⟨a, ha⟩ := List.getElem?_of_mem hi'
    have hal := (List.getElem?_eq_some_iff.1 ha).1
    rw [codeK_len] at hal
    obtain ⟨i, hi⟩ : ∃ i, S.o.code[a]? = some i := ⟨_, List.getElem?_eq_getElem hal⟩
    have hop := (settled_arg hm hw (by omega : (0 : Nat) < 4) hi ha).1
    have hx := hm.usesA.ins i (List.mem_of_getElem? hi)
    have hok : insOk i' = true := by
      unfold insOk
      rw [hop, hx.op]
      simp only [Bool.true_and, List.all_eq_true, List.mem_range]
      intro j hj
      unfold argOk
      rw [hop]
      cases hk : (kindsOf i.op)[j]? with
      | none =>
        rcases (settled_arg hm hw hj hi ha).2 with h | h
        · rw [hk] at h
          simp at h
        · simp only
          rw [h.2, hx.rest j hj (List.getElem?_eq_none_iff.1 hk)]
          rfl
      | some y =>
        have hkm := kinds_mem i.op _ (List.mem_of_getElem? hk)
        obtain ⟨q, rfl⟩ := Int.eq_ofNat_of_zero_le (show 0 ≤ y by omega)
        exact (arg_right hm hw hi ha hk).1
    unfold insErr
    rw [hop, hx.op, hok, if_neg (by decide), if_neg (by decide), if_pos]
    rw [List.all_eq_true]
    intro j hj
    have hjl := List.mem_range.1 hj
    unfold argHas
    rw [hop]
    have hk : (kindsOf i.op)[j]? = some ((kindsOf i.op)[j]) := List.getElem?_eq_getElem hjl
    have hkm := kinds_mem i.op _ (List.mem_of_getElem? hk)
    obtain ⟨q, hq⟩ := Int.eq_ofNat_of_zero_le (show 0 ≤ (kindsOf i.op)[j] by omega)
    rw [hq] at hk
    rw [List.getD_eq_getElem?_getD, hk]
    exact (arg_right hm hw hi ha hk).2
/-- What lines make may be. -/
theorem program_ok {l : List Txt} {o : LObj} {m : Int} (h : programP l = (o, 0, m)) : checkE o = 0 := by
  obtain ⟨S, _, hm, hw, rfl⟩ := prog_made h
  exact ok_check (made_ok hm hw)
end Go.Proofs.YtpcihhdalofdiaaGreatDoor

/- AsmPrograms, walked. -/
namespace Go.Proofs.YtpcihhdalofdiaaGreatDoor
open Go.RowKit Go.Maps
attribute [local irreducible] checkE programP fewB

theorem program_fits {l : List Txt} {o : LObj} {e m : Int} (h : programP l = (o, e, m)) : Fits o := by
  by_cases he : e = 0
  · subst he
    have h1 := (check_ok (program_ok h)).big
    unfold bigO bigB at h1
    simp only [Bool.or_eq_false_iff, decide_eq_false_iff_not] at h1
    obtain ⟨h2, h3, h4⟩ := h1
    split at h2 <;> simp only [decide_eq_false_iff_not] at h2 <;> exact ⟨by omega, by omega, by omega, by omega⟩
  · have : o = ⟨[], [], [], []⟩ := by
      unfold programP at h
      dsimp only at h
      split at h
      · exact (congrArg Prod.fst h).symm
      · split at h
        · exact (congrArg Prod.fst h).symm
        · exact absurd (congrArg (·.2.1) h).symm he
    subst this
    exact ⟨Nat.zero_le _, Nat.zero_le _, Nat.zero_le _, Nat.zero_le _⟩
set_option maxRecDepth 100000 in
set_option maxHeartbeats 12800000 in
theorem asmPrograms_any (ls : List ByteArray) (A : Option Addr) (n c : Nat) (w : World) (hl : ls.length = n) (hn : n ≤ 9223372036854775807) (hA : Rd w A (ls.flatMap strE)) (h : St w) :
    Calls Tryz.prog 3 #[.slice A n c] w fun e w' => e = .returned (.bool true) ∧ Keeps w w' [] := by
  have HL := Lib.hid hl
  have HA := Lib.hid hA
  have HS := Lib.hid h
  have HF := Lib.hid (few9_any ls A n c w hl hn hA)
  obtain ⟨o, e, m, hP⟩ : ∃ o e m, programP (ls.map (·.data.toList)) = (o, e, m) := ⟨_, _, _, rfl⟩
  have HP := Lib.hid hP
  have HFit := Lib.hid (program_fits hP)
  clear hP h hA
  go_enter Tryz.func3, Tryz.ntmps3
  go_wp2_with fail
  refine HF.out.mono ?_
  rintro x w1 ⟨rfl, k1⟩
  have HK1 := Lib.hid k1
  clear k1 HF
  cases hf : fewB ls with
  | false =>
    go_wp2_with fail
    refine (told9_any _ (HS.out.keep HK1.out)).mono ?_
    rintro x w2 ⟨rfl, k2⟩
    go_wp2_with fail
    go_ret
    exact ⟨rfl, HK1.out.trans k2⟩
  | true =>
    have hfew : ls.length ≤ 200 ∧ ∀ s ∈ ls, s.size ≤ 200 := by
      unfold fewB at hf
      simp only [Bool.and_eq_true, List.all_eq_true, decide_eq_true_eq] at hf
      exact ⟨hf.2, hf.1⟩
    have HFew := Lib.hid hfew
    have HPr := programA_any ls A n c w1 (HS.out.keep HK1.out) HL.out (by omega) (HA.out.keep HK1.out) (fun s hs => by have := hfew.2 s hs; omega)
    rw [HP.out] at HPr
    unfold PrDone at HPr
    simp only at HPr
    have HPr := Lib.hid HPr
    clear hfew hf
    go_wp2_with fail
    refine HPr.out.mono ?_
    rintro x w2 ⟨Aa, Af, Ap, Ac, ca, cf, cp, cc, rfl, hob, k2⟩
    have HO := Lib.hid hob
    have HK2 := Lib.hid (HK1.out.trans k2)
    clear hob k2 HPr
    have k3 : Keeps w2 (w2.alloc (.cells #[.slice Aa o.atoms.length ca, .slice Af o.funs.length cf, .slice Ap o.preds.length cp, .slice Ac o.code.length cc] 31)) [] := (Keeps.refl w2 []).alloc _
    have HB3 : Hid (Blk (w2.alloc (.cells #[.slice Aa o.atoms.length ca, .slice Af o.funs.length cf, .slice Ap o.preds.length cp, .slice Ac o.code.length cc] 31)) w2.heap.size 31 #[.slice Aa o.atoms.length ca, .slice Af o.funs.length cf, .slice Ap o.preds.length cp, .slice Ac o.code.length cc]) := Blk.new _ _ _
    have HK3 := Lib.hid (HK2.out.trans k3)
    have HO3 := Lib.hid (HO.out.keep k3)
    clear k3 HO HK2 HK1
    go_wp2_with fail
    generalize w2.heap.size = g2 at *
    generalize w2.alloc (.cells #[.slice Aa o.atoms.length ca, .slice Af o.funs.length cf, .slice Ap o.preds.length cp, .slice Ac o.code.length cc] 31) = w3 at *
    have HPr := refProgram_any ls A n c w3 (HS.out.keep HK3.out) HL.out (by have := HFew.out.1; have := HL.out; omega) (HA.out.keep HK3.out) (fun s hs => by have := HFew.out.2 s hs; omega)
    rw [HP.out] at HPr
    unfold PrDone at HPr
    simp only at HPr
    have HPr := Lib.hid HPr
    refine HPr.out.mono ?_
    rintro x w4 ⟨Ba, Bf, Bp, Bc, da, df, dp, dc, rfl, hob, k4⟩
    have k5 : Keeps w4 (w4.alloc (.cells #[.slice Ba o.atoms.length da, .slice Bf o.funs.length df, .slice Bp o.preds.length dp, .slice Bc o.code.length dc] 39)) [] := (Keeps.refl w4 []).alloc _
    have HB5 : Hid (Blk (w4.alloc (.cells #[.slice Ba o.atoms.length da, .slice Bf o.funs.length df, .slice Bp o.preds.length dp, .slice Bc o.code.length dc] 39)) w4.heap.size 39 #[.slice Ba o.atoms.length da, .slice Bf o.funs.length df, .slice Bp o.preds.length dp, .slice Bc o.code.length dc]) := Blk.new _ _ _
    have HA5 := Lib.hid ((HB3.out.keep k4 (by simp)).keep k5 (by simp))
    have HK5 := Lib.hid ((HK3.out.trans k4).trans k5)
    have HO5 := Lib.hid ((HO3.out.keep k4).keep k5)
    have HQ5 := Lib.hid (hob.keep k5)
    clear k5 k4 hob HPr HB3 HK3 HO3
    go_upto_region 5 with fail
    generalize w4.heap.size = g4 at *
    generalize w4.alloc (.cells #[.slice Ba o.atoms.length da, .slice Bf o.funs.length df, .slice Bp o.preds.length dp, .slice Bc o.code.length dc] 39) = w5 at *
    have HCells : Hid (∀ W, Keeps w5 W [] → W.cell? ⟨g2, 0, none⟩ = some (.slice Aa o.atoms.length ca) ∧ W.cell? ⟨g2, 1, none⟩ = some (.slice Af o.funs.length cf) ∧ W.cell? ⟨g2, 2, none⟩ = some (.slice Ap o.preds.length cp) ∧ W.cell? ⟨g2, 3, none⟩ = some (.slice Ac o.code.length cc) ∧ W.cell? ⟨g4, 0, none⟩ = some (.slice Ba o.atoms.length da) ∧ W.cell? ⟨g4, 1, none⟩ = some (.slice Bf o.funs.length df) ∧ W.cell? ⟨g4, 2, none⟩ = some (.slice Bp o.preds.length dp) ∧ W.cell? ⟨g4, 3, none⟩ = some (.slice Bc o.code.length dc)) := fun W kk => ⟨(HA5.out.keep kk (by simp)).cell 0, (HA5.out.keep kk (by simp)).cell 1, (HA5.out.keep kk (by simp)).cell 2, (HA5.out.keep kk (by simp)).cell 3, (HB5.out.keep kk (by simp)).cell 0, (HB5.out.keep kk (by simp)).cell 1, (HB5.out.keep kk (by simp)).cell 2, (HB5.out.keep kk (by simp)).cell 3⟩
    have dm : (m == m) = true := by simp
    have de : (e == e) = true := by simp
    by_cases he : e = 0
    case neg =>
      have he' : (e != 0) = true := by simpa using he
      refine wp_region_tx (fun W' => W'.cell? ⟨g2, 0, none⟩ = some (.slice Aa o.atoms.length ca) ∧ W'.cell? ⟨g2, 1, none⟩ = some (.slice Af o.funs.length cf) ∧ W'.cell? ⟨g2, 2, none⟩ = some (.slice Ap o.preds.length cp) ∧ W'.cell? ⟨g2, 3, none⟩ = some (.slice Ac o.code.length cc) ∧ W'.cell? ⟨g4, 0, none⟩ = some (.slice Ba o.atoms.length da) ∧ W'.cell? ⟨g4, 1, none⟩ = some (.slice Bf o.funs.length df) ∧ W'.cell? ⟨g4, 2, none⟩ = some (.slice Bp o.preds.length dp) ∧ W'.cell? ⟨g4, 3, none⟩ = some (.slice Bc o.code.length dc)) [(0, false), (1, true), (2, true), (3, true), (4, true), (5, true), (6, true), (7, true), (8, true), (9, true), (10, true), (11, true), (12, true), (14, true), (13, false), (15, false), (16, true), (17, true), (18, true), (19, true), (20, true), (21, true), (22, true), (23, true), (24, true), (25, true), (26, false)] (by kernel_rfl) (by kernel_rfl) (HCells.out _ (Keeps.refl _ _).drew) (fun hHeld => ?_)
      refine wpTx_go rfl (fun K hK => ?_)
      go_simp
      refine (told9_any _ ((HS.out.keep HK5.out).keep (Keeps.refl _ _).drew)).mono ?_
      rintro x w6 ⟨rfl, k6'⟩
      have HK6 : Hid (Keeps w5 w6 []) := (Keeps.refl w5 []).drew.trans k6'
      have HC6 := Lib.hid (HCells.out _ HK6.out)
      clear k6'
      refine hK.out _ _ ?_ ?_
      · exact HC6.out
      (clear hHeld; intro hHeld; clear hK K; (try simp only [Act.put, List.setIfInBounds_toArray, List.set_cons_zero, List.set_cons_succ]))
      (repeat (first | (refine wpTx_take (v := ?_) rfl (by assumption) ?_ (by rfl) ?_; rotate_left; (focus (intro w' hSw; (try dsimp only at hSw); go_simp; (try with_reducible rfl); done)); simp only [Act.put, List.setIfInBounds_toArray, List.set_cons_zero, List.set_cons_succ]) | (refine wpTx_skip rfl (by assumption) (by rfl) ?_; simp only [Act.put, List.setIfInBounds_toArray, List.set_cons_zero, List.set_cons_succ])))
      refine wpTx_go rfl (fun K hK => ?_)
      go_simp
      refine (from_any o Aa Af Ap Ac _ _ _ _ ca cf cp cc w6 (HO5.out.keep HK6.out) HFit.out rfl rfl rfl rfl).mono ?_
      rintro x w7 ⟨Ca, Cf, Cp, Cc, ea, ef, ep, ec, rfl, hob3, k7⟩
      have HO7 := Lib.hid hob3
      have HK7 := Lib.hid (HK6.out.trans k7)
      have HC7 := Lib.hid (HCells.out _ HK7.out)
      clear k7 hob3
      refine hK.out _ _ ?_ ?_
      · exact HC7.out
      (clear hHeld; intro hHeld; clear hK K; (try simp only [Act.put, List.setIfInBounds_toArray, List.set_cons_zero, List.set_cons_succ]))
      (repeat (first | (refine wpTx_take (v := ?_) rfl (by assumption) ?_ (by rfl) ?_; rotate_left; (focus (intro w' hSw; (try dsimp only at hSw); go_simp; (try with_reducible rfl); done)); simp only [Act.put, List.setIfInBounds_toArray, List.set_cons_zero, List.set_cons_succ]) | (refine wpTx_skip rfl (by assumption) (by rfl) ?_; simp only [Act.put, List.setIfInBounds_toArray, List.set_cons_zero, List.set_cons_succ])))
      refine wpTx_go rfl (fun K hK => ?_)
      go_simp
      refine (refSame_any o o Ca Cf Cp Cc Ba Bf Bp Bc _ _ _ _ _ _ _ _ ea ef ep ec da df dp dc w7 HO7.out (HQ5.out.keep HK7.out) HFit.out HFit.out rfl rfl rfl rfl rfl rfl rfl rfl).mono ?_
      rintro x w8 ⟨rfl, k8⟩
      rw [decide_eq_true rfl]
      have HK8 := Lib.hid (HK7.out.trans k8)
      have HC8 := Lib.hid (HCells.out _ HK8.out)
      clear k8
      refine hK.out _ _ ?_ ?_
      · exact HC8.out
      (clear hHeld; intro hHeld; clear hK K; (try simp only [Act.put, List.setIfInBounds_toArray, List.set_cons_zero, List.set_cons_succ]))
      (repeat (first | (refine wpTx_take (v := ?_) rfl (by assumption) ?_ (by rfl) ?_; rotate_left; (focus (intro w' hSw; (try dsimp only at hSw); go_simp; (try with_reducible rfl); done)); simp only [Act.put, List.setIfInBounds_toArray, List.set_cons_zero, List.set_cons_succ]) | (refine wpTx_skip rfl (by assumption) (by rfl) ?_; simp only [Act.put, List.setIfInBounds_toArray, List.set_cons_zero, List.set_cons_succ])))
      refine wpTx_last rfl (fun K hK => ?_)
      go_simp
      refine hK.out _ _ (NoPanic.normal ?_); clear hK K; (try simp only [Act.put, List.setIfInBounds_toArray, List.set_cons_zero, List.set_cons_succ])
      clear hHeld
      go_wp2_with fail
      go_ret
      exact ⟨rfl, HK5.out.trans HK8.out⟩
    case pos =>
      subst he
      have HCk := Lib.hid (program_ok HP.out)
      refine wp_region_tx (fun W' => W'.cell? ⟨g2, 0, none⟩ = some (.slice Aa o.atoms.length ca) ∧ W'.cell? ⟨g2, 1, none⟩ = some (.slice Af o.funs.length cf) ∧ W'.cell? ⟨g2, 2, none⟩ = some (.slice Ap o.preds.length cp) ∧ W'.cell? ⟨g2, 3, none⟩ = some (.slice Ac o.code.length cc) ∧ W'.cell? ⟨g4, 0, none⟩ = some (.slice Ba o.atoms.length da) ∧ W'.cell? ⟨g4, 1, none⟩ = some (.slice Bf o.funs.length df) ∧ W'.cell? ⟨g4, 2, none⟩ = some (.slice Bp o.preds.length dp) ∧ W'.cell? ⟨g4, 3, none⟩ = some (.slice Bc o.code.length dc)) [(0, false), (1, true), (2, true), (3, true), (4, true), (5, true), (6, true), (7, true), (8, true), (9, true), (10, true), (11, true), (12, true), (14, true), (13, false), (15, false), (16, true), (17, true), (18, true), (19, true), (20, true), (21, true), (22, false), (23, true), (24, true), (25, true), (26, false)] (by kernel_rfl) (by kernel_rfl) (HCells.out _ (Keeps.refl _ _).drew) (fun hHeld => ?_)
      refine wpTx_go rfl (fun K hK => ?_)
      go_simp
      refine (told9_any _ ((HS.out.keep HK5.out).keep (Keeps.refl _ _).drew)).mono ?_
      rintro x w6 ⟨rfl, k6'⟩
      have HK6 : Hid (Keeps w5 w6 []) := (Keeps.refl w5 []).drew.trans k6'
      have HC6 := Lib.hid (HCells.out _ HK6.out)
      clear k6'
      refine hK.out _ _ ?_ ?_
      · exact HC6.out
      (clear hHeld; intro hHeld; clear hK K; (try simp only [Act.put, List.setIfInBounds_toArray, List.set_cons_zero, List.set_cons_succ]))
      (repeat (first | (refine wpTx_take (v := ?_) rfl (by assumption) ?_ (by rfl) ?_; rotate_left; (focus (intro w' hSw; (try dsimp only at hSw); go_simp; (try with_reducible rfl); done)); simp only [Act.put, List.setIfInBounds_toArray, List.set_cons_zero, List.set_cons_succ]) | (refine wpTx_skip rfl (by assumption) (by rfl) ?_; simp only [Act.put, List.setIfInBounds_toArray, List.set_cons_zero, List.set_cons_succ])))
      refine wpTx_go rfl (fun K hK => ?_)
      go_simp
      refine (from_any o Aa Af Ap Ac _ _ _ _ ca cf cp cc w6 (HO5.out.keep HK6.out) HFit.out rfl rfl rfl rfl).mono ?_
      rintro x w7 ⟨Ca, Cf, Cp, Cc, ea, ef, ep, ec, rfl, hob3, k7⟩
      have HO7 := Lib.hid hob3
      have HK7 := Lib.hid (HK6.out.trans k7)
      have HC7 := Lib.hid (HCells.out _ HK7.out)
      clear k7 hob3
      refine hK.out _ _ ?_ ?_
      · exact HC7.out
      (clear hHeld; intro hHeld; clear hK K; (try simp only [Act.put, List.setIfInBounds_toArray, List.set_cons_zero, List.set_cons_succ]))
      (repeat (first | (refine wpTx_take (v := ?_) rfl (by assumption) ?_ (by rfl) ?_; rotate_left; (focus (intro w' hSw; (try dsimp only at hSw); go_simp; (try with_reducible rfl); done)); simp only [Act.put, List.setIfInBounds_toArray, List.set_cons_zero, List.set_cons_succ]) | (refine wpTx_skip rfl (by assumption) (by rfl) ?_; simp only [Act.put, List.setIfInBounds_toArray, List.set_cons_zero, List.set_cons_succ])))
      refine wpTx_go rfl (fun K hK => ?_)
      go_simp
      refine (refSame_any o o Ca Cf Cp Cc Ba Bf Bp Bc _ _ _ _ _ _ _ _ ea ef ep ec da df dp dc w7 HO7.out (HQ5.out.keep HK7.out) HFit.out HFit.out rfl rfl rfl rfl rfl rfl rfl rfl).mono ?_
      rintro x w8 ⟨rfl, k8⟩
      rw [decide_eq_true rfl]
      have HK8 := Lib.hid (HK7.out.trans k8)
      have HC8 := Lib.hid (HCells.out _ HK8.out)
      clear k8
      refine hK.out _ _ ?_ ?_
      · exact HC8.out
      (clear hHeld; intro hHeld; clear hK K; (try simp only [Act.put, List.setIfInBounds_toArray, List.set_cons_zero, List.set_cons_succ]))
      (repeat (first | (refine wpTx_take (v := ?_) rfl (by assumption) ?_ (by rfl) ?_; rotate_left; (focus (intro w' hSw; (try dsimp only at hSw); go_simp; (try with_reducible rfl); done)); simp only [Act.put, List.setIfInBounds_toArray, List.set_cons_zero, List.set_cons_succ]) | (refine wpTx_skip rfl (by assumption) (by rfl) ?_; simp only [Act.put, List.setIfInBounds_toArray, List.set_cons_zero, List.set_cons_succ])))
      refine wpTx_go rfl (fun K hK => ?_)
      go_simp
      refine (check_any o Aa Af Ap Ac _ _ _ _ ca cf cp cc w8 (HO5.out.keep HK8.out) HFit.out rfl rfl rfl rfl).mono ?_
      rintro x w9 ⟨rfl, k9⟩
      rw [HCk.out]
      have HK9 := Lib.hid (HK8.out.trans k9)
      have HC9 := Lib.hid (HCells.out _ HK9.out)
      clear k9
      refine hK.out _ _ ?_ ?_
      · exact HC9.out
      (clear hHeld; intro hHeld; clear hK K; (try simp only [Act.put, List.setIfInBounds_toArray, List.set_cons_zero, List.set_cons_succ]))
      (repeat (first | (refine wpTx_take (v := ?_) rfl (by assumption) ?_ (by rfl) ?_; rotate_left; (focus (intro w' hSw; (try dsimp only at hSw); go_simp; (try with_reducible rfl); done)); simp only [Act.put, List.setIfInBounds_toArray, List.set_cons_zero, List.set_cons_succ]) | (refine wpTx_skip rfl (by assumption) (by rfl) ?_; simp only [Act.put, List.setIfInBounds_toArray, List.set_cons_zero, List.set_cons_succ])))
      refine wpTx_last rfl (fun K hK => ?_)
      go_simp
      refine hK.out _ _ (NoPanic.normal ?_); clear hK K; (try simp only [Act.put, List.setIfInBounds_toArray, List.set_cons_zero, List.set_cons_succ])
      clear hHeld
      go_wp2_with fail
      go_ret
      exact ⟨rfl, HK5.out.trans HK9.out⟩
end Go.Proofs.YtpcihhdalofdiaaGreatDoor
