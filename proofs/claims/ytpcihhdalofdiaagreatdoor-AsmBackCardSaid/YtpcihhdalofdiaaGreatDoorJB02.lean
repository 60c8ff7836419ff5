/- A predicate begins; a label; is there too much: the program's. Printed by gen_asbegin.py. -/
import Derived.Test.YtpcihhdalofdiaaGreatDoorJB01
import Derived.Test.YtpcihhdalofdiaaGreatDoorOpF
import Derived.Test.YtpcihhdalofdiaaGreatDoorTxtF
namespace Go.Proofs.YtpcihhdalofdiaaGreatDoor
open Go.RowKit Go.Maps
attribute [local irreducible] numT kindsOf nameOf checkE fitsP operandP plainP labelP slashP

def isBeg (p : Nat) (b : Nat × Nat) : Bool := b.1 == p
theorem beg1_any (p : Nat) (b : Nat × Nat) (g : Nat) (w : World) (hg : Blk w g 3 #[.int .i64 p]) :
    Calls Tryz.prog 77 #[.agg #[.int .i64 b.1, .int .i64 b.2], .pointer (some ⟨g, 0, none⟩)] w fun e w' => e = .returned (.bool (isBeg p b)) ∧ Keeps w w' [] := by
  have k1 := (hg.alloc (.cells #[.int .i64 b.1, .int .i64 b.2] 108)).cell 0
  have HK : Hid (Keeps w (w.alloc (.cells #[.int .i64 b.1, .int .i64 b.2] 108)) []) := (Keeps.refl w []).alloc _
  obtain ⟨x, hx⟩ : ∃ x : Int, (b.1 : Int) = x := ⟨_, rfl⟩
  obtain ⟨y, hy⟩ : ∃ y : Int, (p : Int) = y := ⟨_, rfl⟩
  have HV : Hid (isBeg p b = (x == y)) := Lib.hid (by
    unfold isBeg
    rw [← hx, ← hy, Bool.eq_iff_iff, beq_iff_eq, beq_iff_eq]
    omega)
  rw [hx, hy] at k1
  rw [hx] at HK ⊢
  clear hg hx hy
  go_enter Tryz.func77, Tryz.ntmps77
  go_wp2_with fail
  go_ret
  exact ⟨by rw [HV.out]; rfl, HK.out⟩
set_option maxRecDepth 100000 in
set_option maxHeartbeats 3200000 in
theorem begIdx_any (p g : Nat) (A : Option Addr) (n c : Nat) (l : List (Nat × Nat)) (w : World) (hl : l.length = n) (hn : n ≤ 1000000) (hA : Rd w A (l.flatMap begE)) (hg : Blk w g 3 #[.int .i64 p]) :
    Calls Tryz.prog 108 #[.slice A n c, .func (.func 77) #[] #[.pointer (some ⟨g, 0, none⟩)]] w fun e w' => e = .returned (.int .i64 (findI (isBeg p) l)) ∧ Keeps w w' [] := by
  have HL := Lib.hid hl
  have HA := Lib.hid hA
  have HG := Lib.hid hg
  clear hl hA hg
  go_enter Tryz.func108, Tryz.ntmps108
  go_wp2_with fail
  go_loopw [8] (fun i wr => ∃ k : Nat, k ≤ n ∧ i = .int .i64 k ∧ Hid (∀ y ∈ l.take k, isBeg p y = false) ∧ Keeps w wr []) (fun i _ => n - (intOf i).toNat)
  case atStart => exact ⟨0, Nat.zero_le _, rfl, fun y hy => by simp at hy, Keeps.refl _ _⟩
  case round =>
    obtain ⟨k, hk, rfl, HB, kr⟩ := hrel
    have HK := Lib.hid kr
    clear kr
    by_cases hlt : k < n
    · obtain ⟨x, hx⟩ := at_of HL.out hlt
      obtain ⟨b, off, rfl, hb, hc⟩ := (HA.out).field begE_len hx (by omega)
      have HX := Lib.hid hx
      have q0 : wr.cell? ⟨b, off + k * 2, none⟩ = some (.int .i64 x.1) := (HK.out.cell0 hb).trans (hc 0 _ rfl)
      have q1 : wr.cell? ⟨b, off + k * 2 + 1, none⟩ = some (.int .i64 x.2) := (HK.out.cell0 hb).trans (hc 1 _ rfl)
      have HC := Lib.hid (beg1_any p x g wr (HG.out.keep HK.out (by simp)))
      clear hx hc
      have b0 : (0 : Int) ≤ (k : Int) := Int.natCast_nonneg _
      have b1 : (k : Int) < (n : Int) := by omega
      cases hp : isBeg p x with
      | true =>
        have HI : Hid (findI (isBeg p) l = (k : Int)) := findI_some HX.out hp HB.out
        rw [hp] at HC
        clear hp
        go_wp2_with (go_at_call 77; refine HC.out.mono ?_; rintro e w' ⟨rfl, k2⟩)
        go_ret
        exact ⟨by rw [HI.out]; rfl, HK.out.trans k2⟩
      | false =>
        have HB2 : Hid (∀ y ∈ l.take (k + 1), isBeg p y = false) := take_snoc_all HX.out hp HB.out
        rw [hp] at HC
        clear hp
        go_wp2_with (go_at_call 77; refine HC.out.mono ?_; rintro e w' ⟨rfl, k2⟩)
        go_roundw
        case rel => exact ⟨k + 1, by omega, by go_num, HB2, HK.out.trans k2⟩
        case measure => simp [intOf]; omega
    · obtain rfl : n = k := by omega
      have HI : Hid (findI (isBeg p) l = -1) := findI_none (by have := HB.out; rwa [List.take_of_length_le (by rw [HL.out]; omega)] at this)
      go_wp2_with fail
      go_ret
      exact ⟨by rw [HI.out]; rfl, HK.out⟩
theorem begHas_any (p g : Nat) (A : Option Addr) (n c : Nat) (l : List (Nat × Nat)) (w : World) (hl : l.length = n) (hn : n ≤ 1000000) (hA : Rd w A (l.flatMap begE)) (hg : Blk w g 3 #[.int .i64 p]) :
    Calls Tryz.prog 76 #[.slice A n c, .func (.func 77) #[] #[.pointer (some ⟨g, 0, none⟩)]] w fun e w' => e = .returned (.bool (l.any (isBeg p))) ∧ Keeps w w' [] := by
  have HC := Lib.hid (begIdx_any p g A n c l w hl hn hA hg)
  have HV := Lib.hid (findI_nonneg (isBeg p) l)
  generalize findI (isBeg p) l = v at *
  clear hl hA hg
  go_enter Tryz.func76, Tryz.ntmps76
  go_wp2_with fail
  refine HC.out.mono ?_
  rintro e w1 ⟨rfl, k1⟩
  go_wp2_with fail
  go_ret
  exact ⟨by rw [← HV.out]; rfl, k1⟩
/-- A line's end: what is wrong; where nothing is, the object behind it. -/
def LnDone (w0 w : World) (ab nl : Nat) (L : List Nat) (r : AS × Int) (e : Ending) (w' : World) : Prop := e = .returned (.int .i64 r.2) ∧ ∃ L' S', As w0 w' ab L' nl S' ∧ ASt w L w' L' ∧ (r.2 = 0 → S' = r.1)
/-- A predicate that has begun is among those that have. -/
def InvB (S : AS) : Prop := ∀ (k : Nat) (p : LPred), S.o.preds[k]? = some p → p.entry ≠ 65535 → S.begins.any (isBeg k) = true
theorem InvB.pred {S : AS} (h : InvB S) (f : LFun) : InvB { S with o := (predP S.o f).1 } := by
  intro k p hk he
  unfold predP at hk
  split at hk
  · exact h k p hk he
  · simp only at hk
    by_cases hl : k < S.o.preds.length
    · rw [List.getElem?_append_left hl] at hk
      exact h k p hk he
    · rw [List.getElem?_append_right (by omega)] at hk
      cases hm : k - S.o.preds.length with
      | zero =>
        rw [hm] at hk
        simp at hk
        subst hk
        exact absurd rfl he
      | succ j => rw [hm] at hk; simp at hk
theorem set_flat2 (x : LPred) (v : Int) : ∀ (l : List LPred) (k : Nat), l[k]? = some x → (l.flatMap predE).set (k * 3 + 2) (.int .i64 v) = (l.modify k fun p => { p with entry := v }).flatMap predE
  | [], k, h => by simp at h
  | y :: l, 0, h => by
    simp at h
    subst h
    rfl
  | y :: l, k + 1, h => by
    have ih := set_flat2 x v l k (by simpa using h)
    rw [List.flatMap_cons, List.modify_succ_cons, List.flatMap_cons, ← ih, List.set_append_right _ _ (by rw [predE_len]; omega), predE_len, show (k + 1) * 3 + 2 - 3 = k * 3 + 2 by omega]
set_option maxRecDepth 100000 in
set_option maxHeartbeats 3200000 in
theorem beginA_any {w0 w : World} {ab nl : Nat} {L : List Nat} {S : AS} (hA : As w0 w ab L nl S) (hI : InvB S) (s : ByteArray) (hl : s.size ≤ 4294967000) (line : Nat) (hf : Fits S.o) (hn : S.o.preds.length ≤ 65000 ∧ S.begins.length ≤ 1000000 ∧ S.o.code.length ≤ 65000) :
    Calls Tryz.prog 47 #[.pointer (some ⟨ab, 0, none⟩), .string s, .int .i64 line] w (LnDone w0 w ab nl L (beginP S s.data.toList line)) := by
  have HAs := Lib.hid hA
  have h := hA.st_
  have HN := Lib.hid (fun9_any s 0 (by omega) w h)
  cases hs : slashP s.data.toList 0 with
  | none =>
    have HV : Hid (beginP S s.data.toList line = (S, 17)) := Lib.hid (by unfold beginP; rw [hs])
    rw [hs] at HN
    clear hs hA h hI hf hn hl
    dsimp only [Option.isSome] at HN
    go_enter Tryz.func47, Tryz.ntmps47
    go_wp2_with fail
    refine HN.out.mono ?_
    rintro e w1 ⟨rfl, k1⟩
    have HK := Lib.hid (k1.alloc (.cells #[.string (funV s.data.toList).name, .int .i64 (funV s.data.toList).arity] 77))
    clear k1
    go_wp2_with fail
    go_ret
    exact ⟨by rw [HV.out]; rfl, L, S, HAs.out.keep0 HK.out, ASt.of_keeps HK.out L, fun h0 => by rw [HV.out] at h0; cases h0⟩
  | some f =>
    have hfv := slash_funV hs
    rw [hs, ← hfv] at HN
    dsimp only [Option.isSome] at HN
    have HV : Hid (beginP S s.data.toList line = if S.begins.any (isBeg (predP S.o f).2) then (S, 11) else ({ S with o := { (predP S.o f).1 with preds := (predP S.o f).1.preds.modify (predP S.o f).2 fun p => { p with entry := (S.o.code.length : Int) } }, begins := S.begins ++ [((predP S.o f).2, line)] }, 0)) := Lib.hid (by unfold beginP; rw [hs]; rfl)
    have HP : Hid (∀ w1, Keeps w w1 [] → _) := fun w1 (k1 : Keeps w w1 []) => predA_any (hA.keep0 k1) f hf hn.1
    have hIp := hI.pred f
    have hlt := predP_lt S.o f
    have hgr := predP_grows S.o f
    obtain ⟨o1, ho1⟩ : ∃ o1, (predP S.o f).1 = o1 := ⟨_, rfl⟩
    obtain ⟨p, hp⟩ : ∃ p, (predP S.o f).2 = p := ⟨_, rfl⟩
    rw [ho1, hp] at hlt HV
    rw [ho1, hp] at HP
    rw [ho1] at hIp hgr
    have hcode : S.o.code.length = o1.code.length := by rw [hgr.code]
    rw [hcode] at HV
    have gP := hgr.preds
    clear hs hfv hA h hI hf hl ho1 hp hgr
    obtain ⟨x, hx⟩ : ∃ x, o1.preds[p]? = some x := ⟨_, List.getElem?_eq_getElem hlt⟩
    have HX := Lib.hid hx
    have HIp := Lib.hid hIp
    have HN3 := Lib.hid hn
    have HLt := Lib.hid hlt
    have HgP := Lib.hid gP
    have HCd := Lib.hid hcode
    clear hx hIp hn hcode gP
    have hmf : ∀ (fn : Fn) (first cap : Array Value) (w : World), (Instr.makeFunc fn first cap).run Tryz.prog w = .ok (.func fn first cap) w := fun _ _ _ _ => rfl
    have mixed : Tryz.prog.follows .mixedOrders = true := by kernel_rfl
    go_enter Tryz.func47, Tryz.ntmps47
    go_wp2_with fail
    refine HN.out.mono ?_
    rintro e w1 ⟨rfl, k1⟩
    have HK := Lib.hid (k1.alloc (.cells #[.string f.name, .int .i64 f.arity] 77))
    have HP1 := Lib.hid (HP.out _ HK.out)
    clear k1 HP
    go_wp2_with fail
    refine HP1.out.mono ?_
    rintro e w2 ⟨rfl, L2, hA2, hs2⟩
    have k2 : Keeps w2 (w2.alloc (.cells #[.int .i64 p] 3)) [] := (Keeps.refl w2 []).alloc _
    have HGp : Hid (Blk (w2.alloc (.cells #[.int .i64 p] 3)) w2.heap.size 3 #[.int .i64 p]) := Blk.new _ _ _
    have HG0 := Lib.hid (fun hm => Nat.lt_irrefl _ (hA2.lt w2.heap.size hm).2)
    have hA3 := hA2.keep0 k2
    have HA3 := Lib.hid hA3
    have HS3 := Lib.hid (((ASt.of_keeps HK.out L).trans hs2).trans (ASt.of_keeps k2 L2))
    clear hA2 hs2 k2 HP1
    obtain ⟨vb, AA, FA, PA, CA, UA, BA, ca, cf, cp, cc, cu, cb, hm, hL, hlt3⟩ := hA3
    have HM := Lib.hid hm
    have HL := Lib.hid hL
    have HLt3 := Lib.hid hlt3
    clear hm hL hlt3
    obtain ⟨g, hPA, hcap⟩ := own_atA HM.out.preds (by have := HLt.out; simp only; omega)
    subst hPA
    obtain ⟨b, off, e0, hb, hc⟩ := (Rd.of_own HM.out.preds).field predE_len HX.out (by omega)
    injection e0 with e0
    injection e0 with e0 e1
    subst e0 e1
    have q2 := HM.out.blk.cell 2
    have q6 := HM.out.blk.cell 6
    have q3 := HM.out.blk.cell 3
    have y2 := hc 2 _ rfl
    have z0 := HGp.out.cell 0
    have b0 : (0 : Int) ≤ (p : Int) := Int.natCast_nonneg _
    have b1 : (p : Int) < (o1.preds.length : Int) := by have := HLt.out; omega
    obtain ⟨cur, hbk, _⟩ := own_block HM.out.preds
    have hfz := hbk.frozen (p * 3 + 2)
    clear hbk
    simp only [List.getElem?_toArray, List.getElem?_cons_zero, List.getElem?_cons_succ, Nat.zero_add] at q2 q6 q3 y2
    have HFz := Lib.hid hfz
    have HY2 := Lib.hid y2
    have HF5 : Hid (∀ W, Keeps (w2.alloc (.cells #[.int .i64 p] 3)) W [] → W.cell? ⟨ab, 2, none⟩ = some (.slice (some ⟨g, 0, none⟩) o1.preds.length cp) ∧ W.cell? ⟨ab, 6, none⟩ = some (.slice BA S.begins.length cb) ∧ W.cell? ⟨w2.heap.size, 0, none⟩ = some (.int .i64 p) ∧ W.cell? ⟨g, p * 3 + 2, none⟩ = some (.int .i64 x.entry)) := fun W kk => by
      have b := HM.out.blk.keep kk (by simp)
      have q2 := b.cell 2
      have q6 := b.cell 6
      simp only [List.getElem?_toArray, List.getElem?_cons_zero, List.getElem?_cons_succ] at q2 q6
      exact ⟨q2, q6, (HGp.out.keep kk (by simp)).cell 0, (kk.cell0 (block_lt_of_cell HY2.out)).trans HY2.out⟩
    have HCF := Lib.hid (begHas_any p w2.heap.size BA S.begins.length cb S.begins (w2.alloc (.cells #[.int .i64 p] 3)).drew rfl HN3.out.2.1 (Rd.of_own HM.out.begins) HGp.out)
    clear hc hb q2 q6 q3 y2 z0 hfz
    by_cases hx : x.entry = 65535
    · have d0 : (x.entry == 65535) = true := by simpa using hx
      have d1 : (x.entry != 65535) = false := by simpa using hx
      cases hany : S.begins.any (isBeg p) with
      | true =>
        rw [hany] at HCF HV
        have HV2 : Hid (beginP S s.data.toList line = (S, 11)) := HV.out.trans (if_pos rfl)
        clear hany hx
        go_upto_region 5 with fail
        refine wp_region_tx (fun W' => W'.cell? ⟨ab, 2, none⟩ = some (.slice (some ⟨g, 0, none⟩) o1.preds.length cp) ∧ W'.cell? ⟨ab, 6, none⟩ = some (.slice BA S.begins.length cb) ∧ W'.cell? ⟨w2.heap.size, 0, none⟩ = some (.int .i64 p) ∧ W'.cell? ⟨g, p * 3 + 2, none⟩ = some (.int .i64 x.entry)) [(0, true), (1, true), (2, true), (3, true), (4, true), (5, true), (6, true), (7, true), (8, true), (9, true), (10, true), (11, true), (12, true), (13, true), (14, true), (15, true), (16, false), (17, false)] (by kernel_rfl) (by kernel_rfl) (HF5.out _ (Keeps.refl _ _).drew) (fun hHeld => ?_)
        (repeat (first | (refine wpTx_take (v := ?_) rfl (by assumption) ?_ (by rfl) ?_; rotate_left; (focus (intro w' hSw; (try dsimp only at hSw); go_simp; (try with_reducible rfl); done)); simp only [Act.put, List.setIfInBounds_toArray, List.set_cons_zero, List.set_cons_succ]) | (refine wpTx_skip rfl (by assumption) (by rfl) ?_; simp only [Act.put, List.setIfInBounds_toArray, List.set_cons_zero, List.set_cons_succ])))
        refine wpTx_go rfl (fun K hK => ?_)
        go_simp
        refine HCF.out.mono ?_
        rintro e w4 ⟨rfl, k4'⟩
        have k4 : Keeps (w2.alloc (.cells #[.int .i64 p] 3)) w4 [] := (Keeps.refl _ []).drew.trans k4'
        clear k4'
        have HF5w := Lib.hid (HF5.out _ k4)
        refine hK.out _ _ ?_ ?_
        · exact HF5w.out
        (clear hHeld; intro hHeld; clear hK K; (try simp only [Act.put, List.setIfInBounds_toArray, List.set_cons_zero, List.set_cons_succ]))
        refine wpTx_last rfl (fun K hK => ?_)
        go_simp
        refine hK.out _ _ (NoPanic.normal ?_); clear hK K; (try simp only [Act.put, List.setIfInBounds_toArray, List.set_cons_zero, List.set_cons_succ])
        clear hHeld HF5w
        go_wp2_with fail
        go_ret
        exact ⟨by rw [HV2.out]; rfl, L2, _, HA3.out.keep0 k4, HS3.out.trans (ASt.of_keeps k4 L2), fun h0 => by rw [HV2.out] at h0; cases h0⟩
      | false =>
        rw [hany] at HCF HV
        have HV2 := Lib.hid (HV.out.trans (if_neg Bool.false_ne_true))
        clear hany hx
        go_upto_region 5 with fail
        refine wp_region_tx (fun W' => W'.cell? ⟨ab, 2, none⟩ = some (.slice (some ⟨g, 0, none⟩) o1.preds.length cp) ∧ W'.cell? ⟨ab, 6, none⟩ = some (.slice BA S.begins.length cb) ∧ W'.cell? ⟨w2.heap.size, 0, none⟩ = some (.int .i64 p) ∧ W'.cell? ⟨g, p * 3 + 2, none⟩ = some (.int .i64 x.entry)) [(0, true), (1, true), (2, true), (3, true), (4, true), (5, true), (6, true), (7, true), (8, true), (9, true), (10, true), (11, true), (12, true), (13, true), (14, true), (15, true), (16, false), (17, false)] (by kernel_rfl) (by kernel_rfl) (HF5.out _ (Keeps.refl _ _).drew) (fun hHeld => ?_)
        (repeat (first | (refine wpTx_take (v := ?_) rfl (by assumption) ?_ (by rfl) ?_; rotate_left; (focus (intro w' hSw; (try dsimp only at hSw); go_simp; (try with_reducible rfl); done)); simp only [Act.put, List.setIfInBounds_toArray, List.set_cons_zero, List.set_cons_succ]) | (refine wpTx_skip rfl (by assumption) (by rfl) ?_; simp only [Act.put, List.setIfInBounds_toArray, List.set_cons_zero, List.set_cons_succ])))
        refine wpTx_go rfl (fun K hK => ?_)
        go_simp
        refine HCF.out.mono ?_
        rintro e w4 ⟨rfl, k4'⟩
        have k4 : Keeps (w2.alloc (.cells #[.int .i64 p] 3)) w4 [] := (Keeps.refl _ []).drew.trans k4'
        clear k4'
        have HF5w := Lib.hid (HF5.out _ k4)
        refine hK.out _ _ ?_ ?_
        · exact HF5w.out
        (clear hHeld; intro hHeld; clear hK K; (try simp only [Act.put, List.setIfInBounds_toArray, List.set_cons_zero, List.set_cons_succ]))
        refine wpTx_last rfl (fun K hK => ?_)
        go_simp
        refine hK.out _ _ (NoPanic.normal ?_); clear hK K; (try simp only [Act.put, List.setIfInBounds_toArray, List.set_cons_zero, List.set_cons_succ])
        clear hHeld HF5w
        have HM4 := Lib.hid (HM.out.keep0 k4)
        have HS4 := Lib.hid (HS3.out.trans (ASt.of_keeps k4 L2))
        have HZ4 := Lib.hid k4.size
        have HF7 : Hid ((w4.drew.cell? ⟨ab, 2, none⟩ = some (.slice (some ⟨g, 0, none⟩) o1.preds.length cp) ∧ w4.drew.cell? ⟨ab, 3, none⟩ = some (.slice CA o1.code.length cc) ∧ w4.drew.cell? ⟨w2.heap.size, 0, none⟩ = some (.int .i64 p) ∧ w4.drew.cell? ⟨g, p * 3 + 2, none⟩ = some (.int .i64 x.entry)) ∧ w4.drew.frozen? ⟨g, p * 3 + 2, none⟩ = false) := by
          have b := HM.out.blk.keep k4 (by simp)
          have q2 := b.cell 2
          have q3 := b.cell 3
          simp only [List.getElem?_toArray, List.getElem?_cons_zero, List.getElem?_cons_succ] at q2 q3
          exact ⟨⟨q2, q3, (HGp.out.keep k4 (by simp)).cell 0, (k4.cell0 (block_lt_of_cell HY2.out)).trans HY2.out⟩, (k4.frozen (p := ⟨g, p * 3 + 2, none⟩) (block_lt_of_cell HY2.out) (by simp)).trans HFz.out⟩
        have HG4 := Lib.hid (HGp.out.keep k4 (by simp))
        clear k4 HCF HF5 d0 d1
        go_upto_region 7 with fail
        refine wp_region_tx (fun W' => (W'.cell? ⟨ab, 2, none⟩ = some (.slice (some ⟨g, 0, none⟩) o1.preds.length cp) ∧ W'.cell? ⟨ab, 3, none⟩ = some (.slice CA o1.code.length cc) ∧ W'.cell? ⟨w2.heap.size, 0, none⟩ = some (.int .i64 p) ∧ W'.cell? ⟨g, p * 3 + 2, none⟩ = some (.int .i64 x.entry)) ∧ W'.frozen? ⟨g, p * 3 + 2, none⟩ = false) [(0, true), (1, true), (2, true), (3, true), (4, true), (5, true), (6, true), (7, true), (8, true), (9, true), (10, true), (11, true), (12, true), (13, true), (14, false)] (by kernel_rfl) (by kernel_rfl) HF7.out (fun hHeld => ?_)
        (repeat (first | (refine wpTx_take (v := ?_) rfl (by assumption) ?_ (by rfl) ?_; rotate_left; (focus (intro w' hSw; (try dsimp only at hSw); go_simp; (try with_reducible rfl); done)); simp only [Act.put, List.setIfInBounds_toArray, List.set_cons_zero, List.set_cons_succ]) | (refine wpTx_skip rfl (by assumption) (by rfl) ?_; simp only [Act.put, List.setIfInBounds_toArray, List.set_cons_zero, List.set_cons_succ])))
        refine wpTx_last rfl (fun K hK => ?_)
        go_simp
        refine hK.out _ _ (NoPanic.normal ?_); clear hK K; (try simp only [Act.put, List.setIfInBounds_toArray, List.set_cons_zero, List.set_cons_succ])
        clear hHeld HF7
        have hgm : g ∈ ownL (.slice (some ⟨g, 0, none⟩) 0 0) := by simp [ownL, Value.ownBlock]
        have k5 : Keeps w4 (w4.setCell ⟨g, p * 3 + 2, none⟩ (.int .i64 o1.code.length)).drew (ownL (.slice (some ⟨g, 0, none⟩) 0 0)) := ((Keeps.refl w4 _).setCell (.inl hgm) _).drew
        have HM5 := Lib.hid (HM4.out.preds_in (l' := o1.preds.modify p fun q => { q with entry := (o1.code.length : Int) }) k5 (by simp) (by
          have h1 := own_cellA HM4.out.preds (p * 3 + 2) (.int .i64 o1.code.length)
          rw [set_flat2 x _ _ _ HX.out] at h1
          exact h1))
        have HG5 := Lib.hid (HG4.out.keep k5 (fun hm => (HG0.out (HL.out _ (by unfold asL; simp [hm])))))
        have HS5 : Hid (ASt w4 L2 (w4.setCell ⟨g, p * 3 + 2, none⟩ (.int .i64 o1.code.length)).drew L2) := ⟨k5.more (fun b _ hb => HL.out b (by unfold asL; simp [hb])), fun b hb => .inl hb⟩
        have hz5 := k5.size
        have HZ5 := Lib.hid hz5
        clear k5 hgm hz5
        generalize (w4.setCell ⟨g, p * 3 + 2, none⟩ (.int .i64 o1.code.length)).drew = w5 at *
        obtain ⟨n, hnl⟩ : ∃ n, S.begins.length = n := ⟨_, rfl⟩
        have HNl := Lib.hid hnl
        clear hnl
        have HO5 : Hid (w5.ownsRow w0.heap.size 108 2 (.slice BA n cb) n (S.begins.flatMap begE)) := Lib.hid (by have := HM5.out.begins; rw [HNl.out] at this; exact this)
        have HF8 : Hid (∀ W, Keeps w5 W [] → (W.cell? ⟨ab, 6, none⟩ = some (.slice BA n cb) ∧ W.cell? ⟨w2.heap.size, 0, none⟩ = some (.int .i64 p)) ∧ W.frozen? ⟨ab, 6, none⟩ = false) := fun W kk => by
          have b := HM5.out.blk.keep kk (by simp)
          have q6 := b.cell 6
          simp only [List.getElem?_toArray, List.getElem?_cons_zero, List.getElem?_cons_succ, HNl.out] at q6
          exact ⟨⟨q6, (HG5.out.keep kk (by simp)).cell 0⟩, b.frozen 6⟩
        go_upto_region 8 with fail
        refine wp_region_tx (fun W' => (W'.cell? ⟨ab, 6, none⟩ = some (.slice BA n cb) ∧ W'.cell? ⟨w2.heap.size, 0, none⟩ = some (.int .i64 p)) ∧ W'.frozen? ⟨ab, 6, none⟩ = false) [(0, true), (1, true), (2, true), (3, true), (4, true), (5, true), (6, true), (7, true), (8, false), (9, false), (10, true), (11, true), (12, false)] (by kernel_rfl) (by kernel_rfl) (HF8.out _ (Keeps.refl _ _).drew) (fun hHeld => ?_)
        (repeat (first | (refine wpTx_take (v := ?_) rfl (by assumption) ?_ (by rfl) ?_; rotate_left; (focus (intro w' hSw; (try dsimp only at hSw); go_simp; (try with_reducible rfl); done)); simp only [Act.put, List.setIfInBounds_toArray, List.set_cons_zero, List.set_cons_succ]) | (refine wpTx_skip rfl (by assumption) (by rfl) ?_; simp only [Act.put, List.setIfInBounds_toArray, List.set_cons_zero, List.set_cons_succ])))
        refine wpTx_go rfl (fun K hK => ?_)
        go_simp
        refine hK.out _ _ ?_ ?_
        · exact HF8.out _ ((Keeps.refl _ _).drew.alloc _)
        (clear hHeld; intro hHeld; clear hK K; (try simp only [Act.put, List.setIfInBounds_toArray, List.set_cons_zero, List.set_cons_succ]))
        refine wpTx_go rfl (fun K hK => ?_)
        have K5 : Keeps w5 (w5.drew.alloc (.cells #[.int .i64 p, .int .i64 line] 108)) [] := (Keeps.refl w5 []).drew.alloc _
        refine step_app _ el_begA (by rfl) _ _ (by rfl) w0.heap.size BA n cb (S.begins.flatMap begE) (by rfl) (own_keep0 HO5.out K5) (some ⟨w5.heap.size, 0, none⟩) 1 1 (begE (p, line)) (by rfl) (Rd.one w5.drew _ (begE (p, line))) rfl (by simp) (by simp [begE, Value.oneCell']) (by have := HN3.out; have := HNl.out; omega) (Nat.le_trans HM5.out.bel.size K5.size) ?_
        intro A' c' w6 hown hgrow hat
        have HAp := Lib.hid (app_factsA K5 hown hgrow hat)
        have hB6 := HM5.out.blk.grownA K5 hgrow (own_outA HM5.out.begins HM5.out.blk (by decide))
        have hb1 := HG5.out.grownA K5 hgrow (fun hm => HG0.out (HL.out _ (by unfold asL; simp [hm])))
        have HB6 : Hid (w6.cell? ⟨ab, 6, none⟩ = some (.slice BA S.begins.length cb) ∧ w6.frozen? ⟨ab, 6, none⟩ = false) := ⟨hB6.cell 6, hB6.frozen 6⟩
        have HX6 : Hid (w6.cell? ⟨w2.heap.size, 0, none⟩ = some (.int .i64 p)) := hb1.cell 0
        clear hown hgrow hat K5 hB6 hb1
        refine hK.out _ _ ?_ ?_
        · exact ⟨⟨by rw [← HNl.out]; exact HB6.out.1, HX6.out⟩, HB6.out.2⟩
        (clear hHeld; intro hHeld; clear hK K; (try simp only [Act.put, List.setIfInBounds_toArray, List.set_cons_zero, List.set_cons_succ]))
        (repeat (first | (refine wpTx_take (v := ?_) rfl (by assumption) ?_ (by rfl) ?_; rotate_left; (focus (intro w' hSw; (try dsimp only at hSw); go_simp; (try with_reducible rfl); done)); simp only [Act.put, List.setIfInBounds_toArray, List.set_cons_zero, List.set_cons_succ]) | (refine wpTx_skip rfl (by assumption) (by rfl) ?_; simp only [Act.put, List.setIfInBounds_toArray, List.set_cons_zero, List.set_cons_succ])))
        refine wpTx_last rfl (fun K hK => ?_)
        go_simp
        refine hK.out _ _ (NoPanic.normal ?_); clear hK K; (try simp only [Act.put, List.setIfInBounds_toArray, List.set_cons_zero, List.set_cons_succ])
        clear hHeld
        go_wp2_with fail
        go_ret
        obtain ⟨a1, a2, a3⟩ := HAp.out
        have hlen : (S.begins ++ [(p, line)]).length = n + 1 := by rw [List.length_append, HNl.out]; rfl
        obtain ⟨L', g1, g2⟩ := HM5.out.begins_pack HL.out (fun b hb => ⟨(HLt3.out b hb).1, Nat.lt_of_lt_of_le (HLt3.out b hb).2 (Nat.le_trans HZ4.out HZ5.out)⟩) a2 (A' := A') (c' := c') (l' := S.begins ++ [(p, line)]) (by rw [hlen, List.flatMap_append]; simpa using a1) a3
        rw [hlen] at g1 g2
        exact ⟨by rw [HV2.out]; rfl, L', _, g1, (HS4.out.trans HS5.out).trans g2, fun _ => by rw [HV2.out]⟩
    · have d0 : (x.entry == 65535) = false := by simpa using hx
      have d1 : (x.entry != 65535) = true := by simpa using hx
      have HV2 : Hid (beginP S s.data.toList line = (S, 11)) := HV.out.trans (if_pos (HIp.out p x HX.out hx))
      clear hx
      go_upto_region 5 with fail
      refine wp_region_tx (fun W' => W'.cell? ⟨ab, 2, none⟩ = some (.slice (some ⟨g, 0, none⟩) o1.preds.length cp) ∧ W'.cell? ⟨ab, 6, none⟩ = some (.slice BA S.begins.length cb) ∧ W'.cell? ⟨w2.heap.size, 0, none⟩ = some (.int .i64 p) ∧ W'.cell? ⟨g, p * 3 + 2, none⟩ = some (.int .i64 x.entry)) [(0, true), (1, true), (2, true), (3, true), (4, true), (5, true), (6, true), (7, true), (8, true), (9, true), (10, true), (11, true), (12, true), (13, true), (14, true), (15, true), (16, false), (17, false)] (by kernel_rfl) (by kernel_rfl) (HF5.out _ (Keeps.refl _ _).drew) (fun hHeld => ?_)
      (repeat (first | (refine wpTx_take (v := ?_) rfl (by assumption) ?_ (by rfl) ?_; rotate_left; (focus (intro w' hSw; (try dsimp only at hSw); go_simp; (try with_reducible rfl); done)); simp only [Act.put, List.setIfInBounds_toArray, List.set_cons_zero, List.set_cons_succ]) | (refine wpTx_skip rfl (by assumption) (by rfl) ?_; simp only [Act.put, List.setIfInBounds_toArray, List.set_cons_zero, List.set_cons_succ])))
      refine wpTx_go rfl (fun K hK => ?_)
      go_simp
      refine hK.out _ _ ?_ ?_
      · exact HF5.out _ (Keeps.refl _ _).drew
      (clear hHeld; intro hHeld; clear hK K; (try simp only [Act.put, List.setIfInBounds_toArray, List.set_cons_zero, List.set_cons_succ]))
      refine wpTx_last rfl (fun K hK => ?_)
      go_simp
      refine hK.out _ _ (NoPanic.normal ?_); clear hK K; (try simp only [Act.put, List.setIfInBounds_toArray, List.set_cons_zero, List.set_cons_succ])
      clear hHeld
      go_wp2_with fail
      go_ret
      exact ⟨by rw [HV2.out]; rfl, L2, _, HA3.out.keep0 (Keeps.refl _ _).drew, HS3.out.trans (ASt.of_keeps (Keeps.refl _ _).drew L2), fun h0 => by rw [HV2.out] at h0; cases h0⟩
/-! ### mark -/
set_option maxRecDepth 100000 in
set_option maxHeartbeats 3200000 in
theorem markA_any {w0 w : World} {ab nl : Nat} {L : List Nat} {S : AS} (hA : As w0 w ab L nl S) (hnl : nl ≤ 1000000) (s : ByteArray) (hl : s.size ≤ 4294967000) (hn : S.o.code.length ≤ 65000) :
    Calls Tryz.prog 49 #[.pointer (some ⟨ab, 0, none⟩), .string s] w (LnDone w0 w ab (nl + 1) L (markP S s.data.toList)) := by
  have HAs := Lib.hid hA
  have HN := Lib.hid (label9_any s (by omega) w hA.st_)
  have hle := labelP_le s.data.toList
  obtain ⟨v, hv⟩ : ∃ v, labelP s.data.toList = v := ⟨_, rfl⟩
  rw [hv] at HN hle
  have HV : Hid (markP S s.data.toList = if v < 0 then (S, 17) else if (S.labels v).isSome then (S, 11) else ({ S with labels := fun n => if n = v then some S.o.code.length else S.labels n }, 0)) := Lib.hid (by unfold markP; rw [hv])
  have hi : I64A v := ⟨by omega, by omega⟩
  obtain ⟨vb, AA, FA, PA, CA, UA, BA, ca, cf, cp, cc, cu, cb, hm, hL, hlt⟩ := hA
  have HM := Lib.hid hm
  have HL := Lib.hid hL
  have HLt := Lib.hid hlt
  have HI := Lib.hid hi
  have HNC := Lib.hid hn
  have HNL := Lib.hid hnl
  clear hm hL hlt hn hnl hv hi
  go_enter Tryz.func49, Tryz.ntmps49
  go_wp2_with fail
  refine HN.out.mono ?_
  rintro e w1 ⟨rfl, k1⟩
  have HM1 := Lib.hid (HM.out.keep0 k1)
  have HK1 := Lib.hid k1
  have q4 := HM1.out.blk.cell 4
  have q3 := HM1.out.blk.cell 3
  have hlk := HM1.out.labels.look HI.out
  simp only [List.getElem?_toArray, List.getElem?_cons_zero, List.getElem?_cons_succ] at q4 q3
  clear k1 HN
  by_cases hv : v < 0
  · have HV2 := Lib.hid (HV.out.trans (if_pos hv))
    generalize (S.labels v).isSome = b at *
    go_wp2_with fail
    go_ret
    exact ⟨by rw [HV2.out]; rfl, L, S, (HAs.out.keep0 HK1.out).more (by omega), ASt.of_keeps HK1.out L, fun h0 => by rw [HV2.out] at h0; cases h0⟩
  · cases hb : (S.labels v).isSome with
    | true =>
      rw [hb] at hlk
      have HV2 : Hid (markP S s.data.toList = (S, 11)) := (HV.out.trans (if_neg hv)).trans (by rw [hb]; exact if_pos rfl)
      clear hb
      go_wp2_with fail
      go_ret
      exact ⟨by rw [HV2.out]; rfl, L, S, (HAs.out.keep0 HK1.out).more (by omega), ASt.of_keeps HK1.out L, fun h0 => by rw [HV2.out] at h0; cases h0⟩
    | false =>
      rw [hb] at hlk
      have HV2 : Hid (markP S s.data.toList = ({ S with labels := fun n => if n = v then some S.o.code.length else S.labels n }, 0)) := (HV.out.trans (if_neg hv)).trans (by rw [hb]; exact if_neg Bool.false_ne_true)
      clear hb
      obtain ⟨nc, hnc⟩ : ∃ n, S.o.code.length = n := ⟨_, rfl⟩
      rw [hnc] at q3 HNC
      obtain ⟨w2, hst, hlm, k2⟩ := (HM1.out.keep0 (Keeps.refl w1 []).drew).labels.put HNL.out (x := v) (p := nc) HI.out (by have := HNC.out; omega)
      have HF : Hid ((w1.drew.cell? ⟨ab, 4, none⟩ = some (.map (some vb)) ∧ w1.drew.cell? ⟨ab, 3, none⟩ = some (.slice CA nc cc))) := ⟨q4, q3⟩
      have HLM := Lib.hid hlm
      have HK2 := Lib.hid k2
      have HNc := Lib.hid hnc
      clear hlm k2 hnc HNC
      go_upto_region 7 with fail
      clear q4 q3 hlk
      refine wp_region_tx (fun W' => (W'.cell? ⟨ab, 4, none⟩ = some (.map (some vb)) ∧ W'.cell? ⟨ab, 3, none⟩ = some (.slice CA nc cc))) [(0, true), (1, true), (2, true), (3, true), (4, true), (5, true), (6, true), (7, true), (8, true), (9, true), (10, true), (11, false)] (by kernel_rfl) (by kernel_rfl) HF.out (fun hHeld => ?_)
      (repeat (first | (refine wpTx_take (v := ?_) rfl (by assumption) ?_ (by rfl) ?_; rotate_left; (focus (intro w' hSw; (try dsimp only at hSw); go_simp; (try with_reducible rfl); done)); simp only [Act.put, List.setIfInBounds_toArray, List.set_cons_zero, List.set_cons_succ]) | (refine wpTx_skip rfl (by assumption) (by rfl) ?_; simp only [Act.put, List.setIfInBounds_toArray, List.set_cons_zero, List.set_cons_succ])))
      refine wpTx_last rfl (fun K hK => ?_)
      go_simp
      refine hK.out _ _ (NoPanic.normal ?_); clear hK K; (try simp only [Act.put, List.setIfInBounds_toArray, List.set_cons_zero, List.set_cons_succ])
      clear hHeld hst
      go_wp2_with fail
      go_ret
      refine ⟨by rw [HV2.out]; rfl, L, _, ⟨_, _, _, _, _, _, _, _, _, _, _, _, _, (HM1.out.keep0 (Keeps.refl w1 []).drew).labels_ HK2.out HLM.out, HL.out, fun b hb => ⟨(HLt.out b hb).1, Nat.lt_of_lt_of_le (HLt.out b hb).2 (Nat.le_trans HK1.out.size HK2.out.size)⟩⟩, ?_, fun _ => by rw [HV2.out, HNc.out]⟩
      exact (ASt.of_keeps HK1.out L).trans ⟨(Keeps.refl w1 L).drew.trans (HK2.out.more (fun b _ hb => by simp at hb; subst hb; exact HL.out _ (by unfold asL; simp))), fun b hb => .inl hb⟩
/-! ### full -/
set_option maxRecDepth 100000 in
set_option maxHeartbeats 3200000 in
theorem fullA_any {w0 w : World} {ab nl : Nat} {L : List Nat} {S : AS} (hA : As w0 w ab L nl S) :
    Calls Tryz.prog 19 #[.pointer (some ⟨ab, 0, none⟩)] w fun e w' => e = .returned (.bool (fullP S.o)) ∧ Keeps w w' [] := by
  unfold fullP
  obtain ⟨vb, AA, FA, PA, CA, UA, BA, ca, cf, cp, cc, cu, cb, hm, hL, hlt⟩ := hA
  have q0 := hm.blk.cell 0
  have q1 := hm.blk.cell 1
  have q2 := hm.blk.cell 2
  have q3 := hm.blk.cell 3
  clear hm hL hlt
  generalize S.o.atoms.length = na at *
  generalize S.o.funs.length = nf at *
  generalize S.o.preds.length = n at *
  generalize S.o.code.length = nc at *
  simp only [List.getElem?_toArray, List.getElem?_cons_zero, List.getElem?_cons_succ] at q0 q1 q2 q3
  have HW : Hid ((w.drew.cell? ⟨ab, 0, none⟩ = some (.slice AA na ca) ∧ w.drew.cell? ⟨ab, 1, none⟩ = some (.slice FA nf cf) ∧ w.drew.cell? ⟨ab, 2, none⟩ = some (.slice PA n cp) ∧ w.drew.cell? ⟨ab, 3, none⟩ = some (.slice CA nc cc))) := ⟨q0, q1, q2, q3⟩
  clear q0 q1 q2 q3
  obtain ⟨M, hM⟩ : ∃ M : Int, max (na : Int) (nf : Int) = M := ⟨_, rfl⟩
  have hM2 : (256 < na ∨ 256 < nf) ↔ (256 : Int) < M := by omega
  have HI : Hid ((decide (256 < na) || decide (256 < nf) || decide (64 < n) || decide (1024 < nc)) = (decide (256 < M) || (decide (64 < (n : Int)) || decide (1024 < (nc : Int))))) := Lib.hid (by rw [Bool.eq_iff_iff]; simp only [Bool.or_eq_true, decide_eq_true_eq]; omega)
  clear hM2
  cases d1 : decide (256 < M) <;> cases d2 : decide (64 < (n : Int)) <;> cases d3 : decide (1024 < (nc : Int)) <;>
    (rw [d1, d2, d3] at HI
     go_enter Tryz.func19, Tryz.ntmps19
     go_upto_region 1 with fail
     refine wp_region_tx (fun W' => (W'.cell? ⟨ab, 0, none⟩ = some (.slice AA na ca) ∧ W'.cell? ⟨ab, 1, none⟩ = some (.slice FA nf cf) ∧ W'.cell? ⟨ab, 2, none⟩ = some (.slice PA n cp) ∧ W'.cell? ⟨ab, 3, none⟩ = some (.slice CA nc cc))) [(0, true), (1, true), (2, true), (3, true), (4, true), (5, true), (6, true), (7, true), (8, true), (9, true), (10, true), (11, true), (12, true), (13, true), (14, true), (15, true), (16, true), (17, true), (18, true), (19, true), (20, true), (21, true), (22, true), (23, true), (24, true), (25, true), (26, true), (27, true), (28, true), (29, true), (30, true), (31, true), (32, true), (33, true), (34, false)] (by kernel_rfl) (by kernel_rfl) HW.out (fun hHeld => ?_)
     (repeat (first | (refine wpTx_take (v := ?_) rfl (by assumption) ?_ (by rfl) ?_; rotate_left; (focus (intro w' hSw; (try dsimp only at hSw); go_simp; (try with_reducible rfl); done)); simp only [Act.put, List.setIfInBounds_toArray, List.set_cons_zero, List.set_cons_succ]) | (refine wpTx_skip rfl (by assumption) (by rfl) ?_; simp only [Act.put, List.setIfInBounds_toArray, List.set_cons_zero, List.set_cons_succ])))
     refine wpTx_last rfl (fun K hK => ?_)
     go_simp
     refine hK.out _ _ (NoPanic.normal ?_); clear hK K; (try simp only [Act.put, List.setIfInBounds_toArray, List.set_cons_zero, List.set_cons_succ])
     clear hHeld
     go_wp2_with fail
     go_ret
     exact ⟨by rw [HI.out]; rfl, (Keeps.refl w []).drew⟩)
end Go.Proofs.YtpcihhdalofdiaaGreatDoor

/- An instruction comes: the program's instr. Printed by gen_asinstr.py. -/
namespace Go.Proofs.YtpcihhdalofdiaaGreatDoor
open Go.RowKit Go.Maps
attribute [local irreducible] numT kindsOf nameOf checkE fitsP operandP plainP labelP slashP namedT

/-- The operands' kinds with their words. -/
def zipW (op : Int) (ws : List Txt) : List (Nat × Txt) := ((kindsOf op).map Int.toNat).zip ws.tail
def bad17 (op : Int) (ws : List Txt) : Prop := op < 0 ∨ ws.length ≠ (kindsOf op).length + 1 ∨ ((zipW op ws).all fun x => fitsP op x.1 x.2) = false
theorem instr_bad {S : AS} {ws : List Txt} {w0 : Txt} {op : Int} {n : Nat} (h0 : ws.headD [] = w0) (h1 : namedT w0 = op) (hb : bad17 op ws) : instrP S ws n = (S, 17) := by
  unfold instrP
  rw [h0, h1]
  dsimp only
  rw [List.length_map]
  exact if_pos hb
theorem instr_ok {S : AS} {ws : List Txt} {w0 : Txt} {op : Int} {n : Nat} (h0 : ws.headD [] = w0) (h1 : namedT w0 = op) (hb : ¬ bad17 op ws) : instrP S ws n = ({ S with o := { (operandsP S.o.code.length n S.o 0 (zipW op ws)).1 with code := (operandsP S.o.code.length n S.o 0 (zipW op ws)).1.code ++ [insW op (operandsP S.o.code.length n S.o 0 (zipW op ws)).2.1] }, uses := S.uses ++ (operandsP S.o.code.length n S.o 0 (zipW op ws)).2.2 }, 0) := by
  unfold instrP
  rw [h0, h1]
  dsimp only
  rw [List.length_map]
  exact if_neg hb
theorem zipW_at {op : Int} {ws : List ByteArray} {j q : Nat} {x : ByteArray} (hk : (kindsOf op)[j]? = some (q : Int)) (hx : ws[j + 1]? = some x) : (zipW op (ws.map (·.data.toList)))[j]? = some (q, x.data.toList) := by
  unfold zipW
  refine zip_at ?_ ?_
  · rw [List.getElem?_map, hk]
    rfl
  · rw [List.getElem?_tail, List.getElem?_map, hx]
    rfl
theorem zipW_len {op : Int} {ws : List ByteArray} {m : Nat} (hm : (kindsOf op).length = m) (hn : ws.length = m + 1) : (zipW op (ws.map (·.data.toList))).length = m := by
  unfold zipW
  rw [List.length_zip, List.length_map, List.length_tail, List.length_map]
  omega
theorem operandsP_uses (n at_ : Nat) : ∀ (l : List (Nat × Txt)) (o : LObj) (j : Nat), (operandsP n at_ o j l).2.2.length ≤ l.length
  | [], _, _ => Nat.le_refl _
  | (k, w) :: l, o, j => by
    have h := operandsP_uses n at_ l (operandP o k w).1 (j + 1)
    rw [operandsP]
    simp only [List.length_append, List.length_cons]
    split <;> simp <;> omega
theorem insC6_last (op v : Int) (l : List Int) (j : Nat) (hl : l.length = j) (hj : j < 4) : (insC6 op (l ++ [v]))[1 + j]? = some (.int .i64 v) := by
  subst hl
  match l, hj with
  | [], _ => rfl
  | [a], _ => rfl
  | [a, b], _ => rfl
  | [a, b, c], _ => rfl
/-- The state while the operands are read. -/
structure IRun (w0 w4 : World) (ab nl : Nat) (L : List Nat) (S : AS) (wr : World) (ib : Nat) (op : Int) (q : LObj × List Int × List (Nat × Nat × Nat)) : Prop where
  ex : ∃ L', As w0 wr ab L' nl { S with o := q.1, uses := S.uses ++ q.2.2 } ∧ ∀ b ∈ L', b ∈ L ∨ w4.heap.size ≤ b
  ins : Blk wr ib 79 (insC6 op q.2.1)
  keep : Keeps w4 wr (ib :: L)
theorem keeps_drop {w w4 wr : World} {L : List Nat} {ib : Nat} (h : Keeps w w4 []) (k : Keeps w4 wr (ib :: L)) (hi : w.heap.size ≤ ib) : Keeps w wr L :=
  ⟨k.os.trans h.os, k.tape.trans h.tape, k.output.trans h.output, Nat.le_trans h.size k.size, fun i hi' hn => (k.block i (Nat.lt_of_lt_of_le hi' h.size) (fun hm => by
    rcases List.mem_cons.1 hm with rfl | hm
    · omega
    · exact hn hm)).trans (h.block i hi' (by simp))⟩
/-- What the tables may have. -/
structure Few (S : AS) : Prop where
  atoms : S.o.atoms.length ≤ 60000
  funs : S.o.funs.length ≤ 60000
  preds : S.o.preds.length ≤ 60000
  code : S.o.code.length ≤ 60000
  uses : S.uses.length ≤ 1000000
  begins : S.begins.length ≤ 1000000
set_option maxRecDepth 100000 in
set_option maxHeartbeats 6400000 in
theorem instrA_any {w0 w : World} {ab nl : Nat} {L : List Nat} {S : AS} (hA : As w0 w ab L nl S) (hfew : Few S) (g c n : Nat) (ws : List ByteArray) (hn : ws.length = n) (hn0 : 0 < n) (hn9 : n ≤ 4294967280) (hW : Blk w g 9 (ws.map Value.string).toArray) (hg : g ∉ L) (hsz : ∀ x ∈ ws, x.size ≤ 4294967000) (line : Nat) :
    Calls Tryz.prog 50 #[.pointer (some ⟨ab, 0, none⟩), .slice (some ⟨g, 0, none⟩) n c, .int .i64 line] w (LnDone w0 w ab nl L (instrP S (ws.map (·.data.toList)) line)) := by
  have HAs := Lib.hid hA
  have HFew := Lib.hid hfew
  have HW := Lib.hid hW
  have HSz := Lib.hid hsz
  have HLn := Lib.hid hn
  obtain ⟨x0, hx0⟩ : ∃ x0, ws[0]? = some x0 := ⟨ws[0]'(by omega), List.getElem?_eq_getElem _⟩
  have h0 : (ws.map (·.data.toList)).headD [] = x0.data.toList := by
    cases ws with
    | nil => simp at hx0
    | cons y r => simp at hx0; subst hx0; rfl
  obtain ⟨op, hop⟩ : ∃ op, namedT x0.data.toList = op := ⟨_, rfl⟩
  have HBad := Lib.hid (@instr_bad S _ _ op line h0 hop)
  have HOk := Lib.hid (@instr_ok S _ _ op line h0 hop)
  have HNm := Lib.hid (named6_any x0 w)
  rw [hop] at HNm
  have c0 := hW.cell 0
  simp only [List.getElem?_toArray, List.getElem?_map, hx0, Option.map_some] at c0
  have HG := Lib.hid hg
  have b00 : (0 : Int) < (n : Int) := by omega
  clear hop h0 hx0 hA hfew hW hsz hn hg
  go_enter Tryz.func50, Tryz.ntmps50
  go_wp2_with fail
  refine HNm.out.mono ?_
  rintro e w1 ⟨rfl, k1⟩
  have HK1 := Lib.hid k1
  clear k1 c0 HNm
  go_wp2_with fail
  refine (kindsF_any op _).mono ?_
  rintro e w2 ⟨A, ck, rfl, hN, k2, hfr⟩
  have HK2 := Lib.hid (HK1.out.trans k2)
  have HN := Lib.hid hN
  have HFR : Hid (∀ b off, A = some ⟨b, off, none⟩ → w.heap.size ≤ b) := fun b off h => Nat.le_trans HK1.out.size (hfr b off h)
  obtain ⟨m, hm⟩ : ∃ m, (kindsOf op).length = m := ⟨_, rfl⟩
  have hm4 := kinds_few op
  rw [hm] at hm4 ⊢
  have HM := Lib.hid hm
  clear hN k2 hfr hm HK1
  by_cases hop : op < 0
  · have HV := Lib.hid (HBad.out (.inl hop))
    go_wp2_with fail
    go_ret
    exact ⟨by rw [HV.out]; rfl, L, S, HAs.out.keep0 HK2.out, ASt.of_keeps HK2.out L, fun h0 => by rw [HV.out] at h0; cases h0⟩
  have d0 : decide (op < 0) = false := decide_eq_false hop
  by_cases hnm : n = m + 1
  case neg =>
    have HV := Lib.hid (HBad.out (.inr (.inl (by rw [List.length_map, HLn.out, HM.out]; exact hnm))))
    have d1 : ((n : Int) == (m : Int) + 1) = false := by rw [beq_eq_false_iff_ne]; omega
    have d2 : ((n : Int) != (m : Int) + 1) = true := by rw [bne_iff_ne]; omega
    clear hnm hop
    go_wp2_with fail
    go_ret
    exact ⟨by rw [HV.out]; rfl, L, S, HAs.out.keep0 HK2.out, ASt.of_keeps HK2.out L, fun h0 => by rw [HV.out] at h0; cases h0⟩
  have d1 : ((n : Int) == (m : Int) + 1) = true := by rw [beq_iff_eq]; omega
  have d2 : ((n : Int) != (m : Int) + 1) = false := by rw [bne_eq_false_iff_eq]; omega
  have HZl := Lib.hid (zipW_len HM.out (HLn.out.trans hnm))
  have HW2 := Lib.hid (HW.out.keep HK2.out (by simp))
  have HNm := Lib.hid hnm
  clear hnm
  go_wp2_with fail
  go_loopw [9, 10, 32] (fun v9 v10 i wr => ∃ j : Nat, j ≤ m ∧ i = .int .i64 j ∧ Hid (((zipW op (ws.map (·.data.toList))).take j).all (fun x => fitsP op x.1 x.2) = true) ∧ Keeps w2 wr []) (fun _ _ i _ => m - (intOf i).toNat)
  case atStart => exact ⟨0, Nat.zero_le _, rfl, rfl, Keeps.refl _ _⟩
  case round =>
    obtain ⟨j, hj, rfl, HAll, kr⟩ := hrel
    have HKr := Lib.hid kr
    clear kr
    by_cases hlj : j < m
    · obtain ⟨b7, off7, y, hA7, hb7, hc7, hy⟩ := HN.out j (by rw [HM.out]; exact hlj)
      subst hA7
      have hx1 := kinds_mem op y (List.mem_of_getElem? hy)
      obtain ⟨q, rfl⟩ := Int.eq_ofNat_of_zero_le (show 0 ≤ y by omega)
      obtain ⟨x, hx⟩ : ∃ x, ws[j + 1]? = some x := ⟨ws[j + 1]'(by have := HLn.out; have := HNm.out; omega), List.getElem?_eq_getElem _⟩
      have HZ := Lib.hid (zipW_at hy hx)
      have q1 := (HKr.out.cell (p := ⟨b7, off7 + j, none⟩) hb7 (by simp)).trans hc7
      have c9 := (HW2.out.keep HKr.out (by simp)).cell (j + 1)
      simp only [List.getElem?_toArray, List.getElem?_map, hx, Option.map_some] at c9
      have HF := Lib.hid (fits9_any op q (by omega) x (HSz.out x (List.mem_of_getElem? hx)) wr (HAs.out.st_.keep (HK2.out.trans HKr.out)))
      have b1 : (j : Int) < (m : Int) := by omega
      have b0 : (0 : Int) ≤ (j : Int) := Int.natCast_nonneg _
      have b5 : (j : Int) + 1 < (n : Int) := by have := HNm.out; omega
      have b6 : (0 : Int) ≤ (j : Int) + 1 := by omega
      clear hy hc7 hx hx1
      cases hfit : fitsP op q x.data.toList with
      | false =>
        rw [hfit] at HF
        have HV := Lib.hid (HBad.out (.inr (.inr (all_noA HZ.out hfit))))
        clear hfit
        go_wp2_with fail
        refine HF.out.mono ?_
        rintro e w3 ⟨rfl, k3⟩
        go_wp2_with fail
        go_ret
        exact ⟨by rw [HV.out]; rfl, L, S, HAs.out.keep0 ((HK2.out.trans HKr.out).trans k3), ASt.of_keeps ((HK2.out.trans HKr.out).trans k3) L, fun h0 => by rw [HV.out] at h0; cases h0⟩
      | true =>
        rw [hfit] at HF
        have HAll2 : Hid (((zipW op (ws.map (·.data.toList))).take (j + 1)).all (fun x => fitsP op x.1 x.2) = true) := all_take HZ.out HAll.out hfit
        clear hfit
        go_wp2_with fail
        refine HF.out.mono ?_
        rintro e w3 ⟨rfl, k3⟩
        go_wp2_with fail
        go_roundw
        case rel => exact ⟨j + 1, by omega, by go_num, HAll2, HKr.out.trans k3⟩
        case measure => simp [intOf]; omega
    · obtain rfl : m = j := by omega
      obtain ⟨w3, hw3⟩ : ∃ w3, w3 = wr := ⟨wr, rfl⟩
      subst hw3
      have hall : ((zipW op (ws.map (·.data.toList))).all fun x => fitsP op x.1 x.2) = true := by
        have := HAll.out
        rwa [List.take_of_length_le (by rw [HZl.out]; omega)] at this
      have HAT := Lib.hid hall
      have HV := Lib.hid (HOk.out (fun h => by
        rcases h with h | h | h
        · omega
        · rw [List.length_map, HLn.out, HM.out, HNm.out] at h; exact h rfl
        · rw [hall] at h; cases h))
      have hmk := make6_any op none 0 [] w3 Nums.nil
      rw [show insV (insW op []) = .agg #[.int .i64 op, .int .i64 0, .int .i64 0, .int .i64 0, .int .i64 0] from rfl] at hmk
      have HMk := Lib.hid hmk
      have HK3 := Lib.hid (HK2.out.trans HKr.out)
      clear hall hmk HAll hlj hj HBad HOk
      go_wp2_with fail
      refine HMk.out.mono ?_
      rintro e w4 ⟨rfl, k4⟩
      have HK24 := Lib.hid ((HKr.out.trans k4).alloc (.cells #[.int .i64 op, .int .i64 0, .int .i64 0, .int .i64 0, .int .i64 0] 79))
      have HK4 := Lib.hid ((HK3.out.trans k4).alloc (.cells #[.int .i64 op, .int .i64 0, .int .i64 0, .int .i64 0, .int .i64 0] 79))
      have HIb : Hid (Blk (w4.alloc (.cells #[.int .i64 op, .int .i64 0, .int .i64 0, .int .i64 0, .int .i64 0] 79)) w4.heap.size 79 (insC6 op [])) := Blk.new _ _ _
      have HIg : Hid (w.heap.size ≤ w4.heap.size ∧ w2.heap.size ≤ w4.heap.size) := ⟨(HK3.out.trans k4).size, (HKr.out.trans k4).size⟩
      generalize hib : w4.heap.size = ib at *
      obtain ⟨nc, hnc⟩ : ∃ nc, S.o.code.length = nc := ⟨_, rfl⟩
      have HNc := Lib.hid hnc
      rw [hnc] at HV
      obtain ⟨Q, hQ⟩ : ∃ Q : Nat → LObj × List Int × List (Nat × Nat × Nat), ∀ j, Q j = operandsP nc line S.o 0 ((zipW op (ws.map (·.data.toList))).take j) := ⟨fun j => _, fun j => rfl⟩
      have HQ := Lib.hid hQ
      have HQm : Hid (operandsP nc line S.o 0 (zipW op (ws.map (·.data.toList))) = Q m) := Lib.hid (by rw [hQ, List.take_of_length_le (by rw [HZl.out]; omega)])
      rw [HQm.out] at HV
      have HGr : Hid (∀ j, j ≤ m → Grows S.o (Q j).1 4 ∧ (Q j).2.1.length = j ∧ (Q j).2.2.length ≤ j) := fun j hj => by
        rw [HQ.out]
        have hl : ((zipW op (ws.map (·.data.toList))).take j).length = j := by rw [List.length_take, HZl.out]; omega
        have h1 := operandsP_grows nc line ((zipW op (ws.map (·.data.toList))).take j) S.o 0
        rw [hl] at h1
        have h2 := operandsP_len nc line ((zipW op (ws.map (·.data.toList))).take j) S.o 0
        have h3 := operandsP_uses nc line ((zipW op (ws.map (·.data.toList))).take j) S.o 0
        have a1 := h1.atoms
        have a2 := h1.funs
        have a3 := h1.preds
        exact ⟨⟨by omega, by omega, by omega, h1.code⟩, by rw [h2, hl], by rw [hl] at h3; exact h3⟩
      have H0 : Hid (IRun w0 (w4.alloc (.cells #[.int .i64 op, .int .i64 0, .int .i64 0, .int .i64 0, .int .i64 0] 79)) ab nl L S (w4.alloc (.cells #[.int .i64 op, .int .i64 0, .int .i64 0, .int .i64 0, .int .i64 0] 79)) ib op (Q 0)) := by
        have e0 : Q 0 = (S.o, [], []) := by rw [HQ.out, List.take_zero]; rfl
        rw [e0]
        refine ⟨⟨L, ?_, fun b hb => .inl hb⟩, HIb.out, Keeps.refl _ _⟩
        have := HAs.out.keep0 HK4.out
        rw [List.append_nil]
        exact this
      clear hnc hQ k4 HIb HMk
      go_wp2_with fail
      have HIlt : Hid (ib < (w4.alloc (.cells #[.int .i64 op, .int .i64 0, .int .i64 0, .int .i64 0, .int .i64 0] 79)).heap.size) := Lib.hid (by rw [World.size_alloc]; omega)
      generalize w4.alloc (.cells #[.int .i64 op, .int .i64 0, .int .i64 0, .int .i64 0, .int .i64 0] 79) = w5 at *
      clear hib w4
      go_loopw [12, 13, 51] (fun v12 v13 i wr => ∃ j : Nat, j ≤ m ∧ i = .int .i64 j ∧ IRun w0 w5 ab nl L S wr ib op (Q j)) (fun _ _ i _ => m - (intOf i).toNat)
      case atStart => exact ⟨0, Nat.zero_le _, rfl, H0.out⟩
      case round =>
        clear H0
        obtain ⟨j, hj, rfl, hrun⟩ := hrel
        have HR := Lib.hid hrun
        by_cases hlj : j < m
        · obtain ⟨b7, off7, y, hA7, hb7, hc7, hy⟩ := HN.out j (by rw [HM.out]; exact hlj)
          subst hA7
          have hx1 := kinds_mem op y (List.mem_of_getElem? hy)
          obtain ⟨q, rfl⟩ := Int.eq_ofNat_of_zero_le (show 0 ≤ y by omega)
          obtain ⟨x, hx⟩ : ∃ x, ws[j + 1]? = some x := ⟨ws[j + 1]'(by have := HLn.out; have := HNm.out; omega), List.getElem?_eq_getElem _⟩
          have hz := zipW_at hy hx
          have hf7 := HFR.out b7 off7 rfl
          have q1 := (HR.out.keep.cell (p := ⟨b7, off7 + j, none⟩) (Nat.lt_of_lt_of_le hb7 HK24.out.size) (fun hm => by
            rcases List.mem_cons.1 hm with h1 | h1
            · have := HIg.out.2
              simp only at h1 hb7
              omega
            · have := (HAs.out.lt _ h1).2
              simp only at this
              omega)).trans ((HK24.out.cell (p := ⟨b7, off7 + j, none⟩) hb7 (by simp)).trans hc7)
          have c9 := ((HW2.out.keep HK24.out (by simp)).keep HR.out.keep (fun hm => by
            rcases List.mem_cons.1 hm with h1 | h1
            · have := HW.out.lt
              have := HIg.out.1
              omega
            · exact HG.out h1)).cell (j + 1)
          simp only [List.getElem?_toArray, List.getElem?_map, hx, Option.map_some] at c9
          have hfit : fitsP op q x.data.toList = true := by
            have := List.all_eq_true.1 HAT.out _ (List.mem_of_getElem? hz)
            exact this
          have HSn : Hid (Q (j + 1) = ((operandP (Q j).1 q x.data.toList).1, (Q j).2.1 ++ [(operandP (Q j).1 q x.data.toList).2], (Q j).2.2 ++ (if q = 8 ∧ (operandP (Q j).1 q x.data.toList).2 ≠ 65535 then [(nc, j, line)] else []))) := Lib.hid (by
            rw [HQ.out, take_snocA hz, operandsP_snoc, ← HQ.out, List.length_take, HZl.out, Nat.zero_add, Nat.min_eq_left hj])
          obtain ⟨Lr, hAr, hown⟩ := hrun.ex
          have hgr := (HGr.out j hj).1
          have hga := hgr.atoms
          have hgf := hgr.funs
          have hgp := hgr.preds
          have hfe := HFew.out
          have hfa := hfe.atoms
          have hff := hfe.funs
          have hfp := hfe.preds
          have hfc := hfe.code
          have hgl := (HGr.out j hj).2.1
          have HOp := Lib.hid (operandA_any hAr op q (by omega) x (HSz.out x (List.mem_of_getElem? hx)) ⟨by simp only; omega, by simp only; omega, by simp only; omega, by simp only; rw [hgr.code]; omega⟩ ⟨by simp only; omega, by simp only; omega, by simp only; omega⟩ hfit)
          have HIbn : Hid (ib ∉ Lr) := fun hm => by
            rcases hown ib hm with h1 | h1
            · have := (HAs.out.lt _ h1).2
              have := HIg.out.1
              omega
            · have := HIlt.out
              omega
          have HOwn := Lib.hid hown
          have HBase : Hid (w0.heap.size ≤ ib) := Lib.hid (by
            have h1 := HAs.out.bel.size
            have h2 := HIg.out.1
            omega)
          have b1 : (j : Int) < (m : Int) := by omega
          have b0 : (0 : Int) ≤ (j : Int) := Int.natCast_nonneg _
          have b4 : (j : Int) < 4 := by omega
          have b5 : (j : Int) + 1 < (n : Int) := by have := HNm.out; omega
          have b6 : (0 : Int) ≤ (j : Int) + 1 := by omega
          have HLe := Lib.hid hgl
          have HCode : Hid ((operandP (Q j).1 q x.data.toList).1.code.length = nc) := Lib.hid (by rw [operandP_code, hgr.code, HNc.out])
          have HUl : Hid ((Q j).2.2.length ≤ 4) := Lib.hid (by have := (HGr.out j hj).2.2; omega)
          clear hrun hy hc7 hx hz hfit hAr hown hgr hga hgf hgp hfe hfa hff hfp hfc hgl hf7
          generalize operandP (Q j).1 q x.data.toList = r at *
          obtain ⟨r1, v⟩ := r
          unfold OpDone at HOp
          dsimp only at HOp HSn HCode
          go_wp2_with fail
          refine HOp.out.mono ?_
          rintro e w6 ⟨rfl, L6, hA6, hs6⟩
          have hi6 := HR.out.ins.keep hs6.keep HIbn.out
          have hib6 : ib ∉ L6 := fun hm => by
            rcases hs6.own ib hm with h1 | h1
            · exact HIbn.out h1
            · have := HR.out.ins.lt
              omega
          have f6 := hi6.frozen (1 + j)
          have c6 : World.cell? _ ⟨ib, 1 + j, none⟩ = (insC6 op (Q j).2.1)[1 + j]? := hi6.cell (1 + j)
          obtain ⟨u6, hu6⟩ := insC6_at op (Q j).2.1 j (by omega)
          rw [hu6] at c6
          have hi7 := hi6.set_ (1 + j) (.int .i64 v)
          rw [insC6_set op v (Q j).2.1 j HLe.out (by omega)] at hi7
          have k67 : Keeps w6 (w6.setCell ⟨ib, 1 + j, none⟩ (.int .i64 v)) [ib] := (Keeps.refl w6 [ib]).setCell (.inl (by simp)) _
          have hA7 := hA6.keep k67 (by simp only [List.mem_cons, List.not_mem_nil, or_false]; rintro _ rfl; exact ⟨hib6, HBase.out⟩)
          have HA7 := Lib.hid hA7
          have HI7 := Lib.hid hi7
          have HIb6 := Lib.hid hib6
          have HK7 : Hid (Keeps w5 (w6.setCell ⟨ib, 1 + j, none⟩ (.int .i64 v)) (ib :: L)) := by
            have h1 : Keeps wr w6 (ib :: L ++ Lr) := hs6.keep.more (fun b _ hb => by simp [hb])
            have h2 : Keeps w5 w6 (ib :: L) := ⟨h1.os.trans HR.out.keep.os, h1.tape.trans HR.out.keep.tape, h1.output.trans HR.out.keep.output, Nat.le_trans HR.out.keep.size h1.size, fun b hb hn' => (hs6.keep.block b (Nat.lt_of_lt_of_le hb HR.out.keep.size) (fun hm => by
              rcases HOwn.out b hm with h3 | h3
              · exact hn' (by simp [h3])
              · omega)).trans (HR.out.keep.block b hb hn')⟩
            exact h2.setCell (.inl (by simp)) _
          have HO7 : Hid (∀ b ∈ L6, b ∈ L ∨ w5.heap.size ≤ b) := fun b hb => by
            rcases hs6.own b hb with h1 | h1
            · exact HOwn.out b h1
            · exact .inr (Nat.le_trans HR.out.keep.size h1)
          have y6 : World.cell? (w6.setCell ⟨ib, 1 + j, none⟩ (.int .i64 v)) ⟨ib, 1 + j, none⟩ = some (.int .i64 v) := by
            have h1 := hi7.cell (1 + j)
            rw [show (insC6 op ((Q j).2.1 ++ [v]))[1 + j]? = some (.int .i64 v) from insC6_last op v _ j HLe.out (by omega)] at h1
            exact h1
          clear hi6 hu6 k67 hA7 hA6 hs6 hi7 hib6 HOp HR
          by_cases hq : q = 8
          case neg =>
            have d8 : ((q : Int) == 8) = false := by rw [beq_eq_false_iff_ne]; omega
            have HS2 : Hid (Q (j + 1) = (r1, (Q j).2.1 ++ [v], (Q j).2.2)) := Lib.hid (by rw [HSn.out, if_neg (by rintro ⟨h1, h2⟩; exact hq h1), List.append_nil])
            clear HSn
            go_wp2_with fail
            go_roundw
            case rel =>
              refine ⟨j + 1, by omega, by go_num, ?_⟩
              rw [HS2.out]
              exact ⟨⟨L6, HA7.out, HO7.out⟩, HI7.out, HK7.out⟩
            case measure => simp [intOf]; omega
          have d8 : ((q : Int) == 8) = true := by rw [beq_iff_eq]; omega
          by_cases hv : v = 65535
          · have d9 : (v == 65535) = true := by simpa using hv
            have d10 : (v != 65535) = false := by simpa using hv
            have HS2 : Hid (Q (j + 1) = (r1, (Q j).2.1 ++ [v], (Q j).2.2)) := Lib.hid (by rw [HSn.out, if_neg (by rintro ⟨h1, h2⟩; exact h2 hv), List.append_nil])
            clear HSn hv
            go_wp2_with fail
            go_roundw
            case rel =>
              refine ⟨j + 1, by omega, by go_num, ?_⟩
              rw [HS2.out]
              exact ⟨⟨L6, HA7.out, HO7.out⟩, HI7.out, HK7.out⟩
            case measure => simp [intOf]; omega
          · have d9 : (v == 65535) = false := by simpa using hv
            have d10 : (v != 65535) = true := by simpa using hv
            have HS2 : Hid (Q (j + 1) = (r1, (Q j).2.1 ++ [v], (Q j).2.2 ++ [(nc, j, line)])) := Lib.hid (by rw [HSn.out, if_pos ⟨hq, hv⟩])
            clear HSn hv hq
            go_upto_region 17 with fail
            generalize w6.setCell ⟨ib, 1 + j, none⟩ (.int .i64 v) = w7 at *
            clear y6
            obtain ⟨vb, AA, FA, PA, CA, UA, BA, ca, cf, cp, cc, cu, cb, hm7, hL7, hlt7⟩ := HA7.out
            have HM7 := Lib.hid hm7
            have HL7 := Lib.hid hL7
            have HLt7 := Lib.hid hlt7
            clear hm7 hL7 hlt7
            obtain ⟨nu, hnu⟩ : ∃ nu, (S.uses ++ (Q j).2.2).length = nu := ⟨_, rfl⟩
            have HNu := Lib.hid hnu
            have HNu2 : Hid (nu ≤ 1000004) := Lib.hid (by rw [← hnu, List.length_append]; have := HFew.out.uses; have := HUl.out; omega)
            clear hnu
            have HO5 : Hid (w7.ownsRow w0.heap.size 105 3 (.slice UA nu cu) nu ((S.uses ++ (Q j).2.2).flatMap useE)) := Lib.hid (by have := HM7.out.uses; simp only at this; rw [HNu.out] at this; exact this)
            have HF8 : Hid (∀ W, Keeps w7 W [] → (W.cell? ⟨ab, 5, none⟩ = some (.slice UA nu cu) ∧ W.cell? ⟨ab, 3, none⟩ = some (.slice CA nc cc)) ∧ W.frozen? ⟨ab, 5, none⟩ = false) := fun W kk => by
              have b := HM7.out.blk.keep kk (by simp)
              have q5 := b.cell 5
              have q3 := b.cell 3
              simp only [List.getElem?_toArray, List.getElem?_cons_zero, List.getElem?_cons_succ, HNu.out, HCode.out] at q5 q3
              exact ⟨⟨q5, q3⟩, b.frozen 5⟩
            refine wp_region_tx (fun W' => (W'.cell? ⟨ab, 5, none⟩ = some (.slice UA nu cu) ∧ W'.cell? ⟨ab, 3, none⟩ = some (.slice CA nc cc)) ∧ W'.frozen? ⟨ab, 5, none⟩ = false) [(0, true), (1, true), (2, true), (3, true), (4, true), (5, true), (6, true), (7, true), (8, true), (9, true), (10, true), (11, true), (12, true), (13, true), (14, false), (15, false), (16, true), (17, true), (18, false)] (by kernel_rfl) (by kernel_rfl) (HF8.out _ (Keeps.refl _ _).drew) (fun hHeld => ?_)
            (repeat (first | (refine wpTx_take (v := ?_) rfl (by assumption) ?_ (by rfl) ?_; rotate_left; (focus (intro w' hSw; (try dsimp only at hSw); go_simp; (try with_reducible rfl); done)); simp only [Act.put, List.setIfInBounds_toArray, List.set_cons_zero, List.set_cons_succ]) | (refine wpTx_skip rfl (by assumption) (by rfl) ?_; simp only [Act.put, List.setIfInBounds_toArray, List.set_cons_zero, List.set_cons_succ])))
            refine wpTx_go rfl (fun K hK => ?_)
            go_simp
            refine hK.out _ _ ?_ ?_
            · exact HF8.out _ ((Keeps.refl _ _).drew.alloc _)
            (clear hHeld; intro hHeld; clear hK K; (try simp only [Act.put, List.setIfInBounds_toArray, List.set_cons_zero, List.set_cons_succ]))
            refine wpTx_go rfl (fun K hK => ?_)
            have K5 : Keeps w7 (w7.drew.alloc (.cells #[.int .i64 nc, .int .i64 j, .int .i64 line] 105)) [] := (Keeps.refl w7 []).drew.alloc _
            refine step_app _ el_useA (by rfl) _ _ (by rfl) w0.heap.size UA nu cu ((S.uses ++ (Q j).2.2).flatMap useE) (by rfl) (own_keep0 HO5.out K5) (some ⟨w7.heap.size, 0, none⟩) 1 1 (useE (nc, j, line)) (by rfl) (Rd.one w7.drew _ (useE (nc, j, line))) rfl (by simp) (by simp [useE, Value.oneCell']) (by have := HNu2.out; omega) (Nat.le_trans HM7.out.bel.size K5.size) ?_
            intro A' c' w8 hown hgrow hat
            have HAp := Lib.hid (app_factsA K5 hown hgrow hat)
            have hB8 := HM7.out.blk.grownA K5 hgrow (own_outA HM7.out.uses HM7.out.blk (by decide))
            have q5 := hB8.cell 5
            have q3 := hB8.cell 3
            simp only [List.getElem?_toArray, List.getElem?_cons_zero, List.getElem?_cons_succ, HNu.out, HCode.out] at q5 q3
            have HB8 := Lib.hid (And.intro (And.intro q5 q3) (hB8.frozen 5))
            clear hown hgrow hat K5 hB8 q5 q3
            refine hK.out _ _ ?_ ?_
            · exact HB8.out
            (clear hHeld; intro hHeld; clear hK K; (try simp only [Act.put, List.setIfInBounds_toArray, List.set_cons_zero, List.set_cons_succ]))
            (repeat (first | (refine wpTx_take (v := ?_) rfl (by assumption) ?_ (by rfl) ?_; rotate_left; (focus (intro w' hSw; (try dsimp only at hSw); go_simp; (try with_reducible rfl); done)); simp only [Act.put, List.setIfInBounds_toArray, List.set_cons_zero, List.set_cons_succ]) | (refine wpTx_skip rfl (by assumption) (by rfl) ?_; simp only [Act.put, List.setIfInBounds_toArray, List.set_cons_zero, List.set_cons_succ])))
            refine wpTx_last rfl (fun K hK => ?_)
            go_simp
            refine hK.out _ _ (NoPanic.normal ?_); clear hK K; (try simp only [Act.put, List.setIfInBounds_toArray, List.set_cons_zero, List.set_cons_succ])
            clear hHeld
            obtain ⟨a1, a2, a3⟩ := HAp.out
            have hlen : ((S.uses ++ (Q j).2.2) ++ [(nc, j, line)]).length = nu + 1 := by rw [List.length_append, HNu.out]; rfl
            obtain ⟨L', g1, g2⟩ := HM7.out.uses_pack HL7.out HLt7.out a2 (A' := A') (c' := c') (l' := (S.uses ++ (Q j).2.2) ++ [(nc, j, line)]) (by rw [hlen, List.flatMap_append]; simpa using a1) a3
            rw [hlen] at g1 g2
            rw [List.append_assoc] at g1
            have HG1 := Lib.hid g1
            have HI8 := Lib.hid (g2.blk HI7.out HIb6.out).1
            have HO8 : Hid (∀ b ∈ L', b ∈ L ∨ w5.heap.size ≤ b) := fun b hb => by
              rcases g2.own b hb with h1 | h1
              · exact HO7.out b h1
              · exact .inr (Nat.le_trans HK7.out.size h1)
            have HK8 : Hid (Keeps w5 (w8.setCell ⟨ab, 5, none⟩ (.slice A' (nu + 1) c')) (ib :: L)) := ⟨g2.keep.os.trans HK7.out.os, g2.keep.tape.trans HK7.out.tape, g2.keep.output.trans HK7.out.output, Nat.le_trans HK7.out.size g2.keep.size, fun b hb hn' => (g2.keep.block b (Nat.lt_of_lt_of_le hb HK7.out.size) (fun hm => by
              rcases HO7.out b hm with h3 | h3
              · exact hn' (by simp [h3])
              · omega)).trans (HK7.out.block b hb hn')⟩
            clear a1 a2 a3 hlen g1 g2
            generalize w8.setCell ⟨ab, 5, none⟩ (.slice A' (nu + 1) c') = w9 at *
            go_wp2_with fail
            go_roundw
            case rel =>
              refine ⟨j + 1, by omega, by go_num, ?_⟩
              rw [HS2.out]
              exact ⟨⟨L', HG1.out, HO8.out⟩, HI8.out, HK8.out⟩
            case measure => simp [intOf]; omega
        · obtain rfl : m = j := by omega
          obtain ⟨w6, hw6⟩ : ∃ w6, w6 = wr := ⟨wr, rfl⟩
          subst hw6
          obtain ⟨Lr, hAr, hown⟩ := HR.out.ex
          have HOwn := Lib.hid hown
          have HIbn : Hid (ib ∉ Lr) := fun hm => by
            rcases hown ib hm with h1 | h1
            · have := (HAs.out.lt _ h1).2
              have := HIg.out.1
              omega
            · have := HIlt.out
              omega
          obtain ⟨vb, AA, FA, PA, CA, UA, BA, ca, cf, cp, cc, cu, cb, hm7, hL7, hlt7⟩ := hAr
          have HM7 := Lib.hid hm7
          have HL7 := Lib.hid hL7
          have HLt7 := Lib.hid hlt7
          clear hm7 hL7 hlt7 hown hrun
          have hcode : (Q m).1.code.length = nc := by rw [(HGr.out m (Nat.le_refl _)).1.code, HNc.out]
          have HCd := Lib.hid hcode
          have HNc2 : Hid (nc ≤ 60000) := Lib.hid (by rw [← HNc.out]; exact HFew.out.code)
          obtain ⟨a0, a1, a2, a3, hC⟩ : ∃ a0 a1 a2 a3 : Int, insW op (Q m).2.1 = ⟨op, a0, a1, a2, a3⟩ := ⟨_, _, _, _, rfl⟩
          have hC2 : insC6 op (Q m).2.1 = #[.int .i64 op, .int .i64 a0, .int .i64 a1, .int .i64 a2, .int .i64 a3] := by
            have h1 : insC6 op (Q m).2.1 = #[.int .i64 (insW op (Q m).2.1).op, .int .i64 (insW op (Q m).2.1).a0, .int .i64 (insW op (Q m).2.1).a1, .int .i64 (insW op (Q m).2.1).a2, .int .i64 (insW op (Q m).2.1).a3] := rfl
            rw [h1, hC]
          have hI := HR.out.ins
          rw [hC2] at hI
          have HI := Lib.hid hI
          have HKf := Lib.hid HR.out.keep
          have HC := Lib.hid hC
          have HO5 : Hid (w6.ownsRow w0.heap.size 79 5 (.slice CA nc cc) nc ((Q m).1.code.flatMap insE)) := Lib.hid (by have := HM7.out.code; simp only at this; rw [hcode] at this; exact this)
          have HF8 : Hid (∀ W, Keeps w6 W [] → (W.cell? ⟨ab, 3, none⟩ = some (.slice CA nc cc) ∧ W.cell? ⟨ib, 0, none⟩ = some (.int .i64 op) ∧ W.cell? ⟨ib, 1, none⟩ = some (.int .i64 a0) ∧ W.cell? ⟨ib, 2, none⟩ = some (.int .i64 a1) ∧ W.cell? ⟨ib, 3, none⟩ = some (.int .i64 a2) ∧ W.cell? ⟨ib, 4, none⟩ = some (.int .i64 a3)) ∧ W.frozen? ⟨ab, 3, none⟩ = false) := fun W kk => by
            have b := HM7.out.blk.keep kk (by simp)
            have q3 := b.cell 3
            simp only [List.getElem?_toArray, List.getElem?_cons_zero, List.getElem?_cons_succ, HCd.out] at q3
            have bi := HI.out.keep kk (by simp)
            exact ⟨⟨q3, bi.cell 0, bi.cell 1, bi.cell 2, bi.cell 3, bi.cell 4⟩, b.frozen 3⟩
          clear hC hC2 hI HR hcode hj hlj
          go_upto_region 19 with fail
          refine wp_region_tx (fun W' => (W'.cell? ⟨ab, 3, none⟩ = some (.slice CA nc cc) ∧ W'.cell? ⟨ib, 0, none⟩ = some (.int .i64 op) ∧ W'.cell? ⟨ib, 1, none⟩ = some (.int .i64 a0) ∧ W'.cell? ⟨ib, 2, none⟩ = some (.int .i64 a1) ∧ W'.cell? ⟨ib, 3, none⟩ = some (.int .i64 a2) ∧ W'.cell? ⟨ib, 4, none⟩ = some (.int .i64 a3)) ∧ W'.frozen? ⟨ab, 3, none⟩ = false) [(0, true), (1, true), (2, true), (3, true), (4, true), (5, true), (6, true), (7, false), (8, false), (9, true), (10, true), (11, true), (12, false)] (by kernel_rfl) (by kernel_rfl) (HF8.out _ (Keeps.refl _ _).drew) (fun hHeld => ?_)
          (repeat (first | (refine wpTx_take (v := ?_) rfl (by assumption) ?_ (by rfl) ?_; rotate_left; (focus (intro w' hSw; (try dsimp only at hSw); go_simp; (try with_reducible rfl); done)); simp only [Act.put, List.setIfInBounds_toArray, List.set_cons_zero, List.set_cons_succ]) | (refine wpTx_skip rfl (by assumption) (by rfl) ?_; simp only [Act.put, List.setIfInBounds_toArray, List.set_cons_zero, List.set_cons_succ])))
          refine wpTx_go rfl (fun K hK => ?_)
          go_simp
          refine hK.out _ _ ?_ ?_
          · exact HF8.out _ ((Keeps.refl _ _).drew.alloc _)
          (clear hHeld; intro hHeld; clear hK K; (try simp only [Act.put, List.setIfInBounds_toArray, List.set_cons_zero, List.set_cons_succ]))
          refine wpTx_go rfl (fun K hK => ?_)
          have K5 : Keeps w6 (w6.drew.alloc (.cells #[.int .i64 op, .int .i64 a0, .int .i64 a1, .int .i64 a2, .int .i64 a3] 79)) [] := (Keeps.refl w6 []).drew.alloc _
          refine step_app _ el_insA (by rfl) _ _ (by rfl) w0.heap.size CA nc cc ((Q m).1.code.flatMap insE) (by rfl) (own_keep0 HO5.out K5) (some ⟨w6.heap.size, 0, none⟩) 1 1 (insE ⟨op, a0, a1, a2, a3⟩) (by rfl) (Rd.one w6.drew _ (insE ⟨op, a0, a1, a2, a3⟩)) rfl (by simp) (by simp [insE, Value.oneCell']) (by have := HNc2.out; omega) (Nat.le_trans HM7.out.bel.size K5.size) ?_
          intro A' c' w8 hown hgrow hat
          have HAp := Lib.hid (app_factsA K5 hown hgrow hat)
          have hB8 := HM7.out.blk.grownA K5 hgrow (own_outA HM7.out.code HM7.out.blk (by decide))
          have hi8 := HI.out.grownA K5 hgrow (fun hm => HIbn.out (HL7.out _ (by unfold asL; simp [hm])))
          have q3 := hB8.cell 3
          simp only [List.getElem?_toArray, List.getElem?_cons_zero, List.getElem?_cons_succ, HCd.out] at q3
          have HB8 : Hid ((w8.cell? ⟨ab, 3, none⟩ = some (.slice CA nc cc) ∧ w8.cell? ⟨ib, 0, none⟩ = some (.int .i64 op) ∧ w8.cell? ⟨ib, 1, none⟩ = some (.int .i64 a0) ∧ w8.cell? ⟨ib, 2, none⟩ = some (.int .i64 a1) ∧ w8.cell? ⟨ib, 3, none⟩ = some (.int .i64 a2) ∧ w8.cell? ⟨ib, 4, none⟩ = some (.int .i64 a3)) ∧ w8.frozen? ⟨ab, 3, none⟩ = false) := ⟨⟨q3, hi8.cell 0, hi8.cell 1, hi8.cell 2, hi8.cell 3, hi8.cell 4⟩, hB8.frozen 3⟩
          clear hown hgrow hat K5 hB8 q3 hi8
          refine hK.out _ _ ?_ ?_
          · exact HB8.out
          (clear hHeld; intro hHeld; clear hK K; (try simp only [Act.put, List.setIfInBounds_toArray, List.set_cons_zero, List.set_cons_succ]))
          (repeat (first | (refine wpTx_take (v := ?_) rfl (by assumption) ?_ (by rfl) ?_; rotate_left; (focus (intro w' hSw; (try dsimp only at hSw); go_simp; (try with_reducible rfl); done)); simp only [Act.put, List.setIfInBounds_toArray, List.set_cons_zero, List.set_cons_succ]) | (refine wpTx_skip rfl (by assumption) (by rfl) ?_; simp only [Act.put, List.setIfInBounds_toArray, List.set_cons_zero, List.set_cons_succ])))
          refine wpTx_last rfl (fun K hK => ?_)
          go_simp
          refine hK.out _ _ (NoPanic.normal ?_); clear hK K; (try simp only [Act.put, List.setIfInBounds_toArray, List.set_cons_zero, List.set_cons_succ])
          clear hHeld
          go_wp2_with fail
          go_ret
          obtain ⟨e1, e2, e3⟩ := HAp.out
          have hlen : ((Q m).1.code ++ [(⟨op, a0, a1, a2, a3⟩ : LIns)]).length = nc + 1 := by rw [List.length_append, HCd.out]; rfl
          obtain ⟨L', g1, g2⟩ := HM7.out.code_pack HL7.out HLt7.out e2 (A' := A') (c' := c') (l' := (Q m).1.code ++ [⟨op, a0, a1, a2, a3⟩]) (by rw [hlen, List.flatMap_append]; simpa using e1) e3
          rw [hlen] at g1 g2
          refine ⟨by rw [HV.out]; rfl, L', _, g1, ?_, fun _ => by rw [HV.out, HC.out]⟩
          have kA := keeps_drop HK4.out HKf.out HIg.out.1
          refine ASt.trans (M := Lr) ⟨kA, fun b hb => ?_⟩ g2
          rcases HOwn.out b hb with h1 | h1
          · exact .inl h1
          · exact .inr (Nat.le_trans HK4.out.size h1)
end Go.Proofs.YtpcihhdalofdiaaGreatDoor

/- A line comes: the program's line. Printed by gen_asline.py. -/
namespace Go.Proofs.YtpcihhdalofdiaaGreatDoor
open Go.RowKit Go.Maps
attribute [local irreducible] numT kindsOf nameOf checkE fitsP operandP plainP labelP slashP namedT

/-- A text's words. -/
def wordsB (s : ByteArray) : List ByteArray := Lib.splitB ⟨#[32]⟩ 0 (Lib.countB s ⟨#[32]⟩) s
theorem wordsB_is (s : ByteArray) : (wordsB s).map (·.data.toList) = splitT s.data.toList := splitB_all6 s
theorem wordsB_len (s : ByteArray) : (wordsB s).length = Lib.countB s ⟨#[32]⟩ + 1 := Lib.splitB_all _ (by decide) 0 _ s rfl
theorem wordsB_few (s : ByteArray) : (wordsB s).length ≤ s.size + 1 := by
  rw [wordsB_len]
  have := Lib.countB_le ⟨#[32]⟩ (by decide) _ s (Nat.le_refl _)
  omega
theorem wordsB_size (s : ByteArray) : ∀ x ∈ wordsB s, x.size ≤ s.size := fun x hx => by
  have := split_len s.data.toList x.data.toList (by rw [← wordsB_is]; exact List.mem_map.2 ⟨x, hx, rfl⟩)
  exact this
theorem split_any (s : ByteArray) (hl : s.size ≤ 4294967280) (w : World) (h : St w) :
    Calls Tryz.prog 46 #[.string s, .string ⟨#[32]⟩] w fun e w' => e = .returned (.slice (some ⟨w.heap.size, 0, none⟩) (wordsB s).length (wordsB s).length) ∧ w' = w.alloc (.cells ((wordsB s).map Value.string).toArray 9) := by
  obtain ⟨m, hm⟩ := h.most
  have := Tryz.strings_Split s ⟨#[32]⟩ m w (by omega) hm (by decide)
  rw [wordsB_len]
  exact this
theorem LnDone.more {w0 w : World} {ab nl : Nat} {L : List Nat} {r : AS × Int} {e : Ending} {w' : World} (h : LnDone w0 w ab nl L r e w') : LnDone w0 w ab (nl + 1) L r e w' := by
  obtain ⟨h1, L', S', h2, h3⟩ := h
  exact ⟨h1, L', S', h2.more (by omega), h3⟩
theorem LnDone.after {w0 w w1 : World} {ab nl : Nat} {L : List Nat} {r : AS × Int} {e : Ending} {w' : World} (h : LnDone w0 w1 ab nl L r e w') (k : Keeps w w1 []) : LnDone w0 w ab nl L r e w' := by
  obtain ⟨h1, L', S', h2, h3, h4⟩ := h
  exact ⟨h1, L', S', h2, (ASt.of_keeps k L).trans h3, h4⟩
theorem line_begin {S : AS} {s : Txt} {n : Nat} (h1 : (splitT s).length = 2) (h2 : (splitT s).headD [] = predW) : lineP S s n = beginP S ((splitT s).getD 1 []) n := by
  unfold lineP
  exact if_pos ⟨h1, h2⟩
theorem line_mark {S : AS} {s : Txt} {n : Nat} (h1 : (splitT s).length = 1) (h2 : s.head? = some 64) : lineP S s n = markP S s := by
  unfold lineP
  rw [if_neg (by rintro ⟨h3, _⟩; omega), if_pos ⟨h1, h2⟩]
theorem line_instr {S : AS} {s : Txt} {n : Nat} (h1 : ¬ ((splitT s).length = 2 ∧ (splitT s).headD [] = predW)) (h2 : ¬ ((splitT s).length = 1 ∧ s.head? = some 64)) : lineP S s n = instrP S (splitT s) n := by
  unfold lineP
  rw [if_neg h1, if_neg h2]
theorem pred_str (x : ByteArray) : (x.toList == [112, 114, 101, 100]) = decide (x.data.toList = predW) := by
  rw [ByteArray.toList_eq]
  unfold predW
  by_cases h : x.data.toList = [112, 114, 101, 100] <;> simp [h]
set_option maxRecDepth 100000 in
set_option maxHeartbeats 6400000 in
theorem lineA_any {w0 w : World} {ab nl : Nat} {L : List Nat} {S : AS} (hA : As w0 w ab L nl S) (hI : InvB S) (hfew : Few S) (hnl : nl ≤ 1000000) (s : ByteArray) (hl : s.size ≤ 4294967000) (line : Nat) :
    Calls Tryz.prog 18 #[.pointer (some ⟨ab, 0, none⟩), .string s, .int .i64 line] w (LnDone w0 w ab (nl + 1) L (lineP S s.data.toList line)) := by
  have HAs := Lib.hid hA
  have HInv := Lib.hid hI
  have HFew := Lib.hid hfew
  have HS := Lib.hid (split_any s (by omega) w hA.st_)
  have HK : Hid (Keeps w (w.alloc (.cells ((wordsB s).map Value.string).toArray 9)) []) := (Keeps.refl w []).alloc _
  have HB : Hid (Blk (w.alloc (.cells ((wordsB s).map Value.string).toArray 9)) w.heap.size 9 ((wordsB s).map Value.string).toArray) := Blk.new _ _ _
  have HG : Hid (w.heap.size ∉ L) := fun hm => Nat.lt_irrefl _ (hA.lt _ hm).2
  have HWs := Lib.hid (wordsB_is s)
  have hwl := wordsB_few s
  have HSz : Hid (∀ x ∈ wordsB s, x.size ≤ 4294967000) := fun x hx => Nat.le_trans (wordsB_size s x hx) hl
  have hpos : 0 < (wordsB s).length := by rw [wordsB_len]; omega
  generalize wordsB s = WS at *
  obtain ⟨n, hn⟩ : ∃ n, WS.length = n := ⟨_, rfl⟩
  rw [hn] at HS hwl hpos
  have HN := Lib.hid hn
  have HTl : Hid ((splitT s.data.toList).length = n) := Lib.hid (by rw [← HWs.out, List.length_map, hn])
  obtain ⟨x0, hx0⟩ : ∃ x0, WS[0]? = some x0 := ⟨WS[0]'(by omega), List.getElem?_eq_getElem _⟩
  have HHd : Hid ((splitT s.data.toList).headD [] = x0.data.toList) := Lib.hid (by
    rw [← HWs.out]
    cases WS with
    | nil => simp at hx0
    | cons y r => simp at hx0; subst hx0; rfl)
  have c0 := HB.out.cell 0
  simp only [List.getElem?_toArray, List.getElem?_map, hx0, Option.map_some] at c0
  have HA1 := Lib.hid (hA.keep0 HK.out)
  have hps := pred_str x0
  have hhp : Hid (∀ w, Calls Tryz.prog 48 #[.string s, .string ⟨#[64]⟩] w fun e w' => e = .returned (.bool (decide (s.data.toList.head? = some 64))) ∧ w' = w) := fun w => by
    have := Tryz.strings_HasPrefix s ⟨#[64]⟩ w
    rw [show ((⟨#[64]⟩ : ByteArray).data.toList) = [64] from rfl, head64] at this
    exact this
  have HL := Lib.hid hl
  have HIn := Lib.hid (fun h1 h2 => (line_instr (S := S) (s := s.data.toList) (n := line) h1 h2))
  have b00 : (0 : Int) < (n : Int) := by omega
  clear hn hA hI hfew
  by_cases h2 : n = 2
  · have d2 : ((n : Int) == 2) = true := by rw [beq_iff_eq]; omega
    by_cases hp : x0.data.toList = predW
    · have d3 : (x0.toList == [112, 114, 101, 100]) = true := by rw [hps]; exact decide_eq_true hp
      obtain ⟨x1, hx1⟩ : ∃ x1, WS[1]? = some x1 := ⟨WS[1]'(by have := HN.out; omega), List.getElem?_eq_getElem _⟩
      have c1 := HB.out.cell 1
      simp only [List.getElem?_toArray, List.getElem?_map, hx1, Option.map_some] at c1
      have b11 : (1 : Int) < (n : Int) := by omega
      have HV : Hid (lineP S s.data.toList line = beginP S x1.data.toList line) := Lib.hid (by
        rw [line_begin (HTl.out.trans h2) (HHd.out.trans hp)]
        congr 1
        rw [← HWs.out, List.getD_eq_getElem?_getD, List.getElem?_map, hx1]
        rfl)
      have HC := Lib.hid (beginA_any HA1.out HInv.out x1 (HSz.out _ (List.mem_of_getElem? hx1)) line ⟨by have := HFew.out.atoms; omega, by have := HFew.out.funs; omega, by have := HFew.out.preds; omega, by have := HFew.out.code; omega⟩ ⟨by have := HFew.out.preds; omega, HFew.out.begins, by have := HFew.out.code; omega⟩)
      clear h2 hp hps hx0 hx1
      go_enter Tryz.func18, Tryz.ntmps18
      go_wp2_with fail
      refine HS.out.mono ?_
      rintro e w1 ⟨rfl, rfl⟩
      go_wp2_with fail
      refine HC.out.mono ?_
      rintro e w2 ⟨rfl, hd⟩
      have HD := Lib.hid hd
      clear hd
      go_wp2_with fail
      go_ret
      rw [HV.out]
      exact (LnDone.after (w1 := w.alloc _) ⟨rfl, HD.out⟩ HK.out).more
    · have d3 : (x0.toList == [112, 114, 101, 100]) = false := by rw [hps]; exact decide_eq_false hp
      have HV := Lib.hid (HIn.out (by rintro ⟨_, h⟩; exact hp (HHd.out.symm.trans h)) (by rintro ⟨h, _⟩; rw [HTl.out] at h; omega))
      have d1 : ((n : Int) == 1) = false := by rw [beq_eq_false_iff_ne]; omega
      have HC := Lib.hid (instrA_any HA1.out HFew.out w.heap.size n n WS HN.out hpos (by have := HL.out; omega) HB.out HG.out HSz.out line)
      clear h2 hp hps hx0
      go_enter Tryz.func18, Tryz.ntmps18
      go_wp2_with fail
      refine HS.out.mono ?_
      rintro e w1 ⟨rfl, rfl⟩
      go_wp2_with fail
      refine HC.out.mono ?_
      rintro e w2 ⟨rfl, hd⟩
      have HD := Lib.hid hd
      clear hd
      go_wp2_with fail
      go_ret
      rw [HV.out, ← HWs.out]
      exact (LnDone.after (w1 := w.alloc _) ⟨rfl, HD.out⟩ HK.out).more
  have d2 : ((n : Int) == 2) = false := by rw [beq_eq_false_iff_ne]; omega
  by_cases h1 : n = 1
  · have d1 : ((n : Int) == 1) = true := by rw [beq_iff_eq]; omega
    by_cases hh : s.data.toList.head? = some 64
    · have HV := Lib.hid (line_mark (S := S) (n := line) (HTl.out.trans h1) hh)
      rw [decide_eq_true hh] at hhp
      have HC := Lib.hid (markA_any HA1.out hnl s HL.out (by have := HFew.out.code; omega))
      clear h1 h2 hh hps hx0
      go_enter Tryz.func18, Tryz.ntmps18
      go_wp2_with fail
      refine HS.out.mono ?_
      rintro e w1 ⟨rfl, rfl⟩
      go_wp2_with fail
      refine (hhp.out _).mono ?_
      rintro e w1 ⟨rfl, hw⟩
      subst hw
      go_wp2_with fail
      refine HC.out.mono ?_
      rintro e w2 ⟨rfl, hd⟩
      have HD := Lib.hid hd
      clear hd
      go_wp2_with fail
      go_ret
      rw [HV.out]
      exact LnDone.after (w1 := w.alloc _) ⟨rfl, HD.out⟩ HK.out
    · have HV := Lib.hid (HIn.out (by rintro ⟨h, _⟩; rw [HTl.out] at h; omega) (by rintro ⟨_, h⟩; exact hh h))
      rw [decide_eq_false hh] at hhp
      have HC := Lib.hid (instrA_any HA1.out HFew.out w.heap.size n n WS HN.out hpos (by have := HL.out; omega) HB.out HG.out HSz.out line)
      clear h1 h2 hh hps hx0
      go_enter Tryz.func18, Tryz.ntmps18
      go_wp2_with fail
      refine HS.out.mono ?_
      rintro e w1 ⟨rfl, rfl⟩
      go_wp2_with fail
      refine (hhp.out _).mono ?_
      rintro e w1 ⟨rfl, hw⟩
      subst hw
      go_wp2_with fail
      refine HC.out.mono ?_
      rintro e w2 ⟨rfl, hd⟩
      have HD := Lib.hid hd
      clear hd
      go_wp2_with fail
      go_ret
      rw [HV.out, ← HWs.out]
      exact (LnDone.after (w1 := w.alloc _) ⟨rfl, HD.out⟩ HK.out).more
  have d1 : ((n : Int) == 1) = false := by rw [beq_eq_false_iff_ne]; omega
  have HV := Lib.hid (HIn.out (by rintro ⟨h, _⟩; rw [HTl.out] at h; omega) (by rintro ⟨h, _⟩; rw [HTl.out] at h; omega))
  have HC := Lib.hid (instrA_any HA1.out HFew.out w.heap.size n n WS HN.out hpos (by have := HL.out; omega) HB.out HG.out HSz.out line)
  clear h1 h2 hps hx0
  go_enter Tryz.func18, Tryz.ntmps18
  go_wp2_with fail
  refine HS.out.mono ?_
  rintro e w1 ⟨rfl, rfl⟩
  go_wp2_with fail
  refine HC.out.mono ?_
  rintro e w2 ⟨rfl, hd⟩
  have HD := Lib.hid hd
  clear hd
  go_wp2_with fail
  go_ret
  rw [HV.out, ← HWs.out]
  exact (LnDone.after (w1 := w.alloc _) ⟨rfl, HD.out⟩ HK.out).more
end Go.Proofs.YtpcihhdalofdiaaGreatDoor

/- Labels become places: the program's settle. Printed by gen_assettle.py. -/
namespace Go.Proofs.YtpcihhdalofdiaaGreatDoor
open Go.RowKit Go.Maps
attribute [local irreducible] numT kindsOf nameOf checkE fitsP operandP plainP labelP slashP namedT

set_option maxRecDepth 100000 in
set_option maxHeartbeats 6400000 in
theorem worse_any (f at_ : Int) (lb eb : Nat) (er : Int × Int) (w : World) (hl : Blk w lb 3 #[.int .i64 er.2]) (he : Blk w eb 32 #[.int .i64 er.1]) :
    Calls Tryz.prog 51 #[.int .i64 f, .int .i64 at_, .pointer (some ⟨lb, 0, none⟩), .pointer (some ⟨eb, 0, none⟩)] w fun e w' => e = .returned (.tuple #[]) ∧ Blk w' lb 3 #[.int .i64 (worse er f at_).2] ∧ Blk w' eb 32 #[.int .i64 (worse er f at_).1] ∧ Keeps w w' [lb, eb] := by
  obtain ⟨ec, line⟩ := er
  dsimp only at hl he
  have hne : lb ≠ eb := hl.ne_ he (by decide)
  have x0 := hl.cell 0
  have f0 := hl.frozen 0
  have y0 := he.cell 0
  have g0 := he.frozen 0
  have HL := Lib.hid hl
  have HE := Lib.hid he
  clear hl he
  by_cases h : line < 0 ∨ at_ < line
  · have HV : Hid (worse (ec, line) f at_ = (f, at_)) := if_pos h
    have H1 : Hid (Blk ((w.setCell ⟨eb, 0, none⟩ (.int .i64 f)).setCell ⟨lb, 0, none⟩ (.int .i64 at_)) lb 3 #[.int .i64 at_]) := Lib.hid ((HL.out.far (p := ⟨eb, 0, none⟩) hne _).set_ 0 (.int .i64 at_))
    have H2 : Hid (Blk ((w.setCell ⟨eb, 0, none⟩ (.int .i64 f)).setCell ⟨lb, 0, none⟩ (.int .i64 at_)) eb 32 #[.int .i64 f]) := Lib.hid ((HE.out.set_ 0 (.int .i64 f)).far (p := ⟨lb, 0, none⟩) (Ne.symm hne) _)
    have H3 : Hid (Keeps w ((w.setCell ⟨eb, 0, none⟩ (.int .i64 f)).setCell ⟨lb, 0, none⟩ (.int .i64 at_)) [lb, eb]) := ((Keeps.refl w _).setCell (.inl (by simp)) _).setCell (.inl (by simp)) _
    rcases Classical.em (line < 0) with h1 | h1
    · have d1 : decide (line < 0) = true := decide_eq_true h1
      clear h
      go_enter Tryz.func51, Tryz.ntmps51
      go_wp2_with fail
      go_end0
      rw [HV.out]
      exact ⟨rfl, H1.out, H2.out, H3.out⟩
    · have d1 : decide (line < 0) = false := decide_eq_false h1
      have d2 : decide (at_ < line) = true := decide_eq_true (h.resolve_left h1)
      clear h
      go_enter Tryz.func51, Tryz.ntmps51
      go_wp2_with fail
      go_end0
      rw [HV.out]
      exact ⟨rfl, H1.out, H2.out, H3.out⟩
  · have HV : Hid (worse (ec, line) f at_ = (ec, line)) := if_neg h
    have d1 : decide (line < 0) = false := decide_eq_false (fun e => h (.inl e))
    have d2 : decide (at_ < line) = false := decide_eq_false (fun e => h (.inr e))
    clear h
    go_enter Tryz.func51, Tryz.ntmps51
    go_wp2_with fail
    go_end0
    rw [HV.out]
    exact ⟨rfl, HL.out, HE.out, Keeps.refl _ _⟩
theorem wrapK (k : Nat) (h : k ≤ 1000000) : IntKind.i64.wrap ((k : Int) + 1) = (k : Int) + 1 := by
  simp only [IntKind.wrap_i64]
  omega
theorem wrapK2 (k : Nat) (h : k ≤ 1000000) : wrap64 ((k : Int) + 1) = (k : Int) + 1 := by
  unfold wrap64
  omega
theorem insE_arg (i : LIns) (j : Nat) (h : j < 4) : (insE i)[1 + j]? = some (.int .i64 (i.arg j)) := by
  match j, h with
  | 0, _ => rfl
  | 1, _ => rfl
  | 2, _ => rfl
  | 3, _ => rfl
theorem setArg_flat (i : LIns) (j : Nat) (h : j < 4) (v : Int) : (insE i).set (1 + j) (.int .i64 v) = insE (setArg i j v) := by
  match j, h with
  | 0, _ => rfl
  | 1, _ => rfl
  | 2, _ => rfl
  | 3, _ => rfl
theorem set_flat5A (i : LIns) (j : Nat) (hj : j < 4) (v : Int) : ∀ (l : List LIns) (k : Nat), l[k]? = some i → (l.flatMap insE).set (k * 5 + 1 + j) (.int .i64 v) = (l.modify k fun i => setArg i j v).flatMap insE
  | [], k, h => by simp at h
  | y :: l, 0, h => by
    simp at h
    subst h
    rw [List.flatMap_cons, List.modify_zero_cons, List.flatMap_cons, ← setArg_flat _ _ hj, List.set_append_left _ _ (by rw [insE_len]; omega)]

  | y :: l, k + 1, h => by
    have ih := set_flat5A i j hj v l k (by simpa using h)
    rw [List.flatMap_cons, List.modify_succ_cons, List.flatMap_cons, ← ih, List.set_append_right _ _ (by rw [insE_len]; omega), insE_len, show (k + 1) * 5 + 1 + j - 5 = k * 5 + 1 + j by omega]
/-- The state while the labels become places. -/
structure SRun (w0 w2 wr : World) (ab vb : Nat) (AA FA PA CA UA BA : Option Addr) (ca cf cp cc cu cb nl : Nat) (S : AS) (lb eb k : Nat) (er : Int × Int) : Prop where
  am : AsM w0 wr ab vb AA FA PA CA UA BA ca cf cp cc cu cb nl { S with o := { S.o with code := codeK S k } }
  line : Blk wr lb 3 #[.int .i64 er.2]
  err : Blk wr eb 32 #[.int .i64 er.1]
  keep : Keeps w2 wr (lb :: eb :: ownL (.slice CA 0 0))
set_option maxRecDepth 100000 in
set_option maxHeartbeats 6400000 in
theorem settleA_any {w0 w : World} {ab nl : Nat} {L : List Nat} {S : AS} (hA : As w0 w ab L nl S) (hU : UsesI S) (hB : ∀ b ∈ S.begins, b.1 < S.o.preds.length) (hfew : Few S) :
    Calls Tryz.prog 20 #[.pointer (some ⟨ab, 0, none⟩)] w fun e w' => e = .returned (.tuple #[.int .i64 (least (0, -1) (wrongs S)).1, .int .i64 (least (0, -1) (wrongs S)).2]) ∧ ∃ L', As w0 w' ab L' nl { S with o := { S.o with code := codeK S S.uses.length } } ∧ ASt w L w' L' := by
  have HAs := Lib.hid hA
  have HU := Lib.hid hU
  have HBg := Lib.hid hB
  have HFew := Lib.hid hfew
  obtain ⟨vb, AA, FA, PA, CA, UA, BA, ca, cf, cp, cc, cu, cb, hm, hL, hlt⟩ := hA
  have HM := Lib.hid hm
  have HL := Lib.hid hL
  have HLt := Lib.hid hlt
  obtain ⟨nc, hnc⟩ : ∃ n, S.o.code.length = n := ⟨_, rfl⟩
  obtain ⟨nu, hnu⟩ : ∃ n, S.uses.length = n := ⟨_, rfl⟩
  obtain ⟨nb, hnb⟩ : ∃ n, S.begins.length = n := ⟨_, rfl⟩
  obtain ⟨np, hnp⟩ : ∃ n, S.o.preds.length = n := ⟨_, rfl⟩
  have HNc := Lib.hid hnc
  have HNu := Lib.hid hnu
  have HNb := Lib.hid hnb
  have HNp := Lib.hid hnp
  have hnu6 : nu ≤ 1000000 := by rw [← hnu]; exact hfew.uses
  have hnb6 : nb ≤ 1000000 := by rw [← hnb]; exact hfew.begins
  have q3 := hm.blk.cell 3
  simp only [List.getElem?_toArray, List.getElem?_cons_zero, List.getElem?_cons_succ, hnc] at q3
  have HK1 : Hid (Keeps w ((w.alloc (.cells #[.int .i64 0] 32)).alloc (.cells #[.int .i64 (-1)] 3)) []) := ((Keeps.refl w []).alloc _).alloc _
  have HEb : Hid (Blk ((w.alloc (.cells #[.int .i64 0] 32)).alloc (.cells #[.int .i64 (-1)] 3)) w.heap.size 32 #[.int .i64 0]) := (Blk.new _ _ _).alloc _
  have HLb : Hid (Blk ((w.alloc (.cells #[.int .i64 0] 32)).alloc (.cells #[.int .i64 (-1)] 3)) (w.heap.size + 1) 3 #[.int .i64 (-1)]) := Blk.newAt _ _ (by simp)
  have hmf : ∀ (fn : Fn) (first cap : Array Value) (w : World), (Instr.makeFunc fn first cap).run Tryz.prog w = .ok (.func fn first cap) w := fun _ _ _ _ => rfl
  clear hm hL hlt hU hB hfew hnc hnu hnb hnp
  go_enter Tryz.func20, Tryz.ntmps20
  go_upto_region 4 with fail
  generalize (w.alloc (.cells #[.int .i64 0] 32)).alloc (.cells #[.int .i64 (-1)] 3) = w2 at *
  have HM2 := Lib.hid (HM.out.keep0 HK1.out)
  have q5 := HM2.out.blk.cell 5
  simp only [List.getElem?_toArray, List.getElem?_cons_zero, List.getElem?_cons_succ, HNu.out] at q5
  clear q3
  have H0 : Hid (SRun w0 w2 w2 ab vb AA FA PA CA UA BA ca cf cp cc cu cb nl S (w.heap.size + 1) w.heap.size 0 (0, -1)) := ⟨by rw [codeK_zero]; exact HM2.out, HLb.out, HEb.out, Keeps.refl _ _⟩
  have HB0 : Hid (w.heap.size ∉ L ∧ w.heap.size + 1 ∉ L) := ⟨fun hm => by have := (HLt.out _ hm).2; omega, fun hm => by have := (HLt.out _ hm).2; omega⟩
  clear HEb HLb hmf
  go_wp2_with fail
  go_loopw [9, 10, 11, 27] (fun v9 v10 v11 i wr => ∃ k : Nat, k ≤ nu ∧ i = .int .i64 k ∧ ∃ er : Int × Int, SRun w0 w2 wr ab vb AA FA PA CA UA BA ca cf cp cc cu cb nl S (w.heap.size + 1) w.heap.size k er ∧ Hid (least er (useW S (S.uses.drop k) ++ begW S S.begins) = least (0, -1) (wrongs S))) (fun _ _ _ i _ => nu - (intOf i).toNat)
  case atStart => exact ⟨0, Nat.zero_le _, rfl, (0, -1), H0.out, rfl⟩
  case round =>
    clear H0 q5
    obtain ⟨k, hk, rfl, er, hrun, HLs⟩ := hrel
    have HR := Lib.hid hrun
    by_cases hlk : k < nu
    · obtain ⟨u, hu⟩ := at_of HNu.out hlk
      obtain ⟨b, off, rfl, hb, hc⟩ := (Rd.of_own hrun.am.uses).field useE_len hu (by omega)
      obtain ⟨i, hci, harg, hlo, hhi, hu4⟩ := codeK_arg HU.out hu
      have huc : u.1 < nc := by have := (List.getElem?_eq_some_iff.1 hci).1; rw [codeK_len, HNc.out] at this; exact this
      obtain ⟨gc, hCA, hcap⟩ := own_atA hrun.am.code (by simp only; rw [codeK_len, HNc.out]; omega)
      obtain ⟨b2, off2, e2, hb2, hc2⟩ := (Rd.of_own hrun.am.code).field insE_len hci (by omega)
      rw [hCA] at e2
      injection e2 with e2
      injection e2 with e3 e4
      subst e3 e4
      have y0 := hc2 (1 + u.2.1) _ (insE_arg i u.2.1 hu4)
      rw [Nat.zero_add, ← Nat.add_assoc] at y0
      obtain ⟨u1, u2, u3⟩ := u
      dsimp only at y0 harg hlo hhi hu4 huc hci
      have p0 : wr.cell? ⟨b, off + k * 3, none⟩ = some (.int .i64 u1) := hc 0 _ rfl
      have p1 : wr.cell? ⟨b, off + k * 3 + 1, none⟩ = some (.int .i64 u2) := hc 1 _ rfl
      have p2 : wr.cell? ⟨b, off + k * 3 + 2, none⟩ = some (.int .i64 u3) := hc 2 _ rfl
      have HCi := Lib.hid hci
      have HU0 := Lib.hid hu
      have HY0 := Lib.hid y0
      obtain ⟨x, hx⟩ : ∃ x, i.arg u2 = x := ⟨_, rfl⟩
      have HX : Hid (x = (S.o.code.getD u1 noI).arg u2) := Lib.hid (by rw [← hx]; exact harg)
      have hxi : I64A x := ⟨by omega, by omega⟩
      rw [hx] at HY0
      obtain ⟨o, ho⟩ : ∃ o, S.labels x = o := ⟨_, rfl⟩
      have HBad : Hid (badUse S (u1, u2, u3) = (o.map fun p => decide (nc ≤ p)).getD true) := Lib.hid (by
        have h1 : useAt S (u1, u2, u3) = o := by show S.labels ((S.o.code.getD u1 noI).arg u2) = o; rw [← HX.out, ho]
        unfold badUse
        rw [h1, HNc.out]
        cases o <;> rfl)
      have HGet : Hid (useAt S (u1, u2, u3) = o) := Lib.hid (by show S.labels ((S.o.code.getD u1 noI).arg u2) = o; rw [← HX.out, ho])
      have HO := Lib.hid ho
      have HXi := Lib.hid hxi
      obtain ⟨pl, hpl⟩ : ∃ pl : Int, ((o.getD 0 : Nat) : Int) = pl := ⟨_, rfl⟩
      obtain ⟨is, his⟩ : ∃ is, o.isSome = is := ⟨_, rfl⟩
      have hfz : wr.frozen? ⟨gc, u1 * 5 + 1 + u2, none⟩ = false := by
        have ho' := hrun.am.code
        rw [hCA] at ho'
        obtain ⟨cur, hbk, _⟩ := own_block ho'
        exact hbk.frozen _
      have HFz := Lib.hid hfz
      have KB : Keeps wr (wr.alloc (.cells #[.int .i64 u1, .int .i64 u2, .int .i64 u3] 105)) [] := (Keeps.refl wr []).alloc _
      have HKB := Lib.hid KB
      have HBx : Hid (Blk (wr.alloc (.cells #[.int .i64 u1, .int .i64 u2, .int .i64 u3] 105)) wr.heap.size 105 #[.int .i64 u1, .int .i64 u2, .int .i64 u3]) := Blk.new _ _ _
      have HF7 : Hid (∀ W, Keeps (wr.alloc (.cells #[.int .i64 u1, .int .i64 u2, .int .i64 u3] 105)) W [] → (W.cell? ⟨ab, 4, none⟩ = some (.map (some vb)) ∧ W.cell? ⟨ab, 3, none⟩ = some (.slice (some ⟨gc, 0, none⟩) nc cc) ∧ W.cell? ⟨wr.heap.size, 0, none⟩ = some (.int .i64 u1) ∧ W.cell? ⟨wr.heap.size, 1, none⟩ = some (.int .i64 u2) ∧ W.cell? ⟨gc, u1 * 5 + 1 + u2, none⟩ = some (.int .i64 x)) ∧ (Instr.lookup 54 (.map (some vb)) (.int .i64 x) true).run Tryz.prog W = .ok (.tuple #[.int .i64 pl, .bool is]) W) := fun W kk => by
        have am := HR.out.am.keep0 (HKB.out.trans kk)
        have b4 := am.blk.cell 4
        have b3 := am.blk.cell 3
        simp only [List.getElem?_toArray, List.getElem?_cons_zero, List.getElem?_cons_succ, codeK_len, HNc.out, hCA] at b4 b3
        have hl := am.labels.look HXi.out
        dsimp only at hl
        rw [ho, hpl, his] at hl
        exact ⟨⟨b4, b3, (HBx.out.keep kk (by simp)).cell 0, (HBx.out.keep kk (by simp)).cell 1, ((HKB.out.trans kk).cell0 (block_lt_of_cell HY0.out)).trans HY0.out⟩, hl⟩
      have HCA := Lib.hid hCA
      have HU4 := Lib.hid hu4
      have b1 : (k : Int) < (nu : Int) := by omega
      have b0 : (0 : Int) ≤ (k : Int) := Int.natCast_nonneg _
      have b5 : (u1 : Int) < (nc : Int) := by omega
      have b6 : (0 : Int) ≤ (u1 : Int) := Int.natCast_nonneg _
      have b7 : (u2 : Int) < 4 := by omega
      have b8 : (0 : Int) ≤ (u2 : Int) := Int.natCast_nonneg _
      clear hrun hu hc hci harg hlo hhi hb hb2 hc2 y0 hx hxi ho hfz KB hCA hcap
      go_upto_region 7 with fail
      clear p0 p1 p2
      refine wp_region_tx (fun W' => (W'.cell? ⟨ab, 4, none⟩ = some (.map (some vb)) ∧ W'.cell? ⟨ab, 3, none⟩ = some (.slice (some ⟨gc, 0, none⟩) nc cc) ∧ W'.cell? ⟨wr.heap.size, 0, none⟩ = some (.int .i64 u1) ∧ W'.cell? ⟨wr.heap.size, 1, none⟩ = some (.int .i64 u2) ∧ W'.cell? ⟨gc, u1 * 5 + 1 + u2, none⟩ = some (.int .i64 x)) ∧ (Instr.lookup 54 (.map (some vb)) (.int .i64 x) true).run Tryz.prog W' = .ok (.tuple #[.int .i64 pl, .bool is]) W') [(0, true), (1, true), (2, true), (3, true), (4, true), (5, true), (6, true), (7, true), (8, true), (9, true), (10, true), (11, true), (12, true), (13, true), (14, true), (15, true), (16, true), (17, true), (18, true), (19, true), (20, true), (21, false), (22, false)] (by kernel_rfl) (by kernel_rfl) (HF7.out _ (Keeps.refl _ _).drew) (fun hHeld => ?_)
      (repeat (first | (refine wpTx_take (v := ?_) rfl (by assumption) ?_ (by rfl) ?_; rotate_left; (focus (intro w' hSw; (try dsimp only at hSw); go_simp; (try with_reducible rfl); done)); simp only [Act.put, List.setIfInBounds_toArray, List.set_cons_zero, List.set_cons_succ]) | (refine wpTx_skip rfl (by assumption) (by rfl) ?_; simp only [Act.put, List.setIfInBounds_toArray, List.set_cons_zero, List.set_cons_succ])))
      refine wpTx_go rfl (fun K hK => ?_)
      go_simp
      refine hK.out _ _ ?_ ?_
      · exact HF7.out _ (Keeps.refl _ _).drew
      (clear hHeld; intro hHeld; clear hK K; (try simp only [Act.put, List.setIfInBounds_toArray, List.set_cons_zero, List.set_cons_succ]))
      refine wpTx_last rfl (fun K hK => ?_)
      go_simp
      refine hK.out _ _ (NoPanic.normal ?_); clear hK K; (try simp only [Act.put, List.setIfInBounds_toArray, List.set_cons_zero, List.set_cons_succ])
      clear hHeld HF7
      have HK6 : Hid (Keeps wr (wr.alloc (.cells #[.int .i64 u1, .int .i64 u2, .int .i64 u3] 105)).drew []) := HKB.out.drew
      have HBx6 := Lib.hid HBx.out.drew
      have HL6 := Lib.hid (HR.out.line.keep HK6.out (by simp))
      have HE6 := Lib.hid (HR.out.err.keep HK6.out (by simp))
      have HM6 := Lib.hid (HR.out.am.keep0 HK6.out)
      have HLL : Hid (∀ z ∈ asL ab vb AA FA PA CA (some ⟨b, off, none⟩) BA, z ∈ L) := Lib.hid HL.out
      have HBase : Hid (w0.heap.size ≤ w.heap.size) := Lib.hid HM.out.bel.size
      clear HBx HKB
      generalize (wr.alloc (.cells #[.int .i64 u1, .int .i64 u2, .int .i64 u3] 105)).drew = w6 at *
      have HF10 : Hid ((w6.drew.cell? ⟨ab, 3, none⟩ = some (.slice (some ⟨gc, 0, none⟩) nc cc) ∧ w6.drew.cell? ⟨wr.heap.size, 0, none⟩ = some (.int .i64 u1) ∧ w6.drew.cell? ⟨wr.heap.size, 1, none⟩ = some (.int .i64 u2) ∧ w6.drew.cell? ⟨gc, u1 * 5 + 1 + u2, none⟩ = some (.int .i64 x)) ∧ w6.drew.frozen? ⟨gc, u1 * 5 + 1 + u2, none⟩ = false) := by
        have b3 := HM6.out.blk.cell 3
        simp only [List.getElem?_toArray, List.getElem?_cons_zero, List.getElem?_cons_succ, codeK_len, HNc.out, HCA.out] at b3
        exact ⟨⟨b3, HBx6.out.cell 0, HBx6.out.cell 1, (HK6.out.cell0 (block_lt_of_cell HY0.out)).trans HY0.out⟩, (HK6.out.frozen (p := ⟨gc, u1 * 5 + 1 + u2, none⟩) (block_lt_of_cell HY0.out) (by simp)).trans HFz.out⟩
      have z2 := HBx6.out.cell 2
      cases o with
      | none =>
        obtain rfl : pl = 0 := hpl.symm
        obtain rfl : is = false := his.symm
        clear hpl his
        have HBd : Hid (badUse S (u1, u2, u3) = true) := Lib.hid (by rw [HBad.out]; rfl)
        have HW7 := Lib.hid (worse_any 10 u3 (w.heap.size + 1) w.heap.size er w6 (HL6.out) (HE6.out))
        clear HF10
        go_wp2_with fail
        refine HW7.out.mono ?_
        rintro e w7 ⟨rfl, g1, g2, g3⟩
        have HAm : Hid (AsM w0 w7 ab vb AA FA PA CA (some ⟨b, off, none⟩) BA ca cf cp cc cu cb nl { S with o := { S.o with code := codeK S (k + 1) } }) := Lib.hid (by
          have h1 := HM6.out.keep g3 (by
            intro q hq
            have hh := HBase.out
            simp only [List.mem_cons, List.not_mem_nil, or_false] at hq
            rcases hq with rfl | rfl
            · exact ⟨fun hm => HB0.out.2 (HLL.out _ hm), by omega⟩
            · exact ⟨fun hm => HB0.out.1 (HLL.out _ hm), by omega⟩)
          rw [codeK_succ HU0.out]
          unfold putU
          rw [if_pos HBd.out]
          exact h1)
        have HLs2 : Hid (least (worse er 10 u3) (useW S (S.uses.drop (k + 1)) ++ begW S S.begins) = least (0, -1) (wrongs S)) := Lib.hid (by
          have h1 := HLs.out
          rw [List.drop_eq_getElem_cons (by rw [HNu.out]; exact hlk), (List.getElem?_eq_some_iff.1 HU0.out).2, useW_cons, if_pos HBd.out] at h1
          exact h1)
        have HKe : Hid (Keeps w2 w7 ((w.heap.size + 1) :: w.heap.size :: ownL (.slice CA 0 0))) := Lib.hid ((HR.out.keep.trans (HK6.out.to_ _)).trans (g3.more (fun b _ hb => by simp only [List.mem_cons, List.not_mem_nil, or_false] at hb ⊢; rcases hb with h | h <;> simp [h])))
        have HG1 := Lib.hid g1
        have HG2 := Lib.hid g2
        clear g1 g2 g3
        go_wp2_with fail
        go_roundw
        case rel => exact ⟨k + 1, by omega, by go_num, _, ⟨HAm.out, HG1.out, HG2.out, HKe.out⟩, HLs2⟩
        case measure => simp [intOf]; omega
      | some p =>
        obtain rfl : is = true := his.symm
        simp only [Option.getD_some] at hpl
        clear his
        by_cases hp : nc ≤ p
        · have d0 : decide ((nc : Int) ≤ pl) = true := decide_eq_true (by omega)
          have HBd : Hid (badUse S (u1, u2, u3) = true) := Lib.hid (by rw [HBad.out]; exact decide_eq_true hp)
          have HW7 := Lib.hid (worse_any 10 u3 (w.heap.size + 1) w.heap.size er w6 (HL6.out) (HE6.out))
          clear HF10
          go_wp2_with fail
          refine HW7.out.mono ?_
          rintro e w7 ⟨rfl, g1, g2, g3⟩
          have HAm : Hid (AsM w0 w7 ab vb AA FA PA CA (some ⟨b, off, none⟩) BA ca cf cp cc cu cb nl { S with o := { S.o with code := codeK S (k + 1) } }) := Lib.hid (by
            have h1 := HM6.out.keep g3 (by
              intro q hq
              have hh := HBase.out
              simp only [List.mem_cons, List.not_mem_nil, or_false] at hq
              rcases hq with rfl | rfl
              · exact ⟨fun hm => HB0.out.2 (HLL.out _ hm), by omega⟩
              · exact ⟨fun hm => HB0.out.1 (HLL.out _ hm), by omega⟩)
            rw [codeK_succ HU0.out]
            unfold putU
            rw [if_pos HBd.out]
            exact h1)
          have HLs2 : Hid (least (worse er 10 u3) (useW S (S.uses.drop (k + 1)) ++ begW S S.begins) = least (0, -1) (wrongs S)) := Lib.hid (by
            have h1 := HLs.out
            rw [List.drop_eq_getElem_cons (by rw [HNu.out]; exact hlk), (List.getElem?_eq_some_iff.1 HU0.out).2, useW_cons, if_pos HBd.out] at h1
            exact h1)
          have HKe : Hid (Keeps w2 w7 ((w.heap.size + 1) :: w.heap.size :: ownL (.slice CA 0 0))) := Lib.hid ((HR.out.keep.trans (HK6.out.to_ _)).trans (g3.more (fun b _ hb => by simp only [List.mem_cons, List.not_mem_nil, or_false] at hb ⊢; rcases hb with h | h <;> simp [h])))
          have HG1 := Lib.hid g1
          have HG2 := Lib.hid g2
          clear g1 g2 g3
          go_wp2_with fail
          go_roundw
          case rel => exact ⟨k + 1, by omega, by go_num, _, ⟨HAm.out, HG1.out, HG2.out, HKe.out⟩, HLs2⟩
          case measure => simp [intOf]; omega
        · have d0 : decide ((nc : Int) ≤ pl) = false := decide_eq_false (by omega)
          have HGood : Hid (badUse S (u1, u2, u3) = false) := Lib.hid (by rw [HBad.out]; exact decide_eq_false hp)
          have HPl := Lib.hid hpl
          clear hp hpl z2
          go_upto_region 10 with fail
          refine wp_region_tx (fun W' => (W'.cell? ⟨ab, 3, none⟩ = some (.slice (some ⟨gc, 0, none⟩) nc cc) ∧ W'.cell? ⟨wr.heap.size, 0, none⟩ = some (.int .i64 u1) ∧ W'.cell? ⟨wr.heap.size, 1, none⟩ = some (.int .i64 u2) ∧ W'.cell? ⟨gc, u1 * 5 + 1 + u2, none⟩ = some (.int .i64 x)) ∧ W'.frozen? ⟨gc, u1 * 5 + 1 + u2, none⟩ = false) [(0, true), (1, true), (2, true), (3, true), (4, true), (5, true), (6, true), (7, true), (8, true), (9, true), (10, true), (11, true), (12, true), (13, false)] (by kernel_rfl) (by kernel_rfl) HF10.out (fun hHeld => ?_)
          (repeat (first | (refine wpTx_take (v := ?_) rfl (by assumption) ?_ (by rfl) ?_; rotate_left; (focus (intro w' hSw; (try dsimp only at hSw); go_simp; (try with_reducible rfl); done)); simp only [Act.put, List.setIfInBounds_toArray, List.set_cons_zero, List.set_cons_succ]) | (refine wpTx_skip rfl (by assumption) (by rfl) ?_; simp only [Act.put, List.setIfInBounds_toArray, List.set_cons_zero, List.set_cons_succ])))
          refine wpTx_last rfl (fun K hK => ?_)
          go_simp
          refine hK.out _ _ (NoPanic.normal ?_); clear hK K; (try simp only [Act.put, List.setIfInBounds_toArray, List.set_cons_zero, List.set_cons_succ])
          clear hHeld HF10
          have HM6' := HM6.out
          have hgm : gc ∈ ownL (.slice CA 0 0) := by rw [HCA.out]; simp [ownL, Value.ownBlock]
          have k7 : Keeps w6 (w6.setCell ⟨gc, u1 * 5 + 1 + u2, none⟩ (.int .i64 pl)).drew (ownL (.slice CA 0 0)) := ((Keeps.refl w6 _).setCell (.inl hgm) _).drew
          have HAm : Hid (AsM w0 (w6.setCell ⟨gc, u1 * 5 + 1 + u2, none⟩ (.int .i64 pl)).drew ab vb AA FA PA CA (some ⟨b, off, none⟩) BA ca cf cp cc cu cb nl { S with o := { S.o with code := codeK S (k + 1) } }) := Lib.hid (by
            have hh := HM6'.code_in (l' := codeK S (k + 1)) k7 (by simp only [codeK_len]) (by
              have h1 := HM6'.code
              rw [HCA.out] at h1 ⊢
              have h2 := own_cellA h1 (u1 * 5 + 1 + u2) (.int .i64 pl)
              rw [set_flat5A _ u2 HU4.out pl _ _ HCi.out] at h2
              rw [codeK_succ HU0.out]
              unfold putU
              rw [if_neg (by rw [HGood.out]; exact Bool.false_ne_true), HGet.out]
              simp only [Option.getD_some]
              rw [HPl.out]
              exact h2)
            exact hh)
          have HLs2 : Hid (least er (useW S (S.uses.drop (k + 1)) ++ begW S S.begins) = least (0, -1) (wrongs S)) := Lib.hid (by
            have h1 := HLs.out
            rw [List.drop_eq_getElem_cons (by rw [HNu.out]; exact hlk), (List.getElem?_eq_some_iff.1 HU0.out).2, useW_cons, if_neg (by rw [HGood.out]; exact Bool.false_ne_true)] at h1
            exact h1)
          have HKe : Hid (Keeps w2 (w6.setCell ⟨gc, u1 * 5 + 1 + u2, none⟩ (.int .i64 pl)).drew ((w.heap.size + 1) :: w.heap.size :: ownL (.slice CA 0 0))) := Lib.hid ((HR.out.keep.trans (HK6.out.to_ _)).trans (k7.more (fun b _ hb => by simp [hb])))
          have HG1 := Lib.hid (HL6.out.keep k7 (fun hm => HB0.out.2 (HLL.out _ (by unfold asL; simp [hm]))))
          have HG2 := Lib.hid (HE6.out.keep k7 (fun hm => HB0.out.1 (HLL.out _ (by unfold asL; simp [hm]))))
          clear HM6' hgm k7
          generalize (w6.setCell ⟨gc, u1 * 5 + 1 + u2, none⟩ (.int .i64 pl)).drew = w7 at *
          go_wp2_with fail
          go_roundw
          case rel => exact ⟨k + 1, by omega, by go_num, _, ⟨HAm.out, HG1.out, HG2.out, HKe.out⟩, HLs2⟩
          case measure => simp [intOf]; omega
    · obtain rfl : nu = k := by omega
      obtain ⟨w3, hw3⟩ : ∃ w3, w3 = wr := ⟨wr, rfl⟩
      subst hw3
      have H3 : Hid (least er (begW S S.begins) = least (0, -1) (wrongs S)) := Lib.hid (by
        have h1 := HLs.out
        rw [List.drop_of_length_le (by rw [HNu.out]; exact Nat.le_refl _)] at h1
        exact h1)
      have q6 := hrun.am.blk.cell 6
      simp only [List.getElem?_toArray, List.getElem?_cons_zero, List.getElem?_cons_succ, HNb.out] at q6
      have H0 := Lib.hid hrun
      clear hrun HLs HR hk hlk
      go_wp2_with fail
      go_loopw [12, 13, 14, 82] (fun v12 v13 v14 i wr => ∃ k : Nat, k ≤ nb ∧ i = .int .i64 k ∧ ∃ er : Int × Int, SRun w0 w2 wr ab vb AA FA PA CA UA BA ca cf cp cc cu cb nl S (w.heap.size + 1) w.heap.size nu er ∧ Hid (least er (begW S (S.begins.drop k)) = least (0, -1) (wrongs S))) (fun _ _ _ i _ => nb - (intOf i).toNat)
      case atStart => exact ⟨0, Nat.zero_le _, rfl, er, H0.out, H3.out⟩
      case round =>
        clear H0 q6 H3 er
        obtain ⟨k, hk, rfl, er, hrun, HLs⟩ := hrel
        have HR := Lib.hid hrun
        by_cases hlk : k < nb
        · obtain ⟨b, hb⟩ := at_of HNb.out hlk
          obtain ⟨gb, hBA, _⟩ := own_atA hrun.am.begins (by simp only; rw [HNb.out]; omega)
          subst hBA
          obtain ⟨b1', off1, e1, hb1, hc⟩ := (Rd.of_own hrun.am.begins).field begE_len hb (by omega)
          injection e1 with e1
          injection e1 with e3 e4
          subst e3 e4
          obtain ⟨p, ln⟩ := b
          have hpn : p < np := by have := HBg.out _ (List.mem_of_getElem? hb); rw [HNp.out] at this; exact this
          obtain ⟨pr, hpr⟩ := at_of HNp.out hpn
          obtain ⟨gp, hPA, _⟩ := own_atA hrun.am.preds (by simp only; rw [HNp.out]; omega)
          subst hPA
          obtain ⟨b2', off2, e2, hb2, hc2⟩ := (Rd.of_own hrun.am.preds).field predE_len hpr (by omega)
          injection e2 with e2
          injection e2 with e3 e4
          subst e3 e4
          have p0 : wr.cell? ⟨gb, 0 + k * 2, none⟩ = some (.int .i64 p) := hc 0 _ rfl
          have p1 : wr.cell? ⟨gb, 0 + k * 2 + 1, none⟩ = some (.int .i64 ln) := hc 1 _ rfl
          have y2 : wr.cell? ⟨gp, 0 + p * 3 + 2, none⟩ = some (.int .i64 pr.entry) := hc2 2 _ rfl
          rw [Nat.zero_add] at p0 p1 y2
          obtain ⟨en, hen⟩ : ∃ en, pr.entry = en := ⟨_, rfl⟩
          rw [hen] at y2
          have HY2 := Lib.hid y2
          have HEn : Hid (entryAt S (p, ln) = en) := Lib.hid (by
            unfold entryAt
            rw [List.getD_eq_getElem?_getD, hpr]
            exact hen)
          have HDr : Hid (S.begins.drop k = (p, ln) :: S.begins.drop (k + 1)) := Lib.hid (by
            rw [List.drop_eq_getElem_cons (by rw [HNb.out]; exact hlk), (List.getElem?_eq_some_iff.1 hb).2])
          have KB : Keeps wr (wr.alloc (.cells #[.int .i64 p, .int .i64 ln] 108)) [] := (Keeps.refl wr []).alloc _
          have HKB := Lib.hid KB
          have HBx : Hid (Blk (wr.alloc (.cells #[.int .i64 p, .int .i64 ln] 108)) wr.heap.size 108 #[.int .i64 p, .int .i64 ln]) := Blk.new _ _ _
          have HF15 : Hid (∀ W, Keeps (wr.alloc (.cells #[.int .i64 p, .int .i64 ln] 108)) W [] → W.cell? ⟨ab, 2, none⟩ = some (.slice (some ⟨gp, 0, none⟩) np cp) ∧ W.cell? ⟨wr.heap.size, 0, none⟩ = some (.int .i64 p) ∧ W.cell? ⟨gp, p * 3 + 2, none⟩ = some (.int .i64 en)) := fun W kk => by
            have am := HR.out.am.keep0 (HKB.out.trans kk)
            have b2 := am.blk.cell 2
            simp only [List.getElem?_toArray, List.getElem?_cons_zero, List.getElem?_cons_succ, HNp.out] at b2
            exact ⟨b2, (HBx.out.keep kk (by simp)).cell 0, ((HKB.out.trans kk).cell0 (block_lt_of_cell HY2.out)).trans HY2.out⟩
          have c1 : (k : Int) < (nb : Int) := by omega
          have c0 : (0 : Int) ≤ (k : Int) := Int.natCast_nonneg _
          have c5 : (p : Int) < (np : Int) := by omega
          have c6 : (0 : Int) ≤ (p : Int) := Int.natCast_nonneg _
          have HLL : Hid (∀ z ∈ asL ab vb AA FA (some ⟨gp, 0, none⟩) CA UA (some ⟨gb, 0, none⟩), z ∈ L) := Lib.hid HL.out
          have HBase : Hid (w0.heap.size ≤ w.heap.size) := Lib.hid HM.out.bel.size
          clear hrun hb hc hpr hc2 hb1 hb2 y2 hen KB hpn
          go_upto_region 15 with fail
          clear p0 p1
          refine wp_region_tx (fun W' => W'.cell? ⟨ab, 2, none⟩ = some (.slice (some ⟨gp, 0, none⟩) np cp) ∧ W'.cell? ⟨wr.heap.size, 0, none⟩ = some (.int .i64 p) ∧ W'.cell? ⟨gp, p * 3 + 2, none⟩ = some (.int .i64 en)) [(0, true), (1, true), (2, true), (3, true), (4, true), (5, true), (6, true), (7, true), (8, true), (9, true), (10, false)] (by kernel_rfl) (by kernel_rfl) (HF15.out _ (Keeps.refl _ _).drew) (fun hHeld => ?_)
          (repeat (first | (refine wpTx_take (v := ?_) rfl (by assumption) ?_ (by rfl) ?_; rotate_left; (focus (intro w' hSw; (try dsimp only at hSw); go_simp; (try with_reducible rfl); done)); simp only [Act.put, List.setIfInBounds_toArray, List.set_cons_zero, List.set_cons_succ]) | (refine wpTx_skip rfl (by assumption) (by rfl) ?_; simp only [Act.put, List.setIfInBounds_toArray, List.set_cons_zero, List.set_cons_succ])))
          refine wpTx_last rfl (fun K hK => ?_)
          go_simp
          refine hK.out _ _ (NoPanic.normal ?_); clear hK K; (try simp only [Act.put, List.setIfInBounds_toArray, List.set_cons_zero, List.set_cons_succ])
          clear hHeld HF15
          have HK6 : Hid (Keeps wr (wr.alloc (.cells #[.int .i64 p, .int .i64 ln] 108)).drew []) := HKB.out.drew
          have HBx6 := Lib.hid HBx.out.drew
          clear HBx HKB
          generalize (wr.alloc (.cells #[.int .i64 p, .int .i64 ln] 108)).drew = w6 at *
          have HDw : Hid (IntKind.i64.wrap ((k : Int) + 1) = (k : Int) + 1) := Lib.hid (wrapK k (by omega))
          have HF6 : Hid (w6.drew.cell? ⟨ab, 6, none⟩ = some (.slice (some ⟨gb, 0, none⟩) nb cb) ∧ w6.drew.cell? ⟨ab, 2, none⟩ = some (.slice (some ⟨gp, 0, none⟩) np cp)) := by
            have am := HR.out.am.keep0 HK6.out.drew
            have b6 := am.blk.cell 6
            have b2 := am.blk.cell 2
            simp only [List.getElem?_toArray, List.getElem?_cons_zero, List.getElem?_cons_succ, HNb.out, HNp.out] at b6 b2
            exact ⟨b6, b2⟩
          by_cases hen : (nc : Int) ≤ en
          · have d0 : decide ((nc : Int) ≤ en) = true := decide_eq_true hen
            have HBd : Hid (begBad S (p, ln) (S.begins.drop (k + 1)) = true) := Lib.hid (by unfold begBad; rw [HNc.out, HEn.out, d0]; rfl)
            go_upto_region 16 with fail
            refine wp_region_tx (fun W' => W'.cell? ⟨ab, 6, none⟩ = some (.slice (some ⟨gb, 0, none⟩) nb cb) ∧ W'.cell? ⟨ab, 2, none⟩ = some (.slice (some ⟨gp, 0, none⟩) np cp)) [(0, true), (1, true), (2, true), (3, true), (4, true), (5, true), (6, true), (7, true), (8, true), (9, true), (10, true), (11, true), (12, true), (13, true), (14, true), (15, true), (16, true), (17, true), (18, true), (19, true), (20, true), (21, true), (22, true), (23, true), (24, true), (25, true), (26, true), (27, true), (28, true), (29, true), (30, true), (31, true), (32, true), (33, false)] (by kernel_rfl) (by kernel_rfl) HF6.out (fun hHeld => ?_)
            have dw := HDw.out
            (repeat (first | (refine wpTx_take (v := ?_) rfl (by assumption) ?_ (by rfl) ?_; rotate_left; (focus (intro w' hSw; (try dsimp only at hSw); go_simp; (try with_reducible rfl); done)); simp only [Act.put, List.setIfInBounds_toArray, List.set_cons_zero, List.set_cons_succ]) | (refine wpTx_skip rfl (by assumption) (by rfl) ?_; simp only [Act.put, List.setIfInBounds_toArray, List.set_cons_zero, List.set_cons_succ])))
            refine wpTx_last rfl (fun K hK => ?_)
            go_simp
            refine hK.out _ _ (NoPanic.normal ?_); clear hK K; (try simp only [Act.put, List.setIfInBounds_toArray, List.set_cons_zero, List.set_cons_succ])
            clear hHeld dw
            have HK7 : Hid (Keeps wr w6.drew []) := HK6.out.drew
            have HBx7 := Lib.hid HBx6.out.drew
            have HL7 := Lib.hid (HR.out.line.keep HK7.out (by simp))
            have HE7 := Lib.hid (HR.out.err.keep HK7.out (by simp))
            have HM7 := Lib.hid (HR.out.am.keep0 HK7.out)
            generalize w6.drew = w7 at *
            have HLs2 : Hid (least (worse er 7 ln) (begW S (S.begins.drop (k + 1))) = least (0, -1) (wrongs S)) := Lib.hid (by
              have h1 := HLs.out
              rw [HDr.out, begW_cons, if_pos HBd.out] at h1
              exact h1)
            have HW7 := Lib.hid (worse_any 7 ln (w.heap.size + 1) w.heap.size er w7 HL7.out HE7.out)
            have z1 := HBx7.out.cell 1
            go_wp2_with fail
            refine HW7.out.mono ?_
            rintro e w8 ⟨rfl, g1, g2, g3⟩
            have HAm : Hid (AsM w0 w8 ab vb AA FA (some ⟨gp, 0, none⟩) CA UA (some ⟨gb, 0, none⟩) ca cf cp cc cu cb nl { S with o := { S.o with code := codeK S nu } }) := Lib.hid (by
              refine HM7.out.keep g3 ?_
              intro q hq
              have hh := HBase.out
              simp only [List.mem_cons, List.not_mem_nil, or_false] at hq
              rcases hq with rfl | rfl
              · exact ⟨fun hm => HB0.out.2 (HLL.out _ hm), by omega⟩
              · exact ⟨fun hm => HB0.out.1 (HLL.out _ hm), by omega⟩)
            have HKe : Hid (Keeps w2 w8 ((w.heap.size + 1) :: w.heap.size :: ownL (.slice CA 0 0))) := Lib.hid ((HR.out.keep.trans (HK7.out.to_ _)).trans (g3.more (fun b _ hb => by simp only [List.mem_cons, List.not_mem_nil, or_false] at hb ⊢; rcases hb with h | h <;> simp [h])))
            have HG1 := Lib.hid g1
            have HG2 := Lib.hid g2
            clear g1 g2 g3
            go_wp2_with fail
            go_roundw
            case rel => exact ⟨k + 1, by omega, by go_num, _, ⟨HAm.out, HG1.out, HG2.out, HKe.out⟩, HLs2⟩
            case measure => simp [intOf]; omega
          · have d0 : decide ((nc : Int) ≤ en) = false := decide_eq_false hen
            by_cases hk1 : k + 1 < nb
            · obtain ⟨b2, hb2⟩ := at_of HNb.out hk1
              obtain ⟨b1', off1, e1, hb1, hc⟩ := (Rd.of_own HR.out.am.begins).field begE_len hb2 (by omega)
              injection e1 with e1
              injection e1 with e3 e4
              subst e3 e4
              obtain ⟨p2, ln2⟩ := b2
              have hpn : p2 < np := by have := HBg.out _ (List.mem_of_getElem? hb2); rw [HNp.out] at this; exact this
              obtain ⟨pr2, hpr2⟩ := at_of HNp.out hpn
              obtain ⟨b2', off2, e2', hb2', hc2⟩ := (Rd.of_own HR.out.am.preds).field predE_len hpr2 (by omega)
              injection e2' with e2'
              injection e2' with e3 e4
              subst e3 e4
              have r0 : wr.cell? ⟨gb, 0 + (k + 1) * 2, none⟩ = some (.int .i64 p2) := hc 0 _ rfl
              have r2 : wr.cell? ⟨gp, 0 + p2 * 3 + 2, none⟩ = some (.int .i64 pr2.entry) := hc2 2 _ rfl
              rw [Nat.zero_add] at r0 r2
              obtain ⟨e2, he2⟩ : ∃ en, pr2.entry = en := ⟨_, rfl⟩
              rw [he2] at r2
              have HEn2 : Hid (entryAt S (p2, ln2) = e2) := Lib.hid (by
                unfold entryAt
                rw [List.getD_eq_getElem?_getD, hpr2]
                exact he2)
              have HDr2 : Hid (S.begins.drop (k + 1) = (p2, ln2) :: S.begins.drop (k + 2)) := Lib.hid (by
                rw [List.drop_eq_getElem_cons (by rw [HNb.out]; exact hk1), (List.getElem?_eq_some_iff.1 hb2).2])
              have HF16 : Hid (w6.drew.cell? ⟨ab, 6, none⟩ = some (.slice (some ⟨gb, 0, none⟩) nb cb) ∧ w6.drew.cell? ⟨ab, 2, none⟩ = some (.slice (some ⟨gp, 0, none⟩) np cp) ∧ w6.drew.cell? ⟨gb, (k + 1) * 2, none⟩ = some (.int .i64 p2) ∧ w6.drew.cell? ⟨gp, p2 * 3 + 2, none⟩ = some (.int .i64 e2)) := ⟨HF6.out.1, HF6.out.2, (HK6.out.drew.cell0 (block_lt_of_cell r0)).trans r0, (HK6.out.drew.cell0 (block_lt_of_cell r2)).trans r2⟩
              have d1 : (k : Int) + 1 < (nb : Int) := by omega
              have d2 : (0 : Int) ≤ (k : Int) + 1 := by omega
              have d3 : (p2 : Int) < (np : Int) := by omega
              have d4 : (0 : Int) ≤ (p2 : Int) := Int.natCast_nonneg _
              clear hb2 hb1 hc hc2 hpr2 hb2' r0 r2 he2 hpn
              by_cases hee : e2 = en
              · have d5 : (e2 == en) = true := by simpa using hee
                have HBd : Hid (begBad S (p, ln) (S.begins.drop (k + 1)) = true) := Lib.hid (by rw [HDr2.out]; unfold begBad; rw [HNc.out, HEn.out, d0]; simp only [HEn2.out, Bool.false_or]; exact decide_eq_true hee)
                clear hee
                go_upto_region 16 with fail
                refine wp_region_tx (fun W' => W'.cell? ⟨ab, 6, none⟩ = some (.slice (some ⟨gb, 0, none⟩) nb cb) ∧ W'.cell? ⟨ab, 2, none⟩ = some (.slice (some ⟨gp, 0, none⟩) np cp) ∧ W'.cell? ⟨gb, (k + 1) * 2, none⟩ = some (.int .i64 p2) ∧ W'.cell? ⟨gp, p2 * 3 + 2, none⟩ = some (.int .i64 e2)) [(0, true), (1, true), (2, true), (3, true), (4, true), (5, true), (6, true), (7, true), (8, true), (9, true), (10, true), (11, true), (12, true), (13, true), (14, true), (15, true), (16, true), (17, true), (18, true), (19, true), (20, true), (21, true), (22, true), (23, true), (24, true), (25, true), (26, true), (27, true), (28, true), (29, true), (30, true), (31, true), (32, true), (33, false)] (by kernel_rfl) (by kernel_rfl) HF16.out (fun hHeld => ?_)
                have dw := HDw.out
                (repeat (first | (refine wpTx_take (v := ?_) rfl (by assumption) ?_ (by rfl) ?_; rotate_left; (focus (intro w' hSw; (try dsimp only at hSw); go_simp; (try with_reducible rfl); done)); simp only [Act.put, List.setIfInBounds_toArray, List.set_cons_zero, List.set_cons_succ]) | (refine wpTx_skip rfl (by assumption) (by rfl) ?_; simp only [Act.put, List.setIfInBounds_toArray, List.set_cons_zero, List.set_cons_succ])))
                refine wpTx_last rfl (fun K hK => ?_)
                go_simp
                refine hK.out _ _ (NoPanic.normal ?_); clear hK K; (try simp only [Act.put, List.setIfInBounds_toArray, List.set_cons_zero, List.set_cons_succ])
                clear hHeld dw
                have HK7 : Hid (Keeps wr w6.drew []) := HK6.out.drew
                have HBx7 := Lib.hid HBx6.out.drew
                have HL7 := Lib.hid (HR.out.line.keep HK7.out (by simp))
                have HE7 := Lib.hid (HR.out.err.keep HK7.out (by simp))
                have HM7 := Lib.hid (HR.out.am.keep0 HK7.out)
                generalize w6.drew = w7 at *
                have HLs2 : Hid (least (worse er 7 ln) (begW S (S.begins.drop (k + 1))) = least (0, -1) (wrongs S)) := Lib.hid (by
                  have h1 := HLs.out
                  rw [HDr.out, begW_cons, if_pos HBd.out] at h1
                  exact h1)
                have HW7 := Lib.hid (worse_any 7 ln (w.heap.size + 1) w.heap.size er w7 HL7.out HE7.out)
                have z1 := HBx7.out.cell 1
                go_wp2_with fail
                refine HW7.out.mono ?_
                rintro e w8 ⟨rfl, g1, g2, g3⟩
                have HAm : Hid (AsM w0 w8 ab vb AA FA (some ⟨gp, 0, none⟩) CA UA (some ⟨gb, 0, none⟩) ca cf cp cc cu cb nl { S with o := { S.o with code := codeK S nu } }) := Lib.hid (by
                  refine HM7.out.keep g3 ?_
                  intro q hq
                  have hh := HBase.out
                  simp only [List.mem_cons, List.not_mem_nil, or_false] at hq
                  rcases hq with rfl | rfl
                  · exact ⟨fun hm => HB0.out.2 (HLL.out _ hm), by omega⟩
                  · exact ⟨fun hm => HB0.out.1 (HLL.out _ hm), by omega⟩)
                have HKe : Hid (Keeps w2 w8 ((w.heap.size + 1) :: w.heap.size :: ownL (.slice CA 0 0))) := Lib.hid ((HR.out.keep.trans (HK7.out.to_ _)).trans (g3.more (fun b _ hb => by simp only [List.mem_cons, List.not_mem_nil, or_false] at hb ⊢; rcases hb with h | h <;> simp [h])))
                have HG1 := Lib.hid g1
                have HG2 := Lib.hid g2
                clear g1 g2 g3
                go_wp2_with fail
                go_roundw
                case rel => exact ⟨k + 1, by omega, by go_num, _, ⟨HAm.out, HG1.out, HG2.out, HKe.out⟩, HLs2⟩
                case measure => simp [intOf]; omega
              · have d5 : (e2 == en) = false := by simpa using hee
                have HBd : Hid (begBad S (p, ln) (S.begins.drop (k + 1)) = false) := Lib.hid (by rw [HDr2.out]; unfold begBad; rw [HNc.out, HEn.out, d0]; simp only [HEn2.out, Bool.false_or]; exact decide_eq_false hee)
                clear hee
                go_upto_region 16 with fail
                refine wp_region_tx (fun W' => W'.cell? ⟨ab, 6, none⟩ = some (.slice (some ⟨gb, 0, none⟩) nb cb) ∧ W'.cell? ⟨ab, 2, none⟩ = some (.slice (some ⟨gp, 0, none⟩) np cp) ∧ W'.cell? ⟨gb, (k + 1) * 2, none⟩ = some (.int .i64 p2) ∧ W'.cell? ⟨gp, p2 * 3 + 2, none⟩ = some (.int .i64 e2)) [(0, true), (1, true), (2, true), (3, true), (4, true), (5, true), (6, true), (7, true), (8, true), (9, true), (10, true), (11, true), (12, true), (13, true), (14, true), (15, true), (16, true), (17, true), (18, true), (19, true), (20, true), (21, true), (22, true), (23, true), (24, true), (25, true), (26, true), (27, true), (28, true), (29, true), (30, true), (31, true), (32, true), (33, false)] (by kernel_rfl) (by kernel_rfl) HF16.out (fun hHeld => ?_)
                have dw := HDw.out
                (repeat (first | (refine wpTx_take (v := ?_) rfl (by assumption) ?_ (by rfl) ?_; rotate_left; (focus (intro w' hSw; (try dsimp only at hSw); go_simp; (try with_reducible rfl); done)); simp only [Act.put, List.setIfInBounds_toArray, List.set_cons_zero, List.set_cons_succ]) | (refine wpTx_skip rfl (by assumption) (by rfl) ?_; simp only [Act.put, List.setIfInBounds_toArray, List.set_cons_zero, List.set_cons_succ])))
                refine wpTx_last rfl (fun K hK => ?_)
                go_simp
                refine hK.out _ _ (NoPanic.normal ?_); clear hK K; (try simp only [Act.put, List.setIfInBounds_toArray, List.set_cons_zero, List.set_cons_succ])
                clear hHeld dw
                have HK7 : Hid (Keeps wr w6.drew []) := HK6.out.drew
                have HBx7 := Lib.hid HBx6.out.drew
                have HL7 := Lib.hid (HR.out.line.keep HK7.out (by simp))
                have HE7 := Lib.hid (HR.out.err.keep HK7.out (by simp))
                have HM7 := Lib.hid (HR.out.am.keep0 HK7.out)
                generalize w6.drew = w7 at *
                have HLs2 : Hid (least er (begW S (S.begins.drop (k + 1))) = least (0, -1) (wrongs S)) := Lib.hid (by
                  have h1 := HLs.out
                  rw [HDr.out, begW_cons, if_neg (by rw [HBd.out]; exact Bool.false_ne_true)] at h1
                  exact h1)
                have HKe : Hid (Keeps w2 w7 ((w.heap.size + 1) :: w.heap.size :: ownL (.slice CA 0 0))) := Lib.hid (HR.out.keep.trans (HK7.out.to_ _))
                go_wp2_with fail
                go_roundw
                case rel => exact ⟨k + 1, by omega, by go_num, _, ⟨HM7.out, HL7.out, HE7.out, HKe.out⟩, HLs2⟩
                case measure => simp [intOf]; omega
            · have d1 : ¬ (k : Int) + 1 < (nb : Int) := by omega
              have HBd : Hid (begBad S (p, ln) (S.begins.drop (k + 1)) = false) := Lib.hid (by
                rw [List.drop_of_length_le (by rw [HNb.out]; omega)]
                unfold begBad
                rw [HNc.out, HEn.out, d0]
                rfl)
              go_upto_region 16 with fail
              refine wp_region_tx (fun W' => W'.cell? ⟨ab, 6, none⟩ = some (.slice (some ⟨gb, 0, none⟩) nb cb) ∧ W'.cell? ⟨ab, 2, none⟩ = some (.slice (some ⟨gp, 0, none⟩) np cp)) [(0, true), (1, true), (2, true), (3, true), (4, true), (5, true), (6, true), (7, true), (8, true), (9, true), (10, true), (11, true), (12, true), (13, true), (14, true), (15, true), (16, true), (17, true), (18, true), (19, true), (20, true), (21, true), (22, true), (23, true), (24, true), (25, true), (26, true), (27, true), (28, true), (29, true), (30, true), (31, true), (32, true), (33, false)] (by kernel_rfl) (by kernel_rfl) HF6.out (fun hHeld => ?_)
              have dw := HDw.out
              (repeat (first | (refine wpTx_take (v := ?_) rfl (by assumption) ?_ (by rfl) ?_; rotate_left; (focus (intro w' hSw; (try dsimp only at hSw); go_simp; (try with_reducible rfl); done)); simp only [Act.put, List.setIfInBounds_toArray, List.set_cons_zero, List.set_cons_succ]) | (refine wpTx_skip rfl (by assumption) (by rfl) ?_; simp only [Act.put, List.setIfInBounds_toArray, List.set_cons_zero, List.set_cons_succ])))
              refine wpTx_last rfl (fun K hK => ?_)
              go_simp
              refine hK.out _ _ (NoPanic.normal ?_); clear hK K; (try simp only [Act.put, List.setIfInBounds_toArray, List.set_cons_zero, List.set_cons_succ])
              clear hHeld dw
              have HK7 : Hid (Keeps wr w6.drew []) := HK6.out.drew
              have HBx7 := Lib.hid HBx6.out.drew
              have HL7 := Lib.hid (HR.out.line.keep HK7.out (by simp))
              have HE7 := Lib.hid (HR.out.err.keep HK7.out (by simp))
              have HM7 := Lib.hid (HR.out.am.keep0 HK7.out)
              generalize w6.drew = w7 at *
              have HLs2 : Hid (least er (begW S (S.begins.drop (k + 1))) = least (0, -1) (wrongs S)) := Lib.hid (by
                have h1 := HLs.out
                rw [HDr.out, begW_cons, if_neg (by rw [HBd.out]; exact Bool.false_ne_true)] at h1
                exact h1)
              have HKe : Hid (Keeps w2 w7 ((w.heap.size + 1) :: w.heap.size :: ownL (.slice CA 0 0))) := Lib.hid (HR.out.keep.trans (HK7.out.to_ _))
              go_wp2_with fail
              go_roundw
              case rel => exact ⟨k + 1, by omega, by go_num, _, ⟨HM7.out, HL7.out, HE7.out, HKe.out⟩, HLs2⟩
              case measure => simp [intOf]; omega
        · obtain rfl : nb = k := by omega
          have HE : Hid (er = least (0, -1) (wrongs S)) := Lib.hid (by
            have h1 := HLs.out
            rw [List.drop_of_length_le (by rw [HNb.out]; exact Nat.le_refl _)] at h1
            exact h1)
          have x0 := hrun.err.cell 0
          have x1 := hrun.line.cell 0
          clear hrun
          go_upto_region 19 with fail
          refine wp_region_tx (fun W' => W'.cell? ⟨w.heap.size, 0, none⟩ = some (.int .i64 er.1) ∧ W'.cell? ⟨w.heap.size + 1, 0, none⟩ = some (.int .i64 er.2)) [(0, true), (1, true), (2, false), (3, false)] (by kernel_rfl) (by kernel_rfl) ⟨x0, x1⟩ (fun hHeld => ?_)
          (repeat (first | (refine wpTx_take (v := ?_) rfl (by assumption) ?_ (by rfl) ?_; rotate_left; (focus (intro w' hSw; (try dsimp only at hSw); go_simp; (try with_reducible rfl); done)); simp only [Act.put, List.setIfInBounds_toArray, List.set_cons_zero, List.set_cons_succ]) | (refine wpTx_skip rfl (by assumption) (by rfl) ?_; simp only [Act.put, List.setIfInBounds_toArray, List.set_cons_zero, List.set_cons_succ])))
          refine wpTx_go rfl (fun K hK => ?_)
          go_simp
          refine hK.out _ _ ?_ ?_
          · exact ⟨x0, x1⟩
          (clear hHeld; intro hHeld; clear hK K; (try simp only [Act.put, List.setIfInBounds_toArray, List.set_cons_zero, List.set_cons_succ]))
          refine wpTx_last rfl (fun K hK => ?_)
          go_simp
          refine hK.out _ _ (NoPanic.normal ?_); clear hK K; (try simp only [Act.put, List.setIfInBounds_toArray, List.set_cons_zero, List.set_cons_succ])
          clear hHeld
          go_wp2_with fail
          go_ret2
          rw [← HE.out, HNu.out]
          have kk := HR.out.keep.drew
          refine ⟨rfl, L, ⟨_, _, _, _, _, _, _, _, _, _, _, _, _, HR.out.am.keep0 (Keeps.refl _ _).drew, HL.out, fun b hb => ⟨(HLt.out b hb).1, Nat.lt_of_lt_of_le (HLt.out b hb).2 (Nat.le_trans HK1.out.size kk.size)⟩⟩, ⟨?_, fun b hb => .inl hb⟩⟩
          refine ⟨kk.os.trans HK1.out.os, kk.tape.trans HK1.out.tape, kk.output.trans HK1.out.output, Nat.le_trans HK1.out.size kk.size, fun i hi hn => (kk.block i (Nat.lt_of_lt_of_le hi HK1.out.size) (fun hm => ?_)).trans (HK1.out.block i hi (by simp))⟩
          simp only [List.mem_cons] at hm
          rcases hm with rfl | rfl | hm
          · omega
          · omega
          · exact hn (HL.out i (by unfold asL; simp [hm]))
end Go.Proofs.YtpcihhdalofdiaaGreatDoor

/- Lines become an object: the program's Program. Printed by gen_asprog.py. -/
namespace Go.Proofs.YtpcihhdalofdiaaGreatDoor
open Go.RowKit Go.Maps
attribute [local irreducible] numT kindsOf nameOf checkE fitsP operandP plainP labelP slashP namedT

/-- What is known of the lines so far. -/
structure Good (S : AS) (k : Nat) : Prop where
  inv : InvB S
  uses : UsesI S
  lt : ∀ b ∈ S.begins, b.1 < S.o.preds.length
  few : S.begins.length ≤ k
  ufew : S.uses.length ≤ 4 * S.o.code.length
  room : fullP S.o = false
theorem Good.start : Good AS0 0 := ⟨fun k p hk => by simp [AS0] at hk, UsesI.start, fun _ hb => absurd hb (List.not_mem_nil), Nat.le_refl _, Nat.zero_le _, rfl⟩
theorem full_few {o : LObj} (h : fullP o = false) : o.atoms.length ≤ 256 ∧ o.funs.length ≤ 256 ∧ o.preds.length ≤ 64 ∧ o.code.length ≤ 1024 := by
  unfold fullP at h
  simp only [Bool.or_eq_false_iff, decide_eq_false_iff_not] at h
  omega
theorem Good.toFew {S : AS} {k : Nat} (h : Good S k) (hk : k ≤ 100000) : Few S := by
  obtain ⟨h1, h2, h3, h4⟩ := full_few h.room
  have h5 := h.ufew
  have h6 := h.few
  exact ⟨by omega, by omega, by omega, by omega, by omega, by omega⟩
theorem begin_inv {S : AS} (h : InvB S) (f : LFun) (n : Nat) (e : Int) : InvB { S with o := { (predP S.o f).1 with preds := (predP S.o f).1.preds.modify (predP S.o f).2 fun p => { p with entry := e } }, begins := S.begins ++ [((predP S.o f).2, n)] } := by
  have hp := h.pred f
  intro k p hk he
  simp only at hk
  rw [List.getElem?_modify] at hk
  by_cases hkk : (predP S.o f).2 = k
  · rw [List.any_append]
    have : isBeg k ((predP S.o f).2, n) = true := by unfold isBeg; rw [hkk]; simp
    simp [this]
  · rw [List.any_append]
    cases hq : (predP S.o f).1.preds[k]? with
    | none => rw [hq] at hk; simp [hkk] at hk
    | some p' =>
      rw [hq] at hk
      simp [hkk] at hk
      subst hk
      rw [hp k p' hq he]
      rfl
theorem operand_inv {S : AS} {o : LObj} (h : InvB { S with o := o }) (k : Nat) (w : Txt) : InvB { S with o := (operandP o k w).1 } := by
  have h1 : ∀ f, InvB { S with o := (predP o f).1 } := fun f => InvB.pred (S := { S with o := o }) h f
  have e : (operandP o k w).1.preds = o.preds ∨ ∃ f, (operandP o k w).1 = (predP o f).1 := by
    unfold operandP
    split
    · exact .inl rfl
    · split
      · split <;> exact .inl rfl
      · split
        · split
          · exact .inr ⟨_, rfl⟩
          · exact .inl rfl
        · split <;> exact .inl rfl
  rcases e with e | ⟨f, e⟩
  · intro i p hi he
    simp only at hi
    rw [e] at hi
    exact h i p hi he
  · rw [e]
    exact h1 f
theorem Good.line {S : AS} {k : Nat} (h : Good S k) (s : Txt) (hr : fullP (lineP S s k).1.o = false) : Good (lineP S s k).1 (k + 1) := by
  have hu := h.uses.line s k
  refine ⟨?_, hu, ?_, ?_, ?_, hr⟩
  · clear hu hr
    unfold lineP
    split
    · unfold beginP
      split
      · exact h.inv
      · simp only
        split
        · exact h.inv
        · exact begin_inv h.inv _ _ _
    · split
      · unfold markP
        split
        · exact h.inv
        · split
          · exact h.inv
          · exact h.inv
      · unfold instrP
        simp only
        split
        · exact h.inv
        · rename_i hc
          generalize namedT ((splitT s).headD []) = op
          have key : ∀ (l : List (Nat × Txt)) (o : LObj) (j : Nat), InvB { S with o := o } → InvB { S with o := (operandsP S.o.code.length k o j l).1 } := by
            intro l
            induction l with
            | nil => intro o j ho; exact ho
            | cons x l ih =>
              intro o j ho
              obtain ⟨kk, w⟩ := x
              rw [operandsP]
              refine ih _ _ ?_
              exact operand_inv ho kk w
          exact key _ S.o 0 h.inv
  · clear hu hr
    unfold lineP
    split
    · unfold beginP
      split
      · exact h.lt
      · rename_i f _
        simp only
        split
        · exact h.lt
        · intro b hb
          simp only [List.length_modify]
          rcases List.mem_append.1 hb with hb | hb
          · have h1 := h.lt b hb
            have h2 := (predP_le S.o f).preds
            omega
          · obtain rfl := List.mem_singleton.1 hb
            exact predP_lt S.o f
    · split
      · unfold markP
        split
        · exact h.lt
        · split
          · exact h.lt
          · exact h.lt
      · unfold instrP
        simp only
        split
        · exact h.lt
        · intro b hb
          have h1 := h.lt b hb
          have h2 := (operandsP_le (n := S.o.code.length) (at_ := k) (((kindsOf (namedT ((splitT s).headD []))).map Int.toNat).zip (splitT s).tail) S.o 0).preds
          simp only
          omega
  · clear hu hr
    have hf := h.few
    unfold lineP
    split
    · unfold beginP
      split
      · exact Nat.le_succ_of_le hf
      · simp only
        split
        · exact Nat.le_succ_of_le hf
        · simp only [List.length_append, List.length_singleton]
          omega
    · split
      · unfold markP
        split
        · exact Nat.le_succ_of_le hf
        · split
          · exact Nat.le_succ_of_le hf
          · exact Nat.le_succ_of_le hf
      · unfold instrP
        simp only
        split
        · exact Nat.le_succ_of_le hf
        · exact Nat.le_succ_of_le hf
  · clear hu hr
    have hf := h.ufew
    unfold lineP
    split
    · unfold beginP
      split
      · exact hf
      · simp only
        split
        · exact hf
        · simp only [predP_code]
          exact hf
    · split
      · unfold markP
        split
        · exact hf
        · split
          · exact hf
          · exact hf
      · unfold instrP
        simp only
        split
        · exact hf
        · generalize namedT ((splitT s).headD []) = op
          have h1 := operandsP_uses S.o.code.length k (((kindsOf op).map Int.toNat).zip (splitT s).tail) S.o 0
          have h2 := operandsP_code (n := S.o.code.length) (at_ := k) (((kindsOf op).map Int.toNat).zip (splitT s).tail) S.o 0
          have hk4 := kinds_few op
          have hz : (((kindsOf op).map Int.toNat).zip (splitT s).tail).length ≤ 4 := by
            rw [List.length_zip, List.length_map]
            omega
          simp only [List.length_append, h2, List.length_singleton]
          omega
theorem AsM.ob2 {w0 w w2 : World} {ab vb : Nat} {AA FA PA CA UA BA : Option Addr} {ca cf cp cc cu cb nl : Nat} {S : AS} {M : List Nat} (h : AsM w0 w ab vb AA FA PA CA UA BA ca cf cp cc cu cb nl S) (k : Keeps w w2 M) (hM : ∀ b ∈ M, b < w0.heap.size) : ObIs w2 S.o AA FA PA CA ca cf cp cc := by
  have hn : ∀ {n size c : Nat} {e : TypeId} {A : Option Addr} {xs : List Value}, w.ownsRow w0.heap.size e size (.slice A n c) n xs → ∀ b ∈ M, b ∉ ownL (.slice A 0 0) := fun ho b hb hm => by
    have h1 := (own_ltA ho b hm).1
    have h2 := hM b hb
    omega
  exact ⟨Rd.of_own (own_keepA h.atoms k (hn h.atoms)), Rd.of_own (own_keepA h.funs k (hn h.funs)), Rd.of_own (own_keepA h.preds k (hn h.preds)), Rd.of_own (own_keepA h.code k (hn h.code)), fun e => by subst e; exact own_nilA h.atoms, fun e => by subst e; exact own_nilA h.funs, fun e => by subst e; exact own_nilA h.preds, fun e => by subst e; exact own_nilA h.code⟩
theorem lines_cons {S : AS} {n : Nat} {s : Txt} {l : List Txt} : linesP S n (s :: l) = if (lineP S s n).2 ≠ 0 then (S, (lineP S s n).2, (n : Int)) else if fullP (lineP S s n).1.o then (S, 2, (n : Int)) else linesP (lineP S s n).1 (n + 1) l := rfl
theorem prog_bad {l : List Txt} {S : AS} {e m : Int} (h : linesP AS0 0 l = (S, e, m)) (he : e ≠ 0) : programP l = (⟨[], [], [], []⟩, e, m) := by
  unfold programP
  rw [h]
  exact if_pos he
theorem prog_settle {l : List Txt} {S : AS} (h : linesP AS0 0 l = (S, 0, -1)) : programP l = if (least (0, -1) (wrongs S)).1 ≠ 0 then (⟨[], [], [], []⟩, (least (0, -1) (wrongs S)).1, (least (0, -1) (wrongs S)).2) else (settleP S, 0, -1) := by
  unfold programP
  rw [h]
  simp only
  rw [if_neg (by decide)]
/-- What Program hands back. -/
def PrDone (w : World) (r : LObj × Int × Int) (e : Ending) (w' : World) : Prop :=
  ∃ Aa Af Ap Ac ca cf cp cc, e = .returned (.tuple #[.agg #[.slice Aa r.1.atoms.length ca, .slice Af r.1.funs.length cf, .slice Ap r.1.preds.length cp, .slice Ac r.1.code.length cc], .int .i64 r.2.1, .int .i64 r.2.2]) ∧ ObIs w' r.1 Aa Af Ap Ac ca cf cp cc ∧ Keeps w w' []
set_option maxRecDepth 100000 in
set_option maxHeartbeats 6400000 in
theorem programA_any (ls : List ByteArray) (A : Option Addr) (n c : Nat) (w : World) (h : St w) (hl : ls.length = n) (hn : n ≤ 100000) (hA : Rd w A (ls.flatMap strE)) (hsz : ∀ s ∈ ls, s.size ≤ 4294967000) :
    Calls Tryz.prog 8 #[.slice A n c] w (PrDone w (programP (ls.map (·.data.toList)))) := by
  unfold PrDone
  have k0 : Keeps w (w.alloc (.cells #[.slice none 0 0, .slice none 0 0, .slice none 0 0, .slice none 0 0] 31)) [] := (Keeps.refl w []).alloc _
  have hBox : Blk (w.alloc (.cells #[.slice none 0 0, .slice none 0 0, .slice none 0 0, .slice none 0 0] 31)) w.heap.size 31 #[.slice none 0 0, .slice none 0 0, .slice none 0 0, .slice none 0 0] := Blk.new _ _ _
  obtain ⟨w0, hw0⟩ : ∃ w0, w0 = (w.alloc (.cells #[.slice none 0 0, .slice none 0 0, .slice none 0 0, .slice none 0 0] 31)) := ⟨_, rfl⟩
  have hs0 : w0.heap.size = w.heap.size + 1 := by rw [hw0, World.size_alloc]
  have HAs : Hid (As w0 (((w.alloc (.cells #[.slice none 0 0, .slice none 0 0, .slice none 0 0, .slice none 0 0] 31)).alloc (.map #[] 0)).alloc (.cells #[.slice none 0 0, .slice none 0 0, .slice none 0 0, .slice none 0 0, .map (some (w.heap.size + 1)), .slice none 0 0, .slice none 0 0] 58)) (w.heap.size + 2) [w.heap.size + 2, w.heap.size + 1] 0 AS0) := by
    have e1 : (w.alloc (.cells #[.slice none 0 0, .slice none 0 0, .slice none 0 0, .slice none 0 0] 31)).heap.size = w.heap.size + 1 := by rw [World.size_alloc]
    have e2 : ((w.alloc (.cells #[.slice none 0 0, .slice none 0 0, .slice none 0 0, .slice none 0 0] 31)).alloc (.map #[] 0)).heap.size = w.heap.size + 2 := by rw [World.size_alloc, e1]
    have b2 : Blk (((w.alloc (.cells #[.slice none 0 0, .slice none 0 0, .slice none 0 0, .slice none 0 0] 31)).alloc (.map #[] 0)).alloc (.cells #[.slice none 0 0, .slice none 0 0, .slice none 0 0, .slice none 0 0, .map (some (w.heap.size + 1)), .slice none 0 0, .slice none 0 0] 58)) (w.heap.size + 2) 58 #[.slice none 0 0, .slice none 0 0, .slice none 0 0, .slice none 0 0, .map (some (w.heap.size + 1)), .slice none 0 0, .slice none 0 0] := Blk.newAt _ _ e2.symm
    have m1 := LM.made (w.alloc (.cells #[.slice none 0 0, .slice none 0 0, .slice none 0 0, .slice none 0 0] 31))
    rw [e1] at m1
    have m2 := m1.kept (w' := (((w.alloc (.cells #[.slice none 0 0, .slice none 0 0, .slice none 0 0, .slice none 0 0] 31)).alloc (.map #[] 0)).alloc (.cells #[.slice none 0 0, .slice none 0 0, .slice none 0 0, .slice none 0 0, .map (some (w.heap.size + 1)), .slice none 0 0, .slice none 0 0] 58))) ((Keeps.refl _ []).alloc _) (by simp)
    have oz : ∀ (e : TypeId) (sz : Nat), World.ownsRow (((w.alloc (.cells #[.slice none 0 0, .slice none 0 0, .slice none 0 0, .slice none 0 0] 31)).alloc (.map #[] 0)).alloc (.cells #[.slice none 0 0, .slice none 0 0, .slice none 0 0, .slice none 0 0, .map (some (w.heap.size + 1)), .slice none 0 0, .slice none 0 0] 58)) w0.heap.size e sz (.slice none 0 0) 0 [] := fun e sz => ⟨by simp, .inl ⟨rfl, rfl⟩⟩
    refine ⟨w.heap.size + 1, none, none, none, none, none, none, 0, 0, 0, 0, 0, 0, ⟨b2, oz _ _, oz _ _, oz _ _, oz _ _, oz _ _, oz _ _, m2, ⟨by omega, by omega⟩, ?_, ?_⟩, ?_, ?_⟩
    · rw [hw0]
      exact (((Keeps.refl (w.alloc (.cells #[.slice none 0 0, .slice none 0 0, .slice none 0 0, .slice none 0 0] 31)) []).alloc _).alloc _).toBelow
    · rw [hw0]
      exact h.keep k0
    · intro b hb
      simpa [asL, ownL, Value.ownBlock] using hb
    · intro b hb
      simp only [List.mem_cons, List.not_mem_nil, or_false] at hb
      rw [World.size_alloc, e2]
      rcases hb with rfl | rfl <;> omega
  have HBox : Hid (Blk w0 w.heap.size 31 #[.slice none 0 0, .slice none 0 0, .slice none 0 0, .slice none 0 0]) := Lib.hid (by rw [hw0]; exact hBox)
  have HK0 : Hid (Keeps w w0 []) := Lib.hid (by rw [hw0]; exact k0)
  have HS0 := Lib.hid hs0
  have HL := Lib.hid hl
  have HA := Lib.hid hA
  have HSz := Lib.hid hsz
  have hmm := @run_makeMap Tryz.prog
  obtain ⟨T, hT⟩ : ∃ T, ls.map (·.data.toList) = T := ⟨_, rfl⟩
  have HT := Lib.hid hT
  have HTl : Hid (T.length = n) := Lib.hid (by rw [← hT, List.length_map, hl])
  rw [hT]
  clear k0 hBox hs0 hw0 h hl hA hsz hT
  go_enter Tryz.func8, Tryz.ntmps8
  go_upto_region 2 with fail
  generalize (((w.alloc (.cells #[.slice none 0 0, .slice none 0 0, .slice none 0 0, .slice none 0 0] 31)).alloc (.map #[] 0)).alloc (.cells #[.slice none 0 0, .slice none 0 0, .slice none 0 0, .slice none 0 0, .map (some (w.heap.size + 1)), .slice none 0 0, .slice none 0 0] 58)) = w2 at *
  clear hmm
  go_wp2_with fail
  go_loopw [6, 7, 8, 16] (fun v6 v7 v8 i wr => ∃ k : Nat, k ≤ n ∧ i = .int .i64 k ∧ ∃ L S, As w0 wr (w.heap.size + 2) L k S ∧ Good S k ∧ Hid (linesP S k (T.drop k) = linesP AS0 0 T)) (fun _ _ _ i _ => n - (intOf i).toNat)
  case atStart => exact ⟨0, Nat.zero_le _, rfl, _, _, HAs.out, Good.start, rfl⟩
  case round =>
    clear HAs w2
    obtain ⟨k, hk, rfl, L, S, hAs, hG, HLs⟩ := hrel
    have HAs := Lib.hid hAs
    have HG := Lib.hid hG
    have HBe := Lib.hid hAs.bel
    have HBoxR : Hid (Blk wr w.heap.size 31 #[.slice none 0 0, .slice none 0 0, .slice none 0 0, .slice none 0 0]) := Lib.hid ((HBe.out.block _ (by rw [HS0.out]; omega)).trans HBox.out)
    have HKr : Hid (Keeps w wr []) := Lib.hid (HK0.out.trans (Keeps.nil_of HBe.out))
    clear hAs hG
    by_cases hlk : k < n
    · obtain ⟨s, hs⟩ := at_of HL.out hlk
      obtain ⟨b, off, rfl, hb, hc⟩ := (HA.out.keep HKr.out).field strE_len hs (by omega)
      have p0 : wr.cell? ⟨b, off + k, none⟩ = some (.string s) := by have := hc 0 _ rfl; simpa using this
      have HTd : Hid (T.drop k = s.data.toList :: T.drop (k + 1)) := Lib.hid (by
        rw [List.drop_eq_getElem_cons (by rw [HTl.out]; exact hlk)]
        congr 1
        have h1 : T[k]? = some s.data.toList := by rw [← HT.out, List.getElem?_map, hs]; rfl
        exact (List.getElem?_eq_some_iff.1 h1).2)
      have HLn := Lib.hid (lineA_any HAs.out HG.out.inv (HG.out.toFew (by omega)) (by omega) s (HSz.out s (List.mem_of_getElem? hs)) k)
      obtain ⟨r, hr⟩ : ∃ r, lineP S s.data.toList k = r := ⟨_, rfl⟩
      rw [hr] at HLn
      have HLs2 : Hid ((if r.2 ≠ 0 then (S, r.2, (k : Int)) else if fullP r.1.o then (S, 2, (k : Int)) else linesP r.1 (k + 1) (T.drop (k + 1))) = linesP AS0 0 T) := Lib.hid (by
        have h1 := HLs.out
        rw [HTd.out, lines_cons, hr] at h1
        exact h1)
      have HGl : Hid (fullP r.1.o = false → Good r.1 (k + 1)) := fun h2 => by
        have := HG.out.line s.data.toList (k := k)
        rw [hr] at this
        exact this h2
      have b1 : (k : Int) < (n : Int) := by omega
      have b0 : (0 : Int) ≤ (k : Int) := Int.natCast_nonneg _
      clear hs hb hc hr HLs
      obtain ⟨S1, er⟩ := r
      dsimp only at HLs2 HGl
      go_wp2_with fail
      refine HLn.out.mono ?_
      rintro e w3 ⟨rfl, L3, S3, hA3, hs3, hS3⟩
      have HA3 := Lib.hid hA3
      have HS3 := Lib.hid hS3
      have HBe3 := Lib.hid hA3.bel
      have HBox3 : Hid (Blk w3 w.heap.size 31 #[.slice none 0 0, .slice none 0 0, .slice none 0 0, .slice none 0 0]) := Lib.hid ((HBe3.out.block _ (by rw [HS0.out]; omega)).trans HBox.out)
      have HKr3 : Hid (Keeps w w3 []) := Lib.hid (HK0.out.trans (Keeps.nil_of HBe3.out))
      clear hA3 hs3 hS3 HLn HBoxR HKr HBe HAs
      dsimp only
      by_cases he : er = 0
      case neg =>
        have d0 : (er == 0) = false := by simpa using he
        have d1 : (er != 0) = true := by simpa using he
        have HV := Lib.hid (prog_bad (HLs2.out.symm.trans (if_pos he)) he)
        have HBoxW := Lib.hid HBox3.out
        clear he
        have HBf : Hid (Blk ((((w3.setCell ⟨w.heap.size, 0, none⟩ (.slice none 0 0)).setCell ⟨w.heap.size, 1, none⟩ (.slice none 0 0)).setCell ⟨w.heap.size, 2, none⟩ (.slice none 0 0)).setCell ⟨w.heap.size, 3, none⟩ (.slice none 0 0)) w.heap.size 31 #[.slice none 0 0, .slice none 0 0, .slice none 0 0, .slice none 0 0]) := Lib.hid (((((HBoxW.out.set_ 0 (.slice none 0 0)).set_ 1 (.slice none 0 0)).set_ 2 (.slice none 0 0)).set_ 3 (.slice none 0 0)))
        have HKf : Hid (Keeps w ((((w3.setCell ⟨w.heap.size, 0, none⟩ (.slice none 0 0)).setCell ⟨w.heap.size, 1, none⟩ (.slice none 0 0)).setCell ⟨w.heap.size, 2, none⟩ (.slice none 0 0)).setCell ⟨w.heap.size, 3, none⟩ (.slice none 0 0)) []) := Lib.hid ((((HKr3.out.setCell (p := ⟨w.heap.size, 0, none⟩) (.inr (Nat.le_refl _)) _).setCell (p := ⟨w.heap.size, 1, none⟩) (.inr (Nat.le_refl _)) _).setCell (p := ⟨w.heap.size, 2, none⟩) (.inr (Nat.le_refl _)) _).setCell (p := ⟨w.heap.size, 3, none⟩) (.inr (Nat.le_refl _)) _)
        have f0 := HBoxW.out.frozen 0
        have v0 := HBoxW.out.cell 0
        have f1 := HBoxW.out.frozen 1
        have v1 := HBoxW.out.cell 1
        have f2 := HBoxW.out.frozen 2
        have v2 := HBoxW.out.cell 2
        have f3 := HBoxW.out.frozen 3
        have v3 := HBoxW.out.cell 3
        go_wp2_with fail
        generalize ((((w3.setCell ⟨w.heap.size, 0, none⟩ (.slice none 0 0)).setCell ⟨w.heap.size, 1, none⟩ (.slice none 0 0)).setCell ⟨w.heap.size, 2, none⟩ (.slice none 0 0)).setCell ⟨w.heap.size, 3, none⟩ (.slice none 0 0)) = wF at *
        have y0 := HBf.out.cell 0
        have y1 := HBf.out.cell 1
        have y2 := HBf.out.cell 2
        have y3 := HBf.out.cell 3
        refine bodyPost_ret (v := .tuple #[.agg #[.slice none 0 0, .slice none 0 0, .slice none 0 0, .slice none 0 0], .int .i64 er, .int .i64 k]) (by simp [results, Tryz.results8, go_sem, y0, y1, y2, y3]) rfl ?_
        rw [HV.out]
        exact ⟨none, none, none, none, 0, 0, 0, 0, rfl, ⟨Rd.nil, Rd.nil, Rd.nil, Rd.nil, fun _ => rfl, fun _ => rfl, fun _ => rfl, fun _ => rfl⟩, HKf.out⟩
      have hA4 := HA3.out
      rw [HS3.out he] at hA4
      have HA4 := Lib.hid hA4
      subst he
      have HFu := Lib.hid (fullA_any hA4)
      clear hA4
      cases hfu : fullP S1.o with
      | true =>
        rw [hfu] at HFu
        have HV := Lib.hid (prog_bad (HLs2.out.symm.trans ((if_neg (by decide)).trans (if_pos hfu))) (by decide))
        clear hfu
        go_wp2_with (go_at_call 19; refine HFu.out.mono ?_; rintro e w4 ⟨rfl, k4⟩; have HBoxW := Lib.hid (HBox3.out.keep k4 (by simp)); have HKr4 := Lib.hid (HKr3.out.trans k4); clear k4; have f0 := HBoxW.out.frozen 0; have v0 := HBoxW.out.cell 0; have f1 := HBoxW.out.frozen 1; have v1 := HBoxW.out.cell 1; have f2 := HBoxW.out.frozen 2; have v2 := HBoxW.out.cell 2; have f3 := HBoxW.out.frozen 3; have v3 := HBoxW.out.cell 3)
        have HBf : Hid (Blk ((((w4.setCell ⟨w.heap.size, 0, none⟩ (.slice none 0 0)).setCell ⟨w.heap.size, 1, none⟩ (.slice none 0 0)).setCell ⟨w.heap.size, 2, none⟩ (.slice none 0 0)).setCell ⟨w.heap.size, 3, none⟩ (.slice none 0 0)) w.heap.size 31 #[.slice none 0 0, .slice none 0 0, .slice none 0 0, .slice none 0 0]) := Lib.hid (((((HBoxW.out.set_ 0 (.slice none 0 0)).set_ 1 (.slice none 0 0)).set_ 2 (.slice none 0 0)).set_ 3 (.slice none 0 0)))
        have HKf : Hid (Keeps w ((((w4.setCell ⟨w.heap.size, 0, none⟩ (.slice none 0 0)).setCell ⟨w.heap.size, 1, none⟩ (.slice none 0 0)).setCell ⟨w.heap.size, 2, none⟩ (.slice none 0 0)).setCell ⟨w.heap.size, 3, none⟩ (.slice none 0 0)) []) := Lib.hid ((((HKr4.out.setCell (p := ⟨w.heap.size, 0, none⟩) (.inr (Nat.le_refl _)) _).setCell (p := ⟨w.heap.size, 1, none⟩) (.inr (Nat.le_refl _)) _).setCell (p := ⟨w.heap.size, 2, none⟩) (.inr (Nat.le_refl _)) _).setCell (p := ⟨w.heap.size, 3, none⟩) (.inr (Nat.le_refl _)) _)
        generalize ((((w4.setCell ⟨w.heap.size, 0, none⟩ (.slice none 0 0)).setCell ⟨w.heap.size, 1, none⟩ (.slice none 0 0)).setCell ⟨w.heap.size, 2, none⟩ (.slice none 0 0)).setCell ⟨w.heap.size, 3, none⟩ (.slice none 0 0)) = wF at *
        have y0 := HBf.out.cell 0
        have y1 := HBf.out.cell 1
        have y2 := HBf.out.cell 2
        have y3 := HBf.out.cell 3
        refine bodyPost_ret (v := .tuple #[.agg #[.slice none 0 0, .slice none 0 0, .slice none 0 0, .slice none 0 0], .int .i64 2, .int .i64 k]) (by simp [results, Tryz.results8, go_sem, y0, y1, y2, y3]) rfl ?_
        rw [HV.out]
        exact ⟨none, none, none, none, 0, 0, 0, 0, rfl, ⟨Rd.nil, Rd.nil, Rd.nil, Rd.nil, fun _ => rfl, fun _ => rfl, fun _ => rfl, fun _ => rfl⟩, HKf.out⟩
      | false =>
        rw [hfu] at HFu
        have HLs3 := HLs2.out
        rw [if_neg (by decide), hfu] at HLs3
        have HLs4 : Hid (linesP S1 (k + 1) (T.drop (k + 1)) = linesP AS0 0 T) := Lib.hid HLs3
        have HGk := Lib.hid (HGl.out hfu)
        clear hfu HLs3
        go_wp2_with (go_at_call 19; refine HFu.out.mono ?_; rintro e w4 ⟨rfl, k4⟩; have HA5 := Lib.hid (HA4.out.keep0 k4); clear k4)
        go_roundw
        case rel => exact ⟨k + 1, by omega, by go_num, _, _, HA5.out, HGk.out, HLs4⟩
        case measure => simp [intOf]; omega
    · obtain rfl : n = k := by omega
      have hE : linesP AS0 0 T = (S, 0, -1) := by
        have h1 := HLs.out
        rw [List.drop_of_length_le (by rw [HTl.out]; exact Nat.le_refl _)] at h1
        exact h1.symm
      have HPr := Lib.hid (prog_settle hE)
      have HSt := Lib.hid (settleA_any HAs.out HG.out.uses HG.out.lt (HG.out.toFew hn))
      have HGo := Lib.hid (@settle_good S)
      obtain ⟨E, hEE⟩ : ∃ E, least (0, -1) (wrongs S) = E := ⟨_, rfl⟩
      rw [hEE] at HPr HSt HGo
      clear hE hEE HLs hlk hk
      obtain ⟨er, m⟩ := E
      dsimp only at HPr HSt HGo
      go_wp2_with fail
      refine HSt.out.mono ?_
      rintro e w3 ⟨rfl, L3, hA3, hs3⟩
      have HA3 := Lib.hid hA3
      have HBe3 := Lib.hid hA3.bel
      have HBoxW : Hid (Blk w3 w.heap.size 31 #[.slice none 0 0, .slice none 0 0, .slice none 0 0, .slice none 0 0]) := Lib.hid ((HBe3.out.block _ (by rw [HS0.out]; omega)).trans HBox.out)
      have HKr3 : Hid (Keeps w w3 []) := Lib.hid (HK0.out.trans (Keeps.nil_of HBe3.out))
      clear hA3 hs3 HSt HBoxR HKr HBe HAs
      by_cases he : er = 0
      case neg =>
        have d0 : (er == 0) = false := by simpa using he
        have d1 : (er != 0) = true := by simpa using he
        have HV := Lib.hid (HPr.out.trans (if_pos he))
        clear he
        have HBf : Hid (Blk ((((w3.setCell ⟨w.heap.size, 0, none⟩ (.slice none 0 0)).setCell ⟨w.heap.size, 1, none⟩ (.slice none 0 0)).setCell ⟨w.heap.size, 2, none⟩ (.slice none 0 0)).setCell ⟨w.heap.size, 3, none⟩ (.slice none 0 0)) w.heap.size 31 #[.slice none 0 0, .slice none 0 0, .slice none 0 0, .slice none 0 0]) := Lib.hid (((((HBoxW.out.set_ 0 (.slice none 0 0)).set_ 1 (.slice none 0 0)).set_ 2 (.slice none 0 0)).set_ 3 (.slice none 0 0)))
        have HKf : Hid (Keeps w ((((w3.setCell ⟨w.heap.size, 0, none⟩ (.slice none 0 0)).setCell ⟨w.heap.size, 1, none⟩ (.slice none 0 0)).setCell ⟨w.heap.size, 2, none⟩ (.slice none 0 0)).setCell ⟨w.heap.size, 3, none⟩ (.slice none 0 0)) []) := Lib.hid ((((HKr3.out.setCell (p := ⟨w.heap.size, 0, none⟩) (.inr (Nat.le_refl _)) _).setCell (p := ⟨w.heap.size, 1, none⟩) (.inr (Nat.le_refl _)) _).setCell (p := ⟨w.heap.size, 2, none⟩) (.inr (Nat.le_refl _)) _).setCell (p := ⟨w.heap.size, 3, none⟩) (.inr (Nat.le_refl _)) _)
        have f0 := HBoxW.out.frozen 0
        have v0 := HBoxW.out.cell 0
        have f1 := HBoxW.out.frozen 1
        have v1 := HBoxW.out.cell 1
        have f2 := HBoxW.out.frozen 2
        have v2 := HBoxW.out.cell 2
        have f3 := HBoxW.out.frozen 3
        have v3 := HBoxW.out.cell 3
        go_wp2_with fail
        generalize ((((w3.setCell ⟨w.heap.size, 0, none⟩ (.slice none 0 0)).setCell ⟨w.heap.size, 1, none⟩ (.slice none 0 0)).setCell ⟨w.heap.size, 2, none⟩ (.slice none 0 0)).setCell ⟨w.heap.size, 3, none⟩ (.slice none 0 0)) = wF at *
        have y0 := HBf.out.cell 0
        have y1 := HBf.out.cell 1
        have y2 := HBf.out.cell 2
        have y3 := HBf.out.cell 3
        refine bodyPost_ret (v := .tuple #[.agg #[.slice none 0 0, .slice none 0 0, .slice none 0 0, .slice none 0 0], .int .i64 er, .int .i64 m]) (by simp [results, Tryz.results8, go_sem, y0, y1, y2, y3]) rfl ?_
        rw [HV.out]
        exact ⟨none, none, none, none, 0, 0, 0, 0, rfl, ⟨Rd.nil, Rd.nil, Rd.nil, Rd.nil, fun _ => rfl, fun _ => rfl, fun _ => rfl, fun _ => rfl⟩, HKf.out⟩
      have HV := Lib.hid (HPr.out.trans (if_neg (by simp [he])))
      have HSet := Lib.hid (HGo.out he)
      subst he
      obtain ⟨vb, AA, FA, PA, CA, UA, BA, ca, cf, cp, cc, cu, cb, hm, hL, hlt⟩ := HA3.out
      have HM := Lib.hid hm
      have g0 := hm.blk.cell 0
      have g1 := hm.blk.cell 1
      have g2 := hm.blk.cell 2
      have g3 := hm.blk.cell 3
      clear hm hL hlt
      obtain ⟨o, ho⟩ : ∃ o : LObj, ({ S.o with code := codeK S S.uses.length } : LObj) = o := ⟨_, rfl⟩
      simp only [List.getElem?_toArray, List.getElem?_cons_zero, List.getElem?_cons_succ] at g0 g1 g2 g3
      have e0 : S.o.atoms = o.atoms := by rw [← ho]
      have e1 : S.o.funs = o.funs := by rw [← ho]
      have e2 : S.o.preds = o.preds := by rw [← ho]
      have e3 : codeK S S.uses.length = o.code := by rw [← ho]
      rw [e0] at g0
      rw [e1] at g1
      rw [e2] at g2
      rw [e3] at g3
      rw [ho] at HSet
      rw [HSet.out] at HV
      clear e0 e1 e2 e3
      have HBf : Hid (Blk ((((w3.setCell ⟨w.heap.size, 0, none⟩ (.slice AA o.atoms.length ca)).setCell ⟨w.heap.size, 1, none⟩ (.slice FA o.funs.length cf)).setCell ⟨w.heap.size, 2, none⟩ (.slice PA o.preds.length cp)).setCell ⟨w.heap.size, 3, none⟩ (.slice CA o.code.length cc)) w.heap.size 31 #[.slice AA o.atoms.length ca, .slice FA o.funs.length cf, .slice PA o.preds.length cp, .slice CA o.code.length cc]) := Lib.hid (((((HBoxW.out.set_ 0 (.slice AA o.atoms.length ca)).set_ 1 (.slice FA o.funs.length cf)).set_ 2 (.slice PA o.preds.length cp)).set_ 3 (.slice CA o.code.length cc)))
      have HKf : Hid (Keeps w ((((w3.setCell ⟨w.heap.size, 0, none⟩ (.slice AA o.atoms.length ca)).setCell ⟨w.heap.size, 1, none⟩ (.slice FA o.funs.length cf)).setCell ⟨w.heap.size, 2, none⟩ (.slice PA o.preds.length cp)).setCell ⟨w.heap.size, 3, none⟩ (.slice CA o.code.length cc)) []) := Lib.hid ((((HKr3.out.setCell (p := ⟨w.heap.size, 0, none⟩) (.inr (Nat.le_refl _)) _).setCell (p := ⟨w.heap.size, 1, none⟩) (.inr (Nat.le_refl _)) _).setCell (p := ⟨w.heap.size, 2, none⟩) (.inr (Nat.le_refl _)) _).setCell (p := ⟨w.heap.size, 3, none⟩) (.inr (Nat.le_refl _)) _)
      have f0 := HBoxW.out.frozen 0
      have v0 := HBoxW.out.cell 0
      have f1 := HBoxW.out.frozen 1
      have v1 := HBoxW.out.cell 1
      have f2 := HBoxW.out.frozen 2
      have v2 := HBoxW.out.cell 2
      have f3 := HBoxW.out.frozen 3
      have v3 := HBoxW.out.cell 3
      go_wp2_with fail
      have HOb2 : Hid (ObIs ((((w3.setCell ⟨w.heap.size, 0, none⟩ (.slice AA o.atoms.length ca)).setCell ⟨w.heap.size, 1, none⟩ (.slice FA o.funs.length cf)).setCell ⟨w.heap.size, 2, none⟩ (.slice PA o.preds.length cp)).setCell ⟨w.heap.size, 3, none⟩ (.slice CA o.code.length cc)) o AA FA PA CA ca cf cp cc) := Lib.hid (by
        have := AsM.ob2 HM.out (w2 := ((((w3.setCell ⟨w.heap.size, 0, none⟩ (.slice AA o.atoms.length ca)).setCell ⟨w.heap.size, 1, none⟩ (.slice FA o.funs.length cf)).setCell ⟨w.heap.size, 2, none⟩ (.slice PA o.preds.length cp)).setCell ⟨w.heap.size, 3, none⟩ (.slice CA o.code.length cc))) (M := [w.heap.size]) (((((Keeps.refl w3 _).setCell (.inl (by simp)) _).setCell (.inl (by simp)) _).setCell (.inl (by simp)) _).setCell (.inl (by simp)) _) (by have := HS0.out; simp; omega)
        simp only [ho] at this
        exact this)
      generalize ((((w3.setCell ⟨w.heap.size, 0, none⟩ (.slice AA o.atoms.length ca)).setCell ⟨w.heap.size, 1, none⟩ (.slice FA o.funs.length cf)).setCell ⟨w.heap.size, 2, none⟩ (.slice PA o.preds.length cp)).setCell ⟨w.heap.size, 3, none⟩ (.slice CA o.code.length cc)) = wF at *
      have y0 := HBf.out.cell 0
      have y1 := HBf.out.cell 1
      have y2 := HBf.out.cell 2
      have y3 := HBf.out.cell 3
      refine bodyPost_ret (v := .tuple #[.agg #[.slice AA o.atoms.length ca, .slice FA o.funs.length cf, .slice PA o.preds.length cp, .slice CA o.code.length cc], .int .i64 0, .int .i64 (-1)]) (by simp [results, Tryz.results8, go_sem, y0, y1, y2, y3]) rfl ?_
      rw [HV.out]
      exact ⟨AA, FA, PA, CA, ca, cf, cp, cc, rfl, HOb2.out, HKf.out⟩
end Go.Proofs.YtpcihhdalofdiaaGreatDoor

/- What lines make is an object that may be: its end. No program in sight. -/
namespace Go.Proofs.YtpcihhdalofdiaaGreatDoor

theorem predP_keep (o : LObj) (f : LFun) {i : Nat} {p : LPred} (h : o.preds[i]? = some p) : (predP o f).1.preds[i]? = some p := by
  unfold predP
  split
  · exact h
  · simp only
    rw [List.getElem?_append_left (List.getElem?_eq_some_iff.1 h).1]
    exact h
theorem operandP_keep (o : LObj) (k : Nat) (w : Txt) {i : Nat} {p : LPred} (h : o.preds[i]? = some p) : (operandP o k w).1.preds[i]? = some p := by
  unfold operandP
  split
  · exact h
  · split
    · split <;> exact h
    · split
      · split
        · exact predP_keep o _ h
        · exact h
      · split <;> exact h
theorem operandsP_keep {n at_ : Nat} {i : Nat} {p : LPred} : ∀ (l : List (Nat × Txt)) (o : LObj) (j : Nat), o.preds[i]? = some p → (operandsP n at_ o j l).1.preds[i]? = some p
  | [], _, _, h => h
  | (k, w) :: l, o, j, h => by
    rw [operandsP]
    exact operandsP_keep l _ _ (operandP_keep o k w h)
/-- Where predicates begin: in order. -/
structure EntI (S : AS) : Prop where
  at_ : ∀ b ∈ S.begins, ∃ p, S.o.preds[b.1]? = some p ∧ 0 ≤ p.entry ∧ p.entry ≤ S.o.code.length
  sorted : S.begins.Pairwise fun b c => entryAt S b ≤ entryAt S c
  one : (S.begins.map (·.1)).Nodup
theorem EntI.start : EntI AS0 := ⟨fun _ hb => absurd hb (List.not_mem_nil), List.Pairwise.nil, List.nodup_nil⟩
theorem entryAt_is {S : AS} {b : Nat × Nat} {p : LPred} (h : S.o.preds[b.1]? = some p) : entryAt S b = p.entry := by
  unfold entryAt
  rw [List.getD_eq_getElem?_getD, h]
  rfl
theorem EntI.grow {S S' : AS} (h : EntI S) (h1 : S'.begins = S.begins) (h2 : S.o.code.length ≤ S'.o.code.length) (h3 : ∀ (i : Nat) (p : LPred), S.o.preds[i]? = some p → S'.o.preds[i]? = some p) : EntI S' := by
  have he : ∀ b ∈ S.begins, entryAt S' b = entryAt S b := fun b hb => by
    obtain ⟨p, hp, _⟩ := h.at_ b hb
    rw [entryAt_is hp, entryAt_is (h3 _ _ hp)]
  refine ⟨fun b hb => ?_, ?_, ?_⟩
  · rw [h1] at hb
    obtain ⟨p, hp, e1, e2⟩ := h.at_ b hb
    exact ⟨p, h3 _ _ hp, e1, by omega⟩
  · rw [h1]
    refine h.sorted.imp_of_mem fun {b c} hb hc hbc => ?_
    rw [he b hb, he c hc]
    exact hbc
  · rw [h1]; exact h.one
theorem EntI.line {S : AS} (h : EntI S) (s : Txt) (n : Nat) : EntI (lineP S s n).1 := by
  unfold lineP
  split
  · unfold beginP
    split
    · exact h
    · rename_i f hf
      simp only
      split
      · exact h
      · rename_i hany
        have hno : ∀ b ∈ S.begins, b.1 ≠ (predP S.o f).2 := fun b hb e => by
          refine hany (List.any_eq_true.2 ⟨b, hb, ?_⟩)
          simpa using e
        have hk : ∀ b ∈ S.begins, ∀ p, S.o.preds[b.1]? = some p → ((predP S.o f).1.preds.modify (predP S.o f).2 fun p => { p with entry := (S.o.code.length : Int) })[b.1]? = some p := fun b hb p hp => by
          rw [List.getElem?_modify, predP_keep _ _ hp]
          have := hno b hb
          simp [Ne.symm this]
        have hnew : ∃ p, ((predP S.o f).1.preds.modify (predP S.o f).2 fun p => { p with entry := (S.o.code.length : Int) })[(predP S.o f).2]? = some p ∧ p.entry = S.o.code.length := by
          rw [List.getElem?_modify, List.getElem?_eq_getElem (predP_lt S.o f)]
          exact ⟨_, by simp; rfl, rfl⟩
        refine ⟨fun b hb => ?_, ?_, ?_⟩
        · simp only [predP_code]
          rcases List.mem_append.1 hb with hb | hb
          · obtain ⟨p, hp, e1, e2⟩ := h.at_ b hb
            exact ⟨p, hk b hb p hp, e1, e2⟩
          · obtain rfl := List.mem_singleton.1 hb
            obtain ⟨p, hp, e⟩ := hnew
            exact ⟨p, hp, by omega, by omega⟩
        · simp only
          refine List.pairwise_append.2 ⟨h.sorted.imp_of_mem fun {b c} hb hc hbc => ?_, List.pairwise_singleton _ _, fun b hb c hc => ?_⟩
          · obtain ⟨p, hp, _⟩ := h.at_ b hb
            obtain ⟨q, hq, _⟩ := h.at_ c hc
            rw [entryAt_is hp, entryAt_is hq] at hbc
            rw [entryAt_is (hk b hb p hp), entryAt_is (hk c hc q hq)]
            exact hbc
          · obtain rfl := List.mem_singleton.1 hc
            obtain ⟨p, hp, _, e2⟩ := h.at_ b hb
            obtain ⟨q, hq, e⟩ := hnew
            rw [entryAt_is (hk b hb p hp), entryAt_is hq]
            omega
        · simp only [List.map_append, List.map_cons, List.map_nil]
          refine List.nodup_append.2 ⟨h.one, by simp, fun a ha b hb => ?_⟩
          obtain rfl := List.mem_singleton.1 hb
          obtain ⟨c, hc, rfl⟩ := List.mem_map.1 ha
          exact hno c hc
  · split
    · unfold markP
      split
      · exact h
      · split
        · exact h
        · exact h.grow rfl (Nat.le_refl _) (fun _ _ h => h)
    · unfold instrP
      simp only
      split
      · exact h
      · refine h.grow rfl ?_ ?_
        · simp only [operandsP_code, List.length_append, List.length_singleton]
          omega
        · intro i p hp
          exact operandsP_keep _ _ _ hp
theorem entries_strict {S : AS} : ∀ {l : List (Nat × Nat)}, l.Pairwise (fun b c => entryAt S b ≤ entryAt S c) → begW S l = [] → l.Pairwise (fun b c => entryAt S b < entryAt S c) ∧ ∀ b ∈ l, entryAt S b < S.o.code.length
  | [], _, _ => ⟨List.Pairwise.nil, fun _ hb => absurd hb (List.not_mem_nil)⟩
  | b :: r, hp, hw => by
    rw [begW_cons, List.append_eq_nil_iff] at hw
    have hb : begBad S b r = false := by
      cases hq : begBad S b r with
      | false => rfl
      | true => rw [hq] at hw; simp at hw
    have hp2 := List.pairwise_cons.1 hp
    obtain ⟨h1, h2⟩ := entries_strict hp2.2 hw.2
    unfold begBad at hb
    simp only [Bool.or_eq_false_iff, decide_eq_false_iff_not] at hb
    refine ⟨List.pairwise_cons.2 ⟨fun c hc => ?_, h1⟩, fun c hc => ?_⟩
    · cases r with
      | nil => cases hc
      | cons c0 r =>
        have hne := hb.2
        simp only [decide_eq_false_iff_not] at hne
        have h3 := hp2.1 c0 (by simp)
        rcases List.mem_cons.1 hc with rfl | hc
        · omega
        · have := (List.pairwise_cons.1 hp2.2).1 c hc
          omega
    · rcases List.mem_cons.1 hc with rfl | hc
      · omega
      · exact h2 c hc
theorem codeK_used {S : AS} (h : UsesI S) (hb : ∀ u ∈ S.uses, badUse S u = false) {u : Nat × Nat × Nat} (hu : u ∈ S.uses) : ((codeK S S.uses.length)[u.1]?).map (·.arg u.2.1) = some (((useAt S u).getD 0 : Nat) : Int) := by
  obtain ⟨l1, l2, hl⟩ := List.append_of_mem hu
  obtain ⟨h4, i, hi, _⟩ := h.here u hu
  unfold codeK
  rw [List.take_length, hl, List.foldl_append, List.foldl_cons]
  have hone := h.one
  rw [hl, List.map_append, List.map_cons] at hone
  have hn2 := (List.nodup_cons.1 (List.nodup_append.1 hone).2.1).1
  rw [fold_arg S h4 l2 _ (fun x hx => ⟨(h.here x (by rw [hl]; simp [hx])).1, fun e => hn2 (by rw [← e]; exact List.mem_map.2 ⟨x, hx, rfl⟩)⟩)]
  have hlen : (l1.foldl (putU S) S.o.code).length = S.o.code.length := fold_len S _ _
  have hlt := (List.getElem?_eq_some_iff.1 hi).1
  generalize l1.foldl (putU S) S.o.code = c at *
  unfold putU
  rw [if_neg (by rw [hb u hu]; exact Bool.false_ne_true), List.getElem?_modify]
  rw [List.getElem?_eq_getElem (by rw [hlen]; exact hlt)]
  simp only [if_true]
  show some ((setArg _ u.2.1 (((useAt S u).getD 0 : Nat) : Int)).arg u.2.1) = _
  rw [setArg_arg h4 h4, if_pos rfl]
theorem codeK_other {S : AS} (h : UsesI S) {a j : Nat} (hj : j < 4) (hn : ∀ u ∈ S.uses, (u.1, u.2.1) ≠ (a, j)) (k : Nat) : ((codeK S k)[a]?).map (·.arg j) = (S.o.code[a]?).map (·.arg j) :=
  fold_arg S hj _ _ fun x hx => ⟨(h.here x (List.mem_of_mem_take hx)).1, hn x (List.mem_of_mem_take hx)⟩
theorem setArg_op (i : LIns) (k : Nat) (v : Int) : (setArg i k v).op = i.op := by
  unfold setArg
  split
  · rfl
  · split
    · rfl
    · split <;> rfl
theorem fold_op (S : AS) (a : Nat) : ∀ (l : List (Nat × Nat × Nat)) (c : List LIns), ((l.foldl (putU S) c)[a]?).map (·.op) = (c[a]?).map (·.op)
  | [], _ => rfl
  | u :: l, c => by
    rw [List.foldl_cons, fold_op S a l]
    unfold putU
    split
    · rfl
    · rw [List.getElem?_modify]
      cases c[a]? with
      | none => rfl
      | some i =>
        by_cases h : u.1 = a
        · simp only [h, if_true]
          show some (setArg i u.2.1 _).op = some i.op
          rw [setArg_op]
        · simp [h]
theorem codeK_op (S : AS) (a k : Nat) : ((codeK S k)[a]?).map (·.op) = (S.o.code[a]?).map (·.op) := fold_op S a _ _
/-- All that is known of lines that make an object. -/
structure Made (S : AS) : Prop where
  tab : TabOk S.o
  room : fullP S.o = false
  code : CodeIn S.o
  usesI : UsesI S
  usesA : UsesA S
  inv : InvB S
  ent : EntI S
theorem Made.start : Made AS0 := ⟨TabOk.start, rfl, fun _ hi => absurd hi (List.not_mem_nil), UsesI.start, UsesA.start, fun k p hk => by simp [AS0] at hk, EntI.start⟩
theorem line_inv {S : AS} (h : InvB S) (s : Txt) (k : Nat) : InvB (lineP S s k).1 := by
  unfold lineP
  split
  · unfold beginP
    split
    · exact h
    · simp only
      split
      · exact h
      · exact begin_inv h _ _ _
  · split
    · unfold markP
      split
      · exact h
      · split
        · exact h
        · exact h
    · unfold instrP
      simp only
      split
      · exact h
      · generalize namedT ((splitT s).headD []) = op
        have key : ∀ (l : List (Nat × Txt)) (o : LObj) (j : Nat), InvB { S with o := o } → InvB { S with o := (operandsP S.o.code.length k o j l).1 } := by
          intro l
          induction l with
          | nil => intro o j ho; exact ho
          | cons x l ih =>
            intro o j ho
            obtain ⟨kk, w⟩ := x
            rw [operandsP]
            exact ih _ _ (operand_inv ho kk w)
        exact key _ S.o 0 h
theorem Made.line {S : AS} (h : Made S) (s : Txt) (k : Nat) (hr : fullP (lineP S s k).1.o = false) : Made (lineP S s k).1 :=
  ⟨h.tab.line s k, hr, h.code.line s k, h.usesI.line s k, h.usesA.line s k, line_inv h.inv s k, h.ent.line s k⟩
theorem made_lines : ∀ (l : List Txt) (S S' : AS) (n : Nat), Made S → linesP S n l = (S', 0, -1) → Made S'
  | [], S, S', n, h, hl => by
    rw [linesP] at hl
    injection hl with e _
    subst e
    exact h
  | s :: l, S, S', n, h, hl => by
    rw [lines_cons] at hl
    split at hl
    · rename_i h0
      injection hl with _ e
      injection e with e _
      exact absurd e h0
    · split at hl
      · injection hl with _ e
        injection e with e _
        omega
      · rename_i hf
        exact made_lines l _ S' _ (h.line s n (by simpa using hf)) hl
/-- What was made: its state, nothing wrong, all labels places. -/
theorem prog_made {l : List Txt} {o : LObj} {m : Int} (h : programP l = (o, 0, m)) : ∃ S, linesP AS0 0 l = (S, 0, -1) ∧ Made S ∧ wrongs S = [] ∧ o = { S.o with code := codeK S S.uses.length } := by
  obtain ⟨S, e, k, hS⟩ : ∃ S e k, linesP AS0 0 l = (S, e, k) := ⟨_, _, _, rfl⟩
  by_cases he : e = 0
  · subst he
    have hk : k = -1 := by
      have key : ∀ (l : List Txt) (S S' : AS) (n : Nat) (k : Int), linesP S n l = (S', 0, k) → k = -1 := by
        intro l
        induction l with
        | nil =>
          intro S S' n k h
          rw [linesP] at h
          injection h with _ h
          injection h with _ h
          exact h.symm
        | cons s l ih =>
          intro S S' n k h
          rw [lines_cons] at h
          split at h
          · rename_i h0
            injection h with _ e
            injection e with e _
            exact absurd e h0
          · split at h
            · injection h with _ e
              injection e with e _
              omega
            · exact ih _ _ _ _ h
      exact key l _ _ _ _ hS
    subst hk
    rw [prog_settle hS] at h
    split at h
    · rename_i h0
      injection h with _ h
      injection h with h _
      exact absurd h h0
    · rename_i h0
      have h0' : (least (0, -1) (wrongs S)).1 = 0 := Classical.not_not.1 h0
      injection h with h _
      exact ⟨S, hS, made_lines l _ _ _ Made.start hS, least_zero (wrongs_ne S) h0', by rw [← h, settle_good h0']⟩
  · rw [prog_bad hS he] at h
    injection h with _ h
    injection h with h _
    exact absurd h he
end Go.Proofs.YtpcihhdalofdiaaGreatDoor

/- What lines make, Check lets by. No program in sight. -/
namespace Go.Proofs.YtpcihhdalofdiaaGreatDoor

theorem bad_none {S : AS} (h : wrongs S = []) : (∀ u ∈ S.uses, badUse S u = false) ∧ begW S S.begins = [] := by
  rw [wrongs_is, List.append_eq_nil_iff] at h
  refine ⟨fun u hu => ?_, h.2⟩
  cases hq : badUse S u with
  | false => rfl
  | true =>
    have : ((10 : Int), u.2.2) ∈ useW S S.uses := List.mem_map.2 ⟨u, List.mem_filter.2 ⟨hu, hq⟩, rfl⟩
    rw [h.1] at this
    cases this
theorem use_good {S : AS} {u : Nat × Nat × Nat} (h : badUse S u = false) : ∃ p, useAt S u = some p ∧ p < S.o.code.length := by
  unfold badUse at h
  cases hu : useAt S u with
  | none => rw [hu] at h; cases h
  | some p =>
    rw [hu] at h
    simp only [decide_eq_false_iff_not] at h
    exact ⟨p, rfl, by omega⟩
/-- An argument behind settle. -/
theorem settled_arg {S : AS} (hm : Made S) (hw : wrongs S = []) {a j : Nat} {i i' : LIns} (hj : j < 4) (hi : S.o.code[a]? = some i) (hi' : (codeK S S.uses.length)[a]? = some i') :
    i'.op = i.op ∧ ((((kindsOf i.op)[j]? = some 8 ∧ i.arg j ≠ 65535) ∧ ∃ p : Nat, i'.arg j = (p : Int) ∧ p < S.o.code.length ∧ ∃ u ∈ S.uses, u.1 = a ∧ u.2.1 = j ∧ useAt S u = some p) ∨ (¬ ((kindsOf i.op)[j]? = some 8 ∧ i.arg j ≠ 65535) ∧ i'.arg j = i.arg j)) := by
  have hop := codeK_op S a S.uses.length
  rw [hi, hi'] at hop
  simp only [Option.map_some, Option.some.injEq] at hop
  refine ⟨hop, ?_⟩
  by_cases h8 : (kindsOf i.op)[j]? = some 8 ∧ i.arg j ≠ 65535
  · left
    obtain ⟨u, hu, e1, e2⟩ := hm.usesA.all a i j hi h8.1 h8.2
    have hb := (bad_none hw).1
    have h1 := codeK_used hm.usesI hb hu
    obtain ⟨p, hp, hlt⟩ := use_good (hb u hu)
    rw [e1, e2, hi', hp] at h1
    simp only [Option.map_some, Option.some.injEq, Option.getD_some] at h1
    exact ⟨h8, p, h1, hlt, u, hu, e1, e2, hp⟩
  · right
    refine ⟨h8, ?_⟩
    have h1 := codeK_other hm.usesI (a := a) hj (fun u hu e => by
      obtain ⟨i2, k1, k2, k3⟩ := hm.usesA.kind u hu
      injection e with e1 e2
      rw [e1, hi] at k1
      obtain rfl := Option.some.inj k1
      rw [e2] at k2 k3
      exact h8 ⟨k2, k3⟩) S.uses.length
    rw [hi, hi'] at h1
    simpa using h1
theorem arg_right {S : AS} (hm : Made S) (hw : wrongs S = []) {a j q : Nat} {i i' : LIns} (hi : S.o.code[a]? = some i) (hi' : (codeK S S.uses.length)[a]? = some i') (hq : (kindsOf i.op)[j]? = some (q : Int)) :
    mayOk i.op q (i'.arg j) = true ∧ hasB { S.o with code := codeK S S.uses.length } q (i'.arg j) = true := by
  have hk4 := kinds_few i.op
  have hjl := (List.getElem?_eq_some_iff.1 hq).1
  have hkm := kinds_mem i.op _ (List.mem_of_getElem? hq)
  obtain ⟨f1, f2, f3, f4⟩ := full_few hm.room
  obtain ⟨_, hs⟩ := settled_arg hm hw (by omega : j < 4) hi hi'
  have hc := (hm.code i (List.mem_of_getElem? hi)).2 j hjl
  rw [List.getD_eq_getElem?_getD, hq] at hc
  simp only [Option.getD_some, Int.toNat_natCast] at hc
  have hlow := hc.low
  have low : ∀ q : Nat, q ≠ 5 → leastOf6 q = 0 := fun q h => by unfold leastOf6; simp [h]
  by_cases h3 : q = 3
  · subst h3
    have h8 : ¬ ((kindsOf i.op)[j]? = some 8 ∧ i.arg j ≠ 65535) := fun h => by rw [hq] at h; simp at h
    rcases hs with hs | hs
    · exact absurd hs.1 h8
    · rw [hs.2]
      have := hc.atom rfl
      refine ⟨?_, ?_⟩
      · unfold mayOk
        rw [low 3 (by omega)]
        have : mostOf 3 = 255 := rfl
        rw [this]
        simp only [Bool.or_eq_true, Bool.and_eq_true, decide_eq_true_eq]
        omega
      · unfold hasB
        simp only [if_true, decide_eq_true_eq]
        omega
  by_cases h4 : q = 4
  · subst h4
    have h8 : ¬ ((kindsOf i.op)[j]? = some 8 ∧ i.arg j ≠ 65535) := fun h => by rw [hq] at h; simp at h
    rcases hs with hs | hs
    · exact absurd hs.1 h8
    · rw [hs.2]
      have := hc.fun_ rfl
      refine ⟨?_, ?_⟩
      · unfold mayOk
        rw [low 4 (by omega)]
        have : mostOf 4 = 255 := rfl
        rw [this]
        simp only [Bool.or_eq_true, Bool.and_eq_true, decide_eq_true_eq]
        omega
      · unfold hasB
        rw [if_neg (by omega), if_pos rfl]
        simp only [decide_eq_true_eq]
        omega
  by_cases h7 : q = 7
  · subst h7
    have h8 : ¬ ((kindsOf i.op)[j]? = some 8 ∧ i.arg j ≠ 65535) := fun h => by rw [hq] at h; simp at h
    rcases hs with hs | hs
    · exact absurd hs.1 h8
    · rw [hs.2]
      have := hc.pred rfl
      refine ⟨?_, ?_⟩
      · unfold mayOk
        rw [low 7 (by omega)]
        have : mostOf 7 = 63 := rfl
        rw [this]
        simp only [Bool.or_eq_true, Bool.and_eq_true, decide_eq_true_eq]
        omega
      · unfold hasB
        rw [if_neg (by omega), if_neg (by omega), if_pos rfl]
        simp only [decide_eq_true_eq]
        omega
  by_cases h8' : q = 8
  · subst h8'
    rcases hs with ⟨_, p, hp, hlt, _⟩ | ⟨h8, he⟩
    · rw [hp]
      refine ⟨?_, ?_⟩
      · unfold mayOk
        rw [low 8 (by omega)]
        have : mostOf 8 = 1023 := rfl
        rw [this]
        simp only [Bool.or_eq_true, Bool.and_eq_true, decide_eq_true_eq]
        omega
      · unfold hasB
        rw [if_neg (by omega), if_neg (by omega), if_neg (by omega), if_pos rfl]
        simp only [Bool.or_eq_true, decide_eq_true_eq, codeK_len]
        omega
    · have h65 : i.arg j = 65535 := Classical.byContradiction fun e => h8 ⟨hq, e⟩
      have h26 : i.op = 26 := by
        rcases hc.label rfl with h | h
        · omega
        · exact h.2
      rw [he, h65]
      refine ⟨?_, ?_⟩
      · unfold mayOk
        rw [h26]
        simp
      · unfold hasB
        rw [if_neg (by omega), if_neg (by omega), if_neg (by omega), if_pos rfl]
        simp
  have h8 : ¬ ((kindsOf i.op)[j]? = some 8 ∧ i.arg j ≠ 65535) := fun h => by
    rw [hq] at h
    have := Option.some.inj h.1
    omega
  rcases hs with hs | hs
  · exact absurd hs.1 h8
  · rw [hs.2]
    refine ⟨(hm.usesA.ins i (List.mem_of_getElem? hi)).plain j q hq ⟨h3, h4, h7, h8'⟩, ?_⟩
    unfold hasB
    rw [if_neg h3, if_neg h4, if_neg h7, if_neg h8']
theorem made_ok {S : AS} (hm : Made S) (hw : wrongs S = []) : ObjOk { S.o with code := codeK S S.uses.length } := by
  obtain ⟨f1, f2, f3, f4⟩ := full_few hm.room
  obtain ⟨hst, hel⟩ := entries_strict hm.ent.sorted (bad_none hw).2
  refine ⟨?_, hm.tab.atoms, fun f hf => ?_, fun p hp => ?_, ?_, ?_, fun i' hi' => ?_⟩
  · unfold bigO bigB
    simp only [codeK_len, Bool.or_eq_false_iff, decide_eq_false_iff_not]
    split <;> simp only [decide_eq_false_iff_not] <;> omega
  · have := hm.tab.funs f hf
    simp only [funOk, Bool.and_eq_true, decide_eq_true_eq]
    exact this
  · have := hm.tab.preds p hp
    simp only [predOk, Bool.and_eq_true, decide_eq_true_eq]
    exact this
  · unfold dupO
    simp only [Bool.or_eq_false_iff]
    exact ⟨dup_nodup hm.tab.one, dup_nodup hm.tab.two, dup_nodup hm.tab.three⟩
  · have hbeg : ∀ (k : Nat) (p : LPred), S.o.preds[k]? = some p → p.entry ≠ 65535 → ∃ b ∈ S.begins, b.1 = k ∧ entryAt S b = p.entry := fun k p hp he => by
      have h1 := hm.inv k p hp he
      rw [List.any_eq_true] at h1
      obtain ⟨b, hb, hk⟩ := h1
      have hk' : b.1 = k := by unfold isBeg at hk; simpa using hk
      exact ⟨b, hb, hk', entryAt_is (by rw [hk']; exact hp)⟩
    unfold entriesB
    simp only [codeK_len, Bool.and_eq_true, List.all_eq_true, Bool.not_eq_true']
    refine ⟨fun p hp => ?_, dup_nodup ?_⟩
    · unfold entB
      by_cases he : p.entry = 65535
      · simp [he]
      · obtain ⟨k, hk⟩ := List.getElem?_of_mem hp
        obtain ⟨b, hb, hbk, hbe⟩ := hbeg k p hk he
        have h1 := hel b hb
        obtain ⟨p', hp', e0, _⟩ := hm.ent.at_ b hb
        rw [hbk, hk] at hp'
        obtain rfl := Option.some.inj hp'
        simp only [Bool.or_eq_true, Bool.and_eq_true, decide_eq_true_eq]
        omega
    · unfold entL List.Nodup
      rw [List.pairwise_map, List.pairwise_filter]
      rw [List.pairwise_iff_getElem]
      intro x y hx hy hxy he1 he2 e
      obtain ⟨b, hb, hbk, hbe⟩ := hbeg x _ (List.getElem?_eq_getElem hx) (by simpa using he1)
      obtain ⟨c, hc, hck, hce⟩ := hbeg y _ (List.getElem?_eq_getElem hy) (by simpa using he2)
      obtain ⟨u, hu⟩ := List.getElem?_of_mem hb
      obtain ⟨v, hv⟩ := List.getElem?_of_mem hc
      obtain ⟨hu1, hu2⟩ := List.getElem?_eq_some_iff.1 hu
      obtain ⟨hv1, hv2⟩ := List.getElem?_eq_some_iff.1 hv
      have huv : u ≠ v := fun e' => by
        subst e'
        rw [hu2] at hv2
        subst hv2
        omega
      have hpw := List.pairwise_iff_getElem.1 hst
      rcases Nat.lt_or_gt_of_ne huv with h | h
      · have := hpw u v hu1 hv1 h
        rw [hu2, hv2] at this
        omega
      · have := hpw v u hv1 hu1 h
        rw [hu2, hv2] at this
        omega
  · obtain ⟨a, ha⟩ := List.getElem?_of_mem hi'
    have hal := (List.getElem?_eq_some_iff.1 ha).1
    rw [codeK_len] at hal
    obtain ⟨i, hi⟩ : ∃ i, S.o.code[a]? = some i := ⟨_, List.getElem?_eq_getElem hal⟩
    have hop := (settled_arg hm hw (by omega : (0 : Nat) < 4) hi ha).1
    have hx := hm.usesA.ins i (List.mem_of_getElem? hi)
    have hok : insOk i' = true := by
      unfold insOk
      rw [hop, hx.op]
      simp only [Bool.true_and, List.all_eq_true, List.mem_range]
      intro j hj
      unfold argOk
      rw [hop]
      cases hk : (kindsOf i.op)[j]? with
      | none =>
        rcases (settled_arg hm hw hj hi ha).2 with h | h
        · rw [hk] at h
          simp at h
        · simp only
          rw [h.2, hx.rest j hj (List.getElem?_eq_none_iff.1 hk)]
          rfl
      | some y =>
        have hkm := kinds_mem i.op _ (List.mem_of_getElem? hk)
        obtain ⟨q, rfl⟩ := Int.eq_ofNat_of_zero_le (show 0 ≤ y by omega)
        exact (arg_right hm hw hi ha hk).1
    unfold insErr
    rw [hop, hx.op, hok, if_neg (by decide), if_neg (by decide), if_pos]
    rw [List.all_eq_true]
    intro j hj
    have hjl := List.mem_range.1 hj
    unfold argHas
    rw [hop]
    have hk : (kindsOf i.op)[j]? = some ((kindsOf i.op)[j]) := List.getElem?_eq_getElem hjl
    have hkm := kinds_mem i.op _ (List.mem_of_getElem? hk)
    obtain ⟨q, hq⟩ := Int.eq_ofNat_of_zero_le (show 0 ≤ (kindsOf i.op)[j] by omega)
    rw [hq] at hk
    rw [List.getD_eq_getElem?_getD, hk]
    exact (arg_right hm hw hi ha hk).2
/-- What lines make may be. -/
theorem program_ok {l : List Txt} {o : LObj} {m : Int} (h : programP l = (o, 0, m)) : checkE o = 0 := by
  obtain ⟨S, _, hm, hw, rfl⟩ := prog_made h
  exact ok_check (made_ok hm hw)
end Go.Proofs.YtpcihhdalofdiaaGreatDoor

/- told, few and Strings of the law. Printed by gen_astold.py. -/
namespace Go.Proofs.YtpcihhdalofdiaaGreatDoor
open Go.RowKit Go.Maps

theorem told1 : programP ([⟨#[112, 114, 101, 100, 32, 112, 47, 49]⟩, ⟨#[103, 101, 116, 99, 111, 110, 32, 97, 32, 88, 48]⟩, ⟨#[112, 114, 111, 99, 101, 101, 100]⟩].map fun s : ByteArray => s.data.toList) = (⟨[⟨#[97]⟩], [], [⟨⟨#[112]⟩, 1, 0⟩], [⟨3, 0, 0, 0, 0⟩, ⟨19, 0, 0, 0, 0⟩]⟩, 0, -1) := by kernel_rfl
theorem told2 : programP ([⟨#[112, 114, 101, 100, 32, 112, 47, 49]⟩, ⟨#[116, 114, 121, 32, 64, 53]⟩].map fun s : ByteArray => s.data.toList) = (⟨[], [], [], []⟩, 10, 1) := by kernel_rfl
attribute [local irreducible] numT kindsOf nameOf checkE fitsP operandP plainP labelP slashP namedT programP
set_option maxRecDepth 100000 in
set_option maxHeartbeats 6400000 in
theorem told9_any (w : World) (h : St w) : Calls Tryz.prog 7 #[] w fun e w' => e = .returned (.bool true) ∧ Keeps w w' [] := by
  have k1 : Keeps w (w.alloc (.cells #[.string ⟨#[112, 114, 101, 100, 32, 112, 47, 49]⟩, .string ⟨#[103, 101, 116, 99, 111, 110, 32, 97, 32, 88, 48]⟩, .string ⟨#[112, 114, 111, 99, 101, 101, 100]⟩] 9)) [] := (Keeps.refl w []).alloc _
  have HP1 := programA_any [⟨#[112, 114, 101, 100, 32, 112, 47, 49]⟩, ⟨#[103, 101, 116, 99, 111, 110, 32, 97, 32, 88, 48]⟩, ⟨#[112, 114, 111, 99, 101, 101, 100]⟩] (some ⟨w.heap.size, 0, none⟩) 3 3 (w.alloc (.cells #[.string ⟨#[112, 114, 101, 100, 32, 112, 47, 49]⟩, .string ⟨#[103, 101, 116, 99, 111, 110, 32, 97, 32, 88, 48]⟩, .string ⟨#[112, 114, 111, 99, 101, 101, 100]⟩] 9)) (h.keep k1) rfl (by omega) (Rd.of_blk (Blk.new _ _ _)) (by decide)
  rw [told1] at HP1
  have HP1 := Lib.hid HP1
  have HK1 := Lib.hid k1
  have HSt := Lib.hid h
  clear k1 h
  go_enter Tryz.func7, Tryz.ntmps7
  go_wp2_with fail
  refine HP1.out.mono ?_
  rintro e w1 ⟨Aa, Af, Ap, Ac, ca, cf, cp, cc, rfl, hob, k2⟩
  obtain ⟨b, off, rfl, hb, hc⟩ := hob.preds.field predE_len (k := 0) rfl (by omega)
  have y0 : w1.cell? ⟨b, off + 0 * 3 + 2, none⟩ = some (.int .i64 0) := hc 2 _ rfl
  rw [Nat.zero_mul, Nat.add_zero] at y0
  have HK2 := Lib.hid ((HK1.out.trans k2).alloc (.cells #[.slice Aa 1 ca, .slice Af 0 cf, .slice (some ⟨b, off, none⟩) 1 cp, .slice Ac 2 cc] 31))
  have HB : Hid (Blk (w1.alloc (.cells #[.slice Aa 1 ca, .slice Af 0 cf, .slice (some ⟨b, off, none⟩) 1 cp, .slice Ac 2 cc] 31)) w1.heap.size 31 #[.slice Aa 1 ca, .slice Af 0 cf, .slice (some ⟨b, off, none⟩) 1 cp, .slice Ac 2 cc]) := Blk.new _ _ _
  have HY : Hid ((w1.alloc (.cells #[.slice Aa 1 ca, .slice Af 0 cf, .slice (some ⟨b, off, none⟩) 1 cp, .slice Ac 2 cc] 31)).cell? ⟨b, off + 2, none⟩ = some (.int .i64 0)) := (((Keeps.refl w1 []).alloc _).cell0 hb).trans y0
  clear hob k2 hc hb y0 HP1 HK1
  dsimp only [List.length_cons, List.length_nil, Nat.zero_add]
  go_upto_region 2 with fail
  generalize w1.alloc (.cells #[.slice Aa 1 ca, .slice Af 0 cf, .slice (some ⟨b, off, none⟩) 1 cp, .slice Ac 2 cc] 31) = w2 at *
  have k3 : Keeps w2 (w2.alloc (.cells #[.string ⟨#[112, 114, 101, 100, 32, 112, 47, 49]⟩, .string ⟨#[116, 114, 121, 32, 64, 53]⟩] 9)) [] := (Keeps.refl w2 []).alloc _
  have HP2 := programA_any [⟨#[112, 114, 101, 100, 32, 112, 47, 49]⟩, ⟨#[116, 114, 121, 32, 64, 53]⟩] (some ⟨w2.heap.size, 0, none⟩) 2 2 (w2.alloc (.cells #[.string ⟨#[112, 114, 101, 100, 32, 112, 47, 49]⟩, .string ⟨#[116, 114, 121, 32, 64, 53]⟩] 9)) (HSt.out.keep (HK2.out.trans k3)) rfl (by omega) (Rd.of_blk (Blk.new _ _ _)) (by decide)
  rw [told2] at HP2
  have HP2 := Lib.hid HP2
  have HK3 := Lib.hid k3
  clear k3
  go_wp2_with fail
  refine HP2.out.mono ?_
  rintro e w3 ⟨Aa2, Af2, Ap2, Ac2, ca2, cf2, cp2, cc2, rfl, _, k4⟩
  have HK4 := Lib.hid ((HK3.out.trans k4).alloc (.cells #[.slice Aa2 0 ca2, .slice Af2 0 cf2, .slice Ap2 0 cp2, .slice Ac2 0 cc2] 31))
  have q0 := (HB.out.keep HK4.out (by simp)).cell 0
  have q2 := (HB.out.keep HK4.out (by simp)).cell 2
  have q3 := (HB.out.keep HK4.out (by simp)).cell 3
  have y0 := (HK4.out.cell0 (block_lt_of_cell HY.out)).trans HY.out
  clear k4
  dsimp only [List.length_nil]
  go_upto_region 3 with fail
  generalize w3.alloc (.cells #[.slice Aa2 0 ca2, .slice Af2 0 cf2, .slice Ap2 0 cp2, .slice Ac2 0 cc2] 31) = w4 at *
  go_wp2_with fail
  go_ret
  exact ⟨rfl, HK2.out.trans HK4.out⟩
/-- No more lines, none longer, than can be looked at. -/
def fewB (ls : List ByteArray) : Bool := (ls.all fun s => decide (s.size ≤ 200)) && decide (ls.length ≤ 200)
set_option maxRecDepth 100000 in
set_option maxHeartbeats 6400000 in
theorem few9_any (ls : List ByteArray) (A : Option Addr) (n c : Nat) (w : World) (hl : ls.length = n) (hn : n ≤ 9223372036854775807) (hA : Rd w A (ls.flatMap strE)) :
    Calls Tryz.prog 6 #[.slice A n c] w fun e w' => e = .returned (.bool (fewB ls)) ∧ Keeps w w' [] := by
  have HL := Lib.hid hl
  have HA := Lib.hid hA
  clear hl hA
  go_enter Tryz.func6, Tryz.ntmps6
  go_wp2_with fail
  go_loopw [3] (fun i wr => ∃ k : Nat, k ≤ n ∧ i = .int .i64 k ∧ Hid ((ls.take k).all (fun s => decide (s.size ≤ 200)) = true) ∧ Keeps w wr []) (fun i _ => n - (intOf i).toNat)
  case atStart => exact ⟨0, Nat.zero_le _, rfl, rfl, Keeps.refl _ _⟩
  case round =>
    obtain ⟨k, hk, rfl, HAll, kr⟩ := hrel
    have HK := Lib.hid kr
    clear kr
    by_cases hlt : k < n
    · obtain ⟨s, hs⟩ := at_of HL.out hlt
      obtain ⟨b, off, rfl, hb, hc⟩ := (HA.out.keep HK.out).field strE_len hs (by omega)
      have p0 : wr.cell? ⟨b, off + k, none⟩ = some (.string s) := by have := hc 0 _ rfl; simpa using this
      have HS := Lib.hid hs
      have b1 : (k : Int) < (n : Int) := by omega
      have b0 : (0 : Int) ≤ (k : Int) := Int.natCast_nonneg _
      clear hs hb hc
      by_cases h2 : s.size ≤ 200
      · have HAll2 : Hid ((ls.take (k + 1)).all (fun s => decide (s.size ≤ 200)) = true) := all_take HS.out HAll.out (decide_eq_true h2)
        have d0 : ¬ (200 : Int) < (s.size : Int) := by omega
        go_wp2_with fail
        go_roundw
        case rel => exact ⟨k + 1, by omega, by go_num, HAll2, HK.out⟩
        case measure => simp [intOf]; omega
      · have HV : Hid (fewB ls = false) := Lib.hid (by unfold fewB; rw [all_noA HS.out (decide_eq_false h2)]; rfl)
        have d0 : (200 : Int) < (s.size : Int) := by omega
        go_wp2_with fail
        go_ret
        exact ⟨by rw [HV.out]; rfl, HK.out⟩
    · obtain rfl : n = k := by omega
      have HV : Hid (fewB ls = decide ((n : Int) ≤ 200)) := Lib.hid (by
        have h1 := HAll.out
        rw [List.take_of_length_le (by rw [HL.out]; exact Nat.le_refl _)] at h1
        unfold fewB
        rw [h1, HL.out, Bool.eq_iff_iff]
        simp only [Bool.true_and, decide_eq_true_eq]
        omega)
      go_wp2_with fail
      go_ret
      exact ⟨by rw [HV.out]; rfl, HK.out⟩
set_option maxRecDepth 100000 in
set_option maxHeartbeats 6400000 in
theorem strings9_any (xs ys : List ByteArray) (A B : Option Addr) (n m c d : Nat) (w : World) (hx : xs.length = n) (hy : ys.length = m) (hn : n ≤ 1000000) (hA : Rd w A (xs.flatMap strE)) (hB : Rd w B (ys.flatMap strE)) :
    Calls Tryz.prog 13 #[.slice A n c, .slice B m d] w fun e w' => e = .returned (.bool (decide (xs = ys))) ∧ Keeps w w' [] := by
  have HX := Lib.hid hx
  have HY := Lib.hid hy
  have HA := Lib.hid hA
  have HB := Lib.hid hB
  clear hA hB
  by_cases hnm : n = m
  case neg =>
    have d0 : ((n : Int) == (m : Int)) = false := by rw [beq_eq_false_iff_ne]; omega
    have d1 : ((n : Int) != (m : Int)) = true := by rw [bne_iff_ne]; omega
    have HV : Hid (decide (xs = ys) = false) := decide_eq_false (fun e => hnm (by rw [← hx, ← hy, e]))
    clear hx hy
    go_enter Tryz.func13, Tryz.ntmps13
    go_wp2_with fail
    go_ret
    exact ⟨by rw [HV.out]; rfl, Keeps.refl _ _⟩
  subst hnm
  clear hx hy
  go_enter Tryz.func13, Tryz.ntmps13
  go_wp2_with fail
  go_loopw [5] (fun i wr => ∃ k : Nat, k ≤ n ∧ i = .int .i64 k ∧ Hid (xs.take k = ys.take k) ∧ Keeps w wr []) (fun i _ => n - (intOf i).toNat)
  case atStart => exact ⟨0, Nat.zero_le _, rfl, rfl, Keeps.refl _ _⟩
  case round =>
    obtain ⟨k, hk, rfl, HE, kr⟩ := hrel
    have HK := Lib.hid kr
    clear kr
    by_cases hlt : k < n
    · obtain ⟨x, hx⟩ := at_of HX.out hlt
      obtain ⟨y, hy⟩ := at_of HY.out hlt
      obtain ⟨b, off, rfl, hb, hc⟩ := (HA.out.keep HK.out).field strE_len hx (by omega)
      obtain ⟨b', off', rfl, hb', hc'⟩ := (HB.out.keep HK.out).field strE_len hy (by omega)
      have p0 : wr.cell? ⟨b, off + k, none⟩ = some (.string x) := by have := hc 0 _ rfl; simpa using this
      have p1 : wr.cell? ⟨b', off' + k, none⟩ = some (.string y) := by have := hc' 0 _ rfl; simpa using this
      have HXk := Lib.hid hx
      have HYk := Lib.hid hy
      have b1 : (k : Int) < (n : Int) := by omega
      have b0 : (0 : Int) ≤ (k : Int) := Int.natCast_nonneg _
      clear hx hy hb hc hb' hc'
      by_cases hxy : x = y
      · subst hxy
        have HE2 : Hid (xs.take (k + 1) = ys.take (k + 1)) := Lib.hid (by rw [take_snocA HXk.out, take_snocA HYk.out, HE.out])
        go_upto_region 6 with fail
        refine wp_region_tx (fun W' => W'.cell? ⟨b, off + k, none⟩ = some (.string x) ∧ W'.cell? ⟨b', off' + k, none⟩ = some (.string x)) [(0, true), (1, true), (2, true), (3, true), (4, true), (5, true), (6, true), (7, true), (8, false)] (by kernel_rfl) (by kernel_rfl) ⟨p0, p1⟩ (fun hHeld => ?_)
        (repeat (first | (refine wpTx_take (v := ?_) rfl (by assumption) ?_ (by rfl) ?_; rotate_left; (focus (intro w' hSw; (try dsimp only at hSw); go_simp; (try with_reducible rfl); done)); simp only [Act.put, List.setIfInBounds_toArray, List.set_cons_zero, List.set_cons_succ]) | (refine wpTx_skip rfl (by assumption) (by rfl) ?_; simp only [Act.put, List.setIfInBounds_toArray, List.set_cons_zero, List.set_cons_succ])))
        refine wpTx_last rfl (fun K hK => ?_)
        go_simp
        refine hK.out _ _ (NoPanic.normal ?_); clear hK K; (try simp only [Act.put, List.setIfInBounds_toArray, List.set_cons_zero, List.set_cons_succ])
        clear hHeld p0 p1
        go_wp2_with fail
        go_roundw
        case rel => exact ⟨k + 1, by omega, by go_num, HE2, HK.out.drew⟩
        case measure => simp [intOf]; omega
      · have HV : Hid (decide (xs = ys) = false) := decide_eq_false (fun e => by
          subst e
          have h1 := HXk.out.symm.trans HYk.out
          exact hxy (Option.some.inj h1))
        have d1 : ¬ x.toList = y.toList := fun e => hxy (by have h1 := str_eqA x y; rw [e] at h1; simpa using h1)
        have d0 : (x.toList == y.toList) = false := by simpa using d1
        clear hxy
        go_upto_region 6 with fail
        refine wp_region_tx (fun W' => W'.cell? ⟨b, off + k, none⟩ = some (.string x) ∧ W'.cell? ⟨b', off' + k, none⟩ = some (.string y)) [(0, true), (1, true), (2, true), (3, true), (4, true), (5, true), (6, true), (7, true), (8, false)] (by kernel_rfl) (by kernel_rfl) ⟨p0, p1⟩ (fun hHeld => ?_)
        (repeat (first | (refine wpTx_take (v := ?_) rfl (by assumption) ?_ (by rfl) ?_; rotate_left; (focus (intro w' hSw; (try dsimp only at hSw); go_simp; (try with_reducible rfl); done)); simp only [Act.put, List.setIfInBounds_toArray, List.set_cons_zero, List.set_cons_succ]) | (refine wpTx_skip rfl (by assumption) (by rfl) ?_; simp only [Act.put, List.setIfInBounds_toArray, List.set_cons_zero, List.set_cons_succ])))
        refine wpTx_last rfl (fun K hK => ?_)
        go_simp
        refine hK.out _ _ (NoPanic.normal ?_); clear hK K; (try simp only [Act.put, List.setIfInBounds_toArray, List.set_cons_zero, List.set_cons_succ])
        clear hHeld p0 p1
        go_wp2_with fail
        go_ret
        exact ⟨by rw [HV.out]; rfl, HK.out.drew⟩
    · obtain rfl : n = k := by omega
      have HV : Hid (decide (xs = ys) = true) := decide_eq_true (by
        have h1 := HE.out
        rw [List.take_of_length_le (by rw [HX.out]; exact Nat.le_refl _), List.take_of_length_le (by rw [HY.out]; exact Nat.le_refl _)] at h1
        exact h1)
      go_wp2_with fail
      go_ret
      exact ⟨by rw [HV.out]; rfl, HK.out⟩
end Go.Proofs.YtpcihhdalofdiaaGreatDoor
