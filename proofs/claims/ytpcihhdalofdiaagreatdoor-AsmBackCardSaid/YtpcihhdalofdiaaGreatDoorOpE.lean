/- Layer 6: Right, the program's and the document's. -/
import Derived.Test.YtpcihhdalofdiaaGreatDoorOpD
import Derived.Test.YtpcihhdalofdiaaGreatDoorObj
import Derived.Test.YtpcihhdalofdiaaGreatDoorText
import Derived.Test.YtpcihhdalofdiaaGreatDoorBytes
namespace Go.Proofs.YtpcihhdalofdiaaGreatDoor
open Go.RowKit

def LIns.arg (i : LIns) : Nat → Int
  | 0 => i.a0
  | 1 => i.a1
  | 2 => i.a2
  | 3 => i.a3
  | _ => 0
def argOk (i : LIns) (k : Nat) : Bool := match (kindsOf i.op)[k]? with
  | some x => mayOk i.op x.toNat (i.arg k)
  | none => i.arg k == 0
def opIn (op : Int) : Bool := decide (0 ≤ op) && decide (op ≤ 26)
def insOk (i : LIns) : Bool := opIn i.op && (List.range 4).all (argOk i)

theorem kinds_mem (op : Int) : ∀ x ∈ kindsOf op, 1 ≤ x ∧ x < 10 := by
  unfold kindsOf
  split
  · rename_i h
    obtain ⟨k, rfl⟩ := Int.eq_ofNat_of_zero_le h.1
    have hk : k < 27 := by omega
    have : ∀ k, k < 27 → ∀ x ∈ opList k, 1 ≤ x ∧ x < 10 := by decide
    exact this k hk
  · simp
theorem kinds_lab (op : Int) (h : op = 26) : ∀ x ∈ kindsOf op, x = 8 := by
  subst h
  decide
theorem nameOf_in {op : Int} (h : opIn op = true) : (nameOf op).toList.isEmpty = false := by
  simp only [opIn, Bool.and_eq_true, decide_eq_true_eq] at h
  obtain ⟨k, rfl⟩ := Int.eq_ofNat_of_zero_le h.1
  have hk : k < 27 := by omega
  rw [nameOf_of rfl hk]
  have : ∀ k, k < 27 → (opName k).size ≠ 0 := by decide
  exact strFull _ (this k hk)
theorem nameOf_out {op : Int} (h : opIn op = false) : (nameOf op).toList.isEmpty = true := by
  have hn : ¬ (0 ≤ op ∧ op ≤ 26) := by
    intro hh
    simp [opIn, hh] at h
  rw [nameOf, if_neg hn]
  exact strEmpty _ rfl
theorem nameOf_nil (op : Int) : (nameOf op).size = 0 ↔ opIn op = false := by
  cases h : opIn op with
  | true =>
    have := nameOf_in h
    constructor
    · intro h0
      rw [strEmpty _ h0] at this
      cases this
    · intro h; cases h
  | false =>
    simp only [iff_true]
    by_cases h0 : (nameOf op).size = 0
    · exact h0
    · have := strFull _ h0
      rw [nameOf_out h] at this
      cases this
theorem mayRef_eq (op : Int) (k : Nat) (n : Int) (hk : k < 10) (h : op = 26 → k = 8) : mayRef op k n = mayOk op k n := by
  unfold mayRef mayOk leastOf6
  by_cases ho : op = 26
  · have := h ho
    subst this ho
    simp only [beq_self_eq_true, Bool.true_and, Nat.reduceEqDiff, if_false, Nat.reduceBEq, Bool.false_and, Bool.not_false, Bool.and_true]
    exact Bool.or_comm _ _
  · have h1 : (op == 26) = false := by simpa using ho
    simp only [h1, Bool.and_false, Bool.false_and, Bool.false_or, Bool.or_false]
    by_cases h5 : k = 5
    · subst h5
      simp only [beq_self_eq_true, Bool.true_and, if_true]
      rw [Bool.eq_iff_iff]
      simp only [Bool.and_eq_true, decide_eq_true_eq, Bool.not_eq_true', beq_eq_false_iff_ne, ne_eq]
      omega
    · have h2 : (k == 5) = false := by simpa using h5
      simp [h2, h5]
theorem all4_step {p : Nat → Bool} {k : Nat} (h : ∀ j, j < k → p j = true) (hk : p k = true) : ∀ j, j < k + 1 → p j = true := by
  intro j hj
  by_cases hjk : j = k
  · subst hjk; exact hk
  · exact h j (by omega)
theorem insOk_yes {i : LIns} (h0 : opIn i.op = true) (h : ∀ j, j < 4 → argOk i j = true) : insOk i = true := by
  simp only [insOk, h0, Bool.true_and, List.all_eq_true, List.mem_range]
  exact h
theorem insOk_no {i : LIns} {k : Nat} (hk : k < 4) (h : argOk i k = false) : insOk i = false := by
  rw [insOk, Bool.and_eq_false_iff]
  right
  rw [List.all_eq_false]
  exact ⟨k, List.mem_range.2 hk, by rw [h]; simp⟩
theorem insOk_out {i : LIns} (h0 : opIn i.op = false) : insOk i = false := by simp [insOk, h0]
theorem ins_index0 (i : LIns) (w : World) : (Instr.index 70 (.agg #[.int .i64 i.a0, .int .i64 i.a1, .int .i64 i.a2, .int .i64 i.a3]) (.int .i64 0)).run Tryz.prog w = .ok (.int .i64 i.a0) w := by kernel_rfl
theorem ins_index1 (i : LIns) (w : World) : (Instr.index 70 (.agg #[.int .i64 i.a0, .int .i64 i.a1, .int .i64 i.a2, .int .i64 i.a3]) (.int .i64 1)).run Tryz.prog w = .ok (.int .i64 i.a1) w := by kernel_rfl
theorem ins_index2 (i : LIns) (w : World) : (Instr.index 70 (.agg #[.int .i64 i.a0, .int .i64 i.a1, .int .i64 i.a2, .int .i64 i.a3]) (.int .i64 2)).run Tryz.prog w = .ok (.int .i64 i.a2) w := by kernel_rfl
theorem ins_index3 (i : LIns) (w : World) : (Instr.index 70 (.agg #[.int .i64 i.a0, .int .i64 i.a1, .int .i64 i.a2, .int .i64 i.a3]) (.int .i64 3)).run Tryz.prog w = .ok (.int .i64 i.a3) w := by kernel_rfl
theorem ins_index (i : LIns) (k : Nat) (hk : k < 4) (w : World) (t : TypeId) (ht : t = 70) : (Instr.index t (.agg #[.int .i64 i.a0, .int .i64 i.a1, .int .i64 i.a2, .int .i64 i.a3]) (.int .i64 (k : Int))).run Tryz.prog w = .ok (.int .i64 (i.arg k)) w := by
  subst ht
  match k, hk with
  | 0, _ => exact ins_index0 i w
  | 1, _ => exact ins_index1 i w
  | 2, _ => exact ins_index2 i w
  | 3, _ => exact ins_index3 i w

set_option maxRecDepth 100000 in
set_option maxHeartbeats 1600000 in
theorem right6_any (i : LIns) (w : World) : Calls Tryz.prog 61 #[insV i] w fun e w' => e = .returned (.bool (insOk i)) ∧ Keeps w w' [] := by
  unfold insV
  cases h0 : opIn i.op with
  | false =>
    have hne := nameOf_out h0
    have HI := Lib.hid (insOk_out h0)
    go_enter Tryz.func61, Tryz.ntmps61
    go_wp2_with fail
    refine (name6_any i.op _).mono ?_
    rintro e w1 ⟨rfl, k1⟩
    go_wp2_with fail
    go_ret
    exact ⟨by rw [HI.out]; rfl, ((Keeps.refl _ []).alloc _).trans k1⟩
  | true =>
    have hne := nameOf_in h0
    have H0 := Lib.hid h0
    have ix := fun k hk w => ins_index i k hk w _ rfl
    have IX := Lib.hid ix
    clear h0 ix
    go_enter Tryz.func61, Tryz.ntmps61
    go_wp2_with fail
    refine (name6_any i.op _).mono ?_
    rintro e w1 ⟨rfl, k1⟩
    have b1 : Blk w1 w.heap.size 79 #[.int .i64 i.op, .int .i64 i.a0, .int .i64 i.a1, .int .i64 i.a2, .int .i64 i.a3] := (Blk.new _ _ _).keep k1 (by simp)
    have c0 := b1.cell 0
    go_wp2_with fail
    refine (kinds_any i.op _).mono ?_
    rintro e w2 ⟨A, c, rfl, hN, k2⟩
    have b2 := b1.keep k2 (by simp)
    have hK := ((Keeps.refl w []).alloc _ |>.trans k1).trans k2
    have HB := Lib.hid b2
    have HN := Lib.hid hN
    have HK := Lib.hid hK
    have hfew := kinds_few i.op
    clear c0 b1 k1 k2 hN hK
    have c0 := b2.cell 0
    have c1 := b2.cell 1
    have c2 := b2.cell 2
    have c3 := b2.cell 3
    have c4 := b2.cell 4
    clear b2
    obtain ⟨m, hm⟩ : ∃ m, (kindsOf i.op).length = m := ⟨_, rfl⟩
    rw [hm] at hfew ⊢
    have HM := Lib.hid hm
    clear hm
    go_wp2_with fail
    clear c0 c1 c2 c3 c4
    go_loopw [15] (fun v wr => ∃ k : Nat, k ≤ 4 ∧ v = .int .i64 k ∧ Hid (∀ j, j < k → argOk i j = true) ∧ Keeps w2 wr []) (fun v _ => 4 - (intOf v).toNat)
    case atStart => exact ⟨0, by omega, rfl, fun j hj => absurd hj (by omega), Keeps.refl _ _⟩
    case round =>
      obtain ⟨k, hk, rfl, HA, kr⟩ := hrel
      have HR := Lib.hid kr
      clear kr
      by_cases hlt : k < 4
      · have hix := IX.out k hlt
        have q0 := (HB.out.keep HR.out (by simp)).cell 0
        by_cases hkm : k < m
        · obtain ⟨b, off, x, rfl, hb, hc, hx⟩ := HN.out k (by rw [HM.out]; exact hkm)
          have hx1 := kinds_mem i.op x (List.mem_of_getElem? hx)
          obtain ⟨q, rfl⟩ := Int.eq_ofNat_of_zero_le (show 0 ≤ x by omega)
          have q1 := (HR.out.cell0 hb).trans hc
          have HArg : Hid (argOk i k = mayOk i.op q (i.arg k)) := by show _ = _; simp [argOk, hx]
          clear hx hc
          have d1 : decide (k < m) = true := by simpa using hkm
          have d2 : decide (m ≤ k) = false := by simp; omega
          have b0 : (0 : Int) ≤ (k : Int) := Int.natCast_nonneg _
          have b1 : (k : Int) < (m : Int) := by omega
          have hcall := may_any i.op q (i.arg k) (by omega)
          go_wp2_with fail
          cases hv : mayOk i.op q (i.arg k)
          all_goals
            rw [hv] at HArg hcall
            have HC := Lib.hid hcall
            clear hcall
            refine wp_region_tx (fun W' => W'.cell? ⟨w.heap.size, 0, none⟩ = some (.int .i64 i.op) ∧ W'.cell? ⟨b, off + k, none⟩ = some (.int .i64 q)) [(0, true), (1, true), (2, true), (3, true), (4, true), (5, true), (6, true), (7, true), (8, true), (9, true), (10, true), (11, true), (12, false), (13, true), (14, true), (15, true), (16, true), (17, true), (18, true), (19, true), (20, true), (21, true), (22, true), (23, true), (24, false)] (by kernel_rfl) (by kernel_rfl) (by exact ⟨q0, q1⟩) (fun hHeld => ?_)
            (repeat (first | (refine wpTx_take (v := ?_) rfl (by assumption) ?_ (by rfl) ?_; rotate_left; (focus (intro w' hSw; (try dsimp only at hSw); go_simp; (try with_reducible rfl); done)); simp only [Act.put, List.setIfInBounds_toArray, List.set_cons_zero, List.set_cons_succ]) | (refine wpTx_skip rfl (by assumption) (by rfl) ?_; simp only [Act.put, List.setIfInBounds_toArray, List.set_cons_zero, List.set_cons_succ])))
            refine wpTx_go rfl (fun K hK => ?_)
            go_simp
            refine (HC.out _).mono ?_
            rintro e w3 ⟨rfl, k3⟩
            refine hK.out _ _ ?_ ?_
            · exact ⟨(((Keeps.refl _ []).drew.trans k3).cell0 (by have := HB.out.lt; have := HR.out.size; simp; omega)).trans q0, (((Keeps.refl _ []).drew.trans k3).cell0 (by have := HR.out.size; omega)).trans q1⟩
            (clear hHeld; intro hHeld; clear hK K; (try simp only [Act.put, List.setIfInBounds_toArray, List.set_cons_zero, List.set_cons_succ]))
            (repeat (first | (refine wpTx_take (v := ?_) rfl (by assumption) ?_ (by rfl) ?_; rotate_left; (focus (intro w' hSw; (try dsimp only at hSw); go_simp; (try with_reducible rfl); done)); simp only [Act.put, List.setIfInBounds_toArray, List.set_cons_zero, List.set_cons_succ]) | (refine wpTx_skip rfl (by assumption) (by rfl) ?_; simp only [Act.put, List.setIfInBounds_toArray, List.set_cons_zero, List.set_cons_succ])))
            refine wpTx_last rfl (fun K hK => ?_)
            go_simp
            refine hK.out _ _ (NoPanic.normal ?_); clear hK K; (try simp only [Act.put, List.setIfInBounds_toArray, List.set_cons_zero, List.set_cons_succ])
          · have HI := Lib.hid (insOk_no hlt HArg.out)
            go_wp2_with fail
            go_ret
            exact ⟨by rw [HI.out]; rfl, HK.out.trans (HR.out.trans ((Keeps.refl _ []).drew.trans k3))⟩
          · have HA2 := Lib.hid (all4_step HA.out HArg.out)
            go_wp2_with fail
            go_roundw
            case rel => exact ⟨k + 1, by omega, by go_num, HA2.out, HR.out.trans ((Keeps.refl _ []).drew.trans k3)⟩
            case measure => simp [intOf]; omega
        · have d1 : decide (k < m) = false := by simpa using hkm
          have d2 : decide (m ≤ k) = true := by simp; omega
          have HArg : Hid (argOk i k = (i.arg k == 0)) := by
            show _ = _
            rw [argOk, List.getElem?_eq_none (by rw [HM.out]; omega)]
          by_cases hz : i.arg k = 0
          · have z1 : (i.arg k == 0) = true := by simpa using hz
            have z2 : (i.arg k != 0) = false := by simpa using hz
            have HA2 := Lib.hid (all4_step HA.out (HArg.out.trans z1))
            clear hz
            go_wp2_with fail
            refine wp_region_tx (fun _ => True) [(0, true), (1, true), (2, true), (3, true), (4, true), (5, true), (6, true), (7, true), (8, true), (9, true), (10, true), (11, true), (12, false), (13, true), (14, true), (15, true), (16, true), (17, true), (18, true), (19, true), (20, true), (21, true), (22, true), (23, true), (24, false)] (by kernel_rfl) (by kernel_rfl) trivial (fun hHeld => ?_)
            (repeat (first | (refine wpTx_take (v := ?_) rfl (by assumption) ?_ (by rfl) ?_; rotate_left; (focus (intro w' hSw; (try dsimp only at hSw); go_simp; (try with_reducible rfl); done)); simp only [Act.put, List.setIfInBounds_toArray, List.set_cons_zero, List.set_cons_succ]) | (refine wpTx_skip rfl (by assumption) (by rfl) ?_; simp only [Act.put, List.setIfInBounds_toArray, List.set_cons_zero, List.set_cons_succ])))
            refine wpTx_go rfl (fun K hK => ?_)
            go_simp
            refine hK.out _ _ ?_ ?_
            · trivial
            (clear hHeld; intro hHeld; clear hK K; (try simp only [Act.put, List.setIfInBounds_toArray, List.set_cons_zero, List.set_cons_succ]))
            (repeat (first | (refine wpTx_take (v := ?_) rfl (by assumption) ?_ (by rfl) ?_; rotate_left; (focus (intro w' hSw; (try dsimp only at hSw); go_simp; (try with_reducible rfl); done)); simp only [Act.put, List.setIfInBounds_toArray, List.set_cons_zero, List.set_cons_succ]) | (refine wpTx_skip rfl (by assumption) (by rfl) ?_; simp only [Act.put, List.setIfInBounds_toArray, List.set_cons_zero, List.set_cons_succ])))
            refine wpTx_last rfl (fun K hK => ?_)
            go_simp
            refine hK.out _ _ (NoPanic.normal ?_); clear hK K; (try simp only [Act.put, List.setIfInBounds_toArray, List.set_cons_zero, List.set_cons_succ])
            go_wp2_with fail
            go_roundw
            case rel => exact ⟨k + 1, by omega, by go_num, HA2.out, HR.out.drew⟩
            case measure => simp [intOf]; omega
          · have z1 : (i.arg k == 0) = false := by simpa using hz
            have z2 : (i.arg k != 0) = true := by simpa using hz
            have HI := Lib.hid (insOk_no hlt (HArg.out.trans z1))
            clear hz
            go_wp2_with fail
            refine wp_region_tx (fun _ => True) [(0, true), (1, true), (2, true), (3, true), (4, true), (5, true), (6, true), (7, true), (8, true), (9, true), (10, true), (11, true), (12, false), (13, true), (14, true), (15, true), (16, true), (17, true), (18, true), (19, true), (20, true), (21, true), (22, true), (23, true), (24, false)] (by kernel_rfl) (by kernel_rfl) trivial (fun hHeld => ?_)
            (repeat (first | (refine wpTx_take (v := ?_) rfl (by assumption) ?_ (by rfl) ?_; rotate_left; (focus (intro w' hSw; (try dsimp only at hSw); go_simp; (try with_reducible rfl); done)); simp only [Act.put, List.setIfInBounds_toArray, List.set_cons_zero, List.set_cons_succ]) | (refine wpTx_skip rfl (by assumption) (by rfl) ?_; simp only [Act.put, List.setIfInBounds_toArray, List.set_cons_zero, List.set_cons_succ])))
            refine wpTx_go rfl (fun K hK => ?_)
            go_simp
            refine hK.out _ _ ?_ ?_
            · trivial
            (clear hHeld; intro hHeld; clear hK K; (try simp only [Act.put, List.setIfInBounds_toArray, List.set_cons_zero, List.set_cons_succ]))
            (repeat (first | (refine wpTx_take (v := ?_) rfl (by assumption) ?_ (by rfl) ?_; rotate_left; (focus (intro w' hSw; (try dsimp only at hSw); go_simp; (try with_reducible rfl); done)); simp only [Act.put, List.setIfInBounds_toArray, List.set_cons_zero, List.set_cons_succ]) | (refine wpTx_skip rfl (by assumption) (by rfl) ?_; simp only [Act.put, List.setIfInBounds_toArray, List.set_cons_zero, List.set_cons_succ])))
            refine wpTx_last rfl (fun K hK => ?_)
            go_simp
            refine hK.out _ _ (NoPanic.normal ?_); clear hK K; (try simp only [Act.put, List.setIfInBounds_toArray, List.set_cons_zero, List.set_cons_succ])
            go_wp2_with fail
            go_ret
            exact ⟨by rw [HI.out]; rfl, HK.out.trans HR.out.drew⟩
      · obtain rfl : k = 4 := by omega
        have HI := Lib.hid (insOk_yes H0.out HA.out)
        go_wp2_with fail
        go_ret
        exact ⟨by rw [HI.out]; rfl, HK.out.trans HR.out⟩

theorem ins_cell {w : World} {g : Nat} {t : TypeId} {i : LIns} (h : Blk w g t #[.int .i64 i.op, .int .i64 i.a0, .int .i64 i.a1, .int .i64 i.a2, .int .i64 i.a3]) (k : Nat) (hk : k < 4) : w.cell? ⟨g, 1 + k, none⟩ = some (.int .i64 (i.arg k)) := by
  refine (h.cell (1 + k)).trans ?_
  match k, hk with
  | 0, _ => rfl
  | 1, _ => rfl
  | 2, _ => rfl
  | 3, _ => rfl
set_option maxRecDepth 100000 in
set_option maxHeartbeats 1600000 in
theorem refRight6_any (i : LIns) (w : World) : Calls Tryz.prog 69 #[insV i] w fun e w' => e = .returned (.bool (insOk i)) ∧ Keeps w w' [] := by
  unfold insV
  cases h0 : opIn i.op with
  | false =>
    have HI := Lib.hid (insOk_out h0)
    by_cases hlo : i.op < 0
    · have d1 : decide (i.op < 0) = true := by simpa using hlo
      clear h0 hlo
      go_enter Tryz.func69, Tryz.ntmps69
      go_wp2_with fail
      go_ret
      exact ⟨by rw [HI.out]; rfl, (Keeps.refl _ []).alloc _⟩
    · have d1 : decide (i.op < 0) = false := by simpa using hlo
      have d2 : decide (26 < i.op) = true := by
        simp only [opIn, Bool.and_eq_false_iff, decide_eq_false_iff_not] at h0
        simp only [decide_eq_true_eq]
        omega
      clear h0 hlo
      go_enter Tryz.func69, Tryz.ntmps69
      go_wp2_with fail
      go_ret
      exact ⟨by rw [HI.out]; rfl, (Keeps.refl _ []).alloc _⟩
  | true =>
    have H0 := Lib.hid h0
    have d1 : decide (i.op < 0) = false := by
      simp only [opIn, Bool.and_eq_true, decide_eq_true_eq] at h0
      simp only [decide_eq_false_iff_not]
      omega
    have d2 : decide (26 < i.op) = false := by
      simp only [opIn, Bool.and_eq_true, decide_eq_true_eq] at h0
      simp only [decide_eq_false_iff_not]
      omega
    clear h0
    go_enter Tryz.func69, Tryz.ntmps69
    go_wp2_with fail
    refine (refKinds_any i.op _).mono ?_
    rintro e w2 ⟨A, c, rfl, hN, k2⟩
    have b2 : Blk w2 w.heap.size 72 #[.int .i64 i.op, .int .i64 i.a0, .int .i64 i.a1, .int .i64 i.a2, .int .i64 i.a3] := (Blk.new _ _ _).keep k2 (by simp)
    have hK := (Keeps.refl w []).alloc _ |>.trans k2
    have HB := Lib.hid b2
    have HN := Lib.hid hN
    have HK := Lib.hid hK
    have hfew := kinds_few i.op
    clear b2 k2 hN hK
    obtain ⟨m, hm⟩ : ∃ m, (kindsOf i.op).length = m := ⟨_, rfl⟩
    rw [hm] at hfew ⊢
    have HM := Lib.hid hm
    clear hm
    go_wp2_with fail
    go_loopw [4] (fun v wr => ∃ k : Nat, k ≤ 4 ∧ v = .int .i64 k ∧ Hid (∀ j, j < k → argOk i j = true) ∧ Keeps w2 wr []) (fun v _ => 4 - (intOf v).toNat)
    case atStart => exact ⟨0, by omega, rfl, fun j hj => absurd hj (by omega), Keeps.refl _ _⟩
    case round =>
      obtain ⟨k, hk, rfl, HA, kr⟩ := hrel
      have HR := Lib.hid kr
      clear kr
      by_cases hlt : k < 4
      · have q0 := (HB.out.keep HR.out (by simp)).cell 0
        have q2 := ins_cell (HB.out.keep HR.out (by simp)) k hlt
        have b0 : (0 : Int) ≤ (k : Int) := Int.natCast_nonneg _
        have b4 : (k : Int) < 4 := by omega
        by_cases hkm : k < m
        · obtain ⟨b, off, x, rfl, hb, hc, hx⟩ := HN.out k (by rw [HM.out]; exact hkm)
          have hx1 := kinds_mem i.op x (List.mem_of_getElem? hx)
          obtain ⟨q, rfl⟩ := Int.eq_ofNat_of_zero_le (show 0 ≤ x by omega)
          have q1 := (HR.out.cell0 hb).trans hc
          have hcall := refMay_any i.op q (i.arg k) (by omega)
          rw [mayRef_eq i.op q (i.arg k) (by omega) (fun h => by have := kinds_lab i.op h q (List.mem_of_getElem? hx); omega)] at hcall
          have HArg : Hid (argOk i k = mayOk i.op q (i.arg k)) := by show _ = _; simp [argOk, hx]
          clear hx hc
          have d1 : decide (k < m) = true := by simpa using hkm
          have d2 : decide (m ≤ k) = false := by simp; omega
          have b1 : (k : Int) < (m : Int) := by omega
          cases hv : mayOk i.op q (i.arg k)
          all_goals
            rw [hv] at HArg hcall
            have HC := Lib.hid hcall
            clear hcall
            go_wp2_with fail
            refine wp_region_tx (fun W' => W'.cell? ⟨w.heap.size, 0, none⟩ = some (.int .i64 i.op) ∧ W'.cell? ⟨w.heap.size, 1 + k, none⟩ = some (.int .i64 (i.arg k)) ∧ W'.cell? ⟨b, off + k, none⟩ = some (.int .i64 q)) [(0, true), (1, true), (2, true), (3, true), (4, true), (5, true), (6, true), (7, true), (8, true), (9, true), (10, true), (11, true), (12, true), (13, true), (14, true), (15, false), (16, true), (17, true), (18, true), (19, true), (20, true), (21, true), (22, true), (23, true), (24, true), (25, true), (26, true), (27, true), (28, true), (29, true), (30, false)] (by kernel_rfl) (by kernel_rfl) (by exact ⟨q0, q2, q1⟩) (fun hHeld => ?_)
            (repeat (first | (refine wpTx_take (v := ?_) rfl (by assumption) ?_ (by rfl) ?_; rotate_left; (focus (intro w' hSw; (try dsimp only at hSw); go_simp; (try with_reducible rfl); done)); simp only [Act.put, List.setIfInBounds_toArray, List.set_cons_zero, List.set_cons_succ]) | (refine wpTx_skip rfl (by assumption) (by rfl) ?_; simp only [Act.put, List.setIfInBounds_toArray, List.set_cons_zero, List.set_cons_succ])))
            refine wpTx_go rfl (fun K hK => ?_)
            go_simp
            refine (HC.out _).mono ?_
            rintro e w3 ⟨rfl, k3⟩
            refine hK.out _ _ ?_ ?_
            · have hlt2 : w.heap.size < wr.drew.heap.size := by have := HB.out.lt; have := HR.out.size; simp; omega
              exact ⟨(((Keeps.refl _ []).drew.trans k3).cell0 hlt2).trans q0, (((Keeps.refl _ []).drew.trans k3).cell0 hlt2).trans q2, (((Keeps.refl _ []).drew.trans k3).cell0 (by have := HR.out.size; omega)).trans q1⟩
            (clear hHeld; intro hHeld; clear hK K; (try simp only [Act.put, List.setIfInBounds_toArray, List.set_cons_zero, List.set_cons_succ]))
            (repeat (first | (refine wpTx_take (v := ?_) rfl (by assumption) ?_ (by rfl) ?_; rotate_left; (focus (intro w' hSw; (try dsimp only at hSw); go_simp; (try with_reducible rfl); done)); simp only [Act.put, List.setIfInBounds_toArray, List.set_cons_zero, List.set_cons_succ]) | (refine wpTx_skip rfl (by assumption) (by rfl) ?_; simp only [Act.put, List.setIfInBounds_toArray, List.set_cons_zero, List.set_cons_succ])))
            refine wpTx_last rfl (fun K hK => ?_)
            go_simp
            refine hK.out _ _ (NoPanic.normal ?_); clear hK K; (try simp only [Act.put, List.setIfInBounds_toArray, List.set_cons_zero, List.set_cons_succ])
          · have HI := Lib.hid (insOk_no hlt HArg.out)
            go_wp2_with fail
            go_ret
            exact ⟨by rw [HI.out]; rfl, HK.out.trans (HR.out.trans ((Keeps.refl _ []).drew.trans k3))⟩
          · have HA2 := Lib.hid (all4_step HA.out HArg.out)
            go_wp2_with fail
            go_roundw
            case rel => exact ⟨k + 1, by omega, by go_num, HA2.out, HR.out.trans ((Keeps.refl _ []).drew.trans k3)⟩
            case measure => simp [intOf]; omega
        · have d1 : decide (k < m) = false := by simpa using hkm
          have d2 : decide (m ≤ k) = true := by simp; omega
          have HArg : Hid (argOk i k = (i.arg k == 0)) := by
            show _ = _
            rw [argOk, List.getElem?_eq_none (by rw [HM.out]; omega)]
          cases z1 : (i.arg k == 0)
          all_goals
            rw [z1] at HArg
            have z2 : (i.arg k != 0) = !(i.arg k == 0) := rfl
            rw [z1] at z2
            simp only [Bool.not_true, Bool.not_false] at z2
            go_wp2_with fail
            refine wp_region_tx (fun W' => W'.cell? ⟨w.heap.size, 1 + k, none⟩ = some (.int .i64 (i.arg k))) [(0, true), (1, true), (2, true), (3, true), (4, true), (5, true), (6, true), (7, true), (8, true), (9, true), (10, true), (11, true), (12, true), (13, true), (14, true), (15, false), (16, true), (17, true), (18, true), (19, true), (20, true), (21, true), (22, true), (23, true), (24, true), (25, true), (26, true), (27, true), (28, true), (29, true), (30, false)] (by kernel_rfl) (by kernel_rfl) (by exact q2) (fun hHeld => ?_)
            (repeat (first | (refine wpTx_take (v := ?_) rfl (by assumption) ?_ (by rfl) ?_; rotate_left; (focus (intro w' hSw; (try dsimp only at hSw); go_simp; (try with_reducible rfl); done)); simp only [Act.put, List.setIfInBounds_toArray, List.set_cons_zero, List.set_cons_succ]) | (refine wpTx_skip rfl (by assumption) (by rfl) ?_; simp only [Act.put, List.setIfInBounds_toArray, List.set_cons_zero, List.set_cons_succ])))
            refine wpTx_go rfl (fun K hK => ?_)
            go_simp
            refine hK.out _ _ ?_ ?_
            · exact q2
            (clear hHeld; intro hHeld; clear hK K; (try simp only [Act.put, List.setIfInBounds_toArray, List.set_cons_zero, List.set_cons_succ]))
            (repeat (first | (refine wpTx_take (v := ?_) rfl (by assumption) ?_ (by rfl) ?_; rotate_left; (focus (intro w' hSw; (try dsimp only at hSw); go_simp; (try with_reducible rfl); done)); simp only [Act.put, List.setIfInBounds_toArray, List.set_cons_zero, List.set_cons_succ]) | (refine wpTx_skip rfl (by assumption) (by rfl) ?_; simp only [Act.put, List.setIfInBounds_toArray, List.set_cons_zero, List.set_cons_succ])))
            refine wpTx_last rfl (fun K hK => ?_)
            go_simp
            refine hK.out _ _ (NoPanic.normal ?_); clear hK K; (try simp only [Act.put, List.setIfInBounds_toArray, List.set_cons_zero, List.set_cons_succ])
          · have HI := Lib.hid (insOk_no hlt HArg.out)
            go_wp2_with fail
            go_ret
            exact ⟨by rw [HI.out]; rfl, HK.out.trans HR.out.drew⟩
          · have HA2 := Lib.hid (all4_step HA.out HArg.out)
            go_wp2_with fail
            go_roundw
            case rel => exact ⟨k + 1, by omega, by go_num, HA2.out, HR.out.drew⟩
            case measure => simp [intOf]; omega
      · obtain rfl : k = 4 := by omega
        have HI := Lib.hid (insOk_yes H0.out HA.out)
        go_wp2_with fail
        go_ret
        exact ⟨by rw [HI.out]; rfl, HK.out.trans HR.out⟩
end Go.Proofs.YtpcihhdalofdiaaGreatDoor
