/- The program's look at an object: its keys and entries. -/
import Derived.Test.YtpcihhdalofdiaaGreatDoorObjCheck
namespace Go.Proofs.YtpcihhdalofdiaaGreatDoor
open Go.RowKit

theorem BoxSt.app {w wr W W2 : World} {bx base n size : Nat} {t e : TypeId} {cs : Array Value} {v : Value} {xs : List Value} (s : BoxSt w wr bx t cs) (k : Keeps wr W []) (ho : W.ownsRow base e size v n xs) (hb : w.heap.size ≤ base) (hne : t ≠ e) (hg : W.grownBy W2 v.ownBlock) : BoxSt w W2 bx t cs :=
  ⟨blk_far (s.blk.keep k (by simp)) ho hne hg, (s.keep.trans k).app ho hb hg⟩
set_option maxHeartbeats 400000 in
theorem big_any (a f p c : Nat) (w : World) : Calls Tryz.prog 24 #[.int .i64 a, .int .i64 f, .int .i64 p, .int .i64 c] w fun e w' => e = .returned (.bool (bigB a f p c)) ∧ w = w' := by
  by_cases h : a < f
  · have HI : Hid (bigB a f p c = (decide (256 < (f : Int)) || (decide (64 < (p : Int)) || decide (1024 < (c : Int))))) := by show _ = _; rw [bigB, if_pos (by omega)]
    cases d1 : decide (256 < (f : Int)) <;> cases d2 : decide (64 < (p : Int)) <;> cases d3 : decide (1024 < (c : Int)) <;>
    (rw [d1, d2, d3] at HI
     go_enter Tryz.func24, Tryz.ntmps24
     go_wp2_with fail
     go_ret
     exact ⟨by rw [HI.out]; rfl, rfl⟩)
  · have HI : Hid (bigB a f p c = (decide (256 < (a : Int)) || (decide (64 < (p : Int)) || decide (1024 < (c : Int))))) := by show _ = _; rw [bigB, if_neg (by omega)]
    cases d1 : decide (256 < (a : Int)) <;> cases d2 : decide (64 < (p : Int)) <;> cases d3 : decide (1024 < (c : Int)) <;>
    (rw [d1, d2, d3] at HI
     go_enter Tryz.func24, Tryz.ntmps24
     go_wp2_with fail
     go_ret
     exact ⟨by rw [HI.out]; rfl, rfl⟩)

def KeysDone (o : LObj) (w : World) (e : Ending) (w' : World) : Prop := ∃ A c, e = .returned (.slice A o.preds.length c) ∧ Rd w' A ((o.preds.map keyF).flatMap funE) ∧ Keeps w w' []
theorem map_at {α β : Type} {l : List α} {k : Nat} {x : α} (f : α → β) (h : l[k]? = some x) : (l.map f)[k]? = some (f x) := by rw [List.getElem?_map, h]; rfl
set_option maxRecDepth 100000 in
set_option maxHeartbeats 800000 in
theorem keys_any (o : LObj) : ObjCalls 28 o (KeysDone o) := by
  intro Aa Af Ap Ac na nf np nc ca cf cp cc w h hf la lf lp lc
  have H := Lib.hid h
  have gp := hf.preds
  rw [lp] at gp
  have Lp := Lib.hid lp
  clear h hf la lf lp lc
  go_enter Tryz.func28, Tryz.ntmps28
  go_wp2_with fail
  have st : BoxSt w (w.alloc (.cells #[.slice Aa na ca, .slice Af nf cf, .slice Ap np cp, .slice Ac nc cc] 31)) w.heap.size 31 #[.slice Aa na ca, .slice Af nf cf, .slice Ap np cp, .slice Ac nc cc] := ⟨Blk.new _ _ _, (Keeps.refl _ []).alloc _⟩
  have HST := Lib.hid st
  clear st
  go_loopw [3, 9] (fun v i wr => ∃ k : Nat, k ≤ np ∧ i = .int .i64 k ∧ (∃ A3 c3, v = .slice A3 k c3 ∧ wr.ownsRow w.heap.size 77 2 (.slice A3 k c3) k (((o.preds.map keyF).take k).flatMap funE)) ∧ BoxSt w wr w.heap.size 31 #[.slice Aa na ca, .slice Af nf cf, .slice Ap np cp, .slice Ac nc cc]) (fun _ i _ => np - (intOf i).toNat)
  case atStart => exact ⟨0, Nat.zero_le _, rfl, ⟨none, 0, rfl, World.ownsRow_nil _ _ _ _⟩, HST.out⟩
  case round =>
    obtain ⟨k, hk, rfl, ⟨A3, c3, rfl, how⟩, st⟩ := hrel
    have HS := Lib.hid st
    have HO := Lib.hid how
    clear st HST how
    by_cases hlt : k < np
    · obtain ⟨x, hx⟩ := at_of Lp.out hlt
      obtain ⟨b, off, rfl, hb, hc⟩ := (H.out.preds).field predE_len hx (by omega)
      have HX := Lib.hid hx
      have q0 : wr.cell? ⟨b, off + k * 3, none⟩ = some _ := (HS.out.keep.cell0 hb).trans (hc 0 _ rfl)
      have q1 : wr.cell? ⟨b, off + k * 3 + 1, none⟩ = some _ := (HS.out.keep.cell0 hb).trans (hc 1 _ rfl)
      have q3 : wr.cell? ⟨b, off + k * 3 + 2, none⟩ = some _ := (HS.out.keep.cell0 hb).trans (hc 2 _ rfl)
      have hsz := HS.out.keep.size
      clear hx hc
      go_wp2_with (at_builtin; refine wpList_app _ el_pfun rfl _ _ rfl w.heap.size A3 k c3 (((o.preds.map keyF).take k).flatMap funE) rfl ((HO.out.alloc _).alloc _) (some ⟨wr.heap.size + 1, 0, none⟩) 1 1 (funE (keyF x)) rfl (by rw [← World.size_alloc]; exact Rd.one _ _ (funE (keyF x))) rfl (by simp) (by simp [funE, Value.oneCell']) (by omega) (by simp; omega) ?_; intro A' c' w2 hown hgrow hat)
      go_roundw
      case rel =>
        refine ⟨k + 1, by omega, by go_num, ⟨A', c', rfl, ?_⟩, HS.out.app (((Keeps.refl _ []).alloc _).alloc _) ((HO.out.alloc _).alloc _) (Nat.le_refl _) (by decide) hgrow⟩
        · rw [flat_snoc (map_at keyF HX.out)]; exact hown
      case measure => simp [intOf]; omega
    · obtain rfl : np = k := by omega
      have HI : Hid (KeysDone o w (.returned (.slice A3 np c3)) wr) := by
        refine ⟨A3, c3, by rw [Lp.out], ?_, HS.out.keep⟩
        have := HO.out
        rw [List.take_of_length_le (by rw [List.length_map, Lp.out]; exact Nat.le_refl _)] at this
        exact Rd.of_own this
      go_wp2_with fail
      go_ret
      exact HI.out

theorem entriesB_no {o : LObj} {k : Nat} {x : LPred} (hx : o.preds[k]? = some x) (h : entB o.code.length x = false) : entriesB o = false := by rw [entriesB, all_no hx h]; rfl
theorem entriesB_all {o : LObj} (h : o.preds.all (entB o.code.length) = true) : entriesB o = !dupB (entL o.preds) := by rw [entriesB, h]; rfl
theorem entL_snoc {l : List LPred} {k : Nat} {x : LPred} (hx : l[k]? = some x) : entL (l.take (k + 1)) = entL (l.take k) ++ (if x.entry = 65535 then [] else [x.entry]) := by
  rw [List.take_add_one, hx, entL, List.filter_append, List.map_append]
  by_cases h : x.entry = 65535 <;> simp [entL, h]
theorem intE_one (l : List Int) : ∀ u ∈ l.flatMap intE, u.oneCell' = true := by
  intro u hu
  obtain ⟨s, _, h⟩ := List.mem_flatMap.1 hu
  simp only [intE, List.mem_singleton] at h
  subst h
  rfl
theorem el_int : ElemT Tryz.prog 93 3 1 := elemT_of (b := 8) (z := .int .i64 0) Tryz.underlying93 (by kernel_rfl) (by omega) rfl (by omega)
theorem entL_len (l : List LPred) : (entL l).length ≤ l.length := by
  rw [entL, List.length_map]
  exact List.length_filter_le _ _
theorem entL_mem {o : LObj} (h : o.preds.all (entB o.code.length) = true) : ∀ x ∈ entL o.preds, 0 ≤ x ∧ x < o.code.length := by
  intro x hx
  obtain ⟨p, hp, rfl⟩ := List.mem_map.1 hx
  rw [List.mem_filter] at hp
  have h1 := List.all_eq_true.1 h p hp.1
  have h2 := hp.2
  simp only [entB, Bool.or_eq_true, Bool.and_eq_true, decide_eq_true_eq, beq_iff_eq] at h1
  simp only [bne_iff_ne, ne_eq] at h2
  omega

set_option maxRecDepth 100000 in
set_option maxHeartbeats 1600000 in
theorem entries_any (o : LObj) : ObjCalls 29 o (Told (entriesB o)) := by
  intro Aa Af Ap Ac na nf np nc ca cf cp cc w h hf la lf lp lc
  have H := Lib.hid h
  have gp := hf.preds
  have gc := hf.code
  rw [lp] at gp
  rw [lc] at gc
  have Lp := Lib.hid lp
  have Lc := Lib.hid lc
  clear h hf la lf lp lc
  go_enter Tryz.func29, Tryz.ntmps29
  go_wp2_with fail
  have st : BoxSt w (w.alloc (.cells #[.slice Aa na ca, .slice Af nf cf, .slice Ap np cp, .slice Ac nc cc] 31)) w.heap.size 31 #[.slice Aa na ca, .slice Af nf cf, .slice Ap np cp, .slice Ac nc cc] := ⟨Blk.new _ _ _, (Keeps.refl _ []).alloc _⟩
  have HST := Lib.hid st
  clear st
  go_loopw [3, 9] (fun v i wr => ∃ k : Nat, k ≤ np ∧ i = .int .i64 k ∧ Hid (∀ y ∈ o.preds.take k, entB o.code.length y = true) ∧ (∃ A3 n3 c3, v = .slice A3 n3 c3 ∧ n3 ≤ k ∧ wr.ownsRow w.heap.size 3 1 (.slice A3 n3 c3) n3 ((entL (o.preds.take k)).flatMap intE)) ∧ BoxSt w wr w.heap.size 31 #[.slice Aa na ca, .slice Af nf cf, .slice Ap np cp, .slice Ac nc cc]) (fun _ i _ => np - (intOf i).toNat)
  case atStart => exact ⟨0, Nat.zero_le _, rfl, fun y hy => by simp at hy, ⟨none, 0, 0, rfl, Nat.le_refl _, World.ownsRow_nil _ _ _ _⟩, HST.out⟩
  case round =>
    obtain ⟨k, hk, rfl, HP, ⟨A3, n3, c3, rfl, hn3, how⟩, st⟩ := hrel
    have HS := Lib.hid st
    have HO := Lib.hid how
    clear st HST how
    by_cases hlt : k < np
    · obtain ⟨x, hx⟩ := at_of Lp.out hlt
      obtain ⟨b, off, rfl, hb, hc⟩ := (H.out.preds).field predE_len hx (by omega)
      have HX := Lib.hid hx
      have q0 : wr.cell? ⟨b, off + k * 3, none⟩ = some _ := (HS.out.keep.cell0 hb).trans (hc 0 _ rfl)
      have q1 : wr.cell? ⟨b, off + k * 3 + 1, none⟩ = some _ := (HS.out.keep.cell0 hb).trans (hc 1 _ rfl)
      have q3 : wr.cell? ⟨b, off + k * 3 + 2, none⟩ = some _ := (HS.out.keep.cell0 hb).trans (hc 2 _ rfl)
      have q4 : (wr.alloc (.cells #[.string x.name, .int .i64 x.arity, .int .i64 x.entry] 52)).cell? ⟨w.heap.size, 3, none⟩ = some (.slice Ac nc cc) := ((HS.out.go ((Keeps.refl _ []).alloc _)).blk).cell 3
      have hsz := HS.out.keep.size
      clear hx hc
      by_cases e1 : x.entry = 65535
      · have d1 : (x.entry == 65535) = true := by simpa using e1
        have HP2 := Lib.hid (take_all1 HX.out (show entB o.code.length x = true by simp [entB, e1]) HP.out)
        have HE : Hid (entL (o.preds.take (k + 1)) = entL (o.preds.take k)) := by show _ = _; rw [entL_snoc HX.out, if_pos e1, List.append_nil]
        clear e1
        go_wp2_with fail
        go_roundw
        case rel => exact ⟨k + 1, by omega, by go_num, HP2.out, ⟨A3, n3, c3, rfl, by omega, by rw [HE.out]; exact HO.out.alloc _⟩, HS.out.go ((Keeps.refl _ []).alloc _)⟩
        case measure => simp [intOf]; omega
      · have d1 : (x.entry == 65535) = false := by simpa using e1
        by_cases e2 : x.entry < 0
        · have d2 : decide (x.entry < 0) = true := by simpa using e2
          have HI := Lib.hid (entriesB_no HX.out (show entB o.code.length x = false by simp [entB, e1]; omega))
          clear e1 e2
          go_wp2_with fail
          go_ret
          exact ⟨by rw [HI.out]; rfl, HS.out.keep.alloc _⟩
        · have d2 : decide (x.entry < 0) = false := by simpa using e2
          by_cases e3 : (nc : Int) ≤ x.entry
          · have d3 : decide ((nc : Int) ≤ x.entry) = true := by simpa using e3
            have HI := Lib.hid (entriesB_no HX.out (show entB o.code.length x = false by rw [Lc.out]; simp [entB, e1]; omega))
            clear e1 e2 e3
            go_wp2_with fail
            go_ret
            exact ⟨by rw [HI.out]; rfl, HS.out.keep.alloc _⟩
          · have d3 : decide ((nc : Int) ≤ x.entry) = false := by simpa using e3
            have HP2 := Lib.hid (take_all1 HX.out (show entB o.code.length x = true by rw [Lc.out]; simp [entB]; omega) HP.out)
            have HE : Hid (entL (o.preds.take (k + 1)) = entL (o.preds.take k) ++ [x.entry]) := by show _ = _; rw [entL_snoc HX.out, if_neg e1]
            clear e1 e2 e3
            go_wp2_with (at_builtin; refine wpList_app _ el_int rfl _ _ rfl w.heap.size A3 n3 c3 ((entL (o.preds.take k)).flatMap intE) rfl ((HO.out.alloc _).alloc _) (some ⟨wr.heap.size + 1, 0, none⟩) 1 1 (intE x.entry) rfl (by rw [← World.size_alloc]; exact Rd.one _ _ (intE x.entry)) rfl (by simp) (by simp [intE, Value.oneCell']) (by omega) (by simp; omega) ?_; intro A' c' w2 hown hgrow hat)
            go_roundw
            case rel =>
              refine ⟨k + 1, by omega, by go_num, HP2.out, ⟨A', n3 + 1, c', rfl, by omega, ?_⟩, HS.out.app (((Keeps.refl _ []).alloc _).alloc _) ((HO.out.alloc _).alloc _) (Nat.le_refl _) (by decide) hgrow⟩
              rw [HE.out, List.flatMap_append]
              exact hown
            case measure => simp [intOf]; omega
    · obtain rfl : np = k := by omega
      have hall := all_of Lp.out HP.out
      have HI := Lib.hid (entriesB_all hall)
      have HM := Lib.hid (entL_mem hall)
      have hl : o.preds.take np = o.preds := List.take_of_length_le (by rw [Lp.out]; exact Nat.le_refl _)
      have how := HO.out
      rw [hl] at how
      have hlen : (entL o.preds).length = n3 := by
        have := how.1
        rw [length_flat intE_len] at this
        omega
      have HC := Lib.hid (twiceInt_any A3 n3 c3 (entL o.preds) wr hlen (by omega) (Rd.of_own how) (fun x hx => by
        have := HM.out x hx
        rw [Lc.out] at this
        exact key_int (by omega) (by omega)))
      clear hall hl how hlen
      cases hv : dupB (entL o.preds)
      all_goals
        rw [hv] at HI HC
        go_wp2_with (go_at_call 59; refine HC.out.mono ?_; rintro e w2 ⟨rfl, k2⟩)
        go_ret
        exact ⟨by rw [HI.out]; rfl, HS.out.keep.trans k2⟩
end Go.Proofs.YtpcihhdalofdiaaGreatDoor
