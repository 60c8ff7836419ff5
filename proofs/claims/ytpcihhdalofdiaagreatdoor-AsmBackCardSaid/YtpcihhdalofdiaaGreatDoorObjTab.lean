/- The document's look at an object's tables. Printed by gen_tab.py. -/
import Derived.Test.YtpcihhdalofdiaaGreatDoorObjCheckC
import Derived.Test.YtpcihhdalofdiaaGreatDoorObjFrom
namespace Go.Proofs.YtpcihhdalofdiaaGreatDoor
open Go.RowKit
def tabE (o : LObj) : Int := if namedB o = false then 7 else if dupO o then 11 else if entriesB o = false then 7 else 0
theorem tabE_name {o : LObj} (h : namedB o = false) : tabE o = 7 := by rw [tabE, if_pos h]
theorem tabE_dup {o : LObj} (h : namedB o = true) (h2 : dupO o = true) : tabE o = 11 := by rw [tabE, if_neg (by rw [h]; simp), if_pos h2]
theorem tabE_ent {o : LObj} (h : namedB o = true) (h2 : dupO o = false) (h3 : entriesB o = false) : tabE o = 7 := by rw [tabE, if_neg (by rw [h]; simp), if_neg (by rw [h2]; simp), if_pos h3]
theorem tabE_ok {o : LObj} (h : namedB o = true) (h2 : dupO o = false) (h3 : entriesB o = true) : tabE o = 0 := by rw [tabE, if_neg (by rw [h]; simp), if_neg (by rw [h2]; simp), if_neg (by rw [h3]; simp)]
theorem not_mem_step {α : Type} {l : List α} {j : Nat} {x y : α} (hy : l[j]? = some y) (h : x ∉ l.take j) (hne : x ≠ y) : x ∉ l.take (j + 1) := by
  rw [List.take_add_one, hy]
  simp only [Option.toList_some, List.mem_append, List.mem_singleton, not_or]
  exact ⟨h, hne⟩
theorem mem_take_of {α : Type} {l : List α} {j k : Nat} {y : α} (hy : l[j]? = some y) (hj : j < k) : y ∈ l.take k := List.mem_iff_getElem?.2 ⟨j, by rw [List.getElem?_take, if_pos hj]; exact hy⟩
theorem entL_take {l : List LPred} {j k : Nat} {x y : LPred} (hx : l[k]? = some x) (hy : l[j]? = some y) (hj : j < k) (h1 : x.entry ≠ 65535) (h2 : y.entry = x.entry) : dupB (entL l) = true := by
  have h3 : dupB (entL (l.take (k + 1))) = true := by
    rw [entL_snoc hx, if_neg h1, dupB_snoc]
    have : x.entry ∈ entL (l.take k) := List.mem_map.2 ⟨y, List.mem_filter.2 ⟨mem_take_of hy hj, by simp [h2, h1]⟩, h2⟩
    simp [this]
  have h4 := dupB_app (entL (l.take (k + 1))) (entL (l.drop (k + 1))) h3
  have h5 : entL (l.take (k + 1)) ++ entL (l.drop (k + 1)) = entL l := by
    rw [entL, entL, ← List.map_append, ← List.filter_append, List.take_append_drop]
    rfl
  rwa [h5] at h4
theorem entriesB_dup {o : LObj} (h : dupB (entL o.preds) = true) : entriesB o = false := by rw [entriesB, h]; simp
theorem entriesB_yes {o : LObj} (h : o.preds.all (entB o.code.length) = true) (h2 : dupB (entL o.preds) = false) : entriesB o = true := by rw [entriesB, h, h2]; rfl
theorem entL_mem_step {l : List LPred} {j : Nat} {y : LPred} {e : Int} (hy : l[j]? = some y) (h : e ∉ entL (l.take j)) (hne : y.entry ≠ e) : e ∉ entL (l.take (j + 1)) := by
  rw [entL_snoc hy]
  simp only [List.mem_append, not_or]
  refine ⟨h, ?_⟩
  split
  · simp
  · simp only [List.mem_singleton]
    exact fun h => hne h.symm
theorem ent_dup_step {l : List LPred} {k : Nat} {x : LPred} (hx : l[k]? = some x) (hd : dupB (entL (l.take k)) = false) (h : x.entry ≠ 65535 → x.entry ∉ entL (l.take k)) : dupB (entL (l.take (k + 1))) = false := by
  rw [entL_snoc hx]
  by_cases h1 : x.entry = 65535
  · rw [if_pos h1, List.append_nil]
    exact hd
  · rw [if_neg h1, dupB_snoc, hd]
    simp [h h1]
theorem dup_end {α : Type} [DecidableEq α] {l : List α} {n : Nat} (hl : l.length = n) (h : dupB (l.take n) = false) : dupB l = false := by
  rwa [List.take_of_length_le (by omega)] at h
theorem key_ne {x y : LPred} (h : x.name ≠ y.name ∨ x.arity ≠ y.arity) : keyF x ≠ keyF y := by
  intro he
  simp only [keyF, LFun.mk.injEq] at he
  rcases h with h | h
  · exact h he.1
  · exact h he.2
theorem fun_ne {x y : LFun} (h : x.name ≠ y.name ∨ x.arity ≠ y.arity) : x ≠ y := by
  rintro rfl
  rcases h with h | h <;> exact h rfl
theorem fun_eq {x y : LFun} (h : x.name = y.name) (h2 : x.arity = y.arity) : x = y := by
  cases x
  cases y
  simp_all
theorem key_eq {x y : LPred} (h : x.name = y.name) (h2 : x.arity = y.arity) : keyF x = keyF y := by rw [keyF, keyF, h, h2]
theorem dup_atoms {o : LObj} (h : dupB o.atoms = true) : dupO o = true := by simp [dupO, h]
theorem dup_funs {o : LObj} (h : dupB o.funs = true) : dupO o = true := by simp [dupO, h]
theorem dup_keys {o : LObj} (h : dupB (o.preds.map keyF) = true) : dupO o = true := by simp [dupO, h]
theorem str_beq {a b : ByteArray} (h : a = b) : (a.toList == b.toList) = true := by rw [h]; exact beq_self_eq_true _
theorem str_bne {a b : ByteArray} (h : a ≠ b) : (a.toList == b.toList) = false := by
  rw [beq_eq_false_iff_ne]
  intro hh
  rw [ByteArray.toList_eq, ByteArray.toList_eq] at hh
  exact h (by obtain ⟨⟨a⟩⟩ := a; obtain ⟨⟨b⟩⟩ := b; congr 2)

set_option maxRecDepth 100000 in
set_option maxHeartbeats 12800000 in
theorem tables_any (o : LObj) : ObjCalls 68 o (ErrTold (tabE o)) := by
  intro Aa Af Ap Ac na nf np nc ca cf cp cc w h hf la lf lp lc
  have H := Lib.hid h
  have ga := hf.atoms
  have gf := hf.funs
  have gp := hf.preds
  have gc := hf.code
  rw [la] at ga
  rw [lf] at gf
  rw [lp] at gp
  rw [lc] at gc
  have La := Lib.hid la
  have Lf := Lib.hid lf
  have Lp := Lib.hid lp
  have Lc := Lib.hid lc
  clear h hf la lf lp lc
  have st : BoxSt w (w.alloc (.cells #[.slice Aa na ca, .slice Af nf cf, .slice Ap np cp, .slice Ac nc cc] 39)) w.heap.size 39 #[.slice Aa na ca, .slice Af nf cf, .slice Ap np cp, .slice Ac nc cc] := ⟨Blk.new _ _ _, (Keeps.refl _ []).alloc _⟩
  have HST := Lib.hid st
  clear st
  go_enter Tryz.func68, Tryz.ntmps68
  go_upto_block 0 with fail
  go_cut [] (fun wx => Hid (o.atoms.all nameOk = true) ∧ BoxSt w wx w.heap.size 39 #[.slice Aa na ca, .slice Af nf cf, .slice Ap np cp, .slice Ac nc cc])
  case first =>
    go_wp2_with fail
    go_loopw [3] (fun i wr => ∃ k : Nat, k ≤ na ∧ i = .int .i64 k ∧ Hid (∀ y ∈ o.atoms.take k, nameOk y = true) ∧ BoxSt w wr w.heap.size 39 #[.slice Aa na ca, .slice Af nf cf, .slice Ap np cp, .slice Ac nc cc]) (fun i _ => na - (intOf i).toNat)
    case atStart => exact ⟨0, Nat.zero_le _, rfl, fun y hy => by simp at hy, HST.out⟩
    case round =>
      obtain ⟨k, hk, rfl, HP, st⟩ := hrel
      have HS := Lib.hid st
      have p1 := st.blk.cell 0
      clear st HST
      by_cases hlt : k < na
      · obtain ⟨x, hx⟩ := at_of La.out hlt
        obtain ⟨b, off, rfl, hb, hc⟩ := (H.out.atoms).field strE_len hx (by omega)
        have HX := Lib.hid hx
        have q0 : wr.cell? ⟨b, off + k * 1, none⟩ = some _ := (HS.out.keep.cell0 hb).trans (hc 0 _ rfl)
        rw [Nat.mul_one] at q0
        clear hx hc
        have b0 : (0 : Int) ≤ (k : Int) := Int.natCast_nonneg _
        have b1 : (k : Int) < (na : Int) := by omega
        have hcall := refName_any x
        cases hv : nameOk x
        all_goals
          rw [hv] at hcall
          have HC := Lib.hid hcall
          clear hcall
        · have HI := Lib.hid (tabE_name (namedB_atoms (all_no HX.out hv)))
          go_wp2_with (go_at_call 84; refine (HC.out _).mono ?_; rintro e w2 ⟨rfl, rfl⟩)
          go_ret
          exact ⟨by rw [HI.out]; rfl, HS.out.keep⟩
        · have HP2 := Lib.hid (take_all1 HX.out hv HP.out)
          go_wp2_with (go_at_call 84; refine (HC.out _).mono ?_; rintro e w2 ⟨rfl, rfl⟩)
          go_roundw
          case rel => exact ⟨k + 1, by omega, by go_num, HP2.out, HS.out⟩
          case measure => simp [intOf]; omega
      · obtain rfl : na = k := by omega
        have HD := Lib.hid (all_of La.out HP.out)
        clear hlt hk HP
        go_wp2_with fail
        go_meet
        exact ⟨HD.out, HS.out⟩
  case rest =>
  obtain ⟨HN1, st⟩ := hcut
  clear HST
  have HST := Lib.hid st
  clear st
  go_upto_block 2 with fail
  go_cut [] (fun wx => Hid (o.funs.all funOk = true) ∧ BoxSt w wx w.heap.size 39 #[.slice Aa na ca, .slice Af nf cf, .slice Ap np cp, .slice Ac nc cc])
  case first =>
    go_wp2_with fail
    go_loopw [4] (fun i wr => ∃ k : Nat, k ≤ nf ∧ i = .int .i64 k ∧ Hid (∀ y ∈ o.funs.take k, funOk y = true) ∧ BoxSt w wr w.heap.size 39 #[.slice Aa na ca, .slice Af nf cf, .slice Ap np cp, .slice Ac nc cc]) (fun i _ => nf - (intOf i).toNat)
    case atStart => exact ⟨0, Nat.zero_le _, rfl, fun y hy => by simp at hy, HST.out⟩
    case round =>
      obtain ⟨k, hk, rfl, HP, st⟩ := hrel
      have HS := Lib.hid st
      have p1 := st.blk.cell 1
      clear st HST
      by_cases hlt : k < nf
      · obtain ⟨x, hx⟩ := at_of Lf.out hlt
        obtain ⟨b, off, rfl, hb, hc⟩ := (H.out.funs).field funE_len hx (by omega)
        have HX := Lib.hid hx
        have q0 : wr.cell? ⟨b, off + k * 2, none⟩ = some _ := (HS.out.keep.cell0 hb).trans (hc 0 _ rfl)
        have q1 : wr.cell? ⟨b, off + k * 2 + 1, none⟩ = some _ := (HS.out.keep.cell0 hb).trans (hc 1 _ rfl)
        clear hx hc
        have b0 : (0 : Int) ≤ (k : Int) := Int.natCast_nonneg _
        have b1 : (k : Int) < (nf : Int) := by omega
        have hcall := refName_any x.name
        have HF : Hid (funOk x = (nameOk x.name && (decide (1 ≤ x.arity) && decide (x.arity ≤ 8)))) := rfl
        cases hv : nameOk x.name
        all_goals
          rw [hv] at hcall HF
          have HC := Lib.hid hcall
          clear hcall
        · have HI := Lib.hid (tabE_name (namedB_funs (all_no HX.out HF.out)))
          go_wp2_with (go_at_call 84; refine (HC.out _).mono ?_; rintro e w2 ⟨rfl, rfl⟩)
          go_ret
          exact ⟨by rw [HI.out]; rfl, HS.out.keep⟩
        · by_cases a1 : x.arity < 1
          · have d1 : decide (x.arity < 1) = true := by simpa using a1
            have HI := Lib.hid (tabE_name (namedB_funs (all_no HX.out (HF.out.trans (by simp; omega)))))
            clear a1
            go_wp2_with (go_at_call 84; refine (HC.out _).mono ?_; rintro e w2 ⟨rfl, rfl⟩)
            go_ret
            exact ⟨by rw [HI.out]; rfl, HS.out.keep⟩
          · have d1 : decide (x.arity < 1) = false := by simpa using a1
            by_cases a2 : 8 < x.arity
            · have d2 : decide (8 < x.arity) = true := by simpa using a2
              have HI := Lib.hid (tabE_name (namedB_funs (all_no HX.out (HF.out.trans (by simp; omega)))))
              clear a1 a2
              go_wp2_with (go_at_call 84; refine (HC.out _).mono ?_; rintro e w2 ⟨rfl, rfl⟩)
              go_ret
              exact ⟨by rw [HI.out]; rfl, HS.out.keep⟩
            · have d2 : decide (8 < x.arity) = false := by simpa using a2
              have HP2 := Lib.hid (take_all1 HX.out (HF.out.trans (by simp; omega)) HP.out)
              clear a1 a2
              go_wp2_with (go_at_call 84; refine (HC.out _).mono ?_; rintro e w2 ⟨rfl, rfl⟩)
              go_roundw
              case rel => exact ⟨k + 1, by omega, by go_num, HP2.out, HS.out⟩
              case measure => simp [intOf]; omega
      · obtain rfl : nf = k := by omega
        have HD := Lib.hid (all_of Lf.out HP.out)
        clear hlt hk HP
        go_wp2_with fail
        go_meet
        exact ⟨HD.out, HS.out⟩
  case rest =>
  obtain ⟨HN2, st⟩ := hcut
  clear HST
  have HST := Lib.hid st
  clear st
  go_upto_block 4 with fail
  go_cut [] (fun wx => Hid (o.preds.all predOk = true) ∧ BoxSt w wx w.heap.size 39 #[.slice Aa na ca, .slice Af nf cf, .slice Ap np cp, .slice Ac nc cc])
  case first =>
    go_wp2_with fail
    go_loopw [5] (fun i wr => ∃ k : Nat, k ≤ np ∧ i = .int .i64 k ∧ Hid (∀ y ∈ o.preds.take k, predOk y = true) ∧ BoxSt w wr w.heap.size 39 #[.slice Aa na ca, .slice Af nf cf, .slice Ap np cp, .slice Ac nc cc]) (fun i _ => np - (intOf i).toNat)
    case atStart => exact ⟨0, Nat.zero_le _, rfl, fun y hy => by simp at hy, HST.out⟩
    case round =>
      obtain ⟨k, hk, rfl, HP, st⟩ := hrel
      have HS := Lib.hid st
      have p1 := st.blk.cell 2
      clear st HST
      by_cases hlt : k < np
      · obtain ⟨x, hx⟩ := at_of Lp.out hlt
        obtain ⟨b, off, rfl, hb, hc⟩ := (H.out.preds).field predE_len hx (by omega)
        have HX := Lib.hid hx
        have q0 : wr.cell? ⟨b, off + k * 3, none⟩ = some _ := (HS.out.keep.cell0 hb).trans (hc 0 _ rfl)
        have q1 : wr.cell? ⟨b, off + k * 3 + 1, none⟩ = some _ := (HS.out.keep.cell0 hb).trans (hc 1 _ rfl)
        have q2 : wr.cell? ⟨b, off + k * 3 + 2, none⟩ = some _ := (HS.out.keep.cell0 hb).trans (hc 2 _ rfl)
        clear hx hc
        have b0 : (0 : Int) ≤ (k : Int) := Int.natCast_nonneg _
        have b1 : (k : Int) < (np : Int) := by omega
        have hcall := refName_any x.name
        have HF : Hid (predOk x = (nameOk x.name && (decide (0 ≤ x.arity) && decide (x.arity ≤ 8)))) := rfl
        cases hv : nameOk x.name
        all_goals
          rw [hv] at hcall HF
          have HC := Lib.hid hcall
          clear hcall
        · have HI := Lib.hid (tabE_name (namedB_preds (all_no HX.out HF.out)))
          go_wp2_with (go_at_call 84; refine (HC.out _).mono ?_; rintro e w2 ⟨rfl, rfl⟩)
          go_ret
          exact ⟨by rw [HI.out]; rfl, HS.out.keep⟩
        · by_cases a1 : x.arity < 0
          · have d1 : decide (x.arity < 0) = true := by simpa using a1
            have HI := Lib.hid (tabE_name (namedB_preds (all_no HX.out (HF.out.trans (by simp; omega)))))
            clear a1
            go_wp2_with (go_at_call 84; refine (HC.out _).mono ?_; rintro e w2 ⟨rfl, rfl⟩)
            go_ret
            exact ⟨by rw [HI.out]; rfl, HS.out.keep⟩
          · have d1 : decide (x.arity < 0) = false := by simpa using a1
            by_cases a2 : 8 < x.arity
            · have d2 : decide (8 < x.arity) = true := by simpa using a2
              have HI := Lib.hid (tabE_name (namedB_preds (all_no HX.out (HF.out.trans (by simp; omega)))))
              clear a1 a2
              go_wp2_with (go_at_call 84; refine (HC.out _).mono ?_; rintro e w2 ⟨rfl, rfl⟩)
              go_ret
              exact ⟨by rw [HI.out]; rfl, HS.out.keep⟩
            · have d2 : decide (8 < x.arity) = false := by simpa using a2
              have HP2 := Lib.hid (take_all1 HX.out (HF.out.trans (by simp; omega)) HP.out)
              clear a1 a2
              go_wp2_with (go_at_call 84; refine (HC.out _).mono ?_; rintro e w2 ⟨rfl, rfl⟩)
              go_roundw
              case rel => exact ⟨k + 1, by omega, by go_num, HP2.out, HS.out⟩
              case measure => simp [intOf]; omega
      · obtain rfl : np = k := by omega
        have HD := Lib.hid (all_of Lp.out HP.out)
        clear hlt hk HP
        go_wp2_with fail
        go_meet
        exact ⟨HD.out, HS.out⟩
  case rest =>
  obtain ⟨HN3, st⟩ := hcut
  clear HST
  have HST := Lib.hid st
  clear st
  have HNM := Lib.hid (namedB_all HN1.out HN2.out HN3.out)
  clear HN1 HN2 HN3
  go_upto_block 6 with fail
  go_cut [] (fun wx => Hid (dupB o.atoms = false) ∧ BoxSt w wx w.heap.size 39 #[.slice Aa na ca, .slice Af nf cf, .slice Ap np cp, .slice Ac nc cc])
  case first =>
    go_wp2_with fail
    go_loopw [6, 7] (fun i i2 wr => ∃ k : Nat, k ≤ na ∧ i = .int .i64 k ∧ Hid (dupB (o.atoms.take k) = false) ∧ BoxSt w wr w.heap.size 39 #[.slice Aa na ca, .slice Af nf cf, .slice Ap np cp, .slice Ac nc cc]) (fun i _ _ => na - (intOf i).toNat)
    case atStart => exact ⟨0, Nat.zero_le _, rfl, rfl, HST.out⟩
    case round =>
      obtain ⟨k, hk, rfl, HD, st⟩ := hrel
      have HS := Lib.hid st
      have p1 := st.blk.cell 0
      clear st HST
      by_cases hlt : k < na
      · obtain ⟨x, hx⟩ := at_of La.out hlt
        have HX := Lib.hid hx
        clear hx
        go_wp2_with fail
        clear p1
        go_loopw [7] (fun i wr => ∃ j : Nat, j ≤ k ∧ i = .int .i64 j ∧ Hid (x ∉ o.atoms.take j) ∧ BoxSt w wr w.heap.size 39 #[.slice Aa na ca, .slice Af nf cf, .slice Ap np cp, .slice Ac nc cc]) (fun i _ => k - (intOf i).toNat)
        case atStart => exact ⟨0, Nat.zero_le _, rfl, by show _ ∉ _; simp, HS.out⟩
        case round =>
        obtain ⟨j, hj, rfl, HM, st⟩ := hrel
        clear HS
        have HS := Lib.hid st
        have p1 := st.blk.cell 0
        clear st
        by_cases hlj : j < k
        · obtain ⟨y, hy⟩ := at_of La.out (show j < na by omega)
          have HY := Lib.hid hy
          obtain ⟨b, off, hA, hb, hc⟩ := (H.out.atoms).field strE_len HX.out (by omega)
          subst hA
          obtain ⟨b2, off2, hA2, hb2, hc2⟩ := (H.out.atoms).field strE_len hy (by omega)
          injection hA2 with hA2
          injection hA2 with hA2 hA3
          subst hA2 hA3
          have q0 : wr.cell? ⟨b, off + k * 1, none⟩ = some _ := (HS.out.keep.cell0 hb).trans (hc 0 _ rfl)
          have r0 : wr.cell? ⟨b, off + j * 1, none⟩ = some _ := (HS.out.keep.cell0 hb).trans (hc2 0 _ rfl)
          rw [Nat.mul_one] at q0 r0
          clear hy hc hc2 hb2
          have b0 : (0 : Int) ≤ (k : Int) := Int.natCast_nonneg _
          have b1 : (k : Int) < (na : Int) := by omega
          have b2 : (0 : Int) ≤ (j : Int) := Int.natCast_nonneg _
          have b3 : (j : Int) < (na : Int) := by omega
          by_cases he : x = y
          · have e1 : (x.toList == y.toList) = true := str_beq he
            have HI := Lib.hid (tabE_dup HNM.out (dup_atoms (dupB_hit HX.out (by have := mem_take_of HY.out hlj; rwa [← he] at this))))
            clear he
            go_wp2_with fail
            refine wp_region_tx (fun W' => W'.cell? ⟨w.heap.size, 0, none⟩ = some (.slice (some ⟨b, off, none⟩) na ca) ∧ W'.cell? ⟨b, off + k, none⟩ = some (.string x) ∧ W'.cell? ⟨b, off + j, none⟩ = some (.string y)) [(0, true), (1, true), (2, true), (3, true), (4, true), (5, true), (6, true), (7, true), (8, true), (9, true), (10, false)] (by kernel_rfl) (by kernel_rfl) (by exact ⟨p1, q0, r0⟩) (fun hHeld => ?_)
            (repeat (first | (refine wpTx_take (v := ?_) rfl (by assumption) ?_ (by rfl) ?_; rotate_left; (focus (intro w' hSw; (try dsimp only at hSw); go_simp; (try with_reducible rfl); done)); simp only [Act.put, List.setIfInBounds_toArray, List.set_cons_zero, List.set_cons_succ]) | (refine wpTx_skip rfl (by assumption) (by rfl) ?_; simp only [Act.put, List.setIfInBounds_toArray, List.set_cons_zero, List.set_cons_succ])))
            refine wpTx_last rfl (fun K hK => ?_)
            go_simp
            refine hK.out _ _ (NoPanic.normal ?_); clear hK K; (try simp only [Act.put, List.setIfInBounds_toArray, List.set_cons_zero, List.set_cons_succ])
            go_wp2_with fail
            go_ret
            exact ⟨by rw [HI.out]; rfl, HS.out.keep.drew⟩
          · have e1 : (x.toList == y.toList) = false := str_bne he
            have HM2 := Lib.hid (not_mem_step HY.out HM.out he)
            clear he
            go_wp2_with fail
            refine wp_region_tx (fun W' => W'.cell? ⟨w.heap.size, 0, none⟩ = some (.slice (some ⟨b, off, none⟩) na ca) ∧ W'.cell? ⟨b, off + k, none⟩ = some (.string x) ∧ W'.cell? ⟨b, off + j, none⟩ = some (.string y)) [(0, true), (1, true), (2, true), (3, true), (4, true), (5, true), (6, true), (7, true), (8, true), (9, true), (10, false)] (by kernel_rfl) (by kernel_rfl) (by exact ⟨p1, q0, r0⟩) (fun hHeld => ?_)
            (repeat (first | (refine wpTx_take (v := ?_) rfl (by assumption) ?_ (by rfl) ?_; rotate_left; (focus (intro w' hSw; (try dsimp only at hSw); go_simp; (try with_reducible rfl); done)); simp only [Act.put, List.setIfInBounds_toArray, List.set_cons_zero, List.set_cons_succ]) | (refine wpTx_skip rfl (by assumption) (by rfl) ?_; simp only [Act.put, List.setIfInBounds_toArray, List.set_cons_zero, List.set_cons_succ])))
            refine wpTx_last rfl (fun K hK => ?_)
            go_simp
            refine hK.out _ _ (NoPanic.normal ?_); clear hK K; (try simp only [Act.put, List.setIfInBounds_toArray, List.set_cons_zero, List.set_cons_succ])
            go_wp2_with fail
            go_roundw
            case rel => exact ⟨j + 1, by omega, by go_num, HM2.out, HS.out.go (Keeps.refl _ []).drew⟩
            case measure => simp [intOf]; omega
        · obtain rfl : k = j := by omega
          have HD2 := Lib.hid (dupB_miss HX.out HM.out HD.out)
          go_wp2_with fail
          go_roundw
          case rel => exact ⟨k + 1, by omega, by go_num, HD2.out, HS.out⟩
          case measure => simp [intOf]; omega
      · obtain rfl : na = k := by omega
        have HD2 := Lib.hid (dup_end La.out HD.out)
        clear hlt hk HD
        go_wp2_with fail
        go_meet
        exact ⟨HD2.out, HS.out⟩
  case rest =>
  obtain ⟨HD1, st⟩ := hcut
  clear HST
  have HST := Lib.hid st
  clear st
  go_upto_block 10 with fail
  go_cut [] (fun wx => Hid (dupB o.funs = false) ∧ BoxSt w wx w.heap.size 39 #[.slice Aa na ca, .slice Af nf cf, .slice Ap np cp, .slice Ac nc cc])
  case first =>
    go_wp2_with fail
    go_loopw [8, 9] (fun i i2 wr => ∃ k : Nat, k ≤ nf ∧ i = .int .i64 k ∧ Hid (dupB (o.funs.take k) = false) ∧ BoxSt w wr w.heap.size 39 #[.slice Aa na ca, .slice Af nf cf, .slice Ap np cp, .slice Ac nc cc]) (fun i _ _ => nf - (intOf i).toNat)
    case atStart => exact ⟨0, Nat.zero_le _, rfl, rfl, HST.out⟩
    case round =>
      obtain ⟨k, hk, rfl, HD, st⟩ := hrel
      have HS := Lib.hid st
      have p1 := st.blk.cell 1
      clear st HST
      by_cases hlt : k < nf
      · obtain ⟨x, hx⟩ := at_of Lf.out hlt
        have HX := Lib.hid hx
        clear hx
        go_wp2_with fail
        clear p1
        go_loopw [9] (fun i wr => ∃ j : Nat, j ≤ k ∧ i = .int .i64 j ∧ Hid (x ∉ o.funs.take j) ∧ BoxSt w wr w.heap.size 39 #[.slice Aa na ca, .slice Af nf cf, .slice Ap np cp, .slice Ac nc cc]) (fun i _ => k - (intOf i).toNat)
        case atStart => exact ⟨0, Nat.zero_le _, rfl, by show _ ∉ _; simp, HS.out⟩
        case round =>
        obtain ⟨j, hj, rfl, HM, st⟩ := hrel
        clear HS
        have HS := Lib.hid st
        have p1 := st.blk.cell 1
        clear st
        by_cases hlj : j < k
        · obtain ⟨y, hy⟩ := at_of Lf.out (show j < nf by omega)
          have HY := Lib.hid hy
          obtain ⟨b, off, hA, hb, hc⟩ := (H.out.funs).field funE_len HX.out (by omega)
          subst hA
          obtain ⟨b2, off2, hA2, hb2, hc2⟩ := (H.out.funs).field funE_len hy (by omega)
          injection hA2 with hA2
          injection hA2 with hA2 hA3
          subst hA2 hA3
          have q0 : wr.cell? ⟨b, off + k * 2, none⟩ = some _ := (HS.out.keep.cell0 hb).trans (hc 0 _ rfl)
          have r0 : wr.cell? ⟨b, off + j * 2, none⟩ = some _ := (HS.out.keep.cell0 hb).trans (hc2 0 _ rfl)
          have q1 : wr.cell? ⟨b, off + k * 2 + 1, none⟩ = some _ := (HS.out.keep.cell0 hb).trans (hc 1 _ rfl)
          have r1 : wr.cell? ⟨b, off + j * 2 + 1, none⟩ = some _ := (HS.out.keep.cell0 hb).trans (hc2 1 _ rfl)
          clear hy hc hc2 hb2
          have b0 : (0 : Int) ≤ (k : Int) := Int.natCast_nonneg _
          have b1 : (k : Int) < (nf : Int) := by omega
          have b2 : (0 : Int) ≤ (j : Int) := Int.natCast_nonneg _
          have b3 : (j : Int) < (nf : Int) := by omega
          by_cases n1 : x.name = y.name
          · have e1 : (x.name.toList == y.name.toList) = true := str_beq n1
            by_cases n2 : x.arity = y.arity
            · have e2 : (x.arity == y.arity) = true := by simpa using n2
              have HI := Lib.hid (tabE_dup HNM.out (dup_funs (dupB_hit HX.out (by have := mem_take_of HY.out hlj; rwa [← fun_eq n1 n2] at this))))
              clear n1 n2
              go_wp2_with fail
              refine wp_region_tx (fun W' => W'.cell? ⟨w.heap.size, 1, none⟩ = some (.slice (some ⟨b, off, none⟩) nf cf) ∧ W'.cell? ⟨b, off + k * 2, none⟩ = some (.string x.name) ∧ W'.cell? ⟨b, off + j * 2, none⟩ = some (.string y.name) ∧ W'.cell? ⟨b, off + k * 2 + 1, none⟩ = some (.int .i64 x.arity) ∧ W'.cell? ⟨b, off + j * 2 + 1, none⟩ = some (.int .i64 y.arity)) [(0, true), (1, true), (2, true), (3, true), (4, true), (5, true), (6, true), (7, true), (8, true), (9, true), (10, false)] (by kernel_rfl) (by kernel_rfl) (by exact ⟨p1, q0, r0, q1, r1⟩) (fun hHeld => ?_)
              (repeat (first | (refine wpTx_take (v := ?_) rfl (by assumption) ?_ (by rfl) ?_; rotate_left; (focus (intro w' hSw; (try dsimp only at hSw); go_simp; (try with_reducible rfl); done)); simp only [Act.put, List.setIfInBounds_toArray, List.set_cons_zero, List.set_cons_succ]) | (refine wpTx_skip rfl (by assumption) (by rfl) ?_; simp only [Act.put, List.setIfInBounds_toArray, List.set_cons_zero, List.set_cons_succ])))
              refine wpTx_last rfl (fun K hK => ?_)
              go_simp
              refine hK.out _ _ (NoPanic.normal ?_); clear hK K; (try simp only [Act.put, List.setIfInBounds_toArray, List.set_cons_zero, List.set_cons_succ])
              go_wp2_with fail
              go_ret
              exact ⟨by rw [HI.out]; rfl, HS.out.keep.drew⟩
            · have e2 : (x.arity == y.arity) = false := by simpa using n2
              have HM2 := Lib.hid (not_mem_step HY.out HM.out (fun_ne (.inr n2)))
              clear n1 n2
              go_wp2_with fail
              refine wp_region_tx (fun W' => W'.cell? ⟨w.heap.size, 1, none⟩ = some (.slice (some ⟨b, off, none⟩) nf cf) ∧ W'.cell? ⟨b, off + k * 2, none⟩ = some (.string x.name) ∧ W'.cell? ⟨b, off + j * 2, none⟩ = some (.string y.name) ∧ W'.cell? ⟨b, off + k * 2 + 1, none⟩ = some (.int .i64 x.arity) ∧ W'.cell? ⟨b, off + j * 2 + 1, none⟩ = some (.int .i64 y.arity)) [(0, true), (1, true), (2, true), (3, true), (4, true), (5, true), (6, true), (7, true), (8, true), (9, true), (10, false)] (by kernel_rfl) (by kernel_rfl) (by exact ⟨p1, q0, r0, q1, r1⟩) (fun hHeld => ?_)
              (repeat (first | (refine wpTx_take (v := ?_) rfl (by assumption) ?_ (by rfl) ?_; rotate_left; (focus (intro w' hSw; (try dsimp only at hSw); go_simp; (try with_reducible rfl); done)); simp only [Act.put, List.setIfInBounds_toArray, List.set_cons_zero, List.set_cons_succ]) | (refine wpTx_skip rfl (by assumption) (by rfl) ?_; simp only [Act.put, List.setIfInBounds_toArray, List.set_cons_zero, List.set_cons_succ])))
              refine wpTx_last rfl (fun K hK => ?_)
              go_simp
              refine hK.out _ _ (NoPanic.normal ?_); clear hK K; (try simp only [Act.put, List.setIfInBounds_toArray, List.set_cons_zero, List.set_cons_succ])
              go_wp2_with fail
              go_roundw
              case rel => exact ⟨j + 1, by omega, by go_num, HM2.out, HS.out.go (Keeps.refl _ []).drew⟩
              case measure => simp [intOf]; omega
          · have e1 : (x.name.toList == y.name.toList) = false := str_bne n1
            have HM2 := Lib.hid (not_mem_step HY.out HM.out (fun_ne (.inl n1)))
            clear n1
            go_wp2_with fail
            refine wp_region_tx (fun W' => W'.cell? ⟨w.heap.size, 1, none⟩ = some (.slice (some ⟨b, off, none⟩) nf cf) ∧ W'.cell? ⟨b, off + k * 2, none⟩ = some (.string x.name) ∧ W'.cell? ⟨b, off + j * 2, none⟩ = some (.string y.name) ∧ W'.cell? ⟨b, off + k * 2 + 1, none⟩ = some (.int .i64 x.arity) ∧ W'.cell? ⟨b, off + j * 2 + 1, none⟩ = some (.int .i64 y.arity)) [(0, true), (1, true), (2, true), (3, true), (4, true), (5, true), (6, true), (7, true), (8, true), (9, true), (10, false)] (by kernel_rfl) (by kernel_rfl) (by exact ⟨p1, q0, r0, q1, r1⟩) (fun hHeld => ?_)
            (repeat (first | (refine wpTx_take (v := ?_) rfl (by assumption) ?_ (by rfl) ?_; rotate_left; (focus (intro w' hSw; (try dsimp only at hSw); go_simp; (try with_reducible rfl); done)); simp only [Act.put, List.setIfInBounds_toArray, List.set_cons_zero, List.set_cons_succ]) | (refine wpTx_skip rfl (by assumption) (by rfl) ?_; simp only [Act.put, List.setIfInBounds_toArray, List.set_cons_zero, List.set_cons_succ])))
            refine wpTx_last rfl (fun K hK => ?_)
            go_simp
            refine hK.out _ _ (NoPanic.normal ?_); clear hK K; (try simp only [Act.put, List.setIfInBounds_toArray, List.set_cons_zero, List.set_cons_succ])
            go_wp2_with fail
            go_roundw
            case rel => exact ⟨j + 1, by omega, by go_num, HM2.out, HS.out.go (Keeps.refl _ []).drew⟩
            case measure => simp [intOf]; omega
        · obtain rfl : k = j := by omega
          have HD2 := Lib.hid (dupB_miss HX.out HM.out HD.out)
          go_wp2_with fail
          go_roundw
          case rel => exact ⟨k + 1, by omega, by go_num, HD2.out, HS.out⟩
          case measure => simp [intOf]; omega
      · obtain rfl : nf = k := by omega
        have HD2 := Lib.hid (dup_end Lf.out HD.out)
        clear hlt hk HD
        go_wp2_with fail
        go_meet
        exact ⟨HD2.out, HS.out⟩
  case rest =>
  obtain ⟨HD2, st⟩ := hcut
  clear HST
  have HST := Lib.hid st
  clear st
  go_upto_block 14 with fail
  go_cut [] (fun wx => Hid (dupB (o.preds.map keyF) = false) ∧ BoxSt w wx w.heap.size 39 #[.slice Aa na ca, .slice Af nf cf, .slice Ap np cp, .slice Ac nc cc])
  case first =>
    go_wp2_with fail
    go_loopw [10, 11] (fun i i2 wr => ∃ k : Nat, k ≤ np ∧ i = .int .i64 k ∧ Hid (dupB ((o.preds.map keyF).take k) = false) ∧ BoxSt w wr w.heap.size 39 #[.slice Aa na ca, .slice Af nf cf, .slice Ap np cp, .slice Ac nc cc]) (fun i _ _ => np - (intOf i).toNat)
    case atStart => exact ⟨0, Nat.zero_le _, rfl, rfl, HST.out⟩
    case round =>
      obtain ⟨k, hk, rfl, HD, st⟩ := hrel
      have HS := Lib.hid st
      have p1 := st.blk.cell 2
      clear st HST
      by_cases hlt : k < np
      · obtain ⟨x, hx⟩ := at_of Lp.out hlt
        have HX := Lib.hid hx
        clear hx
        go_wp2_with fail
        clear p1
        go_loopw [11] (fun i wr => ∃ j : Nat, j ≤ k ∧ i = .int .i64 j ∧ Hid (keyF x ∉ (o.preds.map keyF).take j) ∧ BoxSt w wr w.heap.size 39 #[.slice Aa na ca, .slice Af nf cf, .slice Ap np cp, .slice Ac nc cc]) (fun i _ => k - (intOf i).toNat)
        case atStart => exact ⟨0, Nat.zero_le _, rfl, by show _ ∉ _; simp, HS.out⟩
        case round =>
        obtain ⟨j, hj, rfl, HM, st⟩ := hrel
        clear HS
        have HS := Lib.hid st
        have p1 := st.blk.cell 2
        clear st
        by_cases hlj : j < k
        · obtain ⟨y, hy⟩ := at_of Lp.out (show j < np by omega)
          have HY := Lib.hid hy
          obtain ⟨b, off, hA, hb, hc⟩ := (H.out.preds).field predE_len HX.out (by omega)
          subst hA
          obtain ⟨b2, off2, hA2, hb2, hc2⟩ := (H.out.preds).field predE_len hy (by omega)
          injection hA2 with hA2
          injection hA2 with hA2 hA3
          subst hA2 hA3
          have q0 : wr.cell? ⟨b, off + k * 3, none⟩ = some _ := (HS.out.keep.cell0 hb).trans (hc 0 _ rfl)
          have r0 : wr.cell? ⟨b, off + j * 3, none⟩ = some _ := (HS.out.keep.cell0 hb).trans (hc2 0 _ rfl)
          have q1 : wr.cell? ⟨b, off + k * 3 + 1, none⟩ = some _ := (HS.out.keep.cell0 hb).trans (hc 1 _ rfl)
          have r1 : wr.cell? ⟨b, off + j * 3 + 1, none⟩ = some _ := (HS.out.keep.cell0 hb).trans (hc2 1 _ rfl)
          have q2 : wr.cell? ⟨b, off + k * 3 + 2, none⟩ = some _ := (HS.out.keep.cell0 hb).trans (hc 2 _ rfl)
          have r2 : wr.cell? ⟨b, off + j * 3 + 2, none⟩ = some _ := (HS.out.keep.cell0 hb).trans (hc2 2 _ rfl)
          clear hy hc hc2 hb2
          have b0 : (0 : Int) ≤ (k : Int) := Int.natCast_nonneg _
          have b1 : (k : Int) < (np : Int) := by omega
          have b2 : (0 : Int) ≤ (j : Int) := Int.natCast_nonneg _
          have b3 : (j : Int) < (np : Int) := by omega
          by_cases n1 : x.name = y.name
          · have e1 : (x.name.toList == y.name.toList) = true := str_beq n1
            by_cases n2 : x.arity = y.arity
            · have e2 : (x.arity == y.arity) = true := by simpa using n2
              have HI := Lib.hid (tabE_dup HNM.out (dup_keys (dupB_hit (map_at keyF HX.out) (by have := mem_take_of (map_at keyF HY.out) hlj; rwa [← key_eq n1 n2] at this))))
              clear n1 n2
              go_wp2_with fail
              refine wp_region_tx (fun W' => W'.cell? ⟨w.heap.size, 2, none⟩ = some (.slice (some ⟨b, off, none⟩) np cp) ∧ W'.cell? ⟨b, off + k * 3, none⟩ = some (.string x.name) ∧ W'.cell? ⟨b, off + j * 3, none⟩ = some (.string y.name) ∧ W'.cell? ⟨b, off + k * 3 + 1, none⟩ = some (.int .i64 x.arity) ∧ W'.cell? ⟨b, off + j * 3 + 1, none⟩ = some (.int .i64 y.arity) ∧ W'.cell? ⟨b, off + k * 3 + 2, none⟩ = some (.int .i64 x.entry) ∧ W'.cell? ⟨b, off + j * 3 + 2, none⟩ = some (.int .i64 y.entry)) [(0, true), (1, true), (2, true), (3, true), (4, true), (5, true), (6, true), (7, true), (8, true), (9, true), (10, true), (11, true), (12, true), (13, true), (14, true), (15, true), (16, true), (17, true), (18, true), (19, true), (20, true), (21, true), (22, true), (23, true), (24, true), (25, true), (26, true), (27, false)] (by kernel_rfl) (by kernel_rfl) (by exact ⟨p1, q0, r0, q1, r1, q2, r2⟩) (fun hHeld => ?_)
              (repeat (first | (refine wpTx_take (v := ?_) rfl (by assumption) ?_ (by rfl) ?_; rotate_left; (focus (intro w' hSw; (try dsimp only at hSw); go_simp; (try with_reducible rfl); done)); simp only [Act.put, List.setIfInBounds_toArray, List.set_cons_zero, List.set_cons_succ]) | (refine wpTx_skip rfl (by assumption) (by rfl) ?_; simp only [Act.put, List.setIfInBounds_toArray, List.set_cons_zero, List.set_cons_succ])))
              refine wpTx_last rfl (fun K hK => ?_)
              go_simp
              refine hK.out _ _ (NoPanic.normal ?_); clear hK K; (try simp only [Act.put, List.setIfInBounds_toArray, List.set_cons_zero, List.set_cons_succ])
              go_wp2_with fail
              go_ret
              exact ⟨by rw [HI.out]; rfl, HS.out.keep.drew⟩
            · have e2 : (x.arity == y.arity) = false := by simpa using n2
              have HM2 := Lib.hid (not_mem_step (map_at keyF HY.out) HM.out (key_ne (.inr n2)))
              clear n1 n2
              go_wp2_with fail
              refine wp_region_tx (fun W' => W'.cell? ⟨w.heap.size, 2, none⟩ = some (.slice (some ⟨b, off, none⟩) np cp) ∧ W'.cell? ⟨b, off + k * 3, none⟩ = some (.string x.name) ∧ W'.cell? ⟨b, off + j * 3, none⟩ = some (.string y.name) ∧ W'.cell? ⟨b, off + k * 3 + 1, none⟩ = some (.int .i64 x.arity) ∧ W'.cell? ⟨b, off + j * 3 + 1, none⟩ = some (.int .i64 y.arity) ∧ W'.cell? ⟨b, off + k * 3 + 2, none⟩ = some (.int .i64 x.entry) ∧ W'.cell? ⟨b, off + j * 3 + 2, none⟩ = some (.int .i64 y.entry)) [(0, true), (1, true), (2, true), (3, true), (4, true), (5, true), (6, true), (7, true), (8, true), (9, true), (10, true), (11, true), (12, true), (13, true), (14, true), (15, true), (16, true), (17, true), (18, true), (19, true), (20, true), (21, true), (22, true), (23, true), (24, true), (25, true), (26, true), (27, false)] (by kernel_rfl) (by kernel_rfl) (by exact ⟨p1, q0, r0, q1, r1, q2, r2⟩) (fun hHeld => ?_)
              (repeat (first | (refine wpTx_take (v := ?_) rfl (by assumption) ?_ (by rfl) ?_; rotate_left; (focus (intro w' hSw; (try dsimp only at hSw); go_simp; (try with_reducible rfl); done)); simp only [Act.put, List.setIfInBounds_toArray, List.set_cons_zero, List.set_cons_succ]) | (refine wpTx_skip rfl (by assumption) (by rfl) ?_; simp only [Act.put, List.setIfInBounds_toArray, List.set_cons_zero, List.set_cons_succ])))
              refine wpTx_last rfl (fun K hK => ?_)
              go_simp
              refine hK.out _ _ (NoPanic.normal ?_); clear hK K; (try simp only [Act.put, List.setIfInBounds_toArray, List.set_cons_zero, List.set_cons_succ])
              go_wp2_with fail
              go_roundw
              case rel => exact ⟨j + 1, by omega, by go_num, HM2.out, HS.out.go (Keeps.refl _ []).drew⟩
              case measure => simp [intOf]; omega
          · have e1 : (x.name.toList == y.name.toList) = false := str_bne n1
            have HM2 := Lib.hid (not_mem_step (map_at keyF HY.out) HM.out (key_ne (.inl n1)))
            clear n1
            go_wp2_with fail
            refine wp_region_tx (fun W' => W'.cell? ⟨w.heap.size, 2, none⟩ = some (.slice (some ⟨b, off, none⟩) np cp) ∧ W'.cell? ⟨b, off + k * 3, none⟩ = some (.string x.name) ∧ W'.cell? ⟨b, off + j * 3, none⟩ = some (.string y.name) ∧ W'.cell? ⟨b, off + k * 3 + 1, none⟩ = some (.int .i64 x.arity) ∧ W'.cell? ⟨b, off + j * 3 + 1, none⟩ = some (.int .i64 y.arity) ∧ W'.cell? ⟨b, off + k * 3 + 2, none⟩ = some (.int .i64 x.entry) ∧ W'.cell? ⟨b, off + j * 3 + 2, none⟩ = some (.int .i64 y.entry)) [(0, true), (1, true), (2, true), (3, true), (4, true), (5, true), (6, true), (7, true), (8, true), (9, true), (10, true), (11, true), (12, true), (13, true), (14, true), (15, true), (16, true), (17, true), (18, true), (19, true), (20, true), (21, true), (22, true), (23, true), (24, true), (25, true), (26, true), (27, false)] (by kernel_rfl) (by kernel_rfl) (by exact ⟨p1, q0, r0, q1, r1, q2, r2⟩) (fun hHeld => ?_)
            (repeat (first | (refine wpTx_take (v := ?_) rfl (by assumption) ?_ (by rfl) ?_; rotate_left; (focus (intro w' hSw; (try dsimp only at hSw); go_simp; (try with_reducible rfl); done)); simp only [Act.put, List.setIfInBounds_toArray, List.set_cons_zero, List.set_cons_succ]) | (refine wpTx_skip rfl (by assumption) (by rfl) ?_; simp only [Act.put, List.setIfInBounds_toArray, List.set_cons_zero, List.set_cons_succ])))
            refine wpTx_last rfl (fun K hK => ?_)
            go_simp
            refine hK.out _ _ (NoPanic.normal ?_); clear hK K; (try simp only [Act.put, List.setIfInBounds_toArray, List.set_cons_zero, List.set_cons_succ])
            go_wp2_with fail
            go_roundw
            case rel => exact ⟨j + 1, by omega, by go_num, HM2.out, HS.out.go (Keeps.refl _ []).drew⟩
            case measure => simp [intOf]; omega
        · obtain rfl : k = j := by omega
          have HD2 := Lib.hid (dupB_miss (map_at keyF HX.out) HM.out HD.out)
          go_wp2_with fail
          go_roundw
          case rel => exact ⟨k + 1, by omega, by go_num, HD2.out, HS.out⟩
          case measure => simp [intOf]; omega
      · obtain rfl : np = k := by omega
        have HD2 := Lib.hid (dup_end (by rw [List.length_map]; exact Lp.out) HD.out)
        clear hlt hk HD
        go_wp2_with fail
        go_meet
        exact ⟨HD2.out, HS.out⟩
  case rest =>
  obtain ⟨HD3, st⟩ := hcut
  clear HST
  have HST := Lib.hid st
  clear st
  have HDU := Lib.hid (show dupO o = false by simp [dupO, HD1.out, HD2.out, HD3.out])
  clear HD1 HD2 HD3
  go_wp2_with fail
  go_loopw [12, 13, 14] (fun i ee i2 wr => ∃ k : Nat, k ≤ np ∧ i = .int .i64 k ∧ Hid (∀ y ∈ o.preds.take k, entB o.code.length y = true) ∧ Hid (dupB (entL (o.preds.take k)) = false) ∧ BoxSt w wr w.heap.size 39 #[.slice Aa na ca, .slice Af nf cf, .slice Ap np cp, .slice Ac nc cc]) (fun i _ _ _ => np - (intOf i).toNat)
  case atStart => exact ⟨0, Nat.zero_le _, rfl, fun y hy => by simp at hy, rfl, HST.out⟩
  case round =>
    obtain ⟨k, hk, rfl, HP, HD, st⟩ := hrel
    have HS := Lib.hid st
    have p1 := st.blk.cell 2
    have p3 := st.blk.cell 3
    clear st HST
    by_cases hlt : k < np
    · obtain ⟨x, hx⟩ := at_of Lp.out hlt
      obtain ⟨b, off, hA, hb, hc⟩ := (H.out.preds).field predE_len hx (by omega)
      subst hA
      have HX := Lib.hid hx
      have q2 : wr.cell? ⟨b, off + k * 3 + 2, none⟩ = some _ := (HS.out.keep.cell0 hb).trans (hc 2 _ rfl)
      clear hx hc
      have b0 : (0 : Int) ≤ (k : Int) := Int.natCast_nonneg _
      have b1 : (k : Int) < (np : Int) := by omega
      cases he : entB o.code.length x
      case false =>
        have HI := Lib.hid (tabE_ent HNM.out HDU.out (entriesB_no HX.out he))
        rw [Lc.out] at he
        simp only [entB, Bool.or_eq_false_iff, Bool.and_eq_false_iff, decide_eq_false_iff_not, beq_eq_false_iff_ne, ne_eq] at he
        have d1 : (x.entry != 65535) = true := by rw [bne_iff_ne]; exact he.1
        by_cases e2 : x.entry < 0
        · have d2 : decide (x.entry < 0) = true := by simpa using e2
          clear he e2
          go_wp2_with fail
          go_ret
          exact ⟨by rw [HI.out]; rfl, HS.out.keep⟩
        · have d2 : decide (x.entry < 0) = false := by simpa using e2
          have d3 : decide ((nc : Int) ≤ x.entry) = true := by simp only [decide_eq_true_eq]; omega
          clear he e2
          go_wp2_with fail
          go_ret
          exact ⟨by rw [HI.out]; rfl, HS.out.keep⟩
      have HP2 := Lib.hid (take_all1 HX.out he HP.out)
      rw [Lc.out] at he
      simp only [entB, Bool.or_eq_true, Bool.and_eq_true, decide_eq_true_eq, beq_iff_eq] at he
      by_cases e1 : x.entry = 65535
      · have d1 : (x.entry != 65535) = false := by rw [bne_eq_false_iff_eq]; exact e1
        have HD2 := Lib.hid (ent_dup_step HX.out HD.out (fun h => absurd e1 h))
        clear he e1
        go_wp2_with fail
        go_loopw [14] (fun i wr => ∃ j : Nat, j ≤ k ∧ i = .int .i64 j ∧ BoxSt w wr w.heap.size 39 #[.slice Aa na ca, .slice Af nf cf, .slice (some ⟨b, off, none⟩) np cp, .slice Ac nc cc]) (fun i _ => k - (intOf i).toNat)
        case atStart => exact ⟨0, Nat.zero_le _, rfl, HS.out⟩
        case round =>
        obtain ⟨j, hj, rfl, st⟩ := hrel
        clear HS p1 p3 q2
        have HS := Lib.hid st
        clear st
        by_cases hlj : j < k
        · go_wp2_with fail
          go_roundw
          case rel => exact ⟨j + 1, by omega, by go_num, HS.out⟩
          case measure => simp [intOf]; omega
        · obtain rfl : k = j := by omega
          go_wp2_with fail
          go_roundw
          case rel => exact ⟨k + 1, by omega, by go_num, HP2.out, HD2.out, HS.out⟩
          case measure => simp [intOf]; omega
      · have d1 : (x.entry != 65535) = true := by rw [bne_iff_ne]; exact e1
        have d2 : decide (x.entry < 0) = false := by simp only [decide_eq_false_iff_not]; omega
        have d3 : decide ((nc : Int) ≤ x.entry) = false := by simp only [decide_eq_false_iff_not]; omega
        have HE := Lib.hid e1
        clear he e1
        go_wp2_with fail
        go_loopw [14] (fun i wr => ∃ j : Nat, j ≤ k ∧ i = .int .i64 j ∧ Hid (x.entry ∉ entL (o.preds.take j)) ∧ BoxSt w wr w.heap.size 39 #[.slice Aa na ca, .slice Af nf cf, .slice (some ⟨b, off, none⟩) np cp, .slice Ac nc cc]) (fun i _ => k - (intOf i).toNat)
        case atStart => exact ⟨0, Nat.zero_le _, rfl, by show _ ∉ _; simp [entL], HS.out⟩
        case round =>
        obtain ⟨j, hj, rfl, HM, st⟩ := hrel
        clear HS p1 p3 q2
        have HS := Lib.hid st
        have p1 := st.blk.cell 2
        clear st
        by_cases hlj : j < k
        · obtain ⟨y, hy⟩ := at_of Lp.out (show j < np by omega)
          have HY := Lib.hid hy
          obtain ⟨b2, off2, hA2, hb2, hc2⟩ := (H.out.preds).field predE_len hy (by omega)
          injection hA2 with hA2
          injection hA2 with hA2 hA3
          subst hA2 hA3
          have r2 : wr.cell? ⟨b, off + j * 3 + 2, none⟩ = some _ := (HS.out.keep.cell0 hb).trans (hc2 2 _ rfl)
          clear hy hc2
          have b2 : (0 : Int) ≤ (j : Int) := Int.natCast_nonneg _
          have b3 : (j : Int) < (np : Int) := by omega
          by_cases n1 : y.entry = x.entry
          · have e1 : (y.entry == x.entry) = true := by simpa using n1
            have HI := Lib.hid (tabE_ent HNM.out HDU.out (entriesB_dup (entL_take HX.out HY.out hlj HE.out n1)))
            clear n1
            go_wp2_with fail
            go_ret
            exact ⟨by rw [HI.out]; rfl, HS.out.keep⟩
          · have e1 : (y.entry == x.entry) = false := by simpa using n1
            have HM2 := Lib.hid (entL_mem_step HY.out HM.out n1)
            clear n1
            go_wp2_with fail
            go_roundw
            case rel => exact ⟨j + 1, by omega, by go_num, HM2.out, HS.out⟩
            case measure => simp [intOf]; omega
        · obtain rfl : k = j := by omega
          have HD2 := Lib.hid (ent_dup_step HX.out HD.out (fun _ => HM.out))
          go_wp2_with fail
          go_roundw
          case rel => exact ⟨k + 1, by omega, by go_num, HP2.out, HD2.out, HS.out⟩
          case measure => simp [intOf]; omega
    · obtain rfl : np = k := by omega
      have hl : o.preds.take np = o.preds := List.take_of_length_le (by rw [Lp.out]; exact Nat.le_refl _)
      have hd := HD.out
      rw [hl] at hd
      have HI := Lib.hid (tabE_ok HNM.out HDU.out (entriesB_yes (all_of Lp.out HP.out) hd))
      clear hl hd
      go_wp2_with fail
      go_ret
      exact ⟨by rw [HI.out]; rfl, HS.out.keep⟩
end Go.Proofs.YtpcihhdalofdiaaGreatDoor
