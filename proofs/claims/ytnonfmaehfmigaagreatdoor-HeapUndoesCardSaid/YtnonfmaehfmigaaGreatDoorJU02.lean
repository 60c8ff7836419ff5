/- The program's parts, at whatever cell. Printed by gen_hpparts.py. -/
import Derived.Test.YtnonfmaehfmigaaGreatDoorJU01
import Derived.Test.YtnonfmaehfmigaaGreatDoorTmMk
import Derived.Test.YtnonfmaehfmigaaGreatDoorFour
namespace Go.Proofs.YtnonfmaehfmigaaGreatDoor
open Go.RowKit Go.Maps
theorem get_at {w : World} {base g h : Nat} {l : List Int} {room : Nat} (a : Ar w base g h l room) (k : Nat) :
    Calls Tryz.prog 70 #[.pointer (some ⟨g, 0, none⟩), .int .i64 k] w fun e w' => e = .returned (.tuple #[.int .u64 ((l[k]?).getD 0), .bool (l[k]?).isSome]) ∧ w = w' := by
  cases hx : l[k]? with
  | some x => exact get_yes a k x hx
  | none =>
    refine get_no a k ?_
    cases hi : inside (k : Int) l.length with
    | false => rfl
    | true =>
      obtain ⟨k', e, hk⟩ := inside_iff.1 hi
      have := List.getElem?_eq_none_iff.1 hx
      omega
theorem wrapS (p : Nat) (h : (p : Int) < 1099511627776) : IntKind.i64.wrap ((p : Int) + 1) = (p : Int) + 1 := by
  simp only [IntKind.wrap_i64]
  omega
section
variable {w : World} {base hb ag ah vb : Nat} {AA FA TA MA : Option Addr} {ca nt ct nm cm cf : Nat} {H : PH} {tr : List Int} {mk : List (Int × Int)} {room : Nat}
set_option maxRecDepth 100000 in
set_option maxHeartbeats 3200000 in
theorem partsN_any (hm : Hm w base hb ag ah vb AA FA TA MA ca nt ct nm cm cf H tr mk room) (c : Int) (h0 : 0 ≤ c) (h1 : c < 18446744073709551616) (hr : right c = true) (q : Nat) (hq : numOf c = q) (hk : kindOf c ≠ 1) (cs : List Int) (hcs : cs.length = 2) (ha : ∀ (j : Nat) x, cs[j]? = some x → x = (H.cells[q + j]?).getD 0) :
    Calls Tryz.prog 66 #[.pointer (some ⟨hb, 0, none⟩), .int .u64 c] w fun e w' => ∃ A c', e = .returned (.slice A 2 c') ∧ w'.ownsRow w.heap.size 28 1 (.slice A 2 c') 2 (cs.map (Value.int .u64)) ∧ Keeps w w' [] := by
  have HKd := Lib.hid (fun W => kind_any c W h0 h1)
  have HNu := Lib.hid (fun W => number_any c W h0 h1)
  have hn := num_nn h0 hr
  have hn2 : numOf c < 1099511627776 := by unfold numOf; rw [if_pos hr]; have := (right_iff c).1 hr; omega
  rw [hq] at HNu hn2
  have ek : (kindOf c == 1) = false := by simpa using hk
  have HM := Lib.hid hm
  have HA := Lib.hid ha
  have HC := Lib.hid hcs
  have KW : Hid (Keeps w w []) := Keeps.refl _ _
  clear hm hr hk hn ha hcs hq
  go_enter Tryz.func66, Tryz.ntmps66
  go_wp2_with fail
  refine (HNu.out _).mono ?_
  rintro e w1 ⟨rfl, rfl⟩
  go_wp2_with fail
  refine (HKd.out _).mono ?_
  rintro e w1 ⟨rfl, rfl⟩
  go_wp2_with fail
  go_loopw [9, 54] (fun x9 x54 wr => ∃ (j : Nat) (A2 : Option Addr) (c2 : Nat), j ≤ 2 ∧ x54 = .int .i64 j ∧ x9 = .slice A2 j c2 ∧ wr.ownsRow w.heap.size 28 1 (.slice A2 j c2) j ((cs.take j).map (Value.int .u64)) ∧ Keeps w wr []) (fun _ i _ => 2 - (intOf i).toNat)
  case atStart => exact ⟨0, none, 0, by omega, rfl, rfl, by rw [List.take_zero]; exact World.ownsRow_nil _ _ _ _, KW.out⟩
  case round =>
    obtain ⟨j, A2, c2, hj, rfl, rfl, ho, hkk⟩ := hrel
    have HO := Lib.hid ho
    have HKK := Lib.hid hkk
    clear ho hkk
    by_cases hlt : j < 2
    · obtain ⟨x, hx⟩ := at_of HC.out hlt
      have HM1 := Lib.hid (HM.out.keep0 HKK.out)
      have x0 := HM1.out.blk.cell 0
      have hg := get_at HM1.out.ar (q + j)
      rw [← HA.out j x hx, Int.natCast_add] at hg
      generalize (H.cells[q + j]?).isSome = bx at hg
      have HG := Lib.hid hg
      have HX := Lib.hid hx
      have b0 : (0 : Int) ≤ (j : Int) := Int.natCast_nonneg _
      have b1 : (j : Int) < 2 := by omega
      have b2 : (0 : Int) ≤ (q : Int) := Int.natCast_nonneg _
      clear hx hg
      go_wp2_with fail
      refine HG.out.mono ?_
      rintro e w3 ⟨rfl, rfl⟩
      clear x0
      go_wp2_with (at_builtin; have K5 := (Keeps.refl wr []).alloc (.cells #[.int .u64 x] 28); have hz5 := K5.size; have hz6 := HKK.out.size; refine wpList_app _ el_cells rfl (.tmp 68) (.tmp 70) rfl w.heap.size A2 j c2 ((cs.take j).map (Value.int .u64)) rfl (own_keep0 HO.out K5) (some ⟨wr.heap.size, 0, none⟩) 1 1 [.int .u64 x] rfl (Rd.one wr _ [.int .u64 x]) rfl (by simp) (by simp [Value.oneCell']) (by omega) (by omega) ?_; intro A' c' w4 hown hgrow hat; have HN : Hid (Keeps w w4 []) := ((((HKK.out.trans K5).to_ _).trans (Keeps.ofGrown hgrow)).more (fun b hb hm' => by have := (own_lt HO.out hm').1; omega)); have HO4 := Lib.hid hown; clear hown hgrow hat K5 hz5 hz6)
      go_roundw
      case rel => exact ⟨j + 1, A', c', by omega, by go_num, rfl, by rw [List.take_add_one, HX.out, List.map_append]; exact HO4.out, HN.out⟩
      case measure => simp [intOf]; omega
    · obtain rfl : j = 2 := by omega
      have ho2 := HO.out
      rw [List.take_of_length_le (by rw [HC.out]; exact Nat.le_refl _)] at ho2
      have HO2 := Lib.hid ho2
      clear hlt hj ho2
      go_wp2_with fail
      go_ret
      exact ⟨A2, c2, rfl, HO2.out, HKK.out⟩
set_option maxRecDepth 100000 in
set_option maxHeartbeats 3200000 in
theorem partsA_any (hm : Hm w base hb ag ah vb AA FA TA MA ca nt ct nm cm cf H tr mk room) (c : Int) (h0 : 0 ≤ c) (h1 : c < 18446744073709551616) (hr : right c = true) (p : Nat) (hp : numOf c = p) (hk : kindOf c = 1) (F : Int) (hF : (H.cells[p]?).getD 0 = F) (hF0 : 0 ≤ F ∧ F < 18446744073709551616) (hkF : kindOf F ≠ 4) :
    Calls Tryz.prog 66 #[.pointer (some ⟨hb, 0, none⟩), .int .u64 c] w fun e w' => ∃ A c', e = .returned (.slice A 0 c') ∧ w'.ownsRow w.heap.size 28 1 (.slice A 0 c') 0 (([] : List Int).map (Value.int .u64)) ∧ Keeps w w' [] := by
  have HKd := Lib.hid (fun W => kind_any c W h0 h1)
  have HNu := Lib.hid (fun W => number_any c W h0 h1)
  have hn := num_nn h0 hr
  have hn2 : numOf c < 1099511627776 := by unfold numOf; rw [if_pos hr]; have := (right_iff c).1 hr; omega
  rw [hp] at HNu
  rw [hk] at HKd
  have hg := get_at hm.ar p
  rw [hF] at hg
  generalize (H.cells[p]?).isSome = bx at hg
  have HG := Lib.hid hg
  have HKF := Lib.hid (fun W => kind_any F W hF0.1 hF0.2)
  generalize kindOf F = kF at hkF HKF
  have ek : (kF == 4) = false := by simpa using hkF
  have ek' : (kF != 4) = true := by simpa using hkF
  have x0 := hm.blk.cell 0
  have HM := Lib.hid hm
  clear hm hr hk hn hg hkF hF hF0 hp
  go_enter Tryz.func66, Tryz.ntmps66
  go_wp2_with fail
  refine (HNu.out _).mono ?_
  rintro e w1 ⟨rfl, rfl⟩
  go_wp2_with fail
  refine (HKd.out _).mono ?_
  rintro e w1 ⟨rfl, rfl⟩
  go_wp2_with fail
  refine HG.out.mono ?_
  rintro e w1 ⟨rfl, rfl⟩
  clear x0
  go_upto_region 4 with fail
  have hS : w.cell? ⟨hb, 2, none⟩ = some (.slice FA H.funs.length cf) := HM.out.blk.cell 2
  have HS := Lib.hid hS
  clear hS
  refine wp_region_tx (fun W' => W'.cell? ⟨hb, 2, none⟩ = some (.slice FA H.funs.length cf)) [(0, true), (1, false), (2, true), (3, true), (4, true), (5, true), (6, true), (7, true), (8, true), (9, true), (10, true), (11, true), (12, true), (13, false)] (by kernel_rfl) (by kernel_rfl) (by exact HS.out) (fun hHeld => ?_)
  (repeat (first | (refine wpTx_take (v := ?_) rfl (by assumption) ?_ (by rfl) ?_; rotate_left; (focus (intro w' hSw; (try dsimp only at hSw); go_simp; (try with_reducible rfl); done)); simp only [Act.put, List.setIfInBounds_toArray, List.set_cons_zero, List.set_cons_succ]) | (refine wpTx_skip rfl (by assumption) (by rfl) ?_; simp only [Act.put, List.setIfInBounds_toArray, List.set_cons_zero, List.set_cons_succ])))
  refine wpTx_go rfl (fun K hK => ?_)
  go_simp
  refine (HKF.out _).mono ?_
  rintro e w3 ⟨rfl, rfl⟩
  refine hK.out _ _ ?_ ?_
  · exact HS.out
  (clear hHeld; intro hHeld; clear hK K; (try simp only [Act.put, List.setIfInBounds_toArray, List.set_cons_zero, List.set_cons_succ]))
  (repeat (first | (refine wpTx_take (v := ?_) rfl (by assumption) ?_ (by rfl) ?_; rotate_left; (focus (intro w' hSw; (try dsimp only at hSw); go_simp; (try with_reducible rfl); done)); simp only [Act.put, List.setIfInBounds_toArray, List.set_cons_zero, List.set_cons_succ]) | (refine wpTx_skip rfl (by assumption) (by rfl) ?_; simp only [Act.put, List.setIfInBounds_toArray, List.set_cons_zero, List.set_cons_succ])))
  refine wpTx_last rfl (fun K hK => ?_)
  go_simp
  refine hK.out _ _ (NoPanic.normal ?_); clear hK K; (try simp only [Act.put, List.setIfInBounds_toArray, List.set_cons_zero, List.set_cons_succ])
  clear hHeld
  go_wp2_with fail
  go_ret
  exact ⟨none, 0, rfl, World.ownsRow_nil _ _ _ _, (Keeps.refl w []).drew⟩
set_option maxRecDepth 100000 in
set_option maxHeartbeats 3200000 in
theorem partsB_any (hm : Hm w base hb ag ah vb AA FA TA MA ca nt ct nm cm cf H tr mk room) (c : Int) (h0 : 0 ≤ c) (h1 : c < 18446744073709551616) (hr : right c = true) (p : Nat) (hp : numOf c = p) (hk : kindOf c = 1) (F : Int) (hF : (H.cells[p]?).getD 0 = F) (hF0 : 0 ≤ F ∧ F < 18446744073709551616) (hkF : kindOf F = 4) (i : Nat) (hi : numOf F = i) (hil : H.funs.length ≤ i) :
    Calls Tryz.prog 66 #[.pointer (some ⟨hb, 0, none⟩), .int .u64 c] w fun e w' => ∃ A c', e = .returned (.slice A 0 c') ∧ w'.ownsRow w.heap.size 28 1 (.slice A 0 c') 0 (([] : List Int).map (Value.int .u64)) ∧ Keeps w w' [] := by
  have HKd := Lib.hid (fun W => kind_any c W h0 h1)
  have HNu := Lib.hid (fun W => number_any c W h0 h1)
  have hn := num_nn h0 hr
  have hn2 : numOf c < 1099511627776 := by unfold numOf; rw [if_pos hr]; have := (right_iff c).1 hr; omega
  rw [hp] at HNu
  rw [hk] at HKd
  have hg := get_at hm.ar p
  rw [hF] at hg
  generalize (H.cells[p]?).isSome = bx at hg
  have HG := Lib.hid hg
  have HKF := Lib.hid (fun W => kind_any F W hF0.1 hF0.2)
  have HNF := Lib.hid (fun W => number_any F W hF0.1 hF0.2)
  rw [hkF] at HKF
  rw [hi] at HNF
  have dl : decide ((i : Int) ≥ (H.funs.length : Int)) = true := by simp; omega
  have dl' : decide ((H.funs.length : Int) ≤ (i : Int)) = true := by simp; omega
  have dl2 : decide (H.funs.length ≤ i) = true := by simp; omega
  have x0 := hm.blk.cell 0
  have HM := Lib.hid hm
  clear hm hr hk hn hg hkF hF hF0 hp hi
  go_enter Tryz.func66, Tryz.ntmps66
  go_wp2_with fail
  refine (HNu.out _).mono ?_
  rintro e w1 ⟨rfl, rfl⟩
  go_wp2_with fail
  refine (HKd.out _).mono ?_
  rintro e w1 ⟨rfl, rfl⟩
  go_wp2_with fail
  refine HG.out.mono ?_
  rintro e w1 ⟨rfl, rfl⟩
  clear x0
  go_upto_region 4 with fail
  have hS : w.cell? ⟨hb, 2, none⟩ = some (.slice FA H.funs.length cf) := HM.out.blk.cell 2
  have HS := Lib.hid hS
  clear hS
  refine wp_region_tx (fun W' => W'.cell? ⟨hb, 2, none⟩ = some (.slice FA H.funs.length cf)) [(0, true), (1, false), (2, true), (3, true), (4, true), (6, true), (7, true), (8, true), (9, true), (10, true), (11, true), (5, false), (12, true), (13, false)] (by kernel_rfl) (by kernel_rfl) (by exact HS.out) (fun hHeld => ?_)
  (repeat (first | (refine wpTx_take (v := ?_) rfl (by assumption) ?_ (by rfl) ?_; rotate_left; (focus (intro w' hSw; (try dsimp only at hSw); go_simp; (try with_reducible rfl); done)); simp only [Act.put, List.setIfInBounds_toArray, List.set_cons_zero, List.set_cons_succ]) | (refine wpTx_skip rfl (by assumption) (by rfl) ?_; simp only [Act.put, List.setIfInBounds_toArray, List.set_cons_zero, List.set_cons_succ])))
  refine wpTx_go rfl (fun K hK => ?_)
  go_simp
  refine (HKF.out _).mono ?_
  rintro e w3 ⟨rfl, rfl⟩
  refine hK.out _ _ ?_ ?_
  · exact HS.out
  (clear hHeld; intro hHeld; clear hK K; (try simp only [Act.put, List.setIfInBounds_toArray, List.set_cons_zero, List.set_cons_succ]))
  (repeat (first | (refine wpTx_take (v := ?_) rfl (by assumption) ?_ (by rfl) ?_; rotate_left; (focus (intro w' hSw; (try dsimp only at hSw); go_simp; (try with_reducible rfl); done)); simp only [Act.put, List.setIfInBounds_toArray, List.set_cons_zero, List.set_cons_succ]) | (refine wpTx_skip rfl (by assumption) (by rfl) ?_; simp only [Act.put, List.setIfInBounds_toArray, List.set_cons_zero, List.set_cons_succ])))
  refine wpTx_go rfl (fun K hK => ?_)
  go_simp
  refine (HNF.out _).mono ?_
  rintro e w3 ⟨rfl, rfl⟩
  refine hK.out _ _ ?_ ?_
  · exact HS.out
  (clear hHeld; intro hHeld; clear hK K; (try simp only [Act.put, List.setIfInBounds_toArray, List.set_cons_zero, List.set_cons_succ]))
  (repeat (first | (refine wpTx_take (v := ?_) rfl (by assumption) ?_ (by rfl) ?_; rotate_left; (focus (intro w' hSw; (try dsimp only at hSw); go_simp; (try with_reducible rfl); done)); simp only [Act.put, List.setIfInBounds_toArray, List.set_cons_zero, List.set_cons_succ]) | (refine wpTx_skip rfl (by assumption) (by rfl) ?_; simp only [Act.put, List.setIfInBounds_toArray, List.set_cons_zero, List.set_cons_succ])))
  refine wpTx_last rfl (fun K hK => ?_)
  go_simp
  refine hK.out _ _ (NoPanic.normal ?_); clear hK K; (try simp only [Act.put, List.setIfInBounds_toArray, List.set_cons_zero, List.set_cons_succ])
  clear hHeld
  go_wp2_with fail
  go_ret
  exact ⟨none, 0, rfl, World.ownsRow_nil _ _ _ _, (Keeps.refl w []).drew⟩
set_option maxRecDepth 100000 in
set_option maxHeartbeats 3200000 in
theorem partsC_any (hm : Hm w base hb ag ah vb AA FA TA MA ca nt ct nm cm cf H tr mk room) (c : Int) (h0 : 0 ≤ c) (h1 : c < 18446744073709551616) (hr : right c = true) (p : Nat) (hp : numOf c = p) (hk : kindOf c = 1) (F : Int) (hF : (H.cells[p]?).getD 0 = F) (hF0 : 0 ≤ F ∧ F < 18446744073709551616) (hkF : kindOf F = 4) (i : Nat) (hi : numOf F = i) (x : ByteArray × Int) (hx : H.funs[i]? = some x) (n : Nat) (hxn : x.2 = n) (hn9 : n ≤ 1000) (cs : List Int) (hcs : cs.length = n) (ha : ∀ (j : Nat) x, cs[j]? = some x → x = (H.cells[p + 1 + j]?).getD 0) :
    Calls Tryz.prog 66 #[.pointer (some ⟨hb, 0, none⟩), .int .u64 c] w fun e w' => ∃ A c', e = .returned (.slice A n c') ∧ w'.ownsRow w.heap.size 28 1 (.slice A n c') n (cs.map (Value.int .u64)) ∧ Keeps w w' [] := by
  have HKd := Lib.hid (fun W => kind_any c W h0 h1)
  have HNu := Lib.hid (fun W => number_any c W h0 h1)
  have hn := num_nn h0 hr
  have hn2 : numOf c < 1099511627776 := by unfold numOf; rw [if_pos hr]; have := (right_iff c).1 hr; omega
  rw [hp] at HNu
  rw [hk] at HKd
  have hg := get_at hm.ar p
  rw [hF] at hg
  generalize (H.cells[p]?).isSome = bx at hg
  have HG := Lib.hid hg
  have HKF := Lib.hid (fun W => kind_any F W hF0.1 hF0.2)
  have HNF := Lib.hid (fun W => number_any F W hF0.1 hF0.2)
  rw [hkF] at HKF
  rw [hi] at HNF
  rw [hp] at hn2
  have hil := (List.getElem?_eq_some_iff.1 hx).1
  have dl : decide ((i : Int) ≥ (H.funs.length : Int)) = false := by simp; omega
  have dl' : decide ((H.funs.length : Int) ≤ (i : Int)) = false := by simp; omega
  have dl2 : decide (H.funs.length ≤ i) = false := by simp; omega
  have x0 := hm.blk.cell 0
  obtain ⟨fb, foff, rfl, hfb, hff⟩ := (Rd.of_own hm.funs).field funE_len hx (by omega)
  have hS6 : w.cell? ⟨fb, foff + i * 2 + 1, none⟩ = some (.int .i64 n) := by rw [← hxn]; exact hff 1 _ rfl
  obtain ⟨q, hq⟩ : ∃ q : Nat, p + 1 = q := ⟨_, rfl⟩
  rw [hq] at ha
  have HQ : Hid (∀ W : World, True) := fun _ => trivial
  have hq2 : (p : Int) + 1 = (q : Int) := by omega
  have HA := Lib.hid ha
  have HC := Lib.hid hcs
  have HM := Lib.hid hm
  have HS6 := Lib.hid hS6
  have HQ2 := Lib.hid hq2
  have KW : Hid (Keeps w w.drew.drew []) := (Keeps.refl w []).drew.drew
  have hp0 : (0 : Int) ≤ (p : Int) := Int.natCast_nonneg _
  have HIL : Hid ((0 : Int) ≤ (i : Int) ∧ (i : Int) < (H.funs.length : Int)) := ⟨Int.natCast_nonneg _, by omega⟩
  have HIN := Lib.hid hil
  clear hil
  clear hm hr hk hn hg hkF hF hF0 hp hi hx hxn hff hS6 ha hcs hq hq2 HQ
  go_enter Tryz.func66, Tryz.ntmps66
  go_wp2_with fail
  refine (HNu.out _).mono ?_
  rintro e w1 ⟨rfl, rfl⟩
  go_wp2_with fail
  refine (HKd.out _).mono ?_
  rintro e w1 ⟨rfl, rfl⟩
  go_wp2_with fail
  refine HG.out.mono ?_
  rintro e w1 ⟨rfl, rfl⟩
  clear x0
  go_upto_region 4 with fail
  have hS : w.cell? ⟨hb, 2, none⟩ = some (.slice (some ⟨fb, foff, none⟩) H.funs.length cf) := HM.out.blk.cell 2
  have HS := Lib.hid hS
  clear hS
  refine wp_region_tx (fun W' => W'.cell? ⟨hb, 2, none⟩ = some (.slice (some ⟨fb, foff, none⟩) H.funs.length cf)) [(0, true), (1, false), (2, true), (3, true), (4, true), (6, true), (7, true), (8, true), (9, true), (10, true), (11, true), (5, false), (12, true), (13, false)] (by kernel_rfl) (by kernel_rfl) (by exact HS.out) (fun hHeld => ?_)
  (first | (refine wpTx_take (v := ?_) rfl (by assumption) ?_ (by rfl) ?_; rotate_left; (focus (intro w' hSw; (try dsimp only at hSw); go_simp; (try with_reducible rfl); done)); simp only [Act.put, List.setIfInBounds_toArray, List.set_cons_zero, List.set_cons_succ]) | (refine wpTx_skip rfl (by assumption) (by rfl) ?_; simp only [Act.put, List.setIfInBounds_toArray, List.set_cons_zero, List.set_cons_succ]))
  refine wpTx_go rfl (fun K hK => ?_)
  go_simp
  refine (HKF.out _).mono ?_
  rintro e w3 ⟨rfl, rfl⟩
  refine hK.out _ _ ?_ ?_
  · exact HS.out
  (clear hHeld; intro hHeld; clear hK K; (try simp only [Act.put, List.setIfInBounds_toArray, List.set_cons_zero, List.set_cons_succ]))
  (first | (refine wpTx_take (v := ?_) rfl (by assumption) ?_ (by rfl) ?_; rotate_left; (focus (intro w' hSw; (try dsimp only at hSw); go_simp; (try with_reducible rfl); done)); simp only [Act.put, List.setIfInBounds_toArray, List.set_cons_zero, List.set_cons_succ]) | (refine wpTx_skip rfl (by assumption) (by rfl) ?_; simp only [Act.put, List.setIfInBounds_toArray, List.set_cons_zero, List.set_cons_succ]))
  (first | (refine wpTx_take (v := ?_) rfl (by assumption) ?_ (by rfl) ?_; rotate_left; (focus (intro w' hSw; (try dsimp only at hSw); go_simp; (try with_reducible rfl); done)); simp only [Act.put, List.setIfInBounds_toArray, List.set_cons_zero, List.set_cons_succ]) | (refine wpTx_skip rfl (by assumption) (by rfl) ?_; simp only [Act.put, List.setIfInBounds_toArray, List.set_cons_zero, List.set_cons_succ]))
  (first | (refine wpTx_take (v := ?_) rfl (by assumption) ?_ (by rfl) ?_; rotate_left; (focus (intro w' hSw; (try dsimp only at hSw); go_simp; (try with_reducible rfl); done)); simp only [Act.put, List.setIfInBounds_toArray, List.set_cons_zero, List.set_cons_succ]) | (refine wpTx_skip rfl (by assumption) (by rfl) ?_; simp only [Act.put, List.setIfInBounds_toArray, List.set_cons_zero, List.set_cons_succ]))
  (first | (refine wpTx_take (v := ?_) rfl (by assumption) ?_ (by rfl) ?_; rotate_left; (focus (intro w' hSw; (try dsimp only at hSw); go_simp; (try with_reducible rfl); done)); simp only [Act.put, List.setIfInBounds_toArray, List.set_cons_zero, List.set_cons_succ]) | (refine wpTx_skip rfl (by assumption) (by rfl) ?_; simp only [Act.put, List.setIfInBounds_toArray, List.set_cons_zero, List.set_cons_succ]))
  (first | (refine wpTx_take (v := ?_) rfl (by assumption) ?_ (by rfl) ?_; rotate_left; (focus (intro w' hSw; (try dsimp only at hSw); go_simp; (try with_reducible rfl); done)); simp only [Act.put, List.setIfInBounds_toArray, List.set_cons_zero, List.set_cons_succ]) | (refine wpTx_skip rfl (by assumption) (by rfl) ?_; simp only [Act.put, List.setIfInBounds_toArray, List.set_cons_zero, List.set_cons_succ]))
  (first | (refine wpTx_take (v := ?_) rfl (by assumption) ?_ (by rfl) ?_; rotate_left; (focus (intro w' hSw; (try dsimp only at hSw); go_simp; (try with_reducible rfl); done)); simp only [Act.put, List.setIfInBounds_toArray, List.set_cons_zero, List.set_cons_succ]) | (refine wpTx_skip rfl (by assumption) (by rfl) ?_; simp only [Act.put, List.setIfInBounds_toArray, List.set_cons_zero, List.set_cons_succ]))
  (first | (refine wpTx_take (v := ?_) rfl (by assumption) ?_ (by rfl) ?_; rotate_left; (focus (intro w' hSw; (try dsimp only at hSw); go_simp; (try with_reducible rfl); done)); simp only [Act.put, List.setIfInBounds_toArray, List.set_cons_zero, List.set_cons_succ]) | (refine wpTx_skip rfl (by assumption) (by rfl) ?_; simp only [Act.put, List.setIfInBounds_toArray, List.set_cons_zero, List.set_cons_succ]))
  (first | (refine wpTx_take (v := ?_) rfl (by assumption) ?_ (by rfl) ?_; rotate_left; (focus (intro w' hSw; (try dsimp only at hSw); go_simp; (try with_reducible rfl); done)); simp only [Act.put, List.setIfInBounds_toArray, List.set_cons_zero, List.set_cons_succ]) | (refine wpTx_skip rfl (by assumption) (by rfl) ?_; simp only [Act.put, List.setIfInBounds_toArray, List.set_cons_zero, List.set_cons_succ]))
  (first | (refine wpTx_take (v := ?_) rfl (by assumption) ?_ (by rfl) ?_; rotate_left; (focus (intro w' hSw; (try dsimp only at hSw); go_simp; (try with_reducible rfl); done)); simp only [Act.put, List.setIfInBounds_toArray, List.set_cons_zero, List.set_cons_succ]) | (refine wpTx_skip rfl (by assumption) (by rfl) ?_; simp only [Act.put, List.setIfInBounds_toArray, List.set_cons_zero, List.set_cons_succ]))
  refine wpTx_go rfl (fun K hK => ?_)
  go_simp
  refine (HNF.out _).mono ?_
  rintro e w3 ⟨rfl, rfl⟩
  refine hK.out _ _ ?_ ?_
  · exact HS.out
  (clear hHeld; intro hHeld; clear hK K; (try simp only [Act.put, List.setIfInBounds_toArray, List.set_cons_zero, List.set_cons_succ]))
  (first | (refine wpTx_take (v := ?_) rfl (by assumption) ?_ (by rfl) ?_; rotate_left; (focus (intro w' hSw; (try dsimp only at hSw); go_simp; (try with_reducible rfl); done)); simp only [Act.put, List.setIfInBounds_toArray, List.set_cons_zero, List.set_cons_succ]) | (refine wpTx_skip rfl (by assumption) (by rfl) ?_; simp only [Act.put, List.setIfInBounds_toArray, List.set_cons_zero, List.set_cons_succ]))
  refine wpTx_last rfl (fun K hK => ?_)
  go_simp
  refine hK.out _ _ (NoPanic.normal ?_); clear hK K; (try simp only [Act.put, List.setIfInBounds_toArray, List.set_cons_zero, List.set_cons_succ])
  clear hHeld
  go_upto_region 6 with fail
  clear dl dl' dl2
  obtain ⟨hi0, hil2⟩ := HIL.out
  have hil := HIN.out
  refine wp_region_tx (fun W' => W'.cell? ⟨hb, 2, none⟩ = some (.slice (some ⟨fb, foff, none⟩) H.funs.length cf) ∧ W'.cell? ⟨fb, foff + i * 2 + 1, none⟩ = some (.int .i64 n)) [(0, true), (1, true), (2, true), (3, true), (4, true), (5, true), (6, true), (7, true), (8, false), (9, true), (10, true), (11, true), (12, true), (13, false)] (by kernel_rfl) (by kernel_rfl) (by exact ⟨HS.out, HS6.out⟩) (fun hHeld => ?_)
  (first | (refine wpTx_take (v := ?_) rfl (by assumption) ?_ (by rfl) ?_; rotate_left; (focus (intro w' hSw; (try dsimp only at hSw); go_simp; (try with_reducible rfl); done)); simp only [Act.put, List.setIfInBounds_toArray, List.set_cons_zero, List.set_cons_succ]) | (refine wpTx_skip rfl (by assumption) (by rfl) ?_; simp only [Act.put, List.setIfInBounds_toArray, List.set_cons_zero, List.set_cons_succ]))
  (first | (refine wpTx_take (v := ?_) rfl (by assumption) ?_ (by rfl) ?_; rotate_left; (focus (intro w' hSw; (try dsimp only at hSw); go_simp; (try with_reducible rfl); done)); simp only [Act.put, List.setIfInBounds_toArray, List.set_cons_zero, List.set_cons_succ]) | (refine wpTx_skip rfl (by assumption) (by rfl) ?_; simp only [Act.put, List.setIfInBounds_toArray, List.set_cons_zero, List.set_cons_succ]))
  (first | (refine wpTx_take (v := ?_) rfl (by assumption) ?_ (by rfl) ?_; rotate_left; (focus (intro w' hSw; (try dsimp only at hSw); go_simp; (try with_reducible rfl); done)); simp only [Act.put, List.setIfInBounds_toArray, List.set_cons_zero, List.set_cons_succ]) | (refine wpTx_skip rfl (by assumption) (by rfl) ?_; simp only [Act.put, List.setIfInBounds_toArray, List.set_cons_zero, List.set_cons_succ]))
  (first | (refine wpTx_take (v := ?_) rfl (by assumption) ?_ (by rfl) ?_; rotate_left; (focus (intro w' hSw; (try dsimp only at hSw); go_simp; (try with_reducible rfl); done)); simp only [Act.put, List.setIfInBounds_toArray, List.set_cons_zero, List.set_cons_succ]) | (refine wpTx_skip rfl (by assumption) (by rfl) ?_; simp only [Act.put, List.setIfInBounds_toArray, List.set_cons_zero, List.set_cons_succ]))
  (first | (refine wpTx_take (v := ?_) rfl (by assumption) ?_ (by rfl) ?_; rotate_left; (focus (intro w' hSw; (try dsimp only at hSw); go_simp; (try with_reducible rfl); done)); simp only [Act.put, List.setIfInBounds_toArray, List.set_cons_zero, List.set_cons_succ]) | (refine wpTx_skip rfl (by assumption) (by rfl) ?_; simp only [Act.put, List.setIfInBounds_toArray, List.set_cons_zero, List.set_cons_succ]))
  (first | (refine wpTx_take (v := ?_) rfl (by assumption) ?_ (by rfl) ?_; rotate_left; (focus (intro w' hSw; (try dsimp only at hSw); go_simp; (try with_reducible rfl); done)); simp only [Act.put, List.setIfInBounds_toArray, List.set_cons_zero, List.set_cons_succ]) | (refine wpTx_skip rfl (by assumption) (by rfl) ?_; simp only [Act.put, List.setIfInBounds_toArray, List.set_cons_zero, List.set_cons_succ]))
  (first | (refine wpTx_take (v := ?_) rfl (by assumption) ?_ (by rfl) ?_; rotate_left; (focus (intro w' hSw; (try dsimp only at hSw); go_simp; (try with_reducible rfl); done)); simp only [Act.put, List.setIfInBounds_toArray, List.set_cons_zero, List.set_cons_succ]) | (refine wpTx_skip rfl (by assumption) (by rfl) ?_; simp only [Act.put, List.setIfInBounds_toArray, List.set_cons_zero, List.set_cons_succ]))
  (first | (refine wpTx_take (v := ?_) rfl (by assumption) ?_ (by rfl) ?_; rotate_left; (focus (intro w' hSw; (try dsimp only at hSw); go_simp; (try with_reducible rfl); done)); simp only [Act.put, List.setIfInBounds_toArray, List.set_cons_zero, List.set_cons_succ]) | (refine wpTx_skip rfl (by assumption) (by rfl) ?_; simp only [Act.put, List.setIfInBounds_toArray, List.set_cons_zero, List.set_cons_succ]))
  refine wpTx_go rfl (fun K hK => ?_)
  go_simp
  refine (HNF.out _).mono ?_
  rintro e w3 ⟨rfl, rfl⟩
  refine hK.out _ _ ?_ ?_
  · exact ⟨HS.out, HS6.out⟩
  (clear hHeld; intro hHeld; clear hK K; (try simp only [Act.put, List.setIfInBounds_toArray, List.set_cons_zero, List.set_cons_succ]))
  (first | (refine wpTx_take (v := ?_) rfl (by assumption) ?_ (by rfl) ?_; rotate_left; (focus (intro w' hSw; (try dsimp only at hSw); go_simp; (try with_reducible rfl); done)); simp only [Act.put, List.setIfInBounds_toArray, List.set_cons_zero, List.set_cons_succ]) | (refine wpTx_skip rfl (by assumption) (by rfl) ?_; simp only [Act.put, List.setIfInBounds_toArray, List.set_cons_zero, List.set_cons_succ]))
  (first | (refine wpTx_take (v := ?_) rfl (by assumption) ?_ (by rfl) ?_; rotate_left; (focus (intro w' hSw; (try dsimp only at hSw); go_simp; (try with_reducible rfl); done)); simp only [Act.put, List.setIfInBounds_toArray, List.set_cons_zero, List.set_cons_succ]) | (refine wpTx_skip rfl (by assumption) (by rfl) ?_; simp only [Act.put, List.setIfInBounds_toArray, List.set_cons_zero, List.set_cons_succ]))
  (first | (refine wpTx_take (v := ?_) rfl (by assumption) ?_ (by rfl) ?_; rotate_left; (focus (intro w' hSw; (try dsimp only at hSw); go_simp; (try with_reducible rfl); done)); simp only [Act.put, List.setIfInBounds_toArray, List.set_cons_zero, List.set_cons_succ]) | (refine wpTx_skip rfl (by assumption) (by rfl) ?_; simp only [Act.put, List.setIfInBounds_toArray, List.set_cons_zero, List.set_cons_succ]))
  (first | (refine wpTx_take (v := ?_) rfl (by assumption) ?_ (by rfl) ?_; rotate_left; (focus (intro w' hSw; (try dsimp only at hSw); go_simp; (try with_reducible rfl); done)); simp only [Act.put, List.setIfInBounds_toArray, List.set_cons_zero, List.set_cons_succ]) | (refine wpTx_skip rfl (by assumption) (by rfl) ?_; simp only [Act.put, List.setIfInBounds_toArray, List.set_cons_zero, List.set_cons_succ]))
  refine wpTx_last rfl (fun K hK => ?_)
  go_simp
  refine hK.out _ _ (NoPanic.normal ?_); clear hK K; (try simp only [Act.put, List.setIfInBounds_toArray, List.set_cons_zero, List.set_cons_succ])
  clear hHeld
  rw [show IntKind.i64.wrap ((p : Int) + 1) = (q : Int) from (wrapS p (by omega)).trans HQ2.out]
  have b3 : (q : Int) < 1099511627777 := by have := HQ2.out; omega
  have b4 : (n : Int) ≤ 1000 := by omega
  go_wp2_with fail
  go_loopw [9, 54] (fun x9 x54 wr => ∃ (j : Nat) (A2 : Option Addr) (c2 : Nat), j ≤ n ∧ x54 = .int .i64 j ∧ x9 = .slice A2 j c2 ∧ wr.ownsRow w.heap.size 28 1 (.slice A2 j c2) j ((cs.take j).map (Value.int .u64)) ∧ Keeps w wr []) (fun _ i _ => n - (intOf i).toNat)
  case atStart => exact ⟨0, none, 0, by omega, rfl, rfl, by rw [List.take_zero]; exact World.ownsRow_nil _ _ _ _, KW.out⟩
  case round =>
    obtain ⟨j, A2, c2, hj, rfl, rfl, ho, hkk⟩ := hrel
    have HO := Lib.hid ho
    have HKK := Lib.hid hkk
    clear ho hkk
    by_cases hlt : j < n
    · obtain ⟨x, hx⟩ := at_of HC.out hlt
      have HM1 := Lib.hid (HM.out.keep0 HKK.out)
      have x0 := HM1.out.blk.cell 0
      have hg := get_at HM1.out.ar (q + j)
      rw [← HA.out j x hx, Int.natCast_add] at hg
      generalize (H.cells[q + j]?).isSome = bx at hg
      have HG := Lib.hid hg
      have HX := Lib.hid hx
      have b0 : (0 : Int) ≤ (j : Int) := Int.natCast_nonneg _
      have b1 : (j : Int) < n := by omega
      have b2 : (0 : Int) ≤ (q : Int) := Int.natCast_nonneg _
      clear hx hg
      go_wp2_with fail
      refine HG.out.mono ?_
      rintro e w3 ⟨rfl, rfl⟩
      clear x0
      go_wp2_with (at_builtin; have K5 := (Keeps.refl wr []).alloc (.cells #[.int .u64 x] 28); have hz5 := K5.size; have hz6 := HKK.out.size; refine wpList_app _ el_cells rfl (.tmp 68) (.tmp 70) rfl w.heap.size A2 j c2 ((cs.take j).map (Value.int .u64)) rfl (own_keep0 HO.out K5) (some ⟨wr.heap.size, 0, none⟩) 1 1 [.int .u64 x] rfl (Rd.one wr _ [.int .u64 x]) rfl (by simp) (by simp [Value.oneCell']) (by omega) (by omega) ?_; intro A' c' w4 hown hgrow hat; have HN : Hid (Keeps w w4 []) := ((((HKK.out.trans K5).to_ _).trans (Keeps.ofGrown hgrow)).more (fun b hb hm' => by have := (own_lt HO.out hm').1; omega)); have HO4 := Lib.hid hown; clear hown hgrow hat K5 hz5 hz6)
      go_roundw
      case rel => exact ⟨j + 1, A', c', by omega, by go_num, rfl, by rw [List.take_add_one, HX.out, List.map_append]; exact HO4.out, HN.out⟩
      case measure => simp [intOf]; omega
    · obtain rfl : j = n := by omega
      have ho2 := HO.out
      rw [List.take_of_length_le (by rw [HC.out]; exact Nat.le_refl _)] at ho2
      have HO2 := Lib.hid ho2
      clear hlt hj ho2
      go_wp2_with fail
      go_ret
      exact ⟨A2, c2, rfl, HO2.out, HKK.out⟩
theorem kind_zero : kindOf 0 = 0 := by decide
/-- A row of cells that a call hands back. -/
def RowD (w : World) (cs : List Int) (e : Ending) (w' : World) : Prop := ∃ A c', e = .returned (.slice A cs.length c') ∧ w'.ownsRow w.heap.size 28 1 (.slice A cs.length c') cs.length (cs.map (Value.int .u64)) ∧ Keeps w w' []
theorem list_at {p n j : Nat} {H : PH} {y : Int} (hy : ((List.range n).map fun i => cellP H (p + i))[j]? = some y) : y = (H.cells[p + j]?).getD 0 := by
  rw [List.getElem?_map] at hy
  cases hj : (List.range n)[j]? with
  | none => rw [hj] at hy; cases hy
  | some j' =>
    rw [hj] at hy
    have := List.getElem?_eq_some_iff.1 hj
    simp at this
    obtain ⟨_, rfl⟩ := this
    simp at hy
    exact hy.symm
set_option maxRecDepth 10000 in
/-- The program's parts. -/
theorem parts_any (hm : Hm w base hb ag ah vb AA FA TA MA ca nt ct nm cm cf H tr mk room) (ho : HOk H) (c : Int) (h0 : 0 ≤ c) (h1 : c < 18446744073709551616) (hr : right c = true) :
    Calls Tryz.prog 66 #[.pointer (some ⟨hb, 0, none⟩), .int .u64 c] w (RowD w (partsP H c)) := by
  obtain ⟨p, hp⟩ := Int.eq_ofNat_of_zero_le (num_nn h0 hr)
  have hpp : (numOf c).toNat = p := by omega
  obtain ⟨cs, hcs⟩ : ∃ cs, partsP H c = cs := ⟨_, rfl⟩
  rw [hcs]
  unfold partsP at hcs
  by_cases hk : kindOf c = 1
  · rw [if_pos hk] at hcs
    unfold funP at hcs
    rw [hpp] at hcs
    cases hF : H.cells[p]? with
    | none =>
      rw [hF] at hcs
      subst hcs
      exact partsA_any hm c h0 h1 hr p hp hk 0 (by rw [hF]; rfl) ⟨by omega, by omega⟩ (by rw [kind_zero]; omega)
    | some F =>
      have hb := hm.ar.bytes F (List.mem_of_getElem? hF)
      rw [hF] at hcs
      simp only at hcs
      by_cases hkF : kindOf F = 4
      · obtain ⟨i, hi⟩ := Int.eq_ofNat_of_zero_le (num_nn hb.1 (ho.right F (List.mem_of_getElem? hF)))
        have hii : (numOf F).toNat = i := by omega
        rw [if_pos hkF, hii] at hcs
        cases hx : H.funs[i]? with
        | none =>
          rw [hx] at hcs
          subst hcs
          exact partsB_any hm c h0 h1 hr p hp hk F (by rw [hF]; rfl) hb hkF i hi (List.getElem?_eq_none_iff.1 hx)
        | some x =>
          rw [hx] at hcs
          simp only at hcs
          have hfx := ho.funs x (List.mem_of_getElem? hx)
          have hl : cs.length = x.2.toNat := by rw [← hcs]; simp
          have h := partsC_any hm c h0 h1 hr p hp hk F (by rw [hF]; rfl) hb hkF i hi x hx x.2.toNat (by omega) (by omega) cs hl (fun j y hy => by rw [← hcs] at hy; exact list_at hy)
          rw [← hl] at h
          exact h
      · rw [if_neg hkF] at hcs
        subst hcs
        exact partsA_any hm c h0 h1 hr p hp hk F (by rw [hF]; rfl) hb hkF
  · rw [if_neg hk, hpp] at hcs
    have hl : cs.length = 2 := by rw [← hcs]; rfl
    have h := partsN_any hm c h0 h1 hr p hp hk cs hl (fun j y hy => by rw [← hcs] at hy; exact list_at hy)
    rw [← hl] at h
    exact h
end
end Go.Proofs.YtnonfmaehfmigaaGreatDoor

/- The program's Deref, at whatever cell. Printed by gen_hpderefg.py. -/
namespace Go.Proofs.YtnonfmaehfmigaaGreatDoor
open Go.RowKit Go.Maps
section
variable {w : World} {base hb ag ah vb : Nat} {AA FA TA MA : Option Addr} {ca nt ct nm cm cf : Nat} {H : PH} {tr : List Int} {mk : List (Int × Int)} {room : Nat}
def derV (o : Option Int) : Value := .tuple #[.int .u64 (o.getD 0), .bool o.isSome]
set_option maxRecDepth 100000 in
set_option maxHeartbeats 3200000 in
theorem deref_any (hm : Hm w base hb ag ah vb AA FA TA MA ca nt ct nm cm cf H tr mk room) (ho : HOk H) (c : Int) (h0 : 0 ≤ c) (h1 : c < 18446744073709551616) (hr : right c = true) :
    Calls Tryz.prog 35 #[.pointer (some ⟨hb, 0, none⟩), .int .u64 c] w fun e w' => e = .returned (derV (derefP H c)) ∧ Keeps w w' [] := by
  have HR := Lib.hid (fun W => right_any c W h0 h1)
  rw [hr] at HR
  have HHO := Lib.hid ho
  have hbb := hm.ar.bytes
  have HBB := Lib.hid hbb
  have HM := Lib.hid hm
  have HC0 : Hid (derefP H c = derefP H c ∧ 0 ≤ c ∧ c < 18446744073709551616 ∧ right c = true) := ⟨rfl, h0, h1, hr⟩
  clear hm ho hr h0 h1 hbb
  go_enter Tryz.func35, Tryz.ntmps35
  go_wp2_with fail
  refine (HR.out _).mono ?_
  rintro e w1 ⟨rfl, rfl⟩
  go_wp2_with fail
  go_loopw [1] (fun x1 wr => ∃ c1 : Int, x1 = .int .u64 c1 ∧ (derefP H c1 = derefP H c ∧ 0 ≤ c1 ∧ c1 < 18446744073709551616 ∧ right c1 = true) ∧ Keeps w wr []) (fun x _ => needD (intOf x))
  case atStart => exact ⟨c, rfl, ⟨rfl, HC0.out.2⟩, Keeps.refl _ _⟩
  case round =>
    obtain ⟨c1, rfl, ⟨hd, h0, h1, hr⟩, hkk⟩ := hrel
    have HKK := Lib.hid hkk
    have HKd := Lib.hid (fun W => kind_any c1 W h0 h1)
    by_cases hk : kindOf c1 = 0
    · rw [hk] at HKd
      obtain ⟨p, hp⟩ := Int.eq_ofNat_of_zero_le (num_nn h0 hr)
      have HNu := Lib.hid (fun W => number_any c1 W h0 h1)
      rw [hp] at HNu
      have hg := get_at (HM.out.keep0 HKK.out).ar.drew p
      have hpp : (numOf c1).toNat = p := by omega
      clear hkk HC0 HR
      cases hx : H.cells[p]? with
      | none =>
        have HD : Hid (derefP H c = none) := by rw [← hd]; exact deref_of_gone hk (by rw [hpp]; exact hx)
        rw [hx] at hg
        have HG : Hid (_) := Lib.hid hg
        clear hg hx hd h0 h1 hr hk hp hpp
        go_wp2_with fail
        refine (HKd.out _).mono ?_
        rintro e w2 ⟨rfl, rfl⟩
        go_upto_region 4 with fail
        have hM1 := HM.out.keep0 HKK.out
        have HM1 := Lib.hid hM1
        have hS : wr.cell? ⟨hb, 0, none⟩ = some (.pointer (some ⟨ag, 0, none⟩)) := hM1.blk.cell 0
        have HS := Lib.hid hS
        clear hM1 hS
        refine wp_region_th (fun W' => W'.cell? ⟨hb, 0, none⟩ = some (.pointer (some ⟨ag, 0, none⟩))) 10 [9] [(0, true), (1, true), (2, true), (3, true), (4, true), (5, false), (6, false), (7, true), (8, true), (9, true), (10, false), (11, false)] (by kernel_rfl) (by kernel_rfl) (by exact HS.out) (fun hHeld => ?_)
        (repeat (first | (refine wpTh_take (v := ?_) rfl (by rfl) (by assumption) ?_ (by rfl) ?_; rotate_left; (focus (intro w' hSw; (try dsimp only at hSw); go_simp; (try with_reducible rfl); done)); simp only [Act.put, List.setIfInBounds_toArray, List.set_cons_zero, List.set_cons_succ]) | (refine wpTh_pure (v := ?_) rfl (by rfl) (by assumption) ?_ (by rfl) ?_; rotate_left; (focus (intro w'; go_simp; (try with_reducible rfl); done)); simp only [Act.put, List.setIfInBounds_toArray, List.set_cons_zero, List.set_cons_succ])))
        refine wpTh_go rfl (fun K hK => ?_)
        go_simp
        refine (HNu.out _).mono ?_
        rintro e w3 ⟨rfl, rfl⟩
        refine hK.out _ _ ?_ ?_
        · exact HS.out
        (clear hHeld; intro hHeld; clear hK K; (try simp only [Act.put, List.setIfInBounds_toArray, List.set_cons_zero, List.set_cons_succ]))
        (repeat (first | (refine wpTh_take (v := ?_) rfl (by rfl) (by assumption) ?_ (by rfl) ?_; rotate_left; (focus (intro w' hSw; (try dsimp only at hSw); go_simp; (try with_reducible rfl); done)); simp only [Act.put, List.setIfInBounds_toArray, List.set_cons_zero, List.set_cons_succ]) | (refine wpTh_pure (v := ?_) rfl (by rfl) (by assumption) ?_ (by rfl) ?_; rotate_left; (focus (intro w'; go_simp; (try with_reducible rfl); done)); simp only [Act.put, List.setIfInBounds_toArray, List.set_cons_zero, List.set_cons_succ])))
        refine wpTh_go rfl (fun K hK => ?_)
        go_simp
        refine (HG.out).mono ?_
        rintro e w4 ⟨rfl, rfl⟩
        refine hK.out _ _ ?_ ?_
        · exact HS.out
        (clear hHeld; intro hHeld; clear hK K; (try simp only [Act.put, List.setIfInBounds_toArray, List.set_cons_zero, List.set_cons_succ]))
        (repeat (first | (refine wpTh_take (v := ?_) rfl (by rfl) (by assumption) ?_ (by rfl) ?_; rotate_left; (focus (intro w' hSw; (try dsimp only at hSw); go_simp; (try with_reducible rfl); done)); simp only [Act.put, List.setIfInBounds_toArray, List.set_cons_zero, List.set_cons_succ]) | (refine wpTh_pure (v := ?_) rfl (by rfl) (by assumption) ?_ (by rfl) ?_; rotate_left; (focus (intro w'; go_simp; (try with_reducible rfl); done)); simp only [Act.put, List.setIfInBounds_toArray, List.set_cons_zero, List.set_cons_succ])))
        refine wpTh_tail rfl (by decide) (fun K hK => ?_)
        go_simp
        refine hK.out _ _ ?_; clear hK K; (try simp only [Act.put, List.setIfInBounds_toArray, List.set_cons_zero, List.set_cons_succ])
        refine wpTh_last rfl (by decide) (fun K hK => ?_)
        go_simp
        refine hK.out _ _ (NoPanic.normal ?_)
        clear hK K hHeld
        go_wp2_with fail
        go_ret2
        exact ⟨by rw [HD.out]; rfl, HKK.out.drew⟩
      | some x =>
        rw [hx] at hg
        by_cases hxc : x = c1
        · subst hxc
          have HD : Hid (derefP H c = some x) := by rw [← hd]; exact deref_of_self hk (by rw [hpp]; exact hx)
          have HG : Hid (_) := Lib.hid hg
          clear hg hx hd h0 h1 hr hk hp hpp
          go_wp2_with fail
          refine (HKd.out _).mono ?_
          rintro e w2 ⟨rfl, rfl⟩
          go_upto_region 4 with fail
          have hM1 := HM.out.keep0 HKK.out
          have HM1 := Lib.hid hM1
          have hS : wr.cell? ⟨hb, 0, none⟩ = some (.pointer (some ⟨ag, 0, none⟩)) := hM1.blk.cell 0
          have HS := Lib.hid hS
          clear hM1 hS
          refine wp_region_th (fun W' => W'.cell? ⟨hb, 0, none⟩ = some (.pointer (some ⟨ag, 0, none⟩))) 10 [9] [(0, true), (1, true), (2, true), (3, true), (4, true), (5, false), (6, false), (7, true), (8, true), (9, true), (10, false), (11, false)] (by kernel_rfl) (by kernel_rfl) (by exact HS.out) (fun hHeld => ?_)
          (repeat (first | (refine wpTh_take (v := ?_) rfl (by rfl) (by assumption) ?_ (by rfl) ?_; rotate_left; (focus (intro w' hSw; (try dsimp only at hSw); go_simp; (try with_reducible rfl); done)); simp only [Act.put, List.setIfInBounds_toArray, List.set_cons_zero, List.set_cons_succ]) | (refine wpTh_pure (v := ?_) rfl (by rfl) (by assumption) ?_ (by rfl) ?_; rotate_left; (focus (intro w'; go_simp; (try with_reducible rfl); done)); simp only [Act.put, List.setIfInBounds_toArray, List.set_cons_zero, List.set_cons_succ])))
          refine wpTh_go rfl (fun K hK => ?_)
          go_simp
          refine (HNu.out _).mono ?_
          rintro e w3 ⟨rfl, rfl⟩
          refine hK.out _ _ ?_ ?_
          · exact HS.out
          (clear hHeld; intro hHeld; clear hK K; (try simp only [Act.put, List.setIfInBounds_toArray, List.set_cons_zero, List.set_cons_succ]))
          (repeat (first | (refine wpTh_take (v := ?_) rfl (by rfl) (by assumption) ?_ (by rfl) ?_; rotate_left; (focus (intro w' hSw; (try dsimp only at hSw); go_simp; (try with_reducible rfl); done)); simp only [Act.put, List.setIfInBounds_toArray, List.set_cons_zero, List.set_cons_succ]) | (refine wpTh_pure (v := ?_) rfl (by rfl) (by assumption) ?_ (by rfl) ?_; rotate_left; (focus (intro w'; go_simp; (try with_reducible rfl); done)); simp only [Act.put, List.setIfInBounds_toArray, List.set_cons_zero, List.set_cons_succ])))
          refine wpTh_go rfl (fun K hK => ?_)
          go_simp
          refine (HG.out).mono ?_
          rintro e w4 ⟨rfl, rfl⟩
          refine hK.out _ _ ?_ ?_
          · exact HS.out
          (clear hHeld; intro hHeld; clear hK K; (try simp only [Act.put, List.setIfInBounds_toArray, List.set_cons_zero, List.set_cons_succ]))
          (repeat (first | (refine wpTh_take (v := ?_) rfl (by rfl) (by assumption) ?_ (by rfl) ?_; rotate_left; (focus (intro w' hSw; (try dsimp only at hSw); go_simp; (try with_reducible rfl); done)); simp only [Act.put, List.setIfInBounds_toArray, List.set_cons_zero, List.set_cons_succ]) | (refine wpTh_pure (v := ?_) rfl (by rfl) (by assumption) ?_ (by rfl) ?_; rotate_left; (focus (intro w'; go_simp; (try with_reducible rfl); done)); simp only [Act.put, List.setIfInBounds_toArray, List.set_cons_zero, List.set_cons_succ])))
          refine wpTh_tail rfl (by decide) (fun K hK => ?_)
          go_simp
          refine hK.out _ _ ?_; clear hK K; (try simp only [Act.put, List.setIfInBounds_toArray, List.set_cons_zero, List.set_cons_succ])
          refine wpTh_last rfl (by decide) (fun K hK => ?_)
          go_simp
          refine hK.out _ _ (NoPanic.normal ?_)
          clear hK K hHeld
          go_wp2_with fail
          go_ret2
          exact ⟨by rw [HD.out]; rfl, HKK.out.drew⟩
        · have hm := List.mem_of_getElem? hx
          have hb0 : ∀ x ∈ H.cells, 0 ≤ x := fun x hx => (HBB.out x hx).1
          have hN : Hid ((derefP H x = derefP H c ∧ 0 ≤ x ∧ x < 18446744073709551616 ∧ right x = true) ∧ needD x < needD c1) := ⟨⟨(deref_of_step HHO.out hb0 h0 hr hk (by rw [hpp]; exact hx) hxc).symm.trans hd, (HBB.out x hm).1, (HBB.out x hm).2, HHO.out.right x hm⟩, HHO.out.less hb0 h0 hr hk (by rw [hpp]; exact hx) hxc⟩
          have ex : (x == c1) = false := by simpa using hxc
          have HG : Hid (_) := Lib.hid hg
          clear hg hx hd h0 h1 hr hk hp hpp hm hb0 hxc
          go_wp2_with fail
          refine (HKd.out _).mono ?_
          rintro e w2 ⟨rfl, rfl⟩
          go_upto_region 4 with fail
          have hM1 := HM.out.keep0 HKK.out
          have HM1 := Lib.hid hM1
          have hS : wr.cell? ⟨hb, 0, none⟩ = some (.pointer (some ⟨ag, 0, none⟩)) := hM1.blk.cell 0
          have HS := Lib.hid hS
          clear hM1 hS
          refine wp_region_th (fun W' => W'.cell? ⟨hb, 0, none⟩ = some (.pointer (some ⟨ag, 0, none⟩))) 10 [9] [(0, true), (1, true), (2, true), (3, true), (4, true), (5, false), (6, false), (7, true), (8, true), (9, true), (10, false), (11, false)] (by kernel_rfl) (by kernel_rfl) (by exact HS.out) (fun hHeld => ?_)
          (repeat (first | (refine wpTh_take (v := ?_) rfl (by rfl) (by assumption) ?_ (by rfl) ?_; rotate_left; (focus (intro w' hSw; (try dsimp only at hSw); go_simp; (try with_reducible rfl); done)); simp only [Act.put, List.setIfInBounds_toArray, List.set_cons_zero, List.set_cons_succ]) | (refine wpTh_pure (v := ?_) rfl (by rfl) (by assumption) ?_ (by rfl) ?_; rotate_left; (focus (intro w'; go_simp; (try with_reducible rfl); done)); simp only [Act.put, List.setIfInBounds_toArray, List.set_cons_zero, List.set_cons_succ])))
          refine wpTh_go rfl (fun K hK => ?_)
          go_simp
          refine (HNu.out _).mono ?_
          rintro e w3 ⟨rfl, rfl⟩
          refine hK.out _ _ ?_ ?_
          · exact HS.out
          (clear hHeld; intro hHeld; clear hK K; (try simp only [Act.put, List.setIfInBounds_toArray, List.set_cons_zero, List.set_cons_succ]))
          (repeat (first | (refine wpTh_take (v := ?_) rfl (by rfl) (by assumption) ?_ (by rfl) ?_; rotate_left; (focus (intro w' hSw; (try dsimp only at hSw); go_simp; (try with_reducible rfl); done)); simp only [Act.put, List.setIfInBounds_toArray, List.set_cons_zero, List.set_cons_succ]) | (refine wpTh_pure (v := ?_) rfl (by rfl) (by assumption) ?_ (by rfl) ?_; rotate_left; (focus (intro w'; go_simp; (try with_reducible rfl); done)); simp only [Act.put, List.setIfInBounds_toArray, List.set_cons_zero, List.set_cons_succ])))
          refine wpTh_go rfl (fun K hK => ?_)
          go_simp
          refine (HG.out).mono ?_
          rintro e w4 ⟨rfl, rfl⟩
          refine hK.out _ _ ?_ ?_
          · exact HS.out
          (clear hHeld; intro hHeld; clear hK K; (try simp only [Act.put, List.setIfInBounds_toArray, List.set_cons_zero, List.set_cons_succ]))
          (repeat (first | (refine wpTh_take (v := ?_) rfl (by rfl) (by assumption) ?_ (by rfl) ?_; rotate_left; (focus (intro w' hSw; (try dsimp only at hSw); go_simp; (try with_reducible rfl); done)); simp only [Act.put, List.setIfInBounds_toArray, List.set_cons_zero, List.set_cons_succ]) | (refine wpTh_pure (v := ?_) rfl (by rfl) (by assumption) ?_ (by rfl) ?_; rotate_left; (focus (intro w'; go_simp; (try with_reducible rfl); done)); simp only [Act.put, List.setIfInBounds_toArray, List.set_cons_zero, List.set_cons_succ])))
          refine wpTh_tail rfl (by decide) (fun K hK => ?_)
          go_simp
          refine hK.out _ _ ?_; clear hK K; (try simp only [Act.put, List.setIfInBounds_toArray, List.set_cons_zero, List.set_cons_succ])
          refine wpTh_last rfl (by decide) (fun K hK => ?_)
          go_simp
          refine hK.out _ _ (NoPanic.normal ?_)
          clear hK K hHeld
          go_wp2_with fail
          go_roundw
          case rel => exact ⟨x, rfl, hN.out.1, HKK.out.drew⟩
          case measure => simpa [intOf] using hN.out.2
    · have ek : (kindOf c1 == 0) = false := by simpa using hk
      have HD : Hid (derefP H c = some c1) := by rw [← hd]; exact deref_of_non hk
      clear hkk HC0 HR hk hd h0 h1 hr
      go_wp2_with fail
      refine (HKd.out _).mono ?_
      rintro e w2 ⟨rfl, rfl⟩
      go_wp2_with fail
      go_ret2
      exact ⟨by rw [HD.out]; rfl, HKK.out⟩
end
end Go.Proofs.YtnonfmaehfmigaaGreatDoor

/- Which cells were looked at, while a term within itself is looked for: the plain law, and a map of such in memory. -/
namespace Go.Proofs.YtnonfmaehfmigaaGreatDoor
open Go.RowKit Go.Maps

theorem Rg.same {H : PH} {c : Int} {t : Tm} (h : Rg H c t) : ∀ {t' : Tm}, Rg H c t' → t' = t := by
  induction h with
  | var c d hd hk =>
    intro t' h'
    cases h' with
    | var _ d' hd' hk' => rw [hd] at hd'; obtain rfl := Option.some.inj hd'; rfl
    | con _ d' s hd' hk' ha => rw [hd] at hd'; obtain rfl := Option.some.inj hd'; omega
    | cmp _ d' l hd' hk' hne hl h => rw [hd] at hd'; obtain rfl := Option.some.inj hd'; omega
  | con c d s hd hk ha =>
    intro t' h'
    cases h' with
    | var _ d' hd' hk' => rw [hd] at hd'; obtain rfl := Option.some.inj hd'; omega
    | con _ d' s' hd' hk' ha' => rw [hd] at hd'; obtain rfl := Option.some.inj hd'; rw [ha] at ha'; obtain rfl := Option.some.inj ha'; rfl
    | cmp _ d' l hd' hk' hne hl h => rw [hd] at hd'; obtain rfl := Option.some.inj hd'; omega
  | cmp c d l hd hk hne hl h ih =>
    intro t' h'
    cases h' with
    | var _ d' hd' hk' => rw [hd] at hd'; obtain rfl := Option.some.inj hd'; omega
    | con _ d' s hd' hk' ha => rw [hd] at hd'; obtain rfl := Option.some.inj hd'; omega
    | cmp _ d' l' hd' hk' hne' hl' h' =>
      rw [hd] at hd'
      obtain rfl := Option.some.inj hd'
      have : l' = l := by
        apply List.ext_getElem? 
        intro j
        by_cases hj : j < l.length
        · have h1 : l[j]? = some l[j] := List.getElem?_eq_getElem hj
          have h2 : l'[j]? = some (l'[j]'(by omega)) := List.getElem?_eq_getElem (by omega)
          have h3 : (partsP H d)[j]? = some ((partsP H d)[j]'(by omega)) := List.getElem?_eq_getElem (by omega)
          rw [h1, h2, ih j _ _ h1 h3 (h' j _ _ h2 h3)]
        · rw [List.getElem?_eq_none (by omega), List.getElem?_eq_none (by omega)]
      rw [this]
theorem Rg.at_deref {H : PH} {c d : Int} {t : Tm} (h : Rg H c t) (hd : derefP H c = some d) (hdd : derefP H d = some d) : Rg H d t := by
  cases h with
  | var _ d' hd' hk => rw [hd] at hd'; obtain rfl := Option.some.inj hd'; exact .var _ _ hdd hk
  | con _ d' s hd' hk ha => rw [hd] at hd'; obtain rfl := Option.some.inj hd'; exact .con _ _ s hdd hk ha
  | cmp _ d' l hd' hk hne hl h => rw [hd] at hd'; obtain rfl := Option.some.inj hd'; exact .cmp _ _ l hdd hk hne hl h
/-- A part's tree is less. -/
theorem Rg.part {H : PH} {c d x : Int} {t : Tm} (h : Rg H c t) (hd : derefP H c = some d) (hk : kindOf d = 1 ∨ kindOf d = 3) (hx : x ∈ partsP H d) : ∃ u, Rg H x u ∧ tSize u < tSize t := by
  cases h with
  | var _ d' hd' hk' => rw [hd] at hd'; obtain rfl := Option.some.inj hd'; omega
  | con _ d' s hd' hk' ha => rw [hd] at hd'; obtain rfl := Option.some.inj hd'; omega
  | cmp _ d' l hd' hk' hne hl h =>
    rw [hd] at hd'
    obtain rfl := Option.some.inj hd'
    obtain ⟨j, hj⟩ := List.getElem?_of_mem hx
    have hjl : j < l.length := by rw [hl]; exact (List.getElem?_eq_some_iff.1 hj).1
    have h1 : l[j]? = some l[j] := List.getElem?_eq_getElem hjl
    refine ⟨l[j], h j _ x h1 hj, ?_⟩
    have := tSizes_mem (List.mem_of_getElem? h1)
    rw [tSize]
    omega
/-- There is no tree, that is less than each that is above. -/
def NoT (H : PH) (S : Int → Option Bool) (c : Int) : Prop := ∀ t, Rg H c t → ¬ ∀ a, S a = some true → ∀ ta, Rg H a ta → tSize t < tSize ta
def putB (S : Int → Option Bool) (x : Int) (b : Bool) : Int → Option Bool := fun y => if y = x then some b else S y
theorem putB_at (S : Int → Option Bool) (x : Int) (b : Bool) : putB S x b x = some b := by unfold putB; rw [if_pos rfl]
theorem putB_ne (S : Int → Option Bool) {x y : Int} (b : Bool) (h : y ≠ x) : putB S x b y = S y := by unfold putB; rw [if_neg h]
/-- How many weren't looked at. -/
def uns (U : List Int) (S : Int → Option Bool) : Nat := (U.filter fun x => (S x).isNone).length
theorem uns_le {U : List Int} {S S' : Int → Option Bool} (h : ∀ x b, S x = some b → S' x = some b) : uns U S' ≤ uns U S := by
  unfold uns
  induction U with
  | nil => simp
  | cons a U ih =>
    rw [List.filter_cons, List.filter_cons]
    cases hS : S a with
    | none =>
      cases hS' : S' a with
      | none => simp; exact ih
      | some b => simp; omega
    | some b => rw [h a b hS]; simp; exact ih
theorem uns_put {U : List Int} {S : Int → Option Bool} {d : Int} (hd : d ∈ U) (hn : S d = none) (b : Bool) : uns U (putB S d b) + 1 ≤ uns U S := by
  unfold uns
  induction U with
  | nil => simp at hd
  | cons a U ih =>
    rw [List.filter_cons, List.filter_cons]
    by_cases hda : a = d
    · subst hda
      rw [putB_at, hn]
      simp
      have h1 : uns U (putB S a b) ≤ uns U S := uns_le fun x c hx => by
        rw [putB_ne]
        · exact hx
        · rintro rfl; rw [hn] at hx; cases hx
      unfold uns at h1
      exact h1
    · have hd' : d ∈ U := (List.mem_cons.1 hd).resolve_left (Ne.symm hda)
      have h2 := ih hd'
      rw [putB_ne _ _ hda]
      cases hS : S a with
      | none => simp; omega
      | some c => simp; omega
theorem uns_len (U : List Int) (S : Int → Option Bool) : uns U S ≤ U.length := List.length_filter_le _ _
/-- What was looked at, and is done. -/
structure CycS (U : List Int) (S : Int → Option Bool) (n : Nat) (S' : Int → Option Bool) (n' : Nat) : Prop where
  keep : ∀ x b, S x = some b → S' x = some b
  tru : ∀ x, S' x = some true → S x = some true
  bud : n' + 2 * uns U S' ≤ n + 2 * uns U S
theorem CycS.refl (U : List Int) (S : Int → Option Bool) (n : Nat) : CycS U S n S n := ⟨fun _ _ h => h, fun _ h => h, Nat.le_refl _⟩
theorem CycS.trans {U : List Int} {A B C : Int → Option Bool} {a b c : Nat} (h : CycS U A a B b) (k : CycS U B b C c) : CycS U A a C c := ⟨fun x y e => k.keep x y (h.keep x y e), fun x e => h.tru x (k.tru x e), Nat.le_trans k.bud h.bud⟩
theorem CycS.noT {H : PH} {U : List Int} {S S' : Int → Option Bool} {n n' : Nat} (h : CycS U S n S' n') {c : Int} (k : NoT H S' c) : NoT H S c :=
  fun t ht hn => k t ht fun a ha ta hta => hn a (h.tru a ha) ta hta
theorem noT_up {H : PH} {S : Int → Option Bool} {c d x : Int} (hd : derefP H c = some d) (hdd : derefP H d = some d) (hk : kindOf d = 1 ∨ kindOf d = 3) (hx : x ∈ partsP H d) (h : NoT H (putB S d true) x) : NoT H S c := by
  intro t ht hn
  obtain ⟨u, hu, hlt⟩ := ht.part hd hk hx
  refine h u hu fun a ha ta hta => ?_
  by_cases had : a = d
  · subst had
    rw [(ht.at_deref hd hdd).same hta]
    exact hlt
  · rw [putB_ne _ _ had] at ha
    have := hn a ha ta hta
    omega
theorem noT_self {H : PH} {S : Int → Option Bool} {c d : Int} (hd : derefP H c = some d) (hdd : derefP H d = some d) (hS : S d = some true) : NoT H S c := fun t ht hn => by
  have := hn d hS t (ht.at_deref hd hdd)
  omega
theorem cycS_done {U : List Int} {S S2 : Int → Option Bool} {d : Int} {n n2 : Nat} (hd : d ∈ U) (hn : S d = none) (h : CycS U (putB S d true) (n + 1) S2 n2) : CycS U S n (putB S2 d false) (n2 + 1) := by
  have h0 : ∀ x b, S x = some b → x ≠ d := fun x b hx e => by subst e; rw [hn] at hx; cases hx
  refine ⟨fun x b hx => ?_, fun x hx => ?_, ?_⟩
  · have hne := h0 x b hx
    rw [putB_ne _ _ hne]
    exact h.keep x b (by rw [putB_ne _ _ hne]; exact hx)
  · by_cases hxd : x = d
    · subst hxd; rw [putB_at] at hx; cases hx
    · rw [putB_ne _ _ hxd] at hx
      have := h.tru x hx
      rwa [putB_ne _ _ hxd] at this
  · have h1 : uns U (putB S2 d false) ≤ uns U S2 := by
      have h2 : S2 d = some true := h.keep d true (putB_at _ _ _)
      unfold uns
      refine Nat.le_of_eq (congrArg List.length (List.filter_congr fun x _ => ?_))
      by_cases hxd : x = d
      · subst hxd; rw [putB_at, h2]; rfl
      · rw [putB_ne _ _ hxd]
    have h3 := uns_put hd hn true
    have := h.bud
    omega
/-! ### In memory -/
theorem law_cell : Keyed Tryz.prog 28 := int_keyed Tryz.underlying28
theorem zero_bool (w : World) : (zeroValue 4).run Tryz.prog w = .ok (.bool false) w := by kernel_rfl
def U64 (x : Int) : Prop := 0 ≤ x ∧ x < 18446744073709551616
theorem U64.wf {x : Int} (h : U64 x) : (Lit.int .u64 x).wf = true := WalkArith.wf_u64 (by have := h.1; have := h.2; omega)
theorem U64.key {x : Int} (h : U64 x) : keyOf Tryz.prog 28 (.int .u64 x) = some (.int .u64 x) := keyOf_int_mk Tryz.underlying28 h.wf
/-- A map of cells, of at most n entries. -/
def VC (w : World) (b n : Nat) (f : Int → Option Bool) : Prop :=
  ∃ D : DataW Unit, w.ownsMap Tryz.prog 28 (plainElem Tryz.prog 4) b n D ∧ ∀ x, U64 x → Maps.has D (.int .u64 x) = (f x).isSome ∧ D.atKey (.int .u64 x) (.lit (.bool false)) = .lit (.bool ((f x).getD false))
theorem VC.kept {w w' : World} {b n : Nat} {f : Int → Option Bool} (h : VC w b n f) {L : List Nat} (k : Keeps w w' L) (hb : b ∉ L) : VC w' b n f := by
  obtain ⟨D, h1, h2⟩ := h
  obtain ⟨es, clock, e1, r⟩ := h1
  exact ⟨D, ⟨es, clock, (k.block b (Array.getElem?_eq_some_iff.1 e1).1 hb).trans e1, r⟩, h2⟩
theorem VC.lt {w : World} {b n : Nat} {f : Int → Option Bool} (h : VC w b n f) : b < w.heap.size := by
  obtain ⟨D, h1, _⟩ := h
  exact h1.lt
theorem plainElem_bool_inv {P : Program} {e : TypeId} (he : P.underlying e = some .bool) {v : Value} {z : DataW Unit × List MemPlace} (h : plainElem P e v = some z) : ∃ b, v = .bool b ∧ z = (.lit (.bool b), []) := by
  unfold plainElem at h
  rw [he] at h
  cases v <;> simp at h
  subst h
  exact ⟨_, rfl, rfl⟩
set_option maxRecDepth 100000 in
/-- The look-up. -/
theorem VC.look {w : World} {b n : Nat} {f : Int → Option Bool} (h : VC w b n f) {x : Int} (hx : U64 x) : (Instr.lookup 79 (.map (some b)) (.int .u64 x) true).run Tryz.prog w = .ok (.tuple #[.bool ((f x).getD false), .bool (f x).isSome]) w := by
  obtain ⟨D, h1, h2⟩ := h
  obtain ⟨v, ps, hrun, hv⟩ := h1.look_ok law_cell Tryz.underlying79 (zero_bool w) (plainElem_bool Tryz.underlying4 false) hx.key
  obtain ⟨c, rfl, hc⟩ := plainElem_bool_inv Tryz.underlying4 hv
  obtain ⟨h3, h4⟩ := h2 x hx
  have h5 := congrArg Prod.fst hc
  simp only at h5
  rw [h4] at h5
  have h6 : (f x).getD false = c := by injection h5 with h5; injection h5
  rw [hrun, h3, h6]
/-- The store. -/
theorem VC.put {w : World} {b n : Nat} {f : Int → Option Bool} (h : VC w b n f) (hn : n ≤ 1000000) {x : Int} (hx : U64 x) (p : Bool) :
    ∃ w', (Instr.mapUpdate 79 (.map (some b)) (.int .u64 x) (.bool p)).run Tryz.prog w = .ok () w' ∧ VC w' b (n + 1) (putB f x p) ∧ Keeps w w' [b] := by
  obtain ⟨D, h1, h2⟩ := h
  obtain ⟨w', hrun, h3, hg⟩ := h1.update law_cell Tryz.underlying79 (by unfold maxLen; omega) hx.key (plainElem_bool Tryz.underlying4 p)
  refine ⟨w', hrun, ⟨_, h3, fun y hy => ?_⟩, ⟨hg.os, hg.tape, hg.output, hg.size, fun k hk hkb => hg.block k hk (fun e => hkb (by injection e with e; subst e; simp))⟩⟩
  by_cases hyx : y = x
  · subst hyx
    unfold putB
    rw [if_pos rfl]
    exact ⟨has_put_same h1.isMap (by trivial) _, atKey_put_same h1.isMap (by trivial) _ _⟩
  · have hne : (Lit.int .u64 y) ≠ Lit.int .u64 x := fun e => hyx (by injection e)
    unfold putB
    rw [if_neg hyx, has_put_other hne, atKey_put_other hne]
    exact h2 y hy
theorem VC.made (w : World) : VC (w.alloc (.map #[] 0)) w.heap.size 0 (fun _ => none) :=
  ⟨_, World.ownsMap_made w Tryz.prog 28 _, fun _ _ => ⟨rfl, rfl⟩⟩
end Go.Proofs.YtnonfmaehfmigaaGreatDoor

/- The program's look for a term within itself. -/
namespace Go.Proofs.YtnonfmaehfmigaaGreatDoor
open Go.RowKit Go.Maps
theorem drf_mem {H : PH} : ∀ (f : Nat) (c d : Int), drf H f c = some d → d = c ∨ d ∈ H.cells
  | 0, c, d, h => by rw [drf] at h; cases h
  | f + 1, c, d, h => by
    rw [drf] at h
    split at h
    · cases hx : H.cells[(numOf c).toNat]? with
      | none => rw [hx] at h; cases h
      | some x =>
        rw [hx] at h
        simp only at h
        split at h
        · exact .inl (Option.some.inj h).symm
        · rcases drf_mem f x d h with rfl | h1
          · exact .inr (List.mem_of_getElem? hx)
          · exact .inr h1
    · exact .inl (Option.some.inj h).symm
theorem deref_mem {H : PH} {c d : Int} (h : derefP H c = some d) : d = c ∨ d ∈ H.cells := drf_mem _ c d h
theorem parts_mem {H : PH} {c x : Int} (h : x ∈ partsP H c) : x = 0 ∨ x ∈ H.cells := by
  have key : ∀ i, cellP H i = 0 ∨ cellP H i ∈ H.cells := fun i => by
    unfold cellP
    cases hc : H.cells[i]? with
    | none => exact .inl rfl
    | some y => exact .inr (List.mem_of_getElem? hc)
  unfold partsP at h
  split at h
  · cases hf : funP H c with
    | none => rw [hf] at h; simp at h
    | some y =>
      rw [hf] at h
      simp only [List.mem_map] at h
      obtain ⟨i, _, rfl⟩ := h
      exact key _
  · simp only [List.mem_map] at h
    obtain ⟨i, _, rfl⟩ := h
    exact key _
/-- The cells that may be met. -/
structure Uok (H : PH) (U : List Int) : Prop where
  zero : (0 : Int) ∈ U
  cells : ∀ x ∈ H.cells, x ∈ U
/-- A cell that may be met. -/
structure Cok (U : List Int) (c : Int) : Prop where
  mem : c ∈ U
  low : 0 ≤ c
  up : c < 18446744073709551616
  rt : right c = true
def CycD (w : World) (sb : Nat) (H : PH) (U : List Int) (S : Int → Option Bool) (n : Nat) (c : Int) (e : Ending) (w' : World) : Prop :=
  ∃ (r : Bool) (S' : Int → Option Bool) (n' : Nat), e = .returned (.bool r) ∧ Keeps w w' [sb] ∧ (r = true → NoT H S c) ∧ (r = false → VC w' sb n' S' ∧ CycS U S n S' n')
section
variable {base hb ag ah vb : Nat} {AA FA TA MA : Option Addr} {ca nt ct nm cm cf : Nat} {H : PH} {tr : List Int} {mk : List (Int × Int)} {room : Nat} {U : List Int}
/-- What stands ahead of each look. -/
structure CycP (w : World) (sb base hb ag ah vb : Nat) (AA FA TA MA : Option Addr) (ca nt ct nm cm cf : Nat) (H : PH) (tr : List Int) (mk : List (Int × Int)) (room : Nat) (U : List Int) (S : Int → Option Bool) (n : Nat) : Prop where
  hm : Hm w base hb ag ah vb AA FA TA MA ca nt ct nm cm cf H tr mk room
  vc : VC w sb n S
  out : sb ∉ hpL hb ag ah vb AA FA TA MA
  bud : n + 2 * uns U S ≤ 1000000
theorem CycP.keep {w w' : World} {sb : Nat} {S : Int → Option Bool} {n : Nat} (h : CycP w sb base hb ag ah vb AA FA TA MA ca nt ct nm cm cf H tr mk room U S n) (k : Keeps w w' []) : CycP w' sb base hb ag ah vb AA FA TA MA ca nt ct nm cm cf H tr mk room U S n :=
  ⟨h.hm.keep0 k, h.vc.kept k (by simp), h.out, h.bud⟩
theorem CycP.next {w w' : World} {sb : Nat} {S S' : Int → Option Bool} {n n' : Nat} (h : CycP w sb base hb ag ah vb AA FA TA MA ca nt ct nm cm cf H tr mk room U S n) (k : Keeps w w' [sb]) (hv : VC w' sb n' S') (hb' : n' + 2 * uns U S' ≤ n + 2 * uns U S) : CycP w' sb base hb ag ah vb AA FA TA MA ca nt ct nm cm cf H tr mk room U S' n' :=
  ⟨h.hm.keep k (fun b hm => by simp at hm; subst hm; exact h.out), hv, h.out, Nat.le_trans hb' h.bud⟩
def CallCyc (base hb ag ah vb : Nat) (AA FA TA MA : Option Addr) (ca nt ct nm cm cf : Nat) (H : PH) (tr : List Int) (mk : List (Int × Int)) (room : Nat) (U : List Int) (m : Nat) : Prop :=
  ∀ (w : World) (sb n : Nat) (S : Int → Option Bool) (c : Int), CycP w sb base hb ag ah vb AA FA TA MA ca nt ct nm cm cf H tr mk room U S n → uns U S ≤ m → Cok U c →
    Calls Tryz.prog 33 #[.pointer (some ⟨hb, 0, none⟩), .int .u64 c, .map (some sb)] w (CycD w sb H U S n c)
set_option maxRecDepth 100000 in
set_option maxHeartbeats 1600000 in
theorem cycF_any {m : Nat} (hC : CallCyc base hb ag ah vb AA FA TA MA ca nt ct nm cm cf H tr mk room U m) {w : World} {sb n b3 b5 : Nat} {S : Int → Option Bool} {c : Int} (hp : CycP w sb base hb ag ah vb AA FA TA MA ca nt ct nm cm cf H tr mk room U S n) (hm : uns U S ≤ m) (hc : Cok U c)
    (h3 : Blk w b3 26 #[.pointer (some ⟨hb, 0, none⟩)]) (h5 : Blk w b5 79 #[.map (some sb)]) :
    Calls Tryz.prog 67 #[.int .u64 c, .pointer (some ⟨b3, 0, none⟩), .pointer (some ⟨b5, 0, none⟩)] w (CycD w sb H U S n c) := by
  have HC := Lib.hid (hC w sb n S c hp hm hc)
  have x3 := h3.cell 0
  have x5 := h5.cell 0
  clear hC hp hm hc h3 h5
  go_enter Tryz.func67, Tryz.ntmps67
  go_wp2_with fail
  refine HC.out.mono ?_
  rintro e w1 ⟨r, S', n', rfl, k, h1, h2⟩
  have HD : Hid (CycD w sb H U S n c (.returned (.bool r)) w1) := ⟨r, S', n', rfl, k, h1, h2⟩
  clear k h1 h2 x3 x5
  go_wp2_with fail
  go_ret
  exact HD.out
def IdxD (w : World) (sb : Nat) (H : PH) (U : List Int) (S : Int → Option Bool) (n : Nat) (cs : List Int) (e : Ending) (w' : World) : Prop :=
  ∃ i : Int, e = .returned (.int .i64 i) ∧ Keeps w w' [sb] ∧ ((0 ≤ i ∧ ∃ x ∈ cs, NoT H S x) ∨ (i = -1 ∧ ∃ S' n', VC w' sb n' S' ∧ CycS U S n S' n'))
set_option maxRecDepth 100000 in
set_option maxHeartbeats 1600000 in
theorem cycI_any {m : Nat} (hC : CallCyc base hb ag ah vb AA FA TA MA ca nt ct nm cm cf H tr mk room U m) {w : World} {sb n b3 b5 : Nat} {S : Int → Option Bool} (hp : CycP w sb base hb ag ah vb AA FA TA MA ca nt ct nm cm cf H tr mk room U S n) (hm : uns U S ≤ m)
    (h3 : Blk w b3 26 #[.pointer (some ⟨hb, 0, none⟩)]) (h5 : Blk w b5 79 #[.map (some sb)]) (h35 : b3 ≠ sb ∧ b5 ≠ sb) (cs : List Int) (hcs : ∀ x ∈ cs, Cok U x) (A : Option Addr) (N c : Nat) (hN : cs.length = N) (hN9 : N ≤ 1000000) (hR : Rd w A (cs.map (Value.int .u64))) (hA : ∀ b off, A = some ⟨b, off, none⟩ → b ≠ sb) :
    Calls Tryz.prog 87 #[.slice A N c, .func (.func 67) #[] #[.pointer (some ⟨b3, 0, none⟩), .pointer (some ⟨b5, 0, none⟩)]] w (IdxD w sb H U S n cs) := by
  have HP := Lib.hid hp
  have H3 := Lib.hid h3
  have H5 := Lib.hid h5
  have H35 := Lib.hid h35
  have HCS := Lib.hid hcs
  have HR := Lib.hid hR
  have HA := Lib.hid hA
  have HN := Lib.hid hN
  have HC := Lib.hid hC
  have HM := Lib.hid hm
  clear hC hp hm h3 h5 h35 hcs hN hR hA
  have eg : ∀ args w, (callFunc 67 args).run Tryz.prog w = .ok (.enter 67 args) w := enters_of Tryz.func67 (by kernel_rfl) rfl
  go_enter Tryz.func87, Tryz.ntmps87
  go_wp2_with fail
  go_loopw [5, 8] (fun x5 x8 wr => ∃ (k : Nat) (S' : Int → Option Bool) (n' : Nat), k ≤ N ∧ x8 = .int .i64 k ∧ Keeps w wr [sb] ∧ VC wr sb n' S' ∧ CycS U S n S' n') (fun _ i _ => N - (intOf i).toNat)
  case atStart => exact ⟨0, S, n, Nat.zero_le _, rfl, Keeps.refl _ _, HP.out.vc, CycS.refl _ _ _⟩
  case round =>
    obtain ⟨k, S', n', hk, rfl, kk, hv, hs⟩ := hrel
    have HK := Lib.hid kk
    have HS := Lib.hid hs
    have HP1 := Lib.hid (HP.out.next kk hv hs.bud)
    clear kk hv hs
    by_cases hlt : k < N
    · obtain ⟨x, hx⟩ := at_of HN.out hlt
      have hxm := List.mem_of_getElem? hx
      have hR1 := HR.out.keepL HK.out (fun b off e _ hm => by simp at hm; exact HA.out b off e hm)
      obtain ⟨b, off, v, rfl, hb, hc, hv⟩ := hR1 k (by simp [HN.out]; exact hlt)
      have hvx : v = .int .u64 x := by simp [List.getElem?_map, hx] at hv; exact hv.symm
      subst hvx
      have hcall := cycF_any HC.out HP1.out (Nat.le_trans (uns_le HS.out.keep) HM.out) (HCS.out x hxm) (H3.out.keep HK.out (by simp; exact H35.out.1)) (H5.out.keep HK.out (by simp; exact H35.out.2))
      have HCall := Lib.hid hcall
      have HX := Lib.hid hxm
      clear hR1 hv hcall hxm hx hb
      go_wp2_with fail
      refine HCall.out.mono ?_
      rintro e w3 ⟨r, S2, n2, rfl, k2, g1, g2⟩
      have HK2 := Lib.hid (HK.out.trans k2)
      cases r with
      | true =>
        have HD : Hid (NoT H S x) := HS.out.noT (g1 rfl)
        clear k2 g1 g2 hc
        go_wp2_with fail
        go_ret
        exact ⟨k, rfl, HK2.out, .inl ⟨by omega, x, HX.out, HD.out⟩⟩
      | false =>
        have HG := Lib.hid (g2 rfl)
        clear k2 g1 g2 hc
        go_wp2_with fail
        go_roundw
        case rel => exact ⟨k + 1, S2, n2, by omega, by go_num, HK2.out, HG.out.1, HS.out.trans HG.out.2⟩
        case measure => simp [intOf]; omega
    · obtain rfl : k = N := by omega
      clear hlt hk
      go_wp2_with fail
      go_ret
      exact ⟨-1, rfl, HK.out, .inr ⟨rfl, S', n', HP1.out.vc, HS.out⟩⟩
set_option maxRecDepth 100000 in
set_option maxHeartbeats 1600000 in
theorem cycK_any {m : Nat} (hC : CallCyc base hb ag ah vb AA FA TA MA ca nt ct nm cm cf H tr mk room U m) {w : World} {sb n b3 b5 : Nat} {S : Int → Option Bool} (hp : CycP w sb base hb ag ah vb AA FA TA MA ca nt ct nm cm cf H tr mk room U S n) (hm : uns U S ≤ m)
    (h3 : Blk w b3 26 #[.pointer (some ⟨hb, 0, none⟩)]) (h5 : Blk w b5 79 #[.map (some sb)]) (h35 : b3 ≠ sb ∧ b5 ≠ sb) (cs : List Int) (hcs : ∀ x ∈ cs, Cok U x) (A : Option Addr) (N c : Nat) (hN : cs.length = N) (hN9 : N ≤ 1000000) (hR : Rd w A (cs.map (Value.int .u64))) (hA : ∀ b off, A = some ⟨b, off, none⟩ → b ≠ sb) :
    Calls Tryz.prog 65 #[.slice A N c, .func (.func 67) #[] #[.pointer (some ⟨b3, 0, none⟩), .pointer (some ⟨b5, 0, none⟩)]] w fun e w' => ∃ r : Bool, e = .returned (.bool r) ∧ Keeps w w' [sb] ∧ (r = true → ∃ x ∈ cs, NoT H S x) ∧ (r = false → ∃ S' n', VC w' sb n' S' ∧ CycS U S n S' n') := by
  have HI := Lib.hid (cycI_any hC hp hm h3 h5 h35 cs hcs A N c hN hN9 hR hA)
  clear hC hp hm h3 h5 h35 hcs hN hR hA
  go_enter Tryz.func65, Tryz.ntmps65
  go_wp2_with fail
  refine HI.out.mono ?_
  rintro e w1 ⟨i, rfl, k, hd⟩
  have HK := Lib.hid k
  rcases hd with ⟨h0, hx⟩ | ⟨rfl, hs⟩
  · have HX := Lib.hid hx
    have d0 : decide (i ≥ 0) = true := by simpa using h0
    have d1 : decide (0 ≤ i) = true := by simpa using h0
    clear k hx HI
    go_wp2_with fail
    go_ret
    exact ⟨true, rfl, HK.out, fun _ => HX.out, fun e => by cases e⟩
  · have HX := Lib.hid hs
    clear k hs HI
    go_wp2_with fail
    go_ret
    exact ⟨false, rfl, HK.out, (fun e => by cases e), fun _ => HX.out⟩
end
end Go.Proofs.YtnonfmaehfmigaaGreatDoor

/- The program's look for a term within itself, whole. Printed by gen_hpcyc2.py. -/
namespace Go.Proofs.YtnonfmaehfmigaaGreatDoor
open Go.RowKit Go.Maps
section
variable {base hb ag ah vb : Nat} {AA FA TA MA : Option Addr} {ca nt ct nm cm cf : Nat} {H : PH} {tr : List Int} {mk : List (Int × Int)} {room : Nat} {U : List Int}
set_option maxRecDepth 100000 in
set_option maxHeartbeats 6400000 in
theorem cyc_step (hu : Uok H U) (ho : HOk H) {m : Nat} (IH0 : ∀ m', m' < m → CallCyc base hb ag ah vb AA FA TA MA ca nt ct nm cm cf H tr mk room U m') : CallCyc base hb ag ah vb AA FA TA MA ca nt ct nm cm cf H tr mk room U m := by
  intro w sb n S c hp hm hc
  have hbb := hp.hm.ar.bytes
  have IH : ∀ m', m' + 1 ≤ uns U S → CallCyc base hb ag ah vb AA FA TA MA ca nt ct nm cm cf H tr mk room U m' := fun m' h => IH0 m' (by omega)
  clear IH0 hm
  have hK0 : Keeps w ((w.alloc (.cells #[.pointer (some ⟨hb, 0, none⟩)] 26)).alloc (.cells #[.map (some sb)] 79)) [] := ((Keeps.refl w []).alloc _).alloc _
  have h3 : Blk ((w.alloc (.cells #[.pointer (some ⟨hb, 0, none⟩)] 26)).alloc (.cells #[.map (some sb)] 79)) w.heap.size 26 #[.pointer (some ⟨hb, 0, none⟩)] := (Blk.new _ _ _).alloc _
  have h5 : Blk ((w.alloc (.cells #[.pointer (some ⟨hb, 0, none⟩)] 26)).alloc (.cells #[.map (some sb)] 79)) (w.heap.size + 1) 79 #[.map (some sb)] := Blk.newAt _ _ (by simp)
  have hsb := hp.vc.lt
  have HNE : Hid (w.heap.size ≠ sb ∧ w.heap.size + 1 ≠ sb) := ⟨by omega, by omega⟩
  have hp0 := hp.keep hK0
  have HO := Lib.hid ho
  obtain ⟨o, hoo⟩ : ∃ o, derefP H c = o := ⟨_, rfl⟩
  obtain ⟨d, hd⟩ : ∃ d, o.getD 0 = d := ⟨_, rfl⟩
  have HD := Lib.hid (deref_any hp0.hm ho c hc.low hc.up hc.rt)
  unfold derV at HD
  rw [hoo, hd] at HD
  generalize hbx : o.isSome = bx at HD
  have HDB : Hid (U64 d) := by
    cases o with
    | none => subst hd; exact ⟨by simp, by simp⟩
    | some d' => subst hd; have := deref_is ho hbb _ c d' (Nat.le_refl _) hc.low hc.up hc.rt hoo; exact ⟨this.1, this.2.1⟩
  have HDD : Hid (kindOf d = 1 ∨ kindOf d = 3 → derefP H c = some d ∧ (derefP H d = some d ∧ d ∈ U ∧ right d = true)) := fun hk => by
    cases o with
    | none => subst hd; rw [Option.getD_none, kind_zero] at hk; omega
    | some d' =>
      subst hd
      have h1 := deref_is ho hbb _ c d' (Nat.le_refl _) hc.low hc.up hc.rt hoo
      refine ⟨hoo, h1.2.2.2.1, ?_, h1.2.2.1⟩
      rcases deref_mem hoo with rfl | h2
      · exact hc.mem
      · exact hu.cells _ h2
  have HPC : Hid (∀ x ∈ partsP H d, Cok U x) := fun x hx => by
    have h1 := parts_cell ho hbb d x hx
    refine ⟨?_, h1.1, h1.2.1, h1.2.2⟩
    rcases parts_mem hx with rfl | h2
    · exact hu.zero
    · exact hu.cells _ h2
  have HKd := Lib.hid (fun W => kind_any d W HDB.out.1 HDB.out.2)
  have HP0 := Lib.hid hp0
  have H3 := Lib.hid h3
  have H5 := Lib.hid h5
  have HK0 := Lib.hid hK0
  have x3 := h3.cell 0
  clear hp hc hbb hp0 ho hu hoo hd hbx hsb h3 h5 hK0
  go_enter Tryz.func33, Tryz.ntmps33
  go_upto_region 1 with fail
  generalize w.heap.size + 1 = b5 at *
  generalize w.heap.size = b3 at *
  generalize hw0 : (((w.alloc (.cells #[.pointer (some ⟨hb, 0, none⟩)] 26)).alloc (.cells #[.map (some sb)] 79))) = w0 at *
  go_wp2_with fail
  refine HD.out.mono ?_
  rintro e w1 ⟨rfl, k1⟩
  have HP1 := Lib.hid (HP0.out.keep k1)
  have HK1 := Lib.hid (HK0.out.trans k1)
  have H31 := Lib.hid (H3.out.keep k1 (by simp))
  have H51 := Lib.hid (H5.out.keep k1 (by simp))
  clear k1 x3 HD
  by_cases hk : kindOf d = 1
  · have HKk := Lib.hid hk
    rw [hk] at HKd
    obtain ⟨hdd, hd2⟩ := HDD.out (by rw [hk]; simp)
    have HD2 := Lib.hid (And.intro hdd hd2)
    have hlook := HP1.out.vc.look (x := d) HDB.out
    have y3 := H31.out.cell 0
    have y5 := H51.out.cell 0
    cases hS : S d with
    | some b =>
      rw [hS] at hlook
      simp only [Option.getD_some, Option.isSome_some] at hlook
      have HR : Hid (b = true → NoT H S c) := fun e => by subst e; exact noT_self hdd hd2.1 hS
      clear hdd hd2 hk hS
      go_wp2_with fail
      refine (HKd.out _).mono ?_
      rintro e w2 ⟨rfl, rfl⟩
      cases b with
      | true =>
        go_wp2_with fail
        go_ret
        exact ⟨true, S, n, rfl, HK1.out.to_ _, (fun _ => HR.out (by trivial)), (fun e => by cases e)⟩
      | false =>
        go_wp2_with fail
        go_ret
        exact ⟨false, S, n, rfl, HK1.out.to_ _, fun e => (by cases e), fun _ => ⟨HP1.out.vc, CycS.refl _ _ _⟩⟩
    | none =>
      rw [hS] at hlook
      simp only [Option.getD_none, Option.isSome_none] at hlook
      have hun := uns_put hd2.2.1 hS true
      have hb := HP1.out.bud
      obtain ⟨w2, hupd, hv2, k2⟩ := HP1.out.vc.put (x := d) (by omega) HDB.out true
      have HP2 := Lib.hid (HP1.out.next k2 hv2 (by omega))
      have h32 := H31.out.keep k2 (by simp; exact HNE.out.1)
      have h52 := H51.out.keep k2 (by simp; exact HNE.out.2)
      have H32 := Lib.hid h32
      have H52 := Lib.hid h52
      have z3 := h32.cell 0
      have HK2 := Lib.hid ((HK1.out.to_ [sb]).trans k2)
      have HUN := Lib.hid hun
      have HSn := Lib.hid hS
      have HPa := Lib.hid (parts_any HP2.out.hm HO.out d HDB.out.1 HDB.out.2 hd2.2.2)
      clear hdd hd2 hk hS hun hb hv2 k2 h32 h52
      go_wp2_with fail
      refine (HKd.out _).mono ?_
      rintro e w2 ⟨rfl, rfl⟩
      go_wp2_with fail
      refine HPa.out.mono ?_
      rintro e w3 ⟨A, c', rfl, hown, k3⟩
      have HOw := Lib.hid hown
      have HP3 := Lib.hid (HP2.out.keep k3)
      have HK3 := Lib.hid (HK2.out.trans (k3.to_ _))
      have H33 := Lib.hid (H32.out.keep k3 (by simp))
      have H53 := Lib.hid (H52.out.keep k3 (by simp))
      have hsb : sb < w2.heap.size := HP2.out.vc.lt
      have HCo := Lib.hid (cycK_any (IH (uns U (putB S d true)) HUN.out) HP3.out (Nat.le_refl _) H33.out H53.out HNE.out (partsP H d) (fun x hx => HPC.out x hx) A (partsP H d).length c' rfl (by have := parts_few HO.out d; omega) (Rd.of_own HOw.out) (fun b off e he => by
        subst e
        have hm : b ∈ ownL (.slice (some ⟨b, off, none⟩) (partsP H d).length c') := by simp [ownL, Value.ownBlock]
        have := (own_lt HOw.out hm).1
        omega))
      clear hown k3 hsb y3 y5 z3 hlook hupd HPa
      go_wp2_with fail
      refine HCo.out.mono ?_
      rintro e w4 ⟨r, rfl, k4, g1, g2⟩
      have HK4 := Lib.hid (HK3.out.trans k4)
      cases r with
      | true =>
        have HG := Lib.hid (g1 rfl)
        clear k4 g1 g2
        go_wp2_with fail
        go_ret
        refine ⟨true, S, n, rfl, HK4.out, fun _ => ?_, fun e => by cases e⟩
        obtain ⟨x, hx, hno⟩ := HG.out
        exact noT_up HD2.out.1 HD2.out.2.1 (by first | exact .inl HKk.out | exact .inr HKk.out) hx hno
      | false =>
        obtain ⟨S', n', hv4, hs4⟩ := g2 rfl
        have HS4 := Lib.hid hs4
        have hb4 := hs4.bud
        have hb5 := HP2.out.bud
        have y5 := (H53.out.keep k4 (by simp; exact HNE.out.2)).cell 0
        obtain ⟨w5, hupd, hv5, k5⟩ := hv4.put (x := d) (by omega) HDB.out false
        have HV5 := Lib.hid hv5
        have HK5 := Lib.hid (HK4.out.trans k5)
        clear k4 g1 g2 hv4 hs4 hb4 hb5 hv5 k5
        go_wp2_with fail
        go_ret
        exact ⟨false, putB S' d false, n' + 1, rfl, HK5.out, fun e => (by cases e), fun _ => ⟨HV5.out, cycS_done HD2.out.2.2.1 HSn.out HS4.out⟩⟩
  · by_cases hk3 : kindOf d = 3
    · have HKk := Lib.hid hk3
      clear hk
      have hk := hk3
      clear hk3
      rw [hk] at HKd
      obtain ⟨hdd, hd2⟩ := HDD.out (by rw [hk]; simp)
      have HD2 := Lib.hid (And.intro hdd hd2)
      have hlook := HP1.out.vc.look (x := d) HDB.out
      have y3 := H31.out.cell 0
      have y5 := H51.out.cell 0
      cases hS : S d with
      | some b =>
        rw [hS] at hlook
        simp only [Option.getD_some, Option.isSome_some] at hlook
        have HR : Hid (b = true → NoT H S c) := fun e => by subst e; exact noT_self hdd hd2.1 hS
        clear hdd hd2 hk hS
        go_wp2_with fail
        refine (HKd.out _).mono ?_
        rintro e w2 ⟨rfl, rfl⟩
        go_wp2_with fail
        refine (HKd.out _).mono ?_
        rintro e w2 ⟨rfl, rfl⟩
        cases b with
        | true =>
          go_wp2_with fail
          go_ret
          exact ⟨true, S, n, rfl, HK1.out.to_ _, (fun _ => HR.out (by trivial)), (fun e => by cases e)⟩
        | false =>
          go_wp2_with fail
          go_ret
          exact ⟨false, S, n, rfl, HK1.out.to_ _, fun e => (by cases e), fun _ => ⟨HP1.out.vc, CycS.refl _ _ _⟩⟩
      | none =>
        rw [hS] at hlook
        simp only [Option.getD_none, Option.isSome_none] at hlook
        have hun := uns_put hd2.2.1 hS true
        have hb := HP1.out.bud
        obtain ⟨w2, hupd, hv2, k2⟩ := HP1.out.vc.put (x := d) (by omega) HDB.out true
        have HP2 := Lib.hid (HP1.out.next k2 hv2 (by omega))
        have h32 := H31.out.keep k2 (by simp; exact HNE.out.1)
        have h52 := H51.out.keep k2 (by simp; exact HNE.out.2)
        have H32 := Lib.hid h32
        have H52 := Lib.hid h52
        have z3 := h32.cell 0
        have HK2 := Lib.hid ((HK1.out.to_ [sb]).trans k2)
        have HUN := Lib.hid hun
        have HSn := Lib.hid hS
        have HPa := Lib.hid (parts_any HP2.out.hm HO.out d HDB.out.1 HDB.out.2 hd2.2.2)
        clear hdd hd2 hk hS hun hb hv2 k2 h32 h52
        go_wp2_with fail
        refine (HKd.out _).mono ?_
        rintro e w2 ⟨rfl, rfl⟩
        go_wp2_with fail
        refine (HKd.out _).mono ?_
        rintro e w2 ⟨rfl, rfl⟩
        go_wp2_with fail
        refine HPa.out.mono ?_
        rintro e w3 ⟨A, c', rfl, hown, k3⟩
        have HOw := Lib.hid hown
        have HP3 := Lib.hid (HP2.out.keep k3)
        have HK3 := Lib.hid (HK2.out.trans (k3.to_ _))
        have H33 := Lib.hid (H32.out.keep k3 (by simp))
        have H53 := Lib.hid (H52.out.keep k3 (by simp))
        have hsb : sb < w2.heap.size := HP2.out.vc.lt
        have HCo := Lib.hid (cycK_any (IH (uns U (putB S d true)) HUN.out) HP3.out (Nat.le_refl _) H33.out H53.out HNE.out (partsP H d) (fun x hx => HPC.out x hx) A (partsP H d).length c' rfl (by have := parts_few HO.out d; omega) (Rd.of_own HOw.out) (fun b off e he => by
          subst e
          have hm : b ∈ ownL (.slice (some ⟨b, off, none⟩) (partsP H d).length c') := by simp [ownL, Value.ownBlock]
          have := (own_lt HOw.out hm).1
          omega))
        clear hown k3 hsb y3 y5 z3 hlook hupd HPa
        go_wp2_with fail
        refine HCo.out.mono ?_
        rintro e w4 ⟨r, rfl, k4, g1, g2⟩
        have HK4 := Lib.hid (HK3.out.trans k4)
        cases r with
        | true =>
          have HG := Lib.hid (g1 rfl)
          clear k4 g1 g2
          go_wp2_with fail
          go_ret
          refine ⟨true, S, n, rfl, HK4.out, fun _ => ?_, fun e => by cases e⟩
          obtain ⟨x, hx, hno⟩ := HG.out
          exact noT_up HD2.out.1 HD2.out.2.1 (by first | exact .inl HKk.out | exact .inr HKk.out) hx hno
        | false =>
          obtain ⟨S', n', hv4, hs4⟩ := g2 rfl
          have HS4 := Lib.hid hs4
          have hb4 := hs4.bud
          have hb5 := HP2.out.bud
          have y5 := (H53.out.keep k4 (by simp; exact HNE.out.2)).cell 0
          obtain ⟨w5, hupd, hv5, k5⟩ := hv4.put (x := d) (by omega) HDB.out false
          have HV5 := Lib.hid hv5
          have HK5 := Lib.hid (HK4.out.trans k5)
          clear k4 g1 g2 hv4 hs4 hb4 hb5 hv5 k5
          go_wp2_with fail
          go_ret
          exact ⟨false, putB S' d false, n' + 1, rfl, HK5.out, fun e => (by cases e), fun _ => ⟨HV5.out, cycS_done HD2.out.2.2.1 HSn.out HS4.out⟩⟩
    · have e1 : (kindOf d == 1) = false := by simpa using hk
      have e1' : (kindOf d != 1) = true := by simpa using hk
      have e3 : (kindOf d == 3) = false := by simpa using hk3
      have e3' : (kindOf d != 3) = true := by simpa using hk3
      clear hk hk3
      go_wp2_with fail
      refine (HKd.out _).mono ?_
      rintro e w2 ⟨rfl, rfl⟩
      go_wp2_with fail
      refine (HKd.out _).mono ?_
      rintro e w2 ⟨rfl, rfl⟩
      go_wp2_with fail
      go_ret
      exact ⟨false, S, n, rfl, HK1.out.to_ _, fun e => (by cases e), fun _ => ⟨HP1.out.vc, CycS.refl _ _ _⟩⟩
theorem cyclic_any (hu : Uok H U) (ho : HOk H) (m : Nat) : CallCyc base hb ag ah vb AA FA TA MA ca nt ct nm cm cf H tr mk room U m := by
  induction m using Nat.strongRecOn with
  | ind m ih => exact cyc_step hu ho ih
end
end Go.Proofs.YtnonfmaehfmigaaGreatDoor

/- The program's reading of a cell. Printed by gen_hpread.py. -/
namespace Go.Proofs.YtnonfmaehfmigaaGreatDoor
open Go.RowKit Go.Maps
/-- What is read: a tree, how many may come yet, what is wrong. -/
def RdD (w : World) (rb hb : Nat) (r : Tm × (Int × Int)) (e : Ending) (w' : World) : Prop :=
  ∃ v, e = .returned (tvV v) ∧ Tr w' (fun b => w.heap.size ≤ b) r.1 v ∧ Blk w' rb 82 #[.pointer (some ⟨hb, 0, none⟩), .int .i64 r.2.1, .int .i64 r.2.2] ∧ Keeps w w' [rb]
def zV : TV := ⟨0, 0, ⟨#[]⟩, none, 0, 0⟩
theorem tr_leaf (w : World) (S : Nat → Prop) (k n : Int) (s : ByteArray) (hs : s.size ≤ 9223372036854775807) : Tr w S (.mk k n s []) ⟨k, n, s, none, 0, 0⟩ :=
  .mk k n s [] none 0 [] rfl (fun i hi => by simp at hi) (fun b off e hne => absurd rfl hne) (fun _ => rfl) ⟨hs, by simp⟩ (fun j t v h => by simp at h)
theorem tr_zero (w : World) (S : Nat → Prop) : Tr w S tZ zV := tr_leaf w S 0 0 ⟨#[]⟩ (by decide)
/-- The result's block is written at the end. -/
theorem RdD.end4 {w wr : World} {rb hb g : Nat} {r : Tm × (Int × Int)} {v : TV} (h : Tr wr (fun b => w.heap.size ≤ b ∧ b ≠ g) r.1 v) (hB : Blk wr rb 82 #[.pointer (some ⟨hb, 0, none⟩), .int .i64 r.2.1, .int .i64 r.2.2]) (hk : Keeps w wr [rb]) (hg : w.heap.size ≤ g) (hr : rb < w.heap.size) (v0 v1 v2 v3 : Value) :
    RdD w rb hb r (.returned (tvV v)) ((((wr.setCell ⟨g, 0, none⟩ v0).setCell ⟨g, 1, none⟩ v1).setCell ⟨g, 2, none⟩ v2).setCell ⟨g, 3, none⟩ v3) := by
  have ks : Keeps wr ((((wr.setCell ⟨g, 0, none⟩ v0).setCell ⟨g, 1, none⟩ v1).setCell ⟨g, 2, none⟩ v2).setCell ⟨g, 3, none⟩ v3) [g] := (((((Keeps.refl wr [g]).setCell (.inl (by simp)) _).setCell (.inl (by simp)) _).setCell (.inl (by simp)) _).setCell (.inl (by simp)) _)
  exact ⟨v, rfl, (h.keepL ks (fun b hb h => h.2 (by simpa using hb))).mono fun b hb => hb.1, hB.keep ks (by simp; omega), ((((hk.setCell (.inr hg) _).setCell (.inr hg) _).setCell (.inr hg) _).setCell (.inr hg) _)⟩
/-- .. by what a callee made. -/
theorem RdD.up4 {w w1 wr : World} {rb hb g : Nat} {r : Tm × (Int × Int)} {v : TV} (h : Tr wr (fun b => w1.heap.size ≤ b) r.1 v) (hB : Blk wr rb 82 #[.pointer (some ⟨hb, 0, none⟩), .int .i64 r.2.1, .int .i64 r.2.2]) (hk : Keeps w wr [rb]) (hg : w.heap.size ≤ g) (hg1 : g < w1.heap.size) (hr : rb < w.heap.size) (v0 v1 v2 v3 : Value) :
    RdD w rb hb r (.returned (tvV v)) ((((wr.setCell ⟨g, 0, none⟩ v0).setCell ⟨g, 1, none⟩ v1).setCell ⟨g, 2, none⟩ v2).setCell ⟨g, 3, none⟩ v3) :=
  RdD.end4 (h.mono fun b hb => ⟨by omega, by omega⟩) hB hk hg hr v0 v1 v2 v3
set_option maxRecDepth 100000 in
set_option maxHeartbeats 1600000 in
theorem fail_any {w : World} {rb hb : Nat} {left : Int} (h : Blk w rb 82 #[.pointer (some ⟨hb, 0, none⟩), .int .i64 left, .int .i64 0]) (e : Int) :
    Calls Tryz.prog 68 #[.pointer (some ⟨rb, 0, none⟩), .int .i64 e] w (RdD w rb hb (tZ, (left, e))) := by
  have hlt := h.lt
  have hB0 := h.alloc (.cells #[.int .i64 0, .int .i64 0, .string ⟨#[]⟩, .slice none 0 0] 40)
  have hG0 : Blk (w.alloc (.cells #[.int .i64 0, .int .i64 0, .string ⟨#[]⟩, .slice none 0 0] 40)) w.heap.size 40 #[.int .i64 0, .int .i64 0, .string ⟨#[]⟩, .slice none 0 0] := Blk.new _ _ _
  have hK0 : Keeps w (w.alloc (.cells #[.int .i64 0, .int .i64 0, .string ⟨#[]⟩, .slice none 0 0] 40)) [rb] := (Keeps.refl w [rb]).alloc _
  have HB0 := Lib.hid hB0
  have HG := Lib.hid hG0
  have HK0 := Lib.hid hK0
  have hne : w.heap.size ≠ rb := by omega
  have hne' : rb ≠ w.heap.size := by omega
  have x2 := hB0.cell 2
  have y2 := hB0.frozen 2
  clear h hB0 hG0 hK0
  go_enter Tryz.func68, Tryz.ntmps68
  go_upto_region 1 with fail
  generalize (w.alloc (.cells #[.int .i64 0, .int .i64 0, .string ⟨#[]⟩, .slice none 0 0] 40)) = w0 at HB0 HG HK0 x2 y2 ⊢
  have HP : Hid (∀ v0 v1 v2 v3, RdD w rb hb (tZ, (left, e)) (.returned (tvV zV)) (((((w0.setCell ⟨rb, 2, none⟩ (.int .i64 e)).setCell ⟨w.heap.size, 0, none⟩ v0).setCell ⟨w.heap.size, 1, none⟩ v1).setCell ⟨w.heap.size, 2, none⟩ v2).setCell ⟨w.heap.size, 3, none⟩ v3)) := fun v0 v1 v2 v3 =>
    RdD.end4 (tr_zero _ _) (by have := HB0.out.set_ 2 (.int .i64 e); simpa using this) (HK0.out.setCell (.inl (by simp)) _) (Nat.le_refl _) hlt v0 v1 v2 v3
  clear HB0 HK0
  have r0 := HG.out.cell 0
  have r1 := HG.out.cell 1
  have r2 := HG.out.cell 2
  have r3 := HG.out.cell 3
  have f0 := HG.out.frozen 0
  have f1 := HG.out.frozen 1
  have f2 := HG.out.frozen 2
  have f3 := HG.out.frozen 3
  go_wp2_with fail
  exact bodyPost_ret (v := .agg #[.int .i64 0, .int .i64 0, .string ⟨#[]⟩, .slice none 0 0]) (by simp [results, Tryz.results68, go_sem, *]) rfl (HP.out _ _ _ _)
end Go.Proofs.YtnonfmaehfmigaaGreatDoor

/- The program's reading of a compound cell. Printed by gen_hpreadb.py. -/
namespace Go.Proofs.YtnonfmaehfmigaaGreatDoor
open Go.RowKit Go.Maps
theorem row_blk {w : World} {base n c : Nat} {e : TypeId} {A : Option Addr} {xs : List Value} (h : w.ownsRow base e 1 (.slice A n c) n xs) (hn : 0 < n) : ∃ g cur, A = some ⟨g, 0, none⟩ ∧ base ≤ g ∧ Blk w g e cur ∧ ∀ (j : Nat) v, xs[j]? = some v → cur[j]? = some v := by
  rcases h.2 with ⟨h2, h3⟩ | ⟨g, cap, cur, he, hb, hB, _, _, _, ht⟩
  · omega
  · injection he with h1 h2 h3
    subst h1
    refine ⟨g, cur, rfl, hb, hB, fun j v hv => ?_⟩
    rw [← ht, List.getElem?_take] at hv
    split at hv
    · rw [← Array.getElem?_toList]; exact hv
    · cases hv
section
variable {base hb ag ah vb : Nat} {AA FA TA MA : Option Addr} {ca nt ct nm cm cf : Nat} {H : PH} {tr : List Int} {mk : List (Int × Int)} {room : Nat}
def CallRd (base hb ag ah vb : Nat) (AA FA TA MA : Option Addr) (ca nt ct nm cm cf : Nat) (H : PH) (tr : List Int) (mk : List (Int × Int)) (room f : Nat) : Prop :=
  ∀ (w : World) (rb : Nat) (c : Int) (s : Int × Int), Hm w base hb ag ah vb AA FA TA MA ca nt ct nm cm cf H tr mk room → rb ∉ hpL hb ag ah vb AA FA TA MA → Blk w rb 82 #[.pointer (some ⟨hb, 0, none⟩), .int .i64 s.1, .int .i64 s.2] → (s.2 = 0 → 0 ≤ s.1) → s.1 < f → -1000000000000 ≤ s.1 → 0 ≤ c → c < 18446744073709551616 → right c = true →
    Calls Tryz.prog 34 #[.pointer (some ⟨rb, 0, none⟩), .int .u64 c] w (RdD w rb hb (rd H f c s))
set_option maxRecDepth 100000 in
set_option maxHeartbeats 3200000 in
theorem cpd3_any (ho : HOk H) {f : Nat} (hf : f ≤ 100000) (hC : CallRd base hb ag ah vb AA FA TA MA ca nt ct nm cm cf H tr mk room f) {w : World} {rb : Nat} {d k : Int} (hm : Hm w base hb ag ah vb AA FA TA MA ca nt ct nm cm cf H tr mk room) (hout : rb ∉ hpL hb ag ah vb AA FA TA MA) (hbl : Blk w rb 82 #[.pointer (some ⟨hb, 0, none⟩), .int .i64 k, .int .i64 0]) (hk0 : 0 ≤ k) (hkf : k < f) (h0 : 0 ≤ d) (h1 : d < 18446744073709551616) (hr : right d = true) (hk : kindOf d = 3) : Calls Tryz.prog 69 #[.pointer (some ⟨rb, 0, none⟩), .int .u64 d] w (RdD w rb hb (.mk 3 0 ⟨#[]⟩ (rdL (rd H f) (partsP H d) ([], (k, 0))).1, (rdL (rd H f) (partsP H d) ([], (k, 0))).2)) := by
  have hl2 : (partsP H d).length = 2 := by unfold partsP; rw [if_neg (by omega)]; rfl
  have hlt := hbl.lt
  have hbb := hm.ar.bytes
  have HPC : Hid (∀ x ∈ partsP H d, 0 ≤ x ∧ x < 18446744073709551616 ∧ right x = true) := parts_cell ho hbb d
  have hfew := parts_few ho d
  have HLow : Hid (∀ j, j ≤ (partsP H d).length → ((rdL (rd H f) ((partsP H d).take j) ([], (k, 0))).1.length = j ∧ ((rdL (rd H f) ((partsP H d).take j) ([], (k, 0))).2.2 = 0 → 0 ≤ (rdL (rd H f) ((partsP H d).take j) ([], (k, 0))).2.1) ∧ -2 - 1002 * (f : Int) - (j : Int) ≤ (rdL (rd H f) ((partsP H d).take j) ([], (k, 0))).2.1 ∧ (rdL (rd H f) ((partsP H d).take j) ([], (k, 0))).2.1 ≤ k)) := fun j hj =>
    rdL_low (rd_low ho f) k hk0 hkf j _ (by rw [List.length_take]; omega)
  have HHm : Hid (∀ W, Keeps w W [rb] → Hm W base hb ag ah vb AA FA TA MA ca nt ct nm cm cf H tr mk room) := fun W kk => hm.keep kk (fun b hb' => by simp at hb'; subst hb'; exact hout)
  have HOut := Lib.hid hout
  have hK0 : Keeps w ((w.alloc (.cells #[.int .i64 0, .int .i64 0, .string ⟨#[]⟩, .slice none 0 0] 40)).alloc (.cells #[.int .i64 3, .int .i64 0, .string ⟨#[]⟩, .slice none 0 0] 40)) [] := ((Keeps.refl w []).alloc _).alloc _
  have hG0 : Blk ((w.alloc (.cells #[.int .i64 0, .int .i64 0, .string ⟨#[]⟩, .slice none 0 0] 40)).alloc (.cells #[.int .i64 3, .int .i64 0, .string ⟨#[]⟩, .slice none 0 0] 40)) w.heap.size 40 #[.int .i64 0, .int .i64 0, .string ⟨#[]⟩, .slice none 0 0] := (Blk.new _ _ _).alloc _
  have hT0 : Blk ((w.alloc (.cells #[.int .i64 0, .int .i64 0, .string ⟨#[]⟩, .slice none 0 0] 40)).alloc (.cells #[.int .i64 3, .int .i64 0, .string ⟨#[]⟩, .slice none 0 0] 40)) (w.heap.size + 1) 40 #[.int .i64 3, .int .i64 0, .string ⟨#[]⟩, .slice none 0 0] := Blk.newAt _ _ (by simp)
  have HK0 := Lib.hid hK0
  have HG0 := Lib.hid hG0
  have HT0 := Lib.hid hT0
  have HB0 := Lib.hid (hbl.keep hK0 (by simp))
  have HO := Lib.hid ho
  have HKd := Lib.hid (fun W => kind_any d W h0 h1)
  rw [hk] at HKd
  obtain ⟨m, hmm⟩ : ∃ m, (partsP H d).length = m := ⟨_, rfl⟩
  have HM := Lib.hid hmm
  have HPa := Lib.hid (parts_any (HHm.out _ (hK0.to_ _)) ho d h0 h1 hr)
  unfold RowD at HPa
  rw [hmm] at HPa HLow hfew
  rw [hmm] at hl2
  clear hm hk hbb hK0 hG0 hT0 hbl hout ho hmm h0 h1 hr
  go_enter Tryz.func69, Tryz.ntmps69
  go_upto_region 2 with fail
  generalize ((w.alloc (.cells #[.int .i64 0, .int .i64 0, .string ⟨#[]⟩, .slice none 0 0] 40)).alloc (.cells #[.int .i64 3, .int .i64 0, .string ⟨#[]⟩, .slice none 0 0] 40)) = w0 at HK0 HG0 HT0 HB0 HPa ⊢
  have x0 := HB0.out.cell 0
  go_wp2_with fail
  refine HPa.out.mono ?_
  rintro e w1 ⟨A, c1, rfl, hown, k1⟩
  have HOw := Lib.hid hown
  have HK1 := Lib.hid (HK0.out.trans k1)
  have HB1 := Lib.hid (HB0.out.keep k1 (by simp))
  have HG1 := Lib.hid (HG0.out.keep k1 (by simp))
  have HT1 := Lib.hid (HT0.out.keep k1 (by simp))
  have HZ := Lib.hid HK0.out.size
  clear hown k1 x0 HPa
  go_wp2_with fail
  refine (HKd.out _).mono ?_
  rintro e w2 ⟨rfl, rfl⟩
  obtain ⟨pb, cur, rfl, hpb, hPB, hcur⟩ := row_blk HOw.out (by omega)
  have hw0 := HZ.out
  have hpbn : w.heap.size + 1 < w0.heap.size := HT0.out.lt
  have HST : Hid (TSt 40 (fun b => w.heap.size ≤ b) w w1 [rb] [(w.heap.size, 40, #[.int .i64 0, .int .i64 0, .string ⟨#[]⟩, .slice none 0 0]), (pb, 28, cur)] (w.heap.size + 1) 3 0 ⟨#[]⟩ [] [] none 0 0) := TSt.start (by
    intro y hy
    simp only [List.mem_cons, List.not_mem_nil, or_false] at hy
    rcases hy with rfl | rfl
    · exact ⟨HG1.out, by show w.heap.size ≠ _; omega⟩
    · exact ⟨hPB, by show pb ≠ _; omega⟩) (HT1.out) (HK1.out.to_ _) (by omega) (fun b h => h) (by decide)
  have HBl : Hid (Blk w1 rb 82 #[.pointer (some ⟨hb, 0, none⟩), .int .i64 k, .int .i64 0]) := HB1.out
  have HRow : Hid (∀ (j : Nat) x, (partsP H d)[j]? = some x → cur[j]? = some (.int .u64 x)) := fun j x hx => hcur j _ (by rw [List.getElem?_map, hx]; rfl)
  have HFr : Hid (∀ y ∈ [(w.heap.size, 40, #[.int .i64 0, .int .i64 0, .string ⟨#[]⟩, .slice none 0 0]), (pb, 28, cur)], y.1 ∉ [rb]) := by
    intro y hy
    simp only [List.mem_cons, List.not_mem_nil, or_false] at hy ⊢
    rcases hy with rfl | rfl
    · show w.heap.size ≠ rb; omega
    · show pb ≠ rb; omega
  clear hcur hPB
  go_upto_region 8 with fail
  go_wp2_with fail
  have hcell : ∀ (j : Nat) (x : Int), (partsP H d)[j]? = some x → cur[j]? = some (Value.int .u64 x) := HRow.out
  go_loopw [10, 55] (fun x10 x55 wr => ∃ (j : Nat) (A2 : Option Addr) (c2 : Nat) (us : List TV), j ≤ m ∧ x55 = .int .i64 j ∧ TSt 40 (fun b => w.heap.size ≤ b) w wr [rb] [(w.heap.size, 40, #[.int .i64 0, .int .i64 0, .string ⟨#[]⟩, .slice none 0 0]), (pb, 28, cur)] (w.heap.size + 1) 3 0 ⟨#[]⟩ (rdL (rd H f) ((partsP H d).take j) ([], (k, 0))).1 us A2 j c2 ∧ Blk wr rb 82 #[.pointer (some ⟨hb, 0, none⟩), .int .i64 (rdL (rd H f) ((partsP H d).take j) ([], (k, 0))).2.1, .int .i64 (rdL (rd H f) ((partsP H d).take j) ([], (k, 0))).2.2]) (fun _ i _ => m - (intOf i).toNat)
  case atStart => exact ⟨0, none, 0, [], Nat.zero_le _, rfl, by rw [List.take_zero]; exact HST.out, by rw [List.take_zero]; exact HBl.out⟩
  case round =>
    obtain ⟨j, A2, c2, us, hj, rfl, st, hbl⟩ := hrel
    have HS := Lib.hid st
    have HBL := Lib.hid hbl
    have e1 := (st.fix (pb, 28, cur) (by simp)).1.cell j
    clear st hbl
    by_cases hlt : j < m
    · obtain ⟨x, hx⟩ := at_of HM.out hlt
      rw [hcell j x hx] at e1
      have HX := Lib.hid hx
      obtain ⟨g1, g2, g3, g4⟩ := HLow.out j (by omega)
      obtain ⟨q, hq⟩ : ∃ q, rdL (rd H f) ((partsP H d).take j) ([], (k, 0)) = q := ⟨_, rfl⟩
      rw [hq] at g1 g2 g3 g4
      have HQ := Lib.hid hq
      rw [hq] at HS HBL
      have hpc := HPC.out x (List.mem_of_getElem? hx)
      have HC : Hid (∀ W, Keeps wr W [] → Calls Tryz.prog 34 #[.pointer (some ⟨rb, 0, none⟩), .int .u64 x] W (RdD W rb hb (rd H f x q.2))) := fun W kk =>
        hC W rb x q.2 (HHm.out _ (HS.out.keep.trans (kk.to_ _))) HOut.out (HBL.out.keep kk (by simp)) g2 (by omega) (by omega) hpc.1 hpc.2.1 hpc.2.2
      have HW : Hid (∀ W', Keeps wr W' (rb :: ownL (.slice A2 j c2)) → W'.frozen? ⟨w.heap.size + 1, 3, none⟩ = false ∧ W'.cell? ⟨w.heap.size + 1, 3, none⟩ = some (.slice A2 j c2)) := fun W' kk =>
        have hn : w.heap.size + 1 ∉ rb :: ownL (.slice A2 j c2) := by
          simp only [List.mem_cons, not_or]
          exact ⟨by omega, HS.out.low.2.1⟩
        ⟨(HS.out.out.keep kk hn).frozen 3, (HS.out.out.keep kk hn).cell 3⟩
      obtain ⟨q0, q1⟩ := HW.out wr (Keeps.refl _ _)
      have b0 : (0 : Int) ≤ (j : Int) := Int.natCast_nonneg _
      have b1 : (j : Int) < (m : Int) := by omega
      clear g1 g2 g3 g4 hpc hx hq hcell
      go_upto_region 11 with fail
      refine wp_region_tx (fun W' => W'.frozen? ⟨w.heap.size + 1, 3, none⟩ = false ∧ W'.cell? ⟨w.heap.size + 1, 3, none⟩ = some (.slice A2 j c2)) [(0, true), (1, true), (2, true), (3, true), (4, false), (5, false), (6, false), (7, true), (8, false)] (by kernel_rfl) (by kernel_rfl) (HW.out _ ((Keeps.refl _ _).drew)) (fun hHeld => ?_)
      (repeat (first | (refine wpTx_take (v := ?_) rfl (by assumption) ?_ (by rfl) ?_; rotate_left; (focus (intro w' hSw; (try dsimp only at hSw); go_simp; (try with_reducible rfl); done)); simp only [Act.put, List.setIfInBounds_toArray, List.set_cons_zero, List.set_cons_succ]) | (refine wpTx_skip rfl (by assumption) (by rfl) ?_; simp only [Act.put, List.setIfInBounds_toArray, List.set_cons_zero, List.set_cons_succ])))
      refine wpTx_go rfl (fun K hK => ?_)
      go_simp
      refine (HC.out _ (Keeps.refl _ _).drew).mono ?_
      rintro e w3 ⟨u, rfl, hu, hb3, k3⟩
      have HU : Hid (Tr w3 (fun b => wr.heap.size ≤ b) (rd H f x q.2).1 u) := hu
      have HB3 := Lib.hid hb3
      have HK3 : Hid (Keeps wr w3 [rb]) := Keeps.trans ((Keeps.refl wr [rb]).drew) k3
      unfold tvV
      clear hu hb3 k3
      refine hK.out _ _ ?_ ?_
      · exact HW.out _ (HK3.out.more (fun b _ hb => List.mem_cons.2 (.inl (by simpa using hb))))
      (clear hHeld; intro hHeld; clear hK K; (try simp only [Act.put, List.setIfInBounds_toArray, List.set_cons_zero, List.set_cons_succ]))
      refine wpTx_go rfl (fun K hK => ?_)
      go_simp
      refine hK.out _ _ ?_ ?_
      · exact HW.out _ ((HK3.out.alloc _).more (fun b _ hb => List.mem_cons.2 (.inl (by simpa using hb))))
      (clear hHeld; intro hHeld; clear hK K; (try simp only [Act.put, List.setIfInBounds_toArray, List.set_cons_zero, List.set_cons_succ]))
      refine wpTx_go rfl (fun K hK => ?_)
      have hst3 := HS.out.keepL HK3.out (by simp; omega) HFr.out (by simp; omega)
      have hfr := (HS.out.fresh HU.out).keep ((Keeps.refl w3 []).alloc (.cells (tvE u).toArray 40))
      have HST3 := Lib.hid hst3
      have HFR := Lib.hid hfr
      refine step_app _ el_pterm (by rfl) _ _ (by rfl) w.heap.size A2 j c2 (us.flatMap tvE) (by rfl) (own_keep0 hst3.row ((Keeps.refl w3 []).alloc _)) (some ⟨w3.heap.size, 0, none⟩) 1 1 (tvE u) (by rfl) (Rd.one w3 _ (tvE u)) rfl (by simp) (by simp [tvE, Value.oneCell']) (by omega) (by simp; have := HS.out.keep.size; have := HK3.out.size; omega) ?_
      intro A' c' w2 hown hgrow hat
      have HSt := Lib.hid (HST3.out.step ((Keeps.refl w3 []).alloc _) HFR.out hown hgrow hat)
      have HBf : Hid (∀ u', Blk (w2.setCell ⟨w.heap.size + 1, 3, none⟩ u') rb 82 #[.pointer (some ⟨hb, 0, none⟩), .int .i64 (rd H f x q.2).2.1, .int .i64 (rd H f x q.2).2.2]) := fun u' =>
        ((HB3.out.alloc _).grown hgrow (fun e => by
          have hm : rb ∈ ownL (.slice A2 j c2) := by unfold ownL; rw [← e]; simp
          have := (own_lt HS.out.row hm).1
          omega)).far (by show rb ≠ w.heap.size + 1; omega) u'
      refine hK.out _ _ ?_ ?_
      · exact HW.out _ (((HK3.out.alloc _).more (fun b _ hb => List.mem_cons.2 (.inl (by simpa using hb)))).trans ((Keeps.ofGrown hgrow).more (fun b _ hb => List.mem_cons.2 (.inr hb))))
      (clear hHeld; intro hHeld; clear hK K; (try simp only [Act.put, List.setIfInBounds_toArray, List.set_cons_zero, List.set_cons_succ]))
      (repeat (first | (refine wpTx_take (v := ?_) rfl (by assumption) ?_ (by rfl) ?_; rotate_left; (focus (intro w' hSw; (try dsimp only at hSw); go_simp; (try with_reducible rfl); done)); simp only [Act.put, List.setIfInBounds_toArray, List.set_cons_zero, List.set_cons_succ]) | (refine wpTx_skip rfl (by assumption) (by rfl) ?_; simp only [Act.put, List.setIfInBounds_toArray, List.set_cons_zero, List.set_cons_succ])))
      refine wpTx_last rfl (fun K hK => ?_)
      go_simp
      refine hK.out _ _ (NoPanic.normal ?_); clear hK K; (try simp only [Act.put, List.setIfInBounds_toArray, List.set_cons_zero, List.set_cons_succ])
      go_wp2_with fail
      go_roundw
      case rel => exact ⟨j + 1, A', c', us ++ [u], by omega, by go_num, by rw [List.take_add_one, HX.out, Option.toList_some, rdL_snoc, HQ.out]; exact HSt.out, by rw [List.take_add_one, HX.out, Option.toList_some, rdL_snoc, HQ.out]; exact HBf.out _⟩
      case measure => simp [intOf]; omega
    · obtain rfl : m = j := by omega
      have htk : (partsP H d).take m = partsP H d := List.take_of_length_le (by rw [HM.out]; omega)
      rw [htk] at HS HBL
      have hd := HS.out.done (by omega)
      have hr := (HS.out.fix (w.heap.size, 40, #[.int .i64 0, .int .i64 0, .string ⟨#[]⟩, .slice none 0 0]) (by simp)).1
      have d0 := HS.out.out.cell 0
      have d1 := HS.out.out.cell 1
      have d2 := HS.out.out.cell 2
      have d3 := HS.out.out.cell 3
      have r0 := hr.cell 0
      have r1 := hr.cell 1
      have r2 := hr.cell 2
      have r3 := hr.cell 3
      have f0 := hr.frozen 0
      have f1 := hr.frozen 1
      have f2 := hr.frozen 2
      have f3 := hr.frozen 3
      have HD : Hid (∀ v0 v1 v2 v3, RdD w rb hb (.mk 3 0 ⟨#[]⟩ (rdL (rd H f) (partsP H d) ([], (k, 0))).1, (rdL (rd H f) (partsP H d) ([], (k, 0))).2) (.returned (tvV ⟨3, 0, ⟨#[]⟩, A2, m, c2⟩)) ((((wr.setCell ⟨w.heap.size, 0, none⟩ v0).setCell ⟨w.heap.size, 1, none⟩ v1).setCell ⟨w.heap.size, 2, none⟩ v2).setCell ⟨w.heap.size, 3, none⟩ v3)) := fun v0 v1 v2 v3 =>
        RdD.end4 (hd.mono fun b hb => ⟨hb.1, hb.2.2 (w.heap.size, 40, #[.int .i64 0, .int .i64 0, .string ⟨#[]⟩, .slice none 0 0]) (by simp)⟩) HBL.out HS.out.keep (Nat.le_refl _) (by omega) v0 v1 v2 v3
      clear hd hr hlt hj e1 htk hcell
      go_wp2_with fail
      exact bodyPost_ret (v := .agg #[.int .i64 3, .int .i64 0, .string ⟨#[]⟩, .slice A2 m c2]) (by simp [results, Tryz.results69, go_sem, *]) rfl (HD.out _ _ _ _)
set_option maxRecDepth 100000 in
set_option maxHeartbeats 3200000 in
theorem cpd0_any (ho : HOk H) {f : Nat} {w : World} {rb : Nat} {d k : Int} (hm : Hm w base hb ag ah vb AA FA TA MA ca nt ct nm cm cf H tr mk room) (hout : rb ∉ hpL hb ag ah vb AA FA TA MA) (hbl : Blk w rb 82 #[.pointer (some ⟨hb, 0, none⟩), .int .i64 k, .int .i64 0]) (hk0 : 0 ≤ k) (hkf : k < f) (h0 : 0 ≤ d) (h1 : d < 18446744073709551616) (hr : right d = true) (hk : kindOf d = 1) (hnil : partsP H d = []) : Calls Tryz.prog 69 #[.pointer (some ⟨rb, 0, none⟩), .int .u64 d] w (RdD w rb hb (tZ, (k, 1))) := by
  obtain ⟨p, hp⟩ := Int.eq_ofNat_of_zero_le (num_nn h0 hr)
  have hlt := hbl.lt
  have hbb := hm.ar.bytes
  have HPC : Hid (∀ x ∈ partsP H d, 0 ≤ x ∧ x < 18446744073709551616 ∧ right x = true) := parts_cell ho hbb d
  have hfew := parts_few ho d
  have HLow : Hid (∀ j, j ≤ (partsP H d).length → ((rdL (rd H f) ((partsP H d).take j) ([], (k, 0))).1.length = j ∧ ((rdL (rd H f) ((partsP H d).take j) ([], (k, 0))).2.2 = 0 → 0 ≤ (rdL (rd H f) ((partsP H d).take j) ([], (k, 0))).2.1) ∧ -2 - 1002 * (f : Int) - (j : Int) ≤ (rdL (rd H f) ((partsP H d).take j) ([], (k, 0))).2.1 ∧ (rdL (rd H f) ((partsP H d).take j) ([], (k, 0))).2.1 ≤ k)) := fun j hj =>
    rdL_low (rd_low ho f) k hk0 hkf j _ (by rw [List.length_take]; omega)
  have HHm : Hid (∀ W, Keeps w W [rb] → Hm W base hb ag ah vb AA FA TA MA ca nt ct nm cm cf H tr mk room) := fun W kk => hm.keep kk (fun b hb' => by simp at hb'; subst hb'; exact hout)
  have HOut := Lib.hid hout
  have hK0 : Keeps w ((w.alloc (.cells #[.int .i64 0, .int .i64 0, .string ⟨#[]⟩, .slice none 0 0] 40)).alloc (.cells #[.int .i64 3, .int .i64 0, .string ⟨#[]⟩, .slice none 0 0] 40)) [] := ((Keeps.refl w []).alloc _).alloc _
  have hG0 : Blk ((w.alloc (.cells #[.int .i64 0, .int .i64 0, .string ⟨#[]⟩, .slice none 0 0] 40)).alloc (.cells #[.int .i64 3, .int .i64 0, .string ⟨#[]⟩, .slice none 0 0] 40)) w.heap.size 40 #[.int .i64 0, .int .i64 0, .string ⟨#[]⟩, .slice none 0 0] := (Blk.new _ _ _).alloc _
  have hT0 : Blk ((w.alloc (.cells #[.int .i64 0, .int .i64 0, .string ⟨#[]⟩, .slice none 0 0] 40)).alloc (.cells #[.int .i64 3, .int .i64 0, .string ⟨#[]⟩, .slice none 0 0] 40)) (w.heap.size + 1) 40 #[.int .i64 3, .int .i64 0, .string ⟨#[]⟩, .slice none 0 0] := Blk.newAt _ _ (by simp)
  have HK0 := Lib.hid hK0
  have HGB0 := Lib.hid hG0
  have HT0 := Lib.hid hT0
  have HB0 := Lib.hid (hbl.keep hK0 (by simp))
  have HO := Lib.hid ho
  have HKd := Lib.hid (fun W => kind_any d W h0 h1)
  rw [hk] at HKd
  obtain ⟨m, hmm⟩ : ∃ m, (partsP H d).length = m := ⟨_, rfl⟩
  have HM := Lib.hid hmm
  have HPa := Lib.hid (parts_any (HHm.out _ (hK0.to_ _)) ho d h0 h1 hr)
  unfold RowD at HPa
  rw [hmm] at HPa HLow hfew
  have HNu := Lib.hid (fun W => number_any d W h0 h1)
  rw [hp] at HNu
  have HG0 : Hid (∀ W, Keeps w W [rb] → Calls Tryz.prog 70 #[.pointer (some ⟨ag, 0, none⟩), .int .i64 p] W fun e w' => e = .returned (.tuple #[.int .u64 ((H.cells[p]?).getD 0), .bool (H.cells[p]?).isSome]) ∧ W = w') := fun W kk => get_at (HHm.out W kk).ar p
  generalize (H.cells[p]?).isSome = bx at HG0
  generalize (H.cells[p]?).getD 0 = F at HG0
  rw [hnil] at hmm
  subst hmm
  clear hm hk hbb hK0 hG0 hT0 hbl hout ho h0 h1 hr hnil HLow hfew
  go_enter Tryz.func69, Tryz.ntmps69
  go_upto_region 2 with fail
  generalize ((w.alloc (.cells #[.int .i64 0, .int .i64 0, .string ⟨#[]⟩, .slice none 0 0] 40)).alloc (.cells #[.int .i64 3, .int .i64 0, .string ⟨#[]⟩, .slice none 0 0] 40)) = w0 at HK0 HGB0 HT0 HB0 HPa ⊢
  have x0 := HB0.out.cell 0
  go_wp2_with fail
  refine HPa.out.mono ?_
  rintro e w1 ⟨A, c1, rfl, hown, k1⟩
  have HOw := Lib.hid hown
  have HK1 := Lib.hid (HK0.out.trans k1)
  have HB1 := Lib.hid (HB0.out.keep k1 (by simp))
  have HG1 := Lib.hid (HGB0.out.keep k1 (by simp))
  have HT1 := Lib.hid (HT0.out.keep k1 (by simp))
  have HZ := Lib.hid HK0.out.size
  clear hown k1 x0 HPa
  go_wp2_with fail
  refine (HKd.out _).mono ?_
  rintro e w2 ⟨rfl, rfl⟩
  have HG : Hid (∀ W, Keeps w1 W [] → _) := fun W kk => HG0.out W ((HK1.out.trans kk).to_ _)
  have HFa := Lib.hid (fun W (kk : Keeps w1 W []) => fail_any (HB1.out.keep kk (by simp)) 1)
  go_upto_region 4 with fail
  have HS4 : Hid (∀ W, Keeps w1 W [] → (W.cell? ⟨rb, 0, none⟩ = some (.pointer (some ⟨hb, 0, none⟩)) ∧ W.cell? ⟨hb, 0, none⟩ = some (.pointer (some ⟨ag, 0, none⟩)))) := fun W kk =>
    ⟨(HB1.out.keep kk (by simp)).cell 0, (HHm.out W ((HK1.out.trans kk).to_ _)).blk.cell 0⟩
  refine wp_region_th (fun W' => W'.cell? ⟨rb, 0, none⟩ = some (.pointer (some ⟨hb, 0, none⟩)) ∧ W'.cell? ⟨hb, 0, none⟩ = some (.pointer (some ⟨ag, 0, none⟩))) 13 [12] [(0, true), (1, true), (2, true), (3, true), (4, true), (5, true), (6, true), (7, true), (8, false), (9, false), (10, true), (11, true), (12, true), (13, false), (14, false)] (by kernel_rfl) (by kernel_rfl) (HS4.out _ (Keeps.refl _ _).drew) (fun hHeld => ?_)
  (repeat (first | (refine wpTh_take (v := ?_) rfl (by rfl) (by assumption) ?_ (by rfl) ?_; rotate_left; (focus (intro w' hSw; (try dsimp only at hSw); go_simp; (try with_reducible rfl); done)); simp only [Act.put, List.setIfInBounds_toArray, List.set_cons_zero, List.set_cons_succ]) | (refine wpTh_pure (v := ?_) rfl (by rfl) (by assumption) ?_ (by rfl) ?_; rotate_left; (focus (intro w'; go_simp; (try with_reducible rfl); done)); simp only [Act.put, List.setIfInBounds_toArray, List.set_cons_zero, List.set_cons_succ])))
  refine wpTh_go rfl (fun K hK => ?_)
  go_simp
  refine (HNu.out _).mono ?_
  rintro e w3 ⟨rfl, rfl⟩
  refine hK.out _ _ ?_ ?_
  · exact HS4.out _ (Keeps.refl _ _).drew
  (clear hHeld; intro hHeld; clear hK K; (try simp only [Act.put, List.setIfInBounds_toArray, List.set_cons_zero, List.set_cons_succ]))
  (repeat (first | (refine wpTh_take (v := ?_) rfl (by rfl) (by assumption) ?_ (by rfl) ?_; rotate_left; (focus (intro w' hSw; (try dsimp only at hSw); go_simp; (try with_reducible rfl); done)); simp only [Act.put, List.setIfInBounds_toArray, List.set_cons_zero, List.set_cons_succ]) | (refine wpTh_pure (v := ?_) rfl (by rfl) (by assumption) ?_ (by rfl) ?_; rotate_left; (focus (intro w'; go_simp; (try with_reducible rfl); done)); simp only [Act.put, List.setIfInBounds_toArray, List.set_cons_zero, List.set_cons_succ])))
  refine wpTh_go rfl (fun K hK => ?_)
  go_simp
  refine (HG.out _ (Keeps.refl _ _).drew).mono ?_
  rintro e w4 ⟨rfl, rfl⟩
  refine hK.out _ _ ?_ ?_
  · exact HS4.out _ (Keeps.refl _ _).drew
  (clear hHeld; intro hHeld; clear hK K; (try simp only [Act.put, List.setIfInBounds_toArray, List.set_cons_zero, List.set_cons_succ]))
  (repeat (first | (refine wpTh_take (v := ?_) rfl (by rfl) (by assumption) ?_ (by rfl) ?_; rotate_left; (focus (intro w' hSw; (try dsimp only at hSw); go_simp; (try with_reducible rfl); done)); simp only [Act.put, List.setIfInBounds_toArray, List.set_cons_zero, List.set_cons_succ]) | (refine wpTh_pure (v := ?_) rfl (by rfl) (by assumption) ?_ (by rfl) ?_; rotate_left; (focus (intro w'; go_simp; (try with_reducible rfl); done)); simp only [Act.put, List.setIfInBounds_toArray, List.set_cons_zero, List.set_cons_succ])))
  refine wpTh_tail rfl (by decide) (fun K hK => ?_)
  go_simp
  refine hK.out _ _ ?_; clear hK K; (try simp only [Act.put, List.setIfInBounds_toArray, List.set_cons_zero, List.set_cons_succ])
  refine wpTh_last rfl (by decide) (fun K hK => ?_)
  go_simp
  refine hK.out _ _ (NoPanic.normal ?_)
  clear hK K hHeld
  go_wp2_with fail
  refine (HFa.out _ (Keeps.refl _ _).drew).mono ?_
  rintro e w3 ⟨u, rfl, hu, hb3, k3⟩
  obtain ⟨k_, n_, s_, A_, m_, c_⟩ := u
  have hK3 := ((HK1.out.to_ [rb]).trans ((Keeps.refl w1 [rb]).drew)).trans k3
  have HG3 := (HG1.out.drew).keep k3 (by simp; omega)
  have HD : Hid (∀ v0 v1 v2 v3, RdD w rb hb (tZ, (k, 1)) (.returned (tvV ⟨k_, n_, s_, A_, m_, c_⟩)) ((((w3.setCell ⟨w.heap.size, 0, none⟩ v0).setCell ⟨w.heap.size, 1, none⟩ v1).setCell ⟨w.heap.size, 2, none⟩ v2).setCell ⟨w.heap.size, 3, none⟩ v3)) := fun v0 v1 v2 v3 =>
    RdD.up4 hu hb3 hK3 (Nat.le_refl _) HG1.out.lt hlt v0 v1 v2 v3
  unfold tvV
  have r0 := HG3.cell 0
  have r1 := HG3.cell 1
  have r2 := HG3.cell 2
  have r3 := HG3.cell 3
  have f0 := HG3.frozen 0
  have f1 := HG3.frozen 1
  have f2 := HG3.frozen 2
  have f3 := HG3.frozen 3
  clear hu hb3 k3 hK3 HG3
  go_wp2_with fail
  exact bodyPost_ret (v := .agg #[.int .i64 k_, .int .i64 n_, .string s_, .slice A_ m_ c_]) (by simp [results, Tryz.results69, go_sem, *]) rfl (HD.out _ _ _ _)
set_option maxRecDepth 100000 in
set_option maxHeartbeats 3200000 in
theorem cpd1_any (ho : HOk H) {f : Nat} (hf : f ≤ 100000) (hC : CallRd base hb ag ah vb AA FA TA MA ca nt ct nm cm cf H tr mk room f) {w : World} {rb : Nat} {d k : Int} (hm : Hm w base hb ag ah vb AA FA TA MA ca nt ct nm cm cf H tr mk room) (hout : rb ∉ hpL hb ag ah vb AA FA TA MA) (hbl : Blk w rb 82 #[.pointer (some ⟨hb, 0, none⟩), .int .i64 k, .int .i64 0]) (hk0 : 0 ≤ k) (hkf : k < f) (h0 : 0 ≤ d) (h1 : d < 18446744073709551616) (hr : right d = true) (hk : kindOf d = 1) (hne : partsP H d ≠ []) : Calls Tryz.prog 69 #[.pointer (some ⟨rb, 0, none⟩), .int .u64 d] w (RdD w rb hb (.mk 2 0 (nameP H d) (rdL (rd H f) (partsP H d) ([], (k, 0))).1, (rdL (rd H f) (partsP H d) ([], (k, 0))).2)) := by
  obtain ⟨p, hp⟩ := Int.eq_ofNat_of_zero_le (num_nn h0 hr)
  have hpp : (numOf d).toNat = p := by omega
  obtain ⟨x, hfx⟩ : ∃ x, funP H d = some x := by
    cases hf0 : funP H d with
    | some x => exact ⟨x, rfl⟩
    | none => exact absurd (by unfold partsP; rw [if_pos hk, hf0]) hne
  have hnm : nameP H d = x.1 := by unfold nameP; rw [hfx]
  obtain ⟨F, hF, hkF, hxF⟩ : ∃ F, H.cells[p]? = some F ∧ kindOf F = 4 ∧ H.funs[(numOf F).toNat]? = some x := by
    unfold funP at hfx
    rw [hpp] at hfx
    cases hF : H.cells[p]? with
    | none => rw [hF] at hfx; cases hfx
    | some F =>
      rw [hF] at hfx
      simp only at hfx
      split at hfx
      · rename_i h4; exact ⟨F, rfl, h4, hfx⟩
      · cases hfx
  have hbF := hm.ar.bytes F (List.mem_of_getElem? hF)
  obtain ⟨i, hi⟩ := Int.eq_ofNat_of_zero_le (num_nn hbF.1 (ho.right F (List.mem_of_getElem? hF)))
  have hii : (numOf F).toNat = i := by omega
  rw [hii] at hxF
  have HNF := Lib.hid (fun W => number_any F W hbF.1 hbF.2)
  rw [hi] at HNF
  obtain ⟨fb, foff, hFA, hfb, hff⟩ := (Rd.of_own hm.funs).field funE_len hxF (by omega)
  have hfbn : fb ∈ hpL hb ag ah vb AA FA TA MA := by rw [hFA]; simp [hpL, ownL, Value.ownBlock]
  have HS6 : Hid (∀ W, Keeps w W [rb] → W.cell? ⟨hb, 2, none⟩ = some (.slice (some ⟨fb, foff, none⟩) H.funs.length cf) ∧ W.cell? ⟨fb, foff + i * 2, none⟩ = some (.string x.1)) := fun W kk =>
    ⟨by rw [← hFA]; exact (hm.keep kk (fun b hb' => by simp at hb'; subst hb'; exact hout)).blk.cell 2, (kk.cell (p := ⟨fb, foff + i * 2, none⟩) hfb (fun hm' => by simp at hm'; subst hm'; exact hout hfbn)).trans (hff 0 _ rfl)⟩
  have HIL : Hid ((0 : Int) ≤ (i : Int) ∧ (i : Int) < (H.funs.length : Int) ∧ i < H.funs.length) := ⟨Int.natCast_nonneg _, by have := (List.getElem?_eq_some_iff.1 hxF).1; omega, (List.getElem?_eq_some_iff.1 hxF).1⟩
  have hsz : x.1.size ≤ 9223372036854775807 := ho.sizes.2 x (List.mem_of_getElem? hxF)
  have HSz := Lib.hid hsz
  have hpos : 0 < (partsP H d).length := List.length_pos_iff.2 hne
  rw [hnm]
  have hlt := hbl.lt
  have hbb := hm.ar.bytes
  have HPC : Hid (∀ x ∈ partsP H d, 0 ≤ x ∧ x < 18446744073709551616 ∧ right x = true) := parts_cell ho hbb d
  have hfew := parts_few ho d
  have HLow : Hid (∀ j, j ≤ (partsP H d).length → ((rdL (rd H f) ((partsP H d).take j) ([], (k, 0))).1.length = j ∧ ((rdL (rd H f) ((partsP H d).take j) ([], (k, 0))).2.2 = 0 → 0 ≤ (rdL (rd H f) ((partsP H d).take j) ([], (k, 0))).2.1) ∧ -2 - 1002 * (f : Int) - (j : Int) ≤ (rdL (rd H f) ((partsP H d).take j) ([], (k, 0))).2.1 ∧ (rdL (rd H f) ((partsP H d).take j) ([], (k, 0))).2.1 ≤ k)) := fun j hj =>
    rdL_low (rd_low ho f) k hk0 hkf j _ (by rw [List.length_take]; omega)
  have HHm : Hid (∀ W, Keeps w W [rb] → Hm W base hb ag ah vb AA FA TA MA ca nt ct nm cm cf H tr mk room) := fun W kk => hm.keep kk (fun b hb' => by simp at hb'; subst hb'; exact hout)
  have HOut := Lib.hid hout
  have hK0 : Keeps w ((w.alloc (.cells #[.int .i64 0, .int .i64 0, .string ⟨#[]⟩, .slice none 0 0] 40)).alloc (.cells #[.int .i64 3, .int .i64 0, .string ⟨#[]⟩, .slice none 0 0] 40)) [] := ((Keeps.refl w []).alloc _).alloc _
  have hG0 : Blk ((w.alloc (.cells #[.int .i64 0, .int .i64 0, .string ⟨#[]⟩, .slice none 0 0] 40)).alloc (.cells #[.int .i64 3, .int .i64 0, .string ⟨#[]⟩, .slice none 0 0] 40)) w.heap.size 40 #[.int .i64 0, .int .i64 0, .string ⟨#[]⟩, .slice none 0 0] := (Blk.new _ _ _).alloc _
  have hT0 : Blk ((w.alloc (.cells #[.int .i64 0, .int .i64 0, .string ⟨#[]⟩, .slice none 0 0] 40)).alloc (.cells #[.int .i64 3, .int .i64 0, .string ⟨#[]⟩, .slice none 0 0] 40)) (w.heap.size + 1) 40 #[.int .i64 3, .int .i64 0, .string ⟨#[]⟩, .slice none 0 0] := Blk.newAt _ _ (by simp)
  have HK0 := Lib.hid hK0
  have HGB0 := Lib.hid hG0
  have HT0 := Lib.hid hT0
  have HB0 := Lib.hid (hbl.keep hK0 (by simp))
  have HO := Lib.hid ho
  have HKd := Lib.hid (fun W => kind_any d W h0 h1)
  rw [hk] at HKd
  obtain ⟨m, hmm⟩ : ∃ m, (partsP H d).length = m := ⟨_, rfl⟩
  have HM := Lib.hid hmm
  have HPa := Lib.hid (parts_any (HHm.out _ (hK0.to_ _)) ho d h0 h1 hr)
  unfold RowD at HPa
  rw [hmm] at HPa HLow hfew
  have HNu := Lib.hid (fun W => number_any d W h0 h1)
  rw [hp] at HNu
  have HG0 : Hid (∀ W, Keeps w W [rb] → Calls Tryz.prog 70 #[.pointer (some ⟨ag, 0, none⟩), .int .i64 p] W fun e w' => e = .returned (.tuple #[.int .u64 ((H.cells[p]?).getD 0), .bool (H.cells[p]?).isSome]) ∧ W = w') := fun W kk => get_at (HHm.out W kk).ar p
  generalize (H.cells[p]?).isSome = bx at HG0
  rw [hF, Option.getD_some] at HG0
  rw [hmm] at hpos
  have e5 : ((m : Int) == 0) = false := by rw [beq_eq_false_iff_ne]; omega
  have e6 : (m == 0) = false := by rw [beq_eq_false_iff_ne]; omega
  clear hm hk hbb hK0 hG0 hT0 hbl hout ho hmm h0 h1 hr hfx hnm hF hkF hxF hbF hff hfbn hsz hpp hp hi hii hne hFA
  go_enter Tryz.func69, Tryz.ntmps69
  go_upto_region 2 with fail
  generalize ((w.alloc (.cells #[.int .i64 0, .int .i64 0, .string ⟨#[]⟩, .slice none 0 0] 40)).alloc (.cells #[.int .i64 3, .int .i64 0, .string ⟨#[]⟩, .slice none 0 0] 40)) = w0 at HK0 HGB0 HT0 HB0 HPa ⊢
  have x0 := HB0.out.cell 0
  go_wp2_with fail
  refine HPa.out.mono ?_
  rintro e w1 ⟨A, c1, rfl, hown, k1⟩
  have HOw := Lib.hid hown
  have HK1 := Lib.hid (HK0.out.trans k1)
  have HB1 := Lib.hid (HB0.out.keep k1 (by simp))
  have HG1 := Lib.hid (HGB0.out.keep k1 (by simp))
  have HT1 := Lib.hid (HT0.out.keep k1 (by simp))
  have HZ := Lib.hid HK0.out.size
  clear hown k1 x0 HPa
  go_wp2_with fail
  refine (HKd.out _).mono ?_
  rintro e w2 ⟨rfl, rfl⟩
  have HG : Hid (∀ W, Keeps w1 W [] → _) := fun W kk => HG0.out W ((HK1.out.trans kk).to_ _)
  go_upto_region 4 with fail
  have HS4 : Hid (∀ W, Keeps w1 W [] → (W.cell? ⟨rb, 0, none⟩ = some (.pointer (some ⟨hb, 0, none⟩)) ∧ W.cell? ⟨hb, 0, none⟩ = some (.pointer (some ⟨ag, 0, none⟩)))) := fun W kk =>
    ⟨(HB1.out.keep kk (by simp)).cell 0, (HHm.out W ((HK1.out.trans kk).to_ _)).blk.cell 0⟩
  refine wp_region_th (fun W' => W'.cell? ⟨rb, 0, none⟩ = some (.pointer (some ⟨hb, 0, none⟩)) ∧ W'.cell? ⟨hb, 0, none⟩ = some (.pointer (some ⟨ag, 0, none⟩))) 13 [12] [(0, true), (1, true), (2, true), (3, true), (4, true), (5, true), (6, true), (7, true), (8, false), (9, false), (10, true), (11, true), (12, true), (13, false), (14, false)] (by kernel_rfl) (by kernel_rfl) (HS4.out _ (Keeps.refl _ _).drew) (fun hHeld => ?_)
  (repeat (first | (refine wpTh_take (v := ?_) rfl (by rfl) (by assumption) ?_ (by rfl) ?_; rotate_left; (focus (intro w' hSw; (try dsimp only at hSw); go_simp; (try with_reducible rfl); done)); simp only [Act.put, List.setIfInBounds_toArray, List.set_cons_zero, List.set_cons_succ]) | (refine wpTh_pure (v := ?_) rfl (by rfl) (by assumption) ?_ (by rfl) ?_; rotate_left; (focus (intro w'; go_simp; (try with_reducible rfl); done)); simp only [Act.put, List.setIfInBounds_toArray, List.set_cons_zero, List.set_cons_succ])))
  refine wpTh_go rfl (fun K hK => ?_)
  go_simp
  refine (HNu.out _).mono ?_
  rintro e w3 ⟨rfl, rfl⟩
  refine hK.out _ _ ?_ ?_
  · exact HS4.out _ (Keeps.refl _ _).drew
  (clear hHeld; intro hHeld; clear hK K; (try simp only [Act.put, List.setIfInBounds_toArray, List.set_cons_zero, List.set_cons_succ]))
  (repeat (first | (refine wpTh_take (v := ?_) rfl (by rfl) (by assumption) ?_ (by rfl) ?_; rotate_left; (focus (intro w' hSw; (try dsimp only at hSw); go_simp; (try with_reducible rfl); done)); simp only [Act.put, List.setIfInBounds_toArray, List.set_cons_zero, List.set_cons_succ]) | (refine wpTh_pure (v := ?_) rfl (by rfl) (by assumption) ?_ (by rfl) ?_; rotate_left; (focus (intro w'; go_simp; (try with_reducible rfl); done)); simp only [Act.put, List.setIfInBounds_toArray, List.set_cons_zero, List.set_cons_succ])))
  refine wpTh_go rfl (fun K hK => ?_)
  go_simp
  refine (HG.out _ (Keeps.refl _ _).drew).mono ?_
  rintro e w4 ⟨rfl, rfl⟩
  refine hK.out _ _ ?_ ?_
  · exact HS4.out _ (Keeps.refl _ _).drew
  (clear hHeld; intro hHeld; clear hK K; (try simp only [Act.put, List.setIfInBounds_toArray, List.set_cons_zero, List.set_cons_succ]))
  (repeat (first | (refine wpTh_take (v := ?_) rfl (by rfl) (by assumption) ?_ (by rfl) ?_; rotate_left; (focus (intro w' hSw; (try dsimp only at hSw); go_simp; (try with_reducible rfl); done)); simp only [Act.put, List.setIfInBounds_toArray, List.set_cons_zero, List.set_cons_succ]) | (refine wpTh_pure (v := ?_) rfl (by rfl) (by assumption) ?_ (by rfl) ?_; rotate_left; (focus (intro w'; go_simp; (try with_reducible rfl); done)); simp only [Act.put, List.setIfInBounds_toArray, List.set_cons_zero, List.set_cons_succ])))
  refine wpTh_tail rfl (by decide) (fun K hK => ?_)
  go_simp
  refine hK.out _ _ ?_; clear hK K; (try simp only [Act.put, List.setIfInBounds_toArray, List.set_cons_zero, List.set_cons_succ])
  refine wpTh_last rfl (by decide) (fun K hK => ?_)
  go_simp
  refine hK.out _ _ (NoPanic.normal ?_)
  clear hK K hHeld
  go_upto_region 7 with fail
  clear e5 e6
  obtain ⟨hi0, hil2, hil⟩ := HIL.out
  have HW7 : Hid (∀ W', Keeps w1 W' [] → (W'.cell? ⟨rb, 0, none⟩ = some (.pointer (some ⟨hb, 0, none⟩)) ∧ W'.cell? ⟨hb, 2, none⟩ = some (.slice (some ⟨fb, foff, none⟩) H.funs.length cf) ∧ W'.cell? ⟨fb, foff + i * 2, none⟩ = some (.string x.1)) ∧ (W'.cell? ⟨w.heap.size + 1, 0, none⟩ = some (.int .i64 3) ∧ W'.cell? ⟨w.heap.size + 1, 1, none⟩ = some (.int .i64 0) ∧ W'.cell? ⟨w.heap.size + 1, 2, none⟩ = some (.string ⟨#[]⟩) ∧ W'.cell? ⟨w.heap.size + 1, 3, none⟩ = some (.slice none 0 0)) ∧ (W'.frozen? ⟨w.heap.size + 1, 0, none⟩ = false ∧ W'.frozen? ⟨w.heap.size + 1, 1, none⟩ = false ∧ W'.frozen? ⟨w.heap.size + 1, 2, none⟩ = false ∧ W'.frozen? ⟨w.heap.size + 1, 3, none⟩ = false)) := fun W' kk =>
    have kt := HT1.out.keep kk (by simp)
    have k6 := HS6.out W' ((HK1.out.trans kk).to_ _)
    ⟨⟨(HB1.out.keep kk (by simp)).cell 0, k6.1, k6.2⟩, ⟨kt.cell 0, kt.cell 1, kt.cell 2, kt.cell 3⟩, ⟨kt.frozen 0, kt.frozen 1, kt.frozen 2, kt.frozen 3⟩⟩
  have HT2 : Hid (Blk ((set4 w1 (w.heap.size + 1) (.int .i64 2) (.int .i64 0) (.string x.1) (.slice none 0 0)).drew.drew) (w.heap.size + 1) 40 #[.int .i64 2, .int .i64 0, .string x.1, .slice none 0 0]) := (HT1.out.put4 _ _ _ _).drew.drew
  have HK2 : Hid (Keeps w1 ((set4 w1 (w.heap.size + 1) (.int .i64 2) (.int .i64 0) (.string x.1) (.slice none 0 0)).drew.drew) [w.heap.size + 1]) := ((Keeps.refl w1 [w.heap.size + 1]).put4 (.inl (by simp)) _ _ _ _).drew.drew
  have HKw : Hid (Keeps w ((set4 w1 (w.heap.size + 1) (.int .i64 2) (.int .i64 0) (.string x.1) (.slice none 0 0)).drew.drew) [rb]) := ((HK1.out.to_ [rb]).put4 (.inr (by omega)) _ _ _ _).drew.drew
  obtain ⟨wl, hwl⟩ : ∃ wl, (set4 w1 (w.heap.size + 1) (.int .i64 2) (.int .i64 0) (.string x.1) (.slice none 0 0)).drew.drew = wl := ⟨_, rfl⟩
  rw [hwl] at HT2 HK2 HKw
  have HWL := Lib.hid hwl
  clear hwl
  refine wp_region_tx (fun W' => (W'.cell? ⟨rb, 0, none⟩ = some (.pointer (some ⟨hb, 0, none⟩)) ∧ W'.cell? ⟨hb, 2, none⟩ = some (.slice (some ⟨fb, foff, none⟩) H.funs.length cf) ∧ W'.cell? ⟨fb, foff + i * 2, none⟩ = some (.string x.1)) ∧ (W'.cell? ⟨w.heap.size + 1, 0, none⟩ = some (.int .i64 3) ∧ W'.cell? ⟨w.heap.size + 1, 1, none⟩ = some (.int .i64 0) ∧ W'.cell? ⟨w.heap.size + 1, 2, none⟩ = some (.string ⟨#[]⟩) ∧ W'.cell? ⟨w.heap.size + 1, 3, none⟩ = some (.slice none 0 0)) ∧ (W'.frozen? ⟨w.heap.size + 1, 0, none⟩ = false ∧ W'.frozen? ⟨w.heap.size + 1, 1, none⟩ = false ∧ W'.frozen? ⟨w.heap.size + 1, 2, none⟩ = false ∧ W'.frozen? ⟨w.heap.size + 1, 3, none⟩ = false)) [(0, true), (1, true), (2, true), (3, true), (4, true), (5, true), (6, true), (7, true), (8, true), (9, false), (10, true), (11, true), (12, true), (13, true), (14, false)] (by kernel_rfl) (by kernel_rfl) (HW7.out _ (Keeps.refl _ _).drew.drew) (fun hHeld => ?_)
  obtain ⟨⟨q0, q1, q2⟩, ⟨q3, q4, q5, q6⟩, q7, q8, q9, q10⟩ := HW7.out w1 (Keeps.refl _ _)
  (first | (refine wpTx_take (v := ?_) rfl (by assumption) ?_ (by rfl) ?_; rotate_left; (focus (intro w' hSw; (try dsimp only at hSw); go_simp; (try with_reducible rfl); done)); simp only [Act.put, List.setIfInBounds_toArray, List.set_cons_zero, List.set_cons_succ]) | (refine wpTx_skip rfl (by assumption) (by rfl) ?_; simp only [Act.put, List.setIfInBounds_toArray, List.set_cons_zero, List.set_cons_succ]))
  (first | (refine wpTx_take (v := ?_) rfl (by assumption) ?_ (by rfl) ?_; rotate_left; (focus (intro w' hSw; (try dsimp only at hSw); go_simp; (try with_reducible rfl); done)); simp only [Act.put, List.setIfInBounds_toArray, List.set_cons_zero, List.set_cons_succ]) | (refine wpTx_skip rfl (by assumption) (by rfl) ?_; simp only [Act.put, List.setIfInBounds_toArray, List.set_cons_zero, List.set_cons_succ]))
  (first | (refine wpTx_take (v := ?_) rfl (by assumption) ?_ (by rfl) ?_; rotate_left; (focus (intro w' hSw; (try dsimp only at hSw); go_simp; (try with_reducible rfl); done)); simp only [Act.put, List.setIfInBounds_toArray, List.set_cons_zero, List.set_cons_succ]) | (refine wpTx_skip rfl (by assumption) (by rfl) ?_; simp only [Act.put, List.setIfInBounds_toArray, List.set_cons_zero, List.set_cons_succ]))
  (first | (refine wpTx_take (v := ?_) rfl (by assumption) ?_ (by rfl) ?_; rotate_left; (focus (intro w' hSw; (try dsimp only at hSw); go_simp; (try with_reducible rfl); done)); simp only [Act.put, List.setIfInBounds_toArray, List.set_cons_zero, List.set_cons_succ]) | (refine wpTx_skip rfl (by assumption) (by rfl) ?_; simp only [Act.put, List.setIfInBounds_toArray, List.set_cons_zero, List.set_cons_succ]))
  (first | (refine wpTx_take (v := ?_) rfl (by assumption) ?_ (by rfl) ?_; rotate_left; (focus (intro w' hSw; (try dsimp only at hSw); go_simp; (try with_reducible rfl); done)); simp only [Act.put, List.setIfInBounds_toArray, List.set_cons_zero, List.set_cons_succ]) | (refine wpTx_skip rfl (by assumption) (by rfl) ?_; simp only [Act.put, List.setIfInBounds_toArray, List.set_cons_zero, List.set_cons_succ]))
  (first | (refine wpTx_take (v := ?_) rfl (by assumption) ?_ (by rfl) ?_; rotate_left; (focus (intro w' hSw; (try dsimp only at hSw); go_simp; (try with_reducible rfl); done)); simp only [Act.put, List.setIfInBounds_toArray, List.set_cons_zero, List.set_cons_succ]) | (refine wpTx_skip rfl (by assumption) (by rfl) ?_; simp only [Act.put, List.setIfInBounds_toArray, List.set_cons_zero, List.set_cons_succ]))
  (first | (refine wpTx_take (v := ?_) rfl (by assumption) ?_ (by rfl) ?_; rotate_left; (focus (intro w' hSw; (try dsimp only at hSw); go_simp; (try with_reducible rfl); done)); simp only [Act.put, List.setIfInBounds_toArray, List.set_cons_zero, List.set_cons_succ]) | (refine wpTx_skip rfl (by assumption) (by rfl) ?_; simp only [Act.put, List.setIfInBounds_toArray, List.set_cons_zero, List.set_cons_succ]))
  (first | (refine wpTx_take (v := ?_) rfl (by assumption) ?_ (by rfl) ?_; rotate_left; (focus (intro w' hSw; (try dsimp only at hSw); go_simp; (try with_reducible rfl); done)); simp only [Act.put, List.setIfInBounds_toArray, List.set_cons_zero, List.set_cons_succ]) | (refine wpTx_skip rfl (by assumption) (by rfl) ?_; simp only [Act.put, List.setIfInBounds_toArray, List.set_cons_zero, List.set_cons_succ]))
  (first | (refine wpTx_take (v := ?_) rfl (by assumption) ?_ (by rfl) ?_; rotate_left; (focus (intro w' hSw; (try dsimp only at hSw); go_simp; (try with_reducible rfl); done)); simp only [Act.put, List.setIfInBounds_toArray, List.set_cons_zero, List.set_cons_succ]) | (refine wpTx_skip rfl (by assumption) (by rfl) ?_; simp only [Act.put, List.setIfInBounds_toArray, List.set_cons_zero, List.set_cons_succ]))
  refine wpTx_go rfl (fun K hK => ?_)
  go_simp
  refine (HNF.out _).mono ?_
  rintro e w3 ⟨rfl, rfl⟩
  refine hK.out _ _ ?_ ?_
  · exact HW7.out _ (Keeps.refl _ _).drew.drew
  (clear hHeld; intro hHeld; clear hK K; (try simp only [Act.put, List.setIfInBounds_toArray, List.set_cons_zero, List.set_cons_succ]))
  (first | (refine wpTx_take (v := ?_) rfl (by assumption) ?_ (by rfl) ?_; rotate_left; (focus (intro w' hSw; (try dsimp only at hSw); go_simp; (try with_reducible rfl); done)); simp only [Act.put, List.setIfInBounds_toArray, List.set_cons_zero, List.set_cons_succ]) | (refine wpTx_skip rfl (by assumption) (by rfl) ?_; simp only [Act.put, List.setIfInBounds_toArray, List.set_cons_zero, List.set_cons_succ]))
  (first | (refine wpTx_take (v := ?_) rfl (by assumption) ?_ (by rfl) ?_; rotate_left; (focus (intro w' hSw; (try dsimp only at hSw); go_simp; (try with_reducible rfl); done)); simp only [Act.put, List.setIfInBounds_toArray, List.set_cons_zero, List.set_cons_succ]) | (refine wpTx_skip rfl (by assumption) (by rfl) ?_; simp only [Act.put, List.setIfInBounds_toArray, List.set_cons_zero, List.set_cons_succ]))
  (first | (refine wpTx_take (v := ?_) rfl (by assumption) ?_ (by rfl) ?_; rotate_left; (focus (intro w' hSw; (try dsimp only at hSw); go_simp; (try with_reducible rfl); done)); simp only [Act.put, List.setIfInBounds_toArray, List.set_cons_zero, List.set_cons_succ]) | (refine wpTx_skip rfl (by assumption) (by rfl) ?_; simp only [Act.put, List.setIfInBounds_toArray, List.set_cons_zero, List.set_cons_succ]))
  (first | (refine wpTx_take (v := ?_) rfl (by assumption) ?_ (by rfl) ?_; rotate_left; (focus (intro w' hSw; (try dsimp only at hSw); go_simp; (try with_reducible rfl); done)); simp only [Act.put, List.setIfInBounds_toArray, List.set_cons_zero, List.set_cons_succ]) | (refine wpTx_skip rfl (by assumption) (by rfl) ?_; simp only [Act.put, List.setIfInBounds_toArray, List.set_cons_zero, List.set_cons_succ]))
  refine wpTx_last rfl (fun K hK => ?_)
  go_simp
  refine hK.out _ _ (NoPanic.normal ?_); clear hK K; (try simp only [Act.put, List.setIfInBounds_toArray, List.set_cons_zero, List.set_cons_succ])
  have hwl := HWL.out
  unfold set4 at hwl
  rw [hwl]
  clear hHeld hwl q0 q1 q2 q3 q4 q5 q6 q7 q8 q9 q10
  obtain ⟨pb, cur, rfl, hpb, hPB, hcur⟩ := row_blk HOw.out hpos
  have hw0 := HZ.out
  have hpbn : w.heap.size + 1 < w0.heap.size := HT0.out.lt
  have HST : Hid (TSt 40 (fun b => w.heap.size ≤ b) w wl [rb] [(w.heap.size, 40, #[.int .i64 0, .int .i64 0, .string ⟨#[]⟩, .slice none 0 0]), (pb, 28, cur)] (w.heap.size + 1) 2 0 x.1 [] [] none 0 0) := TSt.start (by
    intro y hy
    simp only [List.mem_cons, List.not_mem_nil, or_false] at hy
    rcases hy with rfl | rfl
    · exact ⟨HG1.out.keep HK2.out (by simp), by show w.heap.size ≠ _; omega⟩
    · exact ⟨hPB.keep HK2.out (by simp; omega), by show pb ≠ _; omega⟩) (HT2.out) (HKw.out) (by omega) (fun b h => h) HSz.out
  have HBl : Hid (Blk wl rb 82 #[.pointer (some ⟨hb, 0, none⟩), .int .i64 k, .int .i64 0]) := HB1.out.keep HK2.out (by simp; omega)
  have HRow : Hid (∀ (j : Nat) x, (partsP H d)[j]? = some x → cur[j]? = some (.int .u64 x)) := fun j x hx => hcur j _ (by rw [List.getElem?_map, hx]; rfl)
  have HFr : Hid (∀ y ∈ [(w.heap.size, 40, #[.int .i64 0, .int .i64 0, .string ⟨#[]⟩, .slice none 0 0]), (pb, 28, cur)], y.1 ∉ [rb]) := by
    intro y hy
    simp only [List.mem_cons, List.not_mem_nil, or_false] at hy ⊢
    rcases hy with rfl | rfl
    · show w.heap.size ≠ rb; omega
    · show pb ≠ rb; omega
  clear hcur hPB
  go_wp2_with fail
  have hcell : ∀ (j : Nat) (x : Int), (partsP H d)[j]? = some x → cur[j]? = some (Value.int .u64 x) := HRow.out
  go_loopw [10, 55] (fun x10 x55 wr => ∃ (j : Nat) (A2 : Option Addr) (c2 : Nat) (us : List TV), j ≤ m ∧ x55 = .int .i64 j ∧ TSt 40 (fun b => w.heap.size ≤ b) w wr [rb] [(w.heap.size, 40, #[.int .i64 0, .int .i64 0, .string ⟨#[]⟩, .slice none 0 0]), (pb, 28, cur)] (w.heap.size + 1) 2 0 x.1 (rdL (rd H f) ((partsP H d).take j) ([], (k, 0))).1 us A2 j c2 ∧ Blk wr rb 82 #[.pointer (some ⟨hb, 0, none⟩), .int .i64 (rdL (rd H f) ((partsP H d).take j) ([], (k, 0))).2.1, .int .i64 (rdL (rd H f) ((partsP H d).take j) ([], (k, 0))).2.2]) (fun _ i _ => m - (intOf i).toNat)
  case atStart => exact ⟨0, none, 0, [], Nat.zero_le _, rfl, by rw [List.take_zero]; exact HST.out, by rw [List.take_zero]; exact HBl.out⟩
  case round =>
    obtain ⟨j, A2, c2, us, hj, rfl, st, hbl⟩ := hrel
    have HS := Lib.hid st
    have HBL := Lib.hid hbl
    have e1 := (st.fix (pb, 28, cur) (by simp)).1.cell j
    clear st hbl
    by_cases hlt : j < m
    · obtain ⟨x, hx⟩ := at_of HM.out hlt
      rw [hcell j x hx] at e1
      have HX := Lib.hid hx
      obtain ⟨g1, g2, g3, g4⟩ := HLow.out j (by omega)
      obtain ⟨q, hq⟩ : ∃ q, rdL (rd H f) ((partsP H d).take j) ([], (k, 0)) = q := ⟨_, rfl⟩
      rw [hq] at g1 g2 g3 g4
      have HQ := Lib.hid hq
      rw [hq] at HS HBL
      have hpc := HPC.out x (List.mem_of_getElem? hx)
      have HC : Hid (∀ W, Keeps wr W [] → Calls Tryz.prog 34 #[.pointer (some ⟨rb, 0, none⟩), .int .u64 x] W (RdD W rb hb (rd H f x q.2))) := fun W kk =>
        hC W rb x q.2 (HHm.out _ (HS.out.keep.trans (kk.to_ _))) HOut.out (HBL.out.keep kk (by simp)) g2 (by omega) (by omega) hpc.1 hpc.2.1 hpc.2.2
      have HW : Hid (∀ W', Keeps wr W' (rb :: ownL (.slice A2 j c2)) → W'.frozen? ⟨w.heap.size + 1, 3, none⟩ = false ∧ W'.cell? ⟨w.heap.size + 1, 3, none⟩ = some (.slice A2 j c2)) := fun W' kk =>
        have hn : w.heap.size + 1 ∉ rb :: ownL (.slice A2 j c2) := by
          simp only [List.mem_cons, not_or]
          exact ⟨by omega, HS.out.low.2.1⟩
        ⟨(HS.out.out.keep kk hn).frozen 3, (HS.out.out.keep kk hn).cell 3⟩
      obtain ⟨q0, q1⟩ := HW.out wr (Keeps.refl _ _)
      have b0 : (0 : Int) ≤ (j : Int) := Int.natCast_nonneg _
      have b1 : (j : Int) < (m : Int) := by omega
      clear g1 g2 g3 g4 hpc hx hq hcell
      go_upto_region 11 with fail
      refine wp_region_tx (fun W' => W'.frozen? ⟨w.heap.size + 1, 3, none⟩ = false ∧ W'.cell? ⟨w.heap.size + 1, 3, none⟩ = some (.slice A2 j c2)) [(0, true), (1, true), (2, true), (3, true), (4, false), (5, false), (6, false), (7, true), (8, false)] (by kernel_rfl) (by kernel_rfl) (HW.out _ ((Keeps.refl _ _).drew)) (fun hHeld => ?_)
      (repeat (first | (refine wpTx_take (v := ?_) rfl (by assumption) ?_ (by rfl) ?_; rotate_left; (focus (intro w' hSw; (try dsimp only at hSw); go_simp; (try with_reducible rfl); done)); simp only [Act.put, List.setIfInBounds_toArray, List.set_cons_zero, List.set_cons_succ]) | (refine wpTx_skip rfl (by assumption) (by rfl) ?_; simp only [Act.put, List.setIfInBounds_toArray, List.set_cons_zero, List.set_cons_succ])))
      refine wpTx_go rfl (fun K hK => ?_)
      go_simp
      refine (HC.out _ (Keeps.refl _ _).drew).mono ?_
      rintro e w3 ⟨u, rfl, hu, hb3, k3⟩
      have HU : Hid (Tr w3 (fun b => wr.heap.size ≤ b) (rd H f x q.2).1 u) := hu
      have HB3 := Lib.hid hb3
      have HK3 : Hid (Keeps wr w3 [rb]) := Keeps.trans ((Keeps.refl wr [rb]).drew) k3
      unfold tvV
      clear hu hb3 k3
      refine hK.out _ _ ?_ ?_
      · exact HW.out _ (HK3.out.more (fun b _ hb => List.mem_cons.2 (.inl (by simpa using hb))))
      (clear hHeld; intro hHeld; clear hK K; (try simp only [Act.put, List.setIfInBounds_toArray, List.set_cons_zero, List.set_cons_succ]))
      refine wpTx_go rfl (fun K hK => ?_)
      go_simp
      refine hK.out _ _ ?_ ?_
      · exact HW.out _ ((HK3.out.alloc _).more (fun b _ hb => List.mem_cons.2 (.inl (by simpa using hb))))
      (clear hHeld; intro hHeld; clear hK K; (try simp only [Act.put, List.setIfInBounds_toArray, List.set_cons_zero, List.set_cons_succ]))
      refine wpTx_go rfl (fun K hK => ?_)
      have hst3 := HS.out.keepL HK3.out (by simp; omega) HFr.out (by simp; omega)
      have hfr := (HS.out.fresh HU.out).keep ((Keeps.refl w3 []).alloc (.cells (tvE u).toArray 40))
      have HST3 := Lib.hid hst3
      have HFR := Lib.hid hfr
      refine step_app _ el_pterm (by rfl) _ _ (by rfl) w.heap.size A2 j c2 (us.flatMap tvE) (by rfl) (own_keep0 hst3.row ((Keeps.refl w3 []).alloc _)) (some ⟨w3.heap.size, 0, none⟩) 1 1 (tvE u) (by rfl) (Rd.one w3 _ (tvE u)) rfl (by simp) (by simp [tvE, Value.oneCell']) (by omega) (by simp; have := HS.out.keep.size; have := HK3.out.size; omega) ?_
      intro A' c' w2 hown hgrow hat
      have HSt := Lib.hid (HST3.out.step ((Keeps.refl w3 []).alloc _) HFR.out hown hgrow hat)
      have HBf : Hid (∀ u', Blk (w2.setCell ⟨w.heap.size + 1, 3, none⟩ u') rb 82 #[.pointer (some ⟨hb, 0, none⟩), .int .i64 (rd H f x q.2).2.1, .int .i64 (rd H f x q.2).2.2]) := fun u' =>
        ((HB3.out.alloc _).grown hgrow (fun e => by
          have hm : rb ∈ ownL (.slice A2 j c2) := by unfold ownL; rw [← e]; simp
          have := (own_lt HS.out.row hm).1
          omega)).far (by show rb ≠ w.heap.size + 1; omega) u'
      refine hK.out _ _ ?_ ?_
      · exact HW.out _ (((HK3.out.alloc _).more (fun b _ hb => List.mem_cons.2 (.inl (by simpa using hb)))).trans ((Keeps.ofGrown hgrow).more (fun b _ hb => List.mem_cons.2 (.inr hb))))
      (clear hHeld; intro hHeld; clear hK K; (try simp only [Act.put, List.setIfInBounds_toArray, List.set_cons_zero, List.set_cons_succ]))
      (repeat (first | (refine wpTx_take (v := ?_) rfl (by assumption) ?_ (by rfl) ?_; rotate_left; (focus (intro w' hSw; (try dsimp only at hSw); go_simp; (try with_reducible rfl); done)); simp only [Act.put, List.setIfInBounds_toArray, List.set_cons_zero, List.set_cons_succ]) | (refine wpTx_skip rfl (by assumption) (by rfl) ?_; simp only [Act.put, List.setIfInBounds_toArray, List.set_cons_zero, List.set_cons_succ])))
      refine wpTx_last rfl (fun K hK => ?_)
      go_simp
      refine hK.out _ _ (NoPanic.normal ?_); clear hK K; (try simp only [Act.put, List.setIfInBounds_toArray, List.set_cons_zero, List.set_cons_succ])
      go_wp2_with fail
      go_roundw
      case rel => exact ⟨j + 1, A', c', us ++ [u], by omega, by go_num, by rw [List.take_add_one, HX.out, Option.toList_some, rdL_snoc, HQ.out]; exact HSt.out, by rw [List.take_add_one, HX.out, Option.toList_some, rdL_snoc, HQ.out]; exact HBf.out _⟩
      case measure => simp [intOf]; omega
    · obtain rfl : m = j := by omega
      have htk : (partsP H d).take m = partsP H d := List.take_of_length_le (by rw [HM.out]; omega)
      rw [htk] at HS HBL
      have hd := HS.out.done (by omega)
      have hr := (HS.out.fix (w.heap.size, 40, #[.int .i64 0, .int .i64 0, .string ⟨#[]⟩, .slice none 0 0]) (by simp)).1
      have d0 := HS.out.out.cell 0
      have d1 := HS.out.out.cell 1
      have d2 := HS.out.out.cell 2
      have d3 := HS.out.out.cell 3
      have r0 := hr.cell 0
      have r1 := hr.cell 1
      have r2 := hr.cell 2
      have r3 := hr.cell 3
      have f0 := hr.frozen 0
      have f1 := hr.frozen 1
      have f2 := hr.frozen 2
      have f3 := hr.frozen 3
      have HD : Hid (∀ v0 v1 v2 v3, RdD w rb hb (.mk 2 0 x.1 (rdL (rd H f) (partsP H d) ([], (k, 0))).1, (rdL (rd H f) (partsP H d) ([], (k, 0))).2) (.returned (tvV ⟨2, 0, x.1, A2, m, c2⟩)) ((((wr.setCell ⟨w.heap.size, 0, none⟩ v0).setCell ⟨w.heap.size, 1, none⟩ v1).setCell ⟨w.heap.size, 2, none⟩ v2).setCell ⟨w.heap.size, 3, none⟩ v3)) := fun v0 v1 v2 v3 =>
        RdD.end4 (hd.mono fun b hb => ⟨hb.1, hb.2.2 (w.heap.size, 40, #[.int .i64 0, .int .i64 0, .string ⟨#[]⟩, .slice none 0 0]) (by simp)⟩) HBL.out HS.out.keep (Nat.le_refl _) (by omega) v0 v1 v2 v3
      clear hd hr hlt hj e1 htk hcell
      go_wp2_with fail
      exact bodyPost_ret (v := .agg #[.int .i64 2, .int .i64 0, .string x.1, .slice A2 m c2]) (by simp [results, Tryz.results69, go_sem, *]) rfl (HD.out _ _ _ _)
end
end Go.Proofs.YtnonfmaehfmigaaGreatDoor

/- The program's read. Printed by gen_hpreadc.py. -/
namespace Go.Proofs.YtnonfmaehfmigaaGreatDoor
open Go.RowKit Go.Maps
section
variable {base hb ag ah vb : Nat} {AA FA TA MA : Option Addr} {ca nt ct nm cm cf : Nat} {H : PH} {tr : List Int} {mk : List (Int × Int)} {room : Nat}
theorem cpd_any (ho : HOk H) {f : Nat} (hf : f ≤ 100000) (hC : CallRd base hb ag ah vb AA FA TA MA ca nt ct nm cm cf H tr mk room f) {w : World} {rb : Nat} {d k : Int} (hm : Hm w base hb ag ah vb AA FA TA MA ca nt ct nm cm cf H tr mk room) (hout : rb ∉ hpL hb ag ah vb AA FA TA MA) (hbl : Blk w rb 82 #[.pointer (some ⟨hb, 0, none⟩), .int .i64 k, .int .i64 0]) (hk0 : 0 ≤ k) (hkf : k < f) (h0 : 0 ≤ d) (h1 : d < 18446744073709551616) (hr : right d = true) (hk : kindOf d = 1 ∨ kindOf d = 3) :
    Calls Tryz.prog 69 #[.pointer (some ⟨rb, 0, none⟩), .int .u64 d] w (RdD w rb hb (cpd H (rd H f) d k)) := by
  unfold cpd
  rcases hk with hk | hk
  · by_cases hn : partsP H d = []
    · rw [if_pos ⟨hk, hn⟩]
      exact cpd0_any ho hm hout hbl hk0 hkf h0 h1 hr hk hn
    · rw [if_neg (fun h => hn h.2), if_pos hk, if_pos hk]
      exact cpd1_any ho hf hC hm hout hbl hk0 hkf h0 h1 hr hk hn
  · have h3 : ¬ kindOf d = 1 := by omega
    rw [if_neg (fun h => h3 h.1), if_neg h3, if_neg h3]
    exact cpd3_any ho hf hC hm hout hbl hk0 hkf h0 h1 hr hk
theorem kind_of {d : Int} (hr : right d = true) : kindOf d = 0 ∨ kindOf d = 1 ∨ kindOf d = 2 ∨ kindOf d = 3 ∨ kindOf d = 4 := by
  have h := (right_iff d).1 hr
  unfold kindOf
  rw [if_pos hr]
  omega
set_option maxRecDepth 100000 in
set_option maxHeartbeats 6400000 in
theorem read_step (ho : HOk H) {f : Nat} (hf : f ≤ 100000) (hC : 0 < f → CallRd base hb ag ah vb AA FA TA MA ca nt ct nm cm cf H tr mk room f) : CallRd base hb ag ah vb AA FA TA MA ca nt ct nm cm cf H tr mk room (f + 1) := by
  intro w rb c s hm hout hbl hok hup hlow h0 h1 hr
  obtain ⟨left, err⟩ := s
  simp only at hok hup hlow
  obtain ⟨R, hR⟩ : ∃ R, rd H (f + 1) c (left, err) = R := ⟨_, rfl⟩
  rw [hR]
  rw [rd] at hR
  simp only at hR
  have hlt := hbl.lt
  have hne : w.heap.size ≠ rb := by omega
  have hne' : rb ≠ w.heap.size := by omega
  have hbb := hm.ar.bytes
  have HHm : Hid (∀ W, Keeps w W [rb] → Hm W base hb ag ah vb AA FA TA MA ca nt ct nm cm cf H tr mk room) := fun W kk => hm.keep kk (fun b hb' => by simp at hb'; subst hb'; exact hout)
  have HOut := Lib.hid hout
  have HO := Lib.hid ho
  have hK0 : Keeps w (w.alloc (.cells #[.int .i64 0, .int .i64 0, .string ⟨#[]⟩, .slice none 0 0] 40)) [] := (Keeps.refl w []).alloc _
  have hG0 : Blk (w.alloc (.cells #[.int .i64 0, .int .i64 0, .string ⟨#[]⟩, .slice none 0 0] 40)) w.heap.size 40 #[.int .i64 0, .int .i64 0, .string ⟨#[]⟩, .slice none 0 0] := Blk.new _ _ _
  have HK0 := Lib.hid hK0
  have HG0 := Lib.hid hG0
  have HB0 := Lib.hid (hbl.keep hK0 (by simp))
  obtain ⟨o, hoo⟩ : ∃ o, derefP H c = o := ⟨_, rfl⟩
  have HD0 := Lib.hid (deref_any (HHm.out _ (hK0.to_ _)) ho c h0 h1 hr)
  unfold derV at HD0
  rw [hoo] at HD0 hR
  have HR := Lib.hid hR
  have HDi : Hid (∀ d, o = some d → 0 ≤ d ∧ d < 18446744073709551616 ∧ right d = true) := fun d hd => by
    subst hd
    have h := deref_is ho hbb _ c d (Nat.le_refl _) h0 h1 hr hoo
    exact ⟨h.1, h.2.1, h.2.2.1⟩
  clear hm hbb hK0 hG0 hbl hout ho h0 h1 hr hoo hR
  go_enter Tryz.func34, Tryz.ntmps34
  go_upto_region 1 with fail
  generalize (w.alloc (.cells #[.int .i64 0, .int .i64 0, .string ⟨#[]⟩, .slice none 0 0] 40)) = w0 at HK0 HG0 HB0 HD0 ⊢
  have x0 := HB0.out.cell 0
  go_wp2_with fail
  refine HD0.out.mono ?_
  rintro e w1 ⟨rfl, k1⟩
  have hK1 := HK0.out.trans k1
  have hB1 := HB0.out.keep k1 (by simp)
  have hG1 := HG0.out.keep k1 (by simp)
  have x1 := hB1.cell 1
  have y1 := hB1.frozen 1
  have x2 := hB1.cell 2
  have x0 := hB1.cell 0
  have HB2 : Hid (Blk (w1.setCell ⟨rb, 1, none⟩ (.int .i64 (left - 1))) rb 82 #[.pointer (some ⟨hb, 0, none⟩), .int .i64 (left - 1), .int .i64 err]) := by
    have := hB1.set_ 1 (.int .i64 (left - 1))
    exact Lib.hid (by simpa using this)
  have HG2 : Hid (Blk (w1.setCell ⟨rb, 1, none⟩ (.int .i64 (left - 1))) w.heap.size 40 #[.int .i64 0, .int .i64 0, .string ⟨#[]⟩, .slice none 0 0]) := hG1.far hne _
  have HK2 : Hid (Keeps w (w1.setCell ⟨rb, 1, none⟩ (.int .i64 (left - 1))) [rb]) := (hK1.to_ [rb]).setCell (.inl (by simp)) _
  clear hK1 hB1 hG1 k1 HD0 HB0 HG0 HK0
  go_upto_region 3 with fail
  generalize (w1.setCell ⟨rb, 1, none⟩ (.int .i64 (left - 1))) = wl at *
  clear x0 x1 x2 y1
  have x0 := HB2.out.cell 0
  have x1 := HB2.out.cell 1
  have x2 := HB2.out.cell 2
  by_cases he : err = 0
  · subst he
    have hR := HR.out
    rw [if_pos rfl] at hR
    clear HR
    have hl0 := hok rfl
    clear hok
    cases o with
    | none =>
      have HFa := Lib.hid (fail_any HB2.out 1)
      simp only [rdC] at hR
      have HRes := Lib.hid hR.symm
      clear hR
      go_wp2_with fail
      refine HFa.out.mono ?_
      rintro e w3 ⟨u, rfl, hu, hb3, k3⟩
      obtain ⟨k_, n_, s_, A_, m_, c_⟩ := u
      have hK3 := HK2.out.trans k3
      have HG3 := HG2.out.keep k3 (by simp; omega)
      have HD : Hid (∀ v0 v1 v2 v3, RdD w rb hb R (.returned (tvV ⟨k_, n_, s_, A_, m_, c_⟩)) ((((w3.setCell ⟨w.heap.size, 0, none⟩ v0).setCell ⟨w.heap.size, 1, none⟩ v1).setCell ⟨w.heap.size, 2, none⟩ v2).setCell ⟨w.heap.size, 3, none⟩ v3)) := fun v0 v1 v2 v3 =>
        by rw [HRes.out]; exact RdD.up4 (r := (tZ, (left - 1, 1))) hu hb3 hK3 (Nat.le_refl _) HG2.out.lt hlt v0 v1 v2 v3
      unfold tvV
      have r0 := HG3.cell 0
      have r1 := HG3.cell 1
      have r2 := HG3.cell 2
      have r3 := HG3.cell 3
      have f0 := HG3.frozen 0
      have f1 := HG3.frozen 1
      have f2 := HG3.frozen 2
      have f3 := HG3.frozen 3
      clear hu hb3 k3 hK3 HG3
      go_wp2_with fail
      exact bodyPost_ret (v := .agg #[.int .i64 k_, .int .i64 n_, .string s_, .slice A_ m_ c_]) (by simp [results, Tryz.results34, go_sem, *]) rfl (HD.out _ _ _ _)
    | some d =>
      obtain ⟨d0, d1, dr⟩ := HDi.out d rfl
      simp only [rdC] at hR
      simp only [Option.getD_some, Option.isSome_some]
      by_cases hl : left - 1 < 0
      · have HFa := Lib.hid (fail_any HB2.out 2)
        have dl : decide (left - 1 < 0) = true := by simpa using hl
        rw [if_pos hl] at hR
        have HRes := Lib.hid hR.symm
        clear d0 d1 dr hR
        go_wp2_with fail
        refine HFa.out.mono ?_
        rintro e w3 ⟨u, rfl, hu, hb3, k3⟩
        obtain ⟨k_, n_, s_, A_, m_, c_⟩ := u
        have hK3 := HK2.out.trans k3
        have HG3 := HG2.out.keep k3 (by simp; omega)
        have HD : Hid (∀ v0 v1 v2 v3, RdD w rb hb R (.returned (tvV ⟨k_, n_, s_, A_, m_, c_⟩)) ((((w3.setCell ⟨w.heap.size, 0, none⟩ v0).setCell ⟨w.heap.size, 1, none⟩ v1).setCell ⟨w.heap.size, 2, none⟩ v2).setCell ⟨w.heap.size, 3, none⟩ v3)) := fun v0 v1 v2 v3 =>
          by rw [HRes.out]; exact RdD.up4 (r := (tZ, (left - 1, 2))) hu hb3 hK3 (Nat.le_refl _) HG2.out.lt hlt v0 v1 v2 v3
        unfold tvV
        have r0 := HG3.cell 0
        have r1 := HG3.cell 1
        have r2 := HG3.cell 2
        have r3 := HG3.cell 3
        have f0 := HG3.frozen 0
        have f1 := HG3.frozen 1
        have f2 := HG3.frozen 2
        have f3 := HG3.frozen 3
        clear hu hb3 k3 hK3 HG3
        go_wp2_with fail
        exact bodyPost_ret (v := .agg #[.int .i64 k_, .int .i64 n_, .string s_, .slice A_ m_ c_]) (by simp [results, Tryz.results34, go_sem, *]) rfl (HD.out _ _ _ _)
      · have dl : decide (left - 1 < 0) = false := by simpa using hl
        rw [if_neg hl] at hR
        have HNu := Lib.hid (fun W => number_any d W d0 d1)
        have HKd := Lib.hid (fun W => kind_any d W d0 d1)
        obtain ⟨p, hp⟩ := Int.eq_ofNat_of_zero_le (num_nn d0 dr)
        rw [hp] at HNu
        rcases kind_of dr with hk | hk | hk | hk | hk
        · rw [hk] at HKd
          rw [if_pos hk, hp] at hR
          by_cases h9 : 999 < (p : Int)
          · have dg : decide ((p : Int) > 999) = true := by simpa using h9
            have dg2 : decide (999 < (p : Int)) = true := by simpa using h9
            have HFa := Lib.hid (fail_any HB2.out 2)
            rw [if_pos h9] at hR
            have HRes := Lib.hid hR.symm
            clear d0 d1 dr hk hp h9 hl hR
            go_wp2_with fail
            refine (HNu.out _).mono ?_
            rintro e w3 ⟨rfl, rfl⟩
            go_wp2_with fail
            refine (HKd.out _).mono ?_
            rintro e w3 ⟨rfl, rfl⟩
            go_wp2_with fail
            refine HFa.out.mono ?_
            rintro e w3 ⟨u, rfl, hu, hb3, k3⟩
            obtain ⟨k_, n_, s_, A_, m_, c_⟩ := u
            have hK3 := HK2.out.trans k3
            have HG3 := HG2.out.keep k3 (by simp; omega)
            have HD : Hid (∀ v0 v1 v2 v3, RdD w rb hb R (.returned (tvV ⟨k_, n_, s_, A_, m_, c_⟩)) ((((w3.setCell ⟨w.heap.size, 0, none⟩ v0).setCell ⟨w.heap.size, 1, none⟩ v1).setCell ⟨w.heap.size, 2, none⟩ v2).setCell ⟨w.heap.size, 3, none⟩ v3)) := fun v0 v1 v2 v3 =>
              by rw [HRes.out]; exact RdD.up4 (r := (tZ, (left - 1, 2))) hu hb3 hK3 (Nat.le_refl _) HG2.out.lt hlt v0 v1 v2 v3
            unfold tvV
            have r0 := HG3.cell 0
            have r1 := HG3.cell 1
            have r2 := HG3.cell 2
            have r3 := HG3.cell 3
            have f0 := HG3.frozen 0
            have f1 := HG3.frozen 1
            have f2 := HG3.frozen 2
            have f3 := HG3.frozen 3
            clear hu hb3 k3 hK3 HG3
            go_wp2_with fail
            exact bodyPost_ret (v := .agg #[.int .i64 k_, .int .i64 n_, .string s_, .slice A_ m_ c_]) (by simp [results, Tryz.results34, go_sem, *]) rfl (HD.out _ _ _ _)
          · have dg : decide ((p : Int) > 999) = false := by simpa using h9
            have dg2 : decide (999 < (p : Int)) = false := by simpa using h9
            rw [if_neg h9] at hR
            have HRes := Lib.hid hR.symm
            clear d0 d1 dr hk hp h9 hl hR
            go_wp2_with fail
            refine (HNu.out _).mono ?_
            rintro e w3 ⟨rfl, rfl⟩
            go_wp2_with fail
            refine (HKd.out _).mono ?_
            rintro e w3 ⟨rfl, rfl⟩
            have HD : Hid (∀ v0 v1 v2 v3, RdD w rb hb R (.returned (tvV ⟨0, p, ⟨#[]⟩, none, 0, 0⟩)) ((((wl.setCell ⟨w.heap.size, 0, none⟩ v0).setCell ⟨w.heap.size, 1, none⟩ v1).setCell ⟨w.heap.size, 2, none⟩ v2).setCell ⟨w.heap.size, 3, none⟩ v3)) := fun v0 v1 v2 v3 =>
              by rw [HRes.out]; exact RdD.end4 (r := (.mk 0 p ⟨#[]⟩ [], (left - 1, 0))) (tr_leaf _ _ 0 p ⟨#[]⟩ (by decide)) HB2.out HK2.out (Nat.le_refl _) hlt v0 v1 v2 v3
            unfold tvV at HD
            have r0 := HG2.out.cell 0
            have r1 := HG2.out.cell 1
            have r2 := HG2.out.cell 2
            have r3 := HG2.out.cell 3
            have f0 := HG2.out.frozen 0
            have f1 := HG2.out.frozen 1
            have f2 := HG2.out.frozen 2
            have f3 := HG2.out.frozen 3
            go_wp2_with fail
            exact bodyPost_ret (v := .agg #[.int .i64 0, .int .i64 p, .string ⟨#[]⟩, .slice none 0 0]) (by simp [results, Tryz.results34, go_sem, *]) rfl (HD.out _ _ _ _)
        · rw [hk] at HKd
          rw [if_neg (by omega), if_neg (by omega), if_neg (by omega)] at hR
          have HFa := Lib.hid (cpd_any HO.out hf (hC (by omega)) (HHm.out _ HK2.out) HOut.out HB2.out (by omega) (by omega) d0 d1 dr (.inl hk))
          have HRes := Lib.hid hR.symm
          clear d0 d1 dr hk hp hl hR
          go_wp2_with fail
          refine (HNu.out _).mono ?_
          rintro e w3 ⟨rfl, rfl⟩
          go_wp2_with fail
          refine (HKd.out _).mono ?_
          rintro e w3 ⟨rfl, rfl⟩
          go_wp2_with fail
          refine HFa.out.mono ?_
          rintro e w3 ⟨u, rfl, hu, hb3, k3⟩
          obtain ⟨k_, n_, s_, A_, m_, c_⟩ := u
          have hK3 := HK2.out.trans k3
          have HG3 := HG2.out.keep k3 (by simp; omega)
          have HD : Hid (∀ v0 v1 v2 v3, RdD w rb hb R (.returned (tvV ⟨k_, n_, s_, A_, m_, c_⟩)) ((((w3.setCell ⟨w.heap.size, 0, none⟩ v0).setCell ⟨w.heap.size, 1, none⟩ v1).setCell ⟨w.heap.size, 2, none⟩ v2).setCell ⟨w.heap.size, 3, none⟩ v3)) := fun v0 v1 v2 v3 =>
            by rw [HRes.out]; exact RdD.up4 (r := (cpd H (rd H f) d (left - 1))) hu hb3 hK3 (Nat.le_refl _) HG2.out.lt hlt v0 v1 v2 v3
          unfold tvV
          have r0 := HG3.cell 0
          have r1 := HG3.cell 1
          have r2 := HG3.cell 2
          have r3 := HG3.cell 3
          have f0 := HG3.frozen 0
          have f1 := HG3.frozen 1
          have f2 := HG3.frozen 2
          have f3 := HG3.frozen 3
          clear hu hb3 k3 hK3 HG3
          go_wp2_with fail
          exact bodyPost_ret (v := .agg #[.int .i64 k_, .int .i64 n_, .string s_, .slice A_ m_ c_]) (by simp [results, Tryz.results34, go_sem, *]) rfl (HD.out _ _ _ _)
        · rw [hk] at HKd
          rw [if_neg (by omega), if_pos hk, hp, Int.toNat_natCast] at hR
          have hmw := HHm.out _ HK2.out
          have a1 := hmw.blk.cell 1
          have a0 := x0
          cases ha : H.atoms[p]? with
          | none =>
            rw [ha] at hR
            simp only at hR
            have hpl := List.getElem?_eq_none_iff.1 ha
            have dg : decide ((p : Int) ≥ (H.atoms.length : Int)) = true := by simp; omega
            have dg1 : decide ((H.atoms.length : Int) ≤ (p : Int)) = true := by simp; omega
            have dg2 : decide (H.atoms.length ≤ p) = true := by simp; omega
            have HFa := Lib.hid (fail_any HB2.out 1)
            have HRes := Lib.hid hR.symm
            clear d0 d1 dr hk hp hl hmw ha hpl a0 hR
            go_wp2_with fail
            refine (HNu.out _).mono ?_
            rintro e w3 ⟨rfl, rfl⟩
            go_wp2_with fail
            refine (HKd.out _).mono ?_
            rintro e w3 ⟨rfl, rfl⟩
            go_wp2_with fail
            refine HFa.out.mono ?_
            rintro e w3 ⟨u, rfl, hu, hb3, k3⟩
            obtain ⟨k_, n_, s_, A_, m_, c_⟩ := u
            have hK3 := HK2.out.trans k3
            have HG3 := HG2.out.keep k3 (by simp; omega)
            have HD : Hid (∀ v0 v1 v2 v3, RdD w rb hb R (.returned (tvV ⟨k_, n_, s_, A_, m_, c_⟩)) ((((w3.setCell ⟨w.heap.size, 0, none⟩ v0).setCell ⟨w.heap.size, 1, none⟩ v1).setCell ⟨w.heap.size, 2, none⟩ v2).setCell ⟨w.heap.size, 3, none⟩ v3)) := fun v0 v1 v2 v3 =>
              by rw [HRes.out]; exact RdD.up4 (r := (tZ, (left - 1, 1))) hu hb3 hK3 (Nat.le_refl _) HG2.out.lt hlt v0 v1 v2 v3
            unfold tvV
            have r0 := HG3.cell 0
            have r1 := HG3.cell 1
            have r2 := HG3.cell 2
            have r3 := HG3.cell 3
            have f0 := HG3.frozen 0
            have f1 := HG3.frozen 1
            have f2 := HG3.frozen 2
            have f3 := HG3.frozen 3
            clear hu hb3 k3 hK3 HG3
            go_wp2_with fail
            exact bodyPost_ret (v := .agg #[.int .i64 k_, .int .i64 n_, .string s_, .slice A_ m_ c_]) (by simp [results, Tryz.results34, go_sem, *]) rfl (HD.out _ _ _ _)
          | some s =>
            rw [ha] at hR
            simp only at hR
            have hpl := (List.getElem?_eq_some_iff.1 ha).1
            have dg : decide ((p : Int) ≥ (H.atoms.length : Int)) = false := by simp; omega
            have dg1 : decide ((H.atoms.length : Int) ≤ (p : Int)) = false := by simp; omega
            have dg2 : decide (H.atoms.length ≤ p) = false := by simp; omega
            obtain ⟨ab, aoff, va, hAA, hab, hac, hav⟩ := (Rd.of_own hmw.atoms) p (by simpa using hpl)
            have hva : va = .string s := by rw [List.getElem?_map, ha] at hav; exact (Option.some.inj hav).symm
            subst hva
            rw [hAA] at a1
            have hss := HO.out.sizes.1 s (List.mem_of_getElem? ha)
            have b0 : (0 : Int) ≤ (p : Int) := Int.natCast_nonneg _
            have b1 : (p : Int) < (H.atoms.length : Int) := by omega
            have HRes := Lib.hid hR.symm
            clear d0 d1 dr hk hp hl hmw ha hav hAA hab a0 hR
            go_wp2_with fail
            refine (HNu.out _).mono ?_
            rintro e w3 ⟨rfl, rfl⟩
            go_wp2_with fail
            refine (HKd.out _).mono ?_
            rintro e w3 ⟨rfl, rfl⟩
            have HD : Hid (∀ v0 v1 v2 v3, RdD w rb hb R (.returned (tvV ⟨1, 0, s, none, 0, 0⟩)) ((((wl.setCell ⟨w.heap.size, 0, none⟩ v0).setCell ⟨w.heap.size, 1, none⟩ v1).setCell ⟨w.heap.size, 2, none⟩ v2).setCell ⟨w.heap.size, 3, none⟩ v3)) := fun v0 v1 v2 v3 =>
              by rw [HRes.out]; exact RdD.end4 (r := (.mk 1 0 s [], (left - 1, 0))) (tr_leaf _ _ 1 0 s hss) HB2.out HK2.out (Nat.le_refl _) hlt v0 v1 v2 v3
            unfold tvV at HD
            have r0 := HG2.out.cell 0
            have r1 := HG2.out.cell 1
            have r2 := HG2.out.cell 2
            have r3 := HG2.out.cell 3
            have f0 := HG2.out.frozen 0
            have f1 := HG2.out.frozen 1
            have f2 := HG2.out.frozen 2
            have f3 := HG2.out.frozen 3
            go_wp2_with fail
            exact bodyPost_ret (v := .agg #[.int .i64 1, .int .i64 0, .string s, .slice none 0 0]) (by simp [results, Tryz.results34, go_sem, *]) rfl (HD.out _ _ _ _)
        · rw [hk] at HKd
          rw [if_neg (by omega), if_neg (by omega), if_neg (by omega)] at hR
          have HFa := Lib.hid (cpd_any HO.out hf (hC (by omega)) (HHm.out _ HK2.out) HOut.out HB2.out (by omega) (by omega) d0 d1 dr (.inr hk))
          have HRes := Lib.hid hR.symm
          clear d0 d1 dr hk hp hl hR
          go_wp2_with fail
          refine (HNu.out _).mono ?_
          rintro e w3 ⟨rfl, rfl⟩
          go_wp2_with fail
          refine (HKd.out _).mono ?_
          rintro e w3 ⟨rfl, rfl⟩
          go_wp2_with fail
          refine HFa.out.mono ?_
          rintro e w3 ⟨u, rfl, hu, hb3, k3⟩
          obtain ⟨k_, n_, s_, A_, m_, c_⟩ := u
          have hK3 := HK2.out.trans k3
          have HG3 := HG2.out.keep k3 (by simp; omega)
          have HD : Hid (∀ v0 v1 v2 v3, RdD w rb hb R (.returned (tvV ⟨k_, n_, s_, A_, m_, c_⟩)) ((((w3.setCell ⟨w.heap.size, 0, none⟩ v0).setCell ⟨w.heap.size, 1, none⟩ v1).setCell ⟨w.heap.size, 2, none⟩ v2).setCell ⟨w.heap.size, 3, none⟩ v3)) := fun v0 v1 v2 v3 =>
            by rw [HRes.out]; exact RdD.up4 (r := (cpd H (rd H f) d (left - 1))) hu hb3 hK3 (Nat.le_refl _) HG2.out.lt hlt v0 v1 v2 v3
          unfold tvV
          have r0 := HG3.cell 0
          have r1 := HG3.cell 1
          have r2 := HG3.cell 2
          have r3 := HG3.cell 3
          have f0 := HG3.frozen 0
          have f1 := HG3.frozen 1
          have f2 := HG3.frozen 2
          have f3 := HG3.frozen 3
          clear hu hb3 k3 hK3 HG3
          go_wp2_with fail
          exact bodyPost_ret (v := .agg #[.int .i64 k_, .int .i64 n_, .string s_, .slice A_ m_ c_]) (by simp [results, Tryz.results34, go_sem, *]) rfl (HD.out _ _ _ _)
        · rw [hk] at HKd
          rw [if_neg (by omega), if_neg (by omega), if_pos hk] at hR
          have HFa := Lib.hid (fail_any HB2.out 1)
          have HRes := Lib.hid hR.symm
          clear d0 d1 dr hk hp hl hR
          go_wp2_with fail
          refine (HNu.out _).mono ?_
          rintro e w3 ⟨rfl, rfl⟩
          go_wp2_with fail
          refine (HKd.out _).mono ?_
          rintro e w3 ⟨rfl, rfl⟩
          go_wp2_with fail
          refine HFa.out.mono ?_
          rintro e w3 ⟨u, rfl, hu, hb3, k3⟩
          obtain ⟨k_, n_, s_, A_, m_, c_⟩ := u
          have hK3 := HK2.out.trans k3
          have HG3 := HG2.out.keep k3 (by simp; omega)
          have HD : Hid (∀ v0 v1 v2 v3, RdD w rb hb R (.returned (tvV ⟨k_, n_, s_, A_, m_, c_⟩)) ((((w3.setCell ⟨w.heap.size, 0, none⟩ v0).setCell ⟨w.heap.size, 1, none⟩ v1).setCell ⟨w.heap.size, 2, none⟩ v2).setCell ⟨w.heap.size, 3, none⟩ v3)) := fun v0 v1 v2 v3 =>
            by rw [HRes.out]; exact RdD.up4 (r := (tZ, (left - 1, 1))) hu hb3 hK3 (Nat.le_refl _) HG2.out.lt hlt v0 v1 v2 v3
          unfold tvV
          have r0 := HG3.cell 0
          have r1 := HG3.cell 1
          have r2 := HG3.cell 2
          have r3 := HG3.cell 3
          have f0 := HG3.frozen 0
          have f1 := HG3.frozen 1
          have f2 := HG3.frozen 2
          have f3 := HG3.frozen 3
          clear hu hb3 k3 hK3 HG3
          go_wp2_with fail
          exact bodyPost_ret (v := .agg #[.int .i64 k_, .int .i64 n_, .string s_, .slice A_ m_ c_]) (by simp [results, Tryz.results34, go_sem, *]) rfl (HD.out _ _ _ _)
  · have e1 : (err == 0) = false := by simpa using he
    have e2 : (err != 0) = true := by simpa using he
    have hR := HR.out
    rw [if_neg he] at hR
    have HRes := Lib.hid hR.symm
    clear hR HR
    have HD : Hid (∀ v0 v1 v2 v3, RdD w rb hb R (.returned (tvV zV)) ((((wl.setCell ⟨w.heap.size, 0, none⟩ v0).setCell ⟨w.heap.size, 1, none⟩ v1).setCell ⟨w.heap.size, 2, none⟩ v2).setCell ⟨w.heap.size, 3, none⟩ v3)) := fun v0 v1 v2 v3 =>
      by rw [HRes.out]; exact RdD.end4 (r := (tZ, (left - 1, err))) (tr_zero _ _) HB2.out HK2.out (Nat.le_refl _) hlt v0 v1 v2 v3
    unfold tvV at HD
    have r0 := HG2.out.cell 0
    have r1 := HG2.out.cell 1
    have r2 := HG2.out.cell 2
    have r3 := HG2.out.cell 3
    have f0 := HG2.out.frozen 0
    have f1 := HG2.out.frozen 1
    have f2 := HG2.out.frozen 2
    have f3 := HG2.out.frozen 3
    unfold zV at HD
    go_wp2_with fail
    exact bodyPost_ret (v := .agg #[.int .i64 0, .int .i64 0, .string ⟨#[]⟩, .slice none 0 0]) (by simp [results, Tryz.results34, go_sem, *]) rfl (HD.out _ _ _ _)
theorem read_any (ho : HOk H) : ∀ f, f ≤ 100000 → CallRd base hb ag ah vb AA FA TA MA ca nt ct nm cm cf H tr mk room (f + 1)
  | 0, h => read_step ho h (fun h => absurd h (by omega))
  | f + 1, h => read_step ho h (fun _ => read_any ho f (by omega))
end
end Go.Proofs.YtnonfmaehfmigaaGreatDoor

/- The program's Read, whole. Printed by gen_hpreadc.py. -/
namespace Go.Proofs.YtnonfmaehfmigaaGreatDoor
open Go.RowKit Go.Maps
section
variable {base hb ag ah vb : Nat} {AA FA TA MA : Option Addr} {ca nt ct nm cm cf : Nat} {H : PH} {tr : List Int} {mk : List (Int × Int)} {room : Nat}
/-- What the program reads: the term, or what is wrong. -/
def ReadD (w : World) (H : PH) (c : Int) (e : Ending) (w' : World) : Prop :=
  ∃ v er, e = .returned (.tuple #[tvV v, .int .i64 er]) ∧ Keeps w w' [] ∧ (∃ t, Tr w' (fun b => w.heap.size ≤ b) t v ∧ tSize t ≤ 10000) ∧ ∀ t, Rg H c t → (tSize t : Int) ≤ 10000 → (∀ n ∈ tV t, n ≤ 999) → er = 0 ∧ Tr w' (fun b => w.heap.size ≤ b) t v
theorem Keeps.fresh {w w' : World} {b : Nat} (k : Keeps w w' [b]) (hb : w.heap.size ≤ b) : Keeps w w' [] := k.more fun i hi hm => by simp at hm; omega
set_option maxRecDepth 100000 in
set_option maxHeartbeats 6400000 in
theorem hread_any (ho : HOk H) {w : World} (hm : Hm w base hb ag ah vb AA FA TA MA ca nt ct nm cm cf H tr mk room) (c : Int) (h0 : 0 ≤ c) (h1 : c < 18446744073709551616) (hr : right c = true) :
    Calls Tryz.prog 12 #[.pointer (some ⟨hb, 0, none⟩), .int .u64 c] w (ReadD w H c) := by
  have hlen : (c :: 0 :: H.cells).length ≤ 65538 := by have := hm.ar.fits; have := hm.ar.most; simp; omega
  have hap := hm.lt
  have HM := Lib.hid hm
  have HO := Lib.hid ho
  have hK0 : Keeps w (w.alloc (.cells #[.int .i64 0, .int .i64 0, .string ⟨#[]⟩, .slice none 0 0] 40)) [] := (Keeps.refl w []).alloc _
  have hG0 : Blk (w.alloc (.cells #[.int .i64 0, .int .i64 0, .string ⟨#[]⟩, .slice none 0 0] 40)) w.heap.size 40 #[.int .i64 0, .int .i64 0, .string ⟨#[]⟩, .slice none 0 0] := Blk.new _ _ _
  have hG1 : Blk ((w.alloc (.cells #[.int .i64 0, .int .i64 0, .string ⟨#[]⟩, .slice none 0 0] 40)).alloc (.map #[] 0)) w.heap.size 40 #[.int .i64 0, .int .i64 0, .string ⟨#[]⟩, .slice none 0 0] := hG0.alloc _
  have hK1 : Keeps w ((w.alloc (.cells #[.int .i64 0, .int .i64 0, .string ⟨#[]⟩, .slice none 0 0] 40)).alloc (.map #[] 0)) [] := hK0.alloc _
  have hV1 := VC.made (w.alloc (.cells #[.int .i64 0, .int .i64 0, .string ⟨#[]⟩, .slice none 0 0] 40))
  have HCy : Hid (Calls Tryz.prog 33 #[.pointer (some ⟨hb, 0, none⟩), .int .u64 c, .map (some (w.heap.size + 1))] ((w.alloc (.cells #[.int .i64 0, .int .i64 0, .string ⟨#[]⟩, .slice none 0 0] 40)).alloc (.map #[] 0)) (CycD ((w.alloc (.cells #[.int .i64 0, .int .i64 0, .string ⟨#[]⟩, .slice none 0 0] 40)).alloc (.map #[] 0)) (w.heap.size + 1) H (c :: 0 :: H.cells) (fun _ => none) 0 c)) := by
    refine cyclic_any ⟨by simp, fun x hx => by simp [hx]⟩ ho (uns (c :: 0 :: H.cells) (fun _ => none)) _ _ 0 _ c ⟨hm.keep0 hK1, by simpa using hV1, fun hm' => by have := hap _ hm'; omega, by have := uns_len (c :: 0 :: H.cells) (fun _ => none); omega⟩ (Nat.le_refl _) ⟨by simp, h0, h1, hr⟩
  have HRd := Lib.hid (fun (W : World) (kk : Keeps w W []) (rb : Nat) (hrb : w.heap.size ≤ rb) (hbl : Blk W rb 82 #[.pointer (some ⟨hb, 0, none⟩), .int .i64 10000, .int .i64 0]) => read_any ho 10000 (by omega) W rb c (10000, 0) (hm.keep0 kk) (fun hm' => by have := hap _ hm'; omega) hbl (by simp) (by simp) (by simp) h0 h1 hr)
  have HG1 := Lib.hid hG1
  have HK1 := Lib.hid hK1
  have hmm := @run_makeMap Tryz.prog
  have HHm : Hid (∀ {W : World}, Keeps w W [] → True) := fun _ => trivial
  clear hm ho h0 h1 hr hK0 hG0 hV1 hK1 hG1 hap hlen HHm
  go_enter Tryz.func12, Tryz.ntmps12
  go_wp2_with fail
  refine HCy.out.mono ?_
  rintro e w1 ⟨r, S', n', rfl, k1, hno, _⟩
  have hK2 : Keeps w w1 [] := by
    have hz := HK1.out.size
    have h1 : Keeps w w1 [w.heap.size + 1] := (HK1.out.to_ _).trans k1
    exact h1.fresh (by omega)
  have HK2 := Lib.hid hK2
  have hG2 := HG1.out.keep k1 (by simp)
  have HG2 := Lib.hid hG2
  clear k1 hK2 HCy HG1 HK1
  cases r with
  | true =>
    have HR : Hid (ReadD w H c (.returned (.tuple #[tvV zV, .int .i64 15])) ((((w1.setCell ⟨w.heap.size, 0, none⟩ (.int .i64 0)).setCell ⟨w.heap.size, 1, none⟩ (.int .i64 0)).setCell ⟨w.heap.size, 2, none⟩ (.string ⟨#[]⟩)).setCell ⟨w.heap.size, 3, none⟩ (.slice none 0 0))) :=
      ⟨zV, 15, rfl, HK2.out.put4 (.inr (Nat.le_refl _)) _ _ _ _, ⟨tZ, tr_zero _ _, by decide⟩, fun t ht _ _ => absurd (fun a ha => by cases ha) (hno rfl t ht)⟩
    clear hno
    have r0 := hG2.cell 0
    have r1 := hG2.cell 1
    have r2 := hG2.cell 2
    have r3 := hG2.cell 3
    have f0 := hG2.frozen 0
    have f1 := hG2.frozen 1
    have f2 := hG2.frozen 2
    have f3 := hG2.frozen 3
    go_wp2_with fail
    exact bodyPost_ret (v := .tuple #[.agg #[.int .i64 0, .int .i64 0, .string ⟨#[]⟩, .slice none 0 0], .int .i64 15]) (by simp [results, Tryz.results12, go_sem, *]) rfl HR.out
  | false =>
    have hK3 : Keeps w (w1.alloc (.cells #[.pointer (some ⟨hb, 0, none⟩), .int .i64 10000, .int .i64 0] 82)) [] := HK2.out.alloc _
    have HC := Lib.hid (HRd.out _ hK3 w1.heap.size HK2.out.size (Blk.new _ _ _))
    have HG3 := Lib.hid (hG2.alloc (.cells #[.pointer (some ⟨hb, 0, none⟩), .int .i64 10000, .int .i64 0] 82))
    have HK3 := Lib.hid hK3
    have hz := HK2.out.size
    have hgz := hG2.lt
    have HZ := Lib.hid (And.intro hz hgz)
    clear hno hK3 hG2 hz hgz
    go_wp2_with fail
    refine HC.out.mono ?_
    rintro e w3 ⟨u, rfl, hu, hb3, k3⟩
    have hz := HZ.out
    have hK4 : Keeps w w3 [] := ((HK3.out.to_ [w1.heap.size]).trans k3).fresh hz.1
    have hG4 := HG3.out.keep k3 (by simp; omega)
    have hsz := k3.size
    simp only [World.size_alloc] at hsz
    obtain ⟨k_, n_, s_, A_, m_, c_⟩ := u
    have hL : ∀ t, Rg H c t → (tSize t : Int) ≤ 10000 → (∀ n ∈ tV t, n ≤ 999) → (rd H (10000 + 1) c (10000, 0)).2.2 = 0 ∧ (rd H (10000 + 1) c (10000, 0)).1 = t := fun t ht h1 h2 => by
      rw [rd_ok ht h2 (10000 + 1) 10000 h1 (by omega)]
      exact ⟨rfl, rfl⟩
    have hsz2 : (rd H (10000 + 1) c (10000, 0)).2.2 = 0 → tSize (rd H (10000 + 1) c (10000, 0)).1 ≤ 10000 := fun e => by
      have h1 := rd_size HO.out (10000 + 1) c (10000, 0) (by omega) (fun _ => by simp) (by simp)
      have h2 := ((rd_low HO.out (10000 + 1) c (10000, 0) (fun _ => by simp) (by simp)).ok e).1
      simp only at h1
      omega
    generalize rd H (10000 + 1) c (10000, 0) = r at hu hb3 hL hsz2
    obtain ⟨tt, lf, er⟩ := r
    simp only at hu hb3 hL hsz2
    have HL := Lib.hid hL
    have HSz := Lib.hid hsz2
    clear hsz2
    have hb4 := hb3.alloc (.cells #[.int .i64 k_, .int .i64 n_, .string s_, .slice A_ m_ c_] 40)
    have x2 := hb4.cell 2
    have hG5 := hG4.alloc (.cells #[.int .i64 k_, .int .i64 n_, .string s_, .slice A_ m_ c_] 40)
    have hT5 : Blk (w3.alloc (.cells #[.int .i64 k_, .int .i64 n_, .string s_, .slice A_ m_ c_] 40)) w3.heap.size 40 #[.int .i64 k_, .int .i64 n_, .string s_, .slice A_ m_ c_] := Blk.new _ _ _
    have hK5 : Keeps w (w3.alloc (.cells #[.int .i64 k_, .int .i64 n_, .string s_, .slice A_ m_ c_] 40)) [] := hK4.alloc _
    have hu5 : Tr (w3.alloc (.cells #[.int .i64 k_, .int .i64 n_, .string s_, .slice A_ m_ c_] 40)) (fun b => w.heap.size ≤ b ∧ b ≠ w.heap.size) tt ⟨k_, n_, s_, A_, m_, c_⟩ := (hu.mono (fun b hb => by simp only [World.size_alloc] at hb; exact ⟨by omega, by omega⟩)).keep ((Keeps.refl _ []).alloc _)
    have HU5 := Lib.hid hu5
    have HK5 := Lib.hid hK5
    unfold tvV
    by_cases he : er = 0
    · subst he
      have r0 := hG5.cell 0
      have r1 := hG5.cell 1
      have r2 := hG5.cell 2
      have r3 := hG5.cell 3
      have f0 := hG5.frozen 0
      have f1 := hG5.frozen 1
      have f2 := hG5.frozen 2
      have f3 := hG5.frozen 3
      have t0 := hT5.cell 0
      have t1 := hT5.cell 1
      have t2 := hT5.cell 2
      have t3 := hT5.cell 3
      have v0 := hT5.frozen 0
      have v1 := hT5.frozen 1
      have v2 := hT5.frozen 2
      have v3 := hT5.frozen 3
      have HR : Hid (∀ v0 v1 v2 v3, ReadD w H c (.returned (.tuple #[tvV ⟨k_, n_, s_, A_, m_, c_⟩, .int .i64 0])) (((((w3.alloc (.cells #[.int .i64 k_, .int .i64 n_, .string s_, .slice A_ m_ c_] 40)).setCell ⟨w.heap.size, 0, none⟩ v0).setCell ⟨w.heap.size, 1, none⟩ v1).setCell ⟨w.heap.size, 2, none⟩ v2).setCell ⟨w.heap.size, 3, none⟩ v3)) := fun v0 v1 v2 v3 => by
        have ht := ((HU5.out).far4 (g := w.heap.size) (fun h => h.2 rfl) v0 v1 v2 v3).mono (S' := fun b => w.heap.size ≤ b) (fun b hb => hb.1)
        exact ⟨_, 0, rfl, HK5.out.put4 (.inr (Nat.le_refl _)) _ _ _ _, ⟨tt, ht, HSz.out rfl⟩, fun t h1 h2 h3 => ⟨rfl, by have := (HL.out t h1 h2 h3).2; subst this; exact ht⟩⟩
      clear hu hb3 hL hb4 hG4 hG5 hT5 hK4 hK5 hu5 k3 hz hsz
      go_wp2_with fail
      exact bodyPost_ret (v := .tuple #[.agg #[.int .i64 k_, .int .i64 n_, .string s_, .slice A_ m_ c_], .int .i64 0]) (by simp [results, Tryz.results12, go_sem, *]) rfl (HR.out _ _ _ _)
    · have e1 : (er == 0) = false := by simpa using he
      have e2 : (er != 0) = true := by simpa using he
      have r0 := hG5.cell 0
      have r1 := hG5.cell 1
      have r2 := hG5.cell 2
      have r3 := hG5.cell 3
      have f0 := hG5.frozen 0
      have f1 := hG5.frozen 1
      have f2 := hG5.frozen 2
      have f3 := hG5.frozen 3
      have HR : Hid (∀ (W : World) v0 v1 v2 v3, Keeps (w3.alloc (.cells #[.int .i64 k_, .int .i64 n_, .string s_, .slice A_ m_ c_] 40)) W [] → ReadD w H c (.returned (.tuple #[tvV zV, .int .i64 er])) ((((W.setCell ⟨w.heap.size, 0, none⟩ v0).setCell ⟨w.heap.size, 1, none⟩ v1).setCell ⟨w.heap.size, 2, none⟩ v2).setCell ⟨w.heap.size, 3, none⟩ v3)) := fun W v0 v1 v2 v3 kk =>
        ⟨zV, er, rfl, (HK5.out.trans kk).put4 (.inr (Nat.le_refl _)) _ _ _ _, ⟨tZ, tr_zero _ _, by decide⟩, fun t h1 h2 h3 => absurd (HL.out t h1 h2 h3).1 he⟩
      have HNe : Hid (w.heap.size ≠ w1.heap.size) := by have := hz.2; exact Lib.hid (by omega)
      have hne := HNe.out
      have hne' : w1.heap.size ≠ w.heap.size := fun e => hne e.symm
      clear hu hb3 hL hb4 hG4 hT5 hK4 hK5 hu5 k3 hz hsz he hG5
      go_upto_region 8 with fail
      generalize hW : (w3.alloc (.cells #[.int .i64 k_, .int .i64 n_, .string s_, .slice A_ m_ c_] 40)) = W at *
      refine wp_region_tx (fun W' => W'.cell? ⟨w1.heap.size, 2, none⟩ = some (.int .i64 er)) [(0, true), (1, true), (2, true), (3, true), (4, true), (5, false), (6, false)] (by kernel_rfl) (by kernel_rfl) (by exact x2) (fun hHeld => ?_)
      (repeat (first | (refine wpTx_take (v := ?_) rfl (by assumption) ?_ (by rfl) ?_; rotate_left; (focus (intro w' hSw; (try dsimp only at hSw); go_simp; (try with_reducible rfl); done)); simp only [Act.put, List.setIfInBounds_toArray, List.set_cons_zero, List.set_cons_succ]) | (refine wpTx_skip rfl (by assumption) (by rfl) ?_; simp only [Act.put, List.setIfInBounds_toArray, List.set_cons_zero, List.set_cons_succ])))
      refine wpTx_go rfl (fun K hK => ?_)
      go_simp
      refine hK.out _ _ ?_ ?_
      · go_simp
      (clear hHeld; intro hHeld; clear hK K; (try simp only [Act.put, List.setIfInBounds_toArray, List.set_cons_zero, List.set_cons_succ]))
      refine wpTx_last rfl (fun K hK => ?_)
      go_simp
      refine hK.out _ _ (NoPanic.normal ?_); clear hK K; (try simp only [Act.put, List.setIfInBounds_toArray, List.set_cons_zero, List.set_cons_succ])
      go_wp2_with fail
      exact bodyPost_ret (v := .tuple #[.agg #[.int .i64 0, .int .i64 0, .string ⟨#[]⟩, .slice none 0 0], .int .i64 er]) (by simp [results, Tryz.results12, go_sem, *]) rfl (HR.out _ _ _ _ _ (Keeps.refl _ _).drew)
end
end Go.Proofs.YtnonfmaehfmigaaGreatDoor
