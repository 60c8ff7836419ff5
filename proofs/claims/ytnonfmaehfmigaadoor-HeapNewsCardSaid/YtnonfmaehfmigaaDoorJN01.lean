/- HeapNews: a receiver that isn't there; With; the walk. Printed by gen_hpnews.py. -/
import Derived.Test.YtnonfmaehfmigaaDoorJR15
namespace Go.Proofs.YtnonfmaehfmigaaDoor
open Go.RowKit Go.Maps
set_option maxRecDepth 100000 in
set_option maxHeartbeats 400000 in
theorem hderef_nil (w : World) : Calls Tryd.prog 15 #[.pointer none, .int .u64 8] w fun e w' => e = .returned (.tuple #[.int .u64 0, .bool false]) ∧ w = w' := by
  go_enter Tryd.func15, Tryd.ntmps15
  go_wp2_with fail
  go_ret2
  exact ⟨rfl, rfl⟩
set_option maxRecDepth 100000 in
set_option maxHeartbeats 400000 in
theorem hunify_nil (w : World) : Calls Tryd.prog 16 #[.pointer none, .int .u64 8, .int .u64 8] w fun e w' => e = .returned (.tuple #[.bool false, .int .i64 1]) ∧ w = w' := by
  go_enter Tryd.func16, Tryd.ntmps16
  go_wp2_with fail
  go_ret2
  exact ⟨rfl, rfl⟩
set_option maxRecDepth 100000 in
set_option maxHeartbeats 400000 in
theorem hundo_nil (w : World) : Calls Tryd.prog 17 #[.pointer none] w fun e w' => e = .returned (.bool false) ∧ w = w' := by
  go_enter Tryd.func17, Tryd.ntmps17
  go_wp2_with fail
  go_ret
  exact ⟨rfl, rfl⟩
set_option maxRecDepth 100000 in
set_option maxHeartbeats 400000 in
theorem hdrop_nil (w : World) : Calls Tryd.prog 18 #[.pointer none] w fun e w' => e = .returned (.bool false) ∧ w = w' := by
  go_enter Tryd.func18, Tryd.ntmps18
  go_wp2_with fail
  go_ret
  exact ⟨rfl, rfl⟩
set_option maxRecDepth 100000 in
set_option maxHeartbeats 400000 in
theorem hpush_nil (w : World) : Calls Tryd.prog 19 #[.pointer none, .int .u64 8] w fun e w' => e = .returned (.bool false) ∧ w = w' := by
  go_enter Tryd.func19, Tryd.ntmps19
  go_wp2_with fail
  go_ret
  exact ⟨rfl, rfl⟩
set_option maxRecDepth 100000 in
set_option maxHeartbeats 400000 in
theorem hbind_nil (w : World) : Calls Tryd.prog 20 #[.pointer none, .int .i64 0, .int .u64 8] w fun e w' => e = .returned (.bool false) ∧ w = w' := by
  go_enter Tryd.func20, Tryd.ntmps20
  go_wp2_with fail
  go_ret
  exact ⟨rfl, rfl⟩
set_option maxRecDepth 100000 in
set_option maxHeartbeats 400000 in
theorem hmarks_nil (w : World) : Calls Tryd.prog 21 #[.pointer none] w fun e w' => e = .returned (.int .i64 0) ∧ w = w' := by
  go_enter Tryd.func21, Tryd.ntmps21
  go_wp2_with fail
  go_ret
  exact ⟨rfl, rfl⟩
set_option maxRecDepth 100000 in
set_option maxHeartbeats 400000 in
theorem hcells_nil (w : World) : Calls Tryd.prog 22 #[.pointer none] w fun e w' => e = .returned (.slice none 0 0) ∧ w = w' := by
  go_enter Tryd.func22, Tryd.ntmps22
  go_wp2_with fail
  go_ret
  exact ⟨rfl, rfl⟩
set_option maxRecDepth 100000 in
set_option maxHeartbeats 400000 in
theorem htrail_nil (w : World) : Calls Tryd.prog 23 #[.pointer none] w fun e w' => e = .returned (.slice none 0 0) ∧ w = w' := by
  go_enter Tryd.func23, Tryd.ntmps23
  go_wp2_with fail
  go_ret
  exact ⟨rfl, rfl⟩
set_option maxRecDepth 100000 in
set_option maxHeartbeats 400000 in
theorem hmark_nil (w : World) : Calls Tryd.prog 12 #[.pointer none] w fun e w' => e = .returned (.tuple #[]) ∧ w = w' := by
  go_enter Tryd.func12, Tryd.ntmps12
  go_wp2_with fail
  go_end0
  exact ⟨rfl, rfl⟩
set_option maxRecDepth 100000 in
set_option maxHeartbeats 400000 in
theorem hbuild_nil (k n : Int) (s : ByteArray) (A : Option Addr) (m c : Nat) (w : World) : Calls Tryd.prog 13 #[.pointer none, .agg #[.int .i64 k, .int .i64 n, .string s, .slice A m c]] w fun e w' => e = .returned (.tuple #[.int .u64 0, .bool false]) ∧ Keeps w w' [] := by
  go_enter Tryd.func13, Tryd.ntmps13
  go_wp2_with fail
  go_ret2
  exact ⟨rfl, (Keeps.refl w []).alloc _⟩
set_option maxRecDepth 100000 in
set_option maxHeartbeats 400000 in
theorem hread_nil (w : World) : Calls Tryd.prog 8 #[.pointer none, .int .u64 8] w fun e w' => e = .returned (.tuple #[.agg #[.int .i64 0, .int .i64 0, .string ⟨#[]⟩, .slice none 0 0], .int .i64 1]) ∧ Keeps w w' [] := by
  have hK0 : Keeps w (w.alloc (.cells #[.int .i64 0, .int .i64 0, .string ⟨#[]⟩, .slice none 0 0] 34)) [] := (Keeps.refl w []).alloc _
  have HK0 := Lib.hid hK0
  clear hK0
  go_enter Tryd.func8, Tryd.ntmps8
  go_wp2_with fail
  exact bodyPost_ret (v := .tuple #[.agg #[.int .i64 0, .int .i64 0, .string ⟨#[]⟩, .slice none 0 0], .int .i64 1]) (by simp [results, Tryd.results8, go_sem, *]) rfl ⟨rfl, HK0.out⟩
set_option maxRecDepth 100000 in
set_option maxHeartbeats 400000 in
theorem hnames_nil (w : World) : Calls Tryd.prog 24 #[.pointer none] w fun e w' => e = .returned (.agg #[.slice none 0 0, .slice none 0 0]) ∧ Keeps w w' [] := by
  have hK0 : Keeps w (w.alloc (.cells #[.slice none 0 0, .slice none 0 0] 46)) [] := (Keeps.refl w []).alloc _
  have HK0 := Lib.hid hK0
  clear hK0
  go_enter Tryd.func24, Tryd.ntmps24
  go_wp2_with fail
  exact bodyPost_ret (v := .agg #[.slice none 0 0, .slice none 0 0]) (by simp [results, Tryd.results24, go_sem, *]) rfl ⟨rfl, HK0.out⟩
set_option maxRecDepth 100000 in
set_option maxHeartbeats 1600000 in
theorem with_no (room : Int) (ab : Nat) (w : World) (hr : room < 0 ∨ 65536 < room) : Calls Tryd.prog 11 #[.int .i64 room, .agg #[.slice (some ⟨ab, 0, none⟩) 1 1, .slice none 0 0]] w fun e w' => e = .returned (.tuple #[.pointer none, .int .i64 1]) ∧ Keeps w w' [] := by
  have HN := Lib.hid (fun W => hnew_no room W hr)
  clear hr
  go_enter Tryd.func11, Tryd.ntmps11
  go_wp2_with fail
  refine (HN.out _).mono ?_
  rintro e w1 ⟨rfl, rfl⟩
  go_wp2_with fail
  go_ret2
  exact ⟨rfl, (Keeps.refl w []).alloc _⟩
set_option maxRecDepth 100000 in
set_option maxHeartbeats 1600000 in
theorem with_yes (room : Nat) (ab : Nat) (w : World) (hr : room ≤ 65536) (h : Blk w ab 9 #[.string ⟨#[97]⟩]) : Calls Tryd.prog 11 #[.int .i64 room, .agg #[.slice (some ⟨ab, 0, none⟩) 1 1, .slice none 0 0]] w fun e w' => ∃ hb, e = .returned (.tuple #[.pointer (some ⟨hb, 0, none⟩), .int .i64 0]) ∧ Keeps w w' [] := by
  have HS := Lib.hid (fun (W : World) (kk : Keeps w W []) => cloneS_any (some ⟨ab, 0, none⟩) 1 1 [.string ⟨#[97]⟩] W rfl (by omega) (Rd.of_blk (h.keep kk (by simp))) (fun e => by cases e) (by simp [Value.oneCell']))
  have HF := Lib.hid (fun (W : World) => cloneF_any none 0 0 [] W rfl (by omega) Rd.nil (fun _ => rfl) (by simp))
  have HN := Lib.hid (fun W => hnew_yes room W hr)
  have hK0 : Keeps w (w.alloc (.cells #[.slice (some ⟨ab, 0, none⟩) 1 1, .slice none 0 0] 46)) [] := (Keeps.refl w []).alloc _
  have hG0 : Blk (w.alloc (.cells #[.slice (some ⟨ab, 0, none⟩) 1 1, .slice none 0 0] 46)) w.heap.size 46 #[.slice (some ⟨ab, 0, none⟩) 1 1, .slice none 0 0] := Blk.new _ _ _
  have HK0 := Lib.hid hK0
  have HG0 := Lib.hid hG0
  clear hK0 hG0 hr h
  go_enter Tryd.func11, Tryd.ntmps11
  go_upto_region 1 with fail
  generalize (w.alloc (.cells #[.slice (some ⟨ab, 0, none⟩) 1 1, .slice none 0 0] 46)) = w0 at HK0 HG0 ⊢
  go_wp2_with fail
  refine (HN.out _).mono ?_
  rintro e w1 ⟨hb, L, rfl, hp, hL, k1⟩
  obtain ⟨ag, ah, vb, AA, FA, TA, MA, ca, nt, ct, nm, cm, cf, rfl, hm⟩ := hp
  have hbl : w0.heap.size ≤ hb := hL hb (by simp [hpL])
  have HB := Lib.hid hm.blk
  have HBL := Lib.hid (Nat.le_trans HK0.out.size hbl)
  have HK1 := Lib.hid (HK0.out.trans k1)
  have HG1 := Lib.hid (HG0.out.keep k1 (by simp))
  clear hm hL hbl k1
  go_upto_region 3 with fail
  have HW : Hid (∀ W', Keeps w1 W' [] → (W'.cell? ⟨w.heap.size, 0, none⟩ = some (.slice (some ⟨ab, 0, none⟩) 1 1) ∧ W'.cell? ⟨w.heap.size, 1, none⟩ = some (.slice none 0 0)) ∧ (W'.cell? ⟨hb, 1, none⟩ = some (.slice AA 0 ca) ∧ W'.cell? ⟨hb, 2, none⟩ = some (.slice FA 0 cf)) ∧ W'.frozen? ⟨hb, 1, none⟩ = false ∧ W'.frozen? ⟨hb, 2, none⟩ = false) := fun W' kk =>
    have b1 := HG1.out.keep kk (by simp)
    have b2 := HB.out.keep kk (by simp)
    ⟨⟨b1.cell 0, b1.cell 1⟩, ⟨b2.cell 1, b2.cell 2⟩, b2.frozen 1, b2.frozen 2⟩
  refine wp_region_tx (fun W' => (W'.cell? ⟨w.heap.size, 0, none⟩ = some (.slice (some ⟨ab, 0, none⟩) 1 1) ∧ W'.cell? ⟨w.heap.size, 1, none⟩ = some (.slice none 0 0)) ∧ (W'.cell? ⟨hb, 1, none⟩ = some (.slice AA 0 ca) ∧ W'.cell? ⟨hb, 2, none⟩ = some (.slice FA 0 cf)) ∧ W'.frozen? ⟨hb, 1, none⟩ = false ∧ W'.frozen? ⟨hb, 2, none⟩ = false) [(0, true), (1, true), (2, true), (4, true), (5, true), (3, false), (6, false), (7, true), (8, true), (9, true), (10, false)] (by kernel_rfl) (by kernel_rfl) (HW.out _ (Keeps.refl _ _).drew) (fun hHeld => ?_)
  (repeat (first | (refine wpTx_take (v := ?_) rfl (by assumption) ?_ (by rfl) ?_; rotate_left; (focus (intro w' hSw; (try dsimp only at hSw); go_simp; (try with_reducible rfl); done)); simp only [Act.put, List.setIfInBounds_toArray, List.set_cons_zero, List.set_cons_succ]) | (refine wpTx_skip rfl (by assumption) (by rfl) ?_; simp only [Act.put, List.setIfInBounds_toArray, List.set_cons_zero, List.set_cons_succ])))
  refine wpTx_go rfl (fun K hK => ?_)
  go_simp
  refine (HS.out _ HK1.out.drew).mono ?_
  rintro e w2 ⟨A, c, rfl, _, k2⟩
  have HK2 := Lib.hid ((Keeps.refl w1 []).drew.trans k2)
  clear k2
  refine hK.out _ _ ?_ ?_
  · exact HW.out _ HK2.out
  (clear hHeld; intro hHeld; clear hK K; (try simp only [Act.put, List.setIfInBounds_toArray, List.set_cons_zero, List.set_cons_succ]))
  refine wpTx_go rfl (fun K hK => ?_)
  go_simp
  refine (HF.out _).mono ?_
  rintro e w3 ⟨A', c', rfl, _, k3⟩
  have HK3 := Lib.hid (HK2.out.trans k3)
  clear k3
  refine hK.out _ _ ?_ ?_
  · exact HW.out _ HK3.out
  (clear hHeld; intro hHeld; clear hK K; (try simp only [Act.put, List.setIfInBounds_toArray, List.set_cons_zero, List.set_cons_succ]))
  (repeat (first | (refine wpTx_take (v := ?_) rfl (by assumption) ?_ (by rfl) ?_; rotate_left; (focus (intro w' hSw; (try dsimp only at hSw); go_simp; (try with_reducible rfl); done)); simp only [Act.put, List.setIfInBounds_toArray, List.set_cons_zero, List.set_cons_succ]) | (refine wpTx_skip rfl (by assumption) (by rfl) ?_; simp only [Act.put, List.setIfInBounds_toArray, List.set_cons_zero, List.set_cons_succ])))
  refine wpTx_last rfl (fun K hK => ?_)
  go_simp
  refine hK.out _ _ (NoPanic.normal ?_); clear hK K; (try simp only [Act.put, List.setIfInBounds_toArray, List.set_cons_zero, List.set_cons_succ])
  go_wp2_with fail
  go_ret2
  exact ⟨hb, rfl, ((HK1.out.trans HK3.out).setCell (.inr HBL.out) _).setCell (.inr HBL.out) _⟩
set_option maxRecDepth 100000 in
set_option maxHeartbeats 6400000 in
theorem heapNews_any (room : Int) (w : World) (hS : Tab w) : Calls Tryd.prog 4 #[.int .i64 room] w fun e w' => e = .returned (.bool true) ∧ Keeps w w' [] := by
  have HSt := Lib.hid hS
  have hK0 : Keeps w (w.alloc (.cells #[.string ⟨#[97]⟩] 9)) [] := (Keeps.refl w []).alloc _
  have hB0 : Blk (w.alloc (.cells #[.string ⟨#[97]⟩] 9)) w.heap.size 9 #[.string ⟨#[97]⟩] := Blk.new _ _ _
  have HK0 := Lib.hid hK0
  have HB0 := Lib.hid hB0
  clear hS hK0 hB0
  by_cases hr : 0 ≤ room ∧ room ≤ 65536
  · obtain ⟨n, rfl⟩ := Int.eq_ofNat_of_zero_le hr.1
    have HC := Lib.hid (with_yes n w.heap.size _ (by omega) HB0.out)
    have d0 : decide ((n : Int) ≥ 0) = true := by simp
    have d1 : decide ((n : Int) ≤ 65536) = true := by simpa using hr.2
    have d2 : decide (0 ≤ (n : Int)) = true := by simp
    clear hr
    go_enter Tryd.func4, Tryd.ntmps4
    go_wp2_with fail
    refine HC.out.mono ?_
    rintro e w1 ⟨hb, rfl, k1⟩
    have HK1 := Lib.hid (HK0.out.trans k1)
    clear k1
    go_wp2_with fail
    refine (hmark_nil _).mono ?_
    rintro e w2 ⟨rfl, rfl⟩
    go_wp2_with fail
    refine (tmToW_any (.mk 0 0 ⟨#[]⟩ []) ⟨0, 0, ⟨#[]⟩, none, 0, 0⟩ _ (tr_leaf _ _ 0 0 ⟨#[]⟩ (by decide)) (by rw [tWid]; exact ⟨by simp, by rw [tWids]; trivial⟩)).mono ?_
    rintro e w2 ⟨u, rfl, _, k2⟩
    have HK2 := Lib.hid (HK1.out.trans k2)
    unfold tvV
    clear k2
    go_wp2_with fail
    refine (hbuild_nil _ _ _ _ _ _ _).mono ?_
    rintro e w3 ⟨rfl, k3⟩
    have HK3 := Lib.hid (HK2.out.trans k3)
    clear k3
    go_wp2_with fail
    refine (hread_nil _).mono ?_
    rintro e w4 ⟨rfl, k4⟩
    have HK4 := Lib.hid ((HK3.out.trans k4).alloc (.cells #[.int .i64 0, .int .i64 0, .string ⟨#[]⟩, .slice none 0 0] 34))
    clear k4
    go_wp2_with fail
    refine (hderef_nil _).mono ?_
    rintro e w5 ⟨rfl, rfl⟩
    go_wp2_with fail
    refine (hunify_nil _).mono ?_
    rintro e w5 ⟨rfl, rfl⟩
    generalize w4.alloc (.cells #[.int .i64 0, .int .i64 0, .string ⟨#[]⟩, .slice none 0 0] 34) = w4 at HK4 ⊢
    go_wp2_with fail
    refine (told5_any _ (HSt.out.keep HK4.out)).mono ?_
    rintro e w6 ⟨rfl, k6⟩
    have HK6 := Lib.hid (HK4.out.trans k6)
    clear k6
    go_wp2_with fail
    refine (hundo_nil _).mono ?_
    rintro e w7 ⟨rfl, rfl⟩
    go_wp2_with fail
    refine (hdrop_nil _).mono ?_
    rintro e w7 ⟨rfl, rfl⟩
    go_wp2_with fail
    refine (hpush_nil _).mono ?_
    rintro e w7 ⟨rfl, rfl⟩
    go_wp2_with fail
    refine (hbind_nil _).mono ?_
    rintro e w7 ⟨rfl, rfl⟩
    go_wp2_with fail
    refine (hmarks_nil _).mono ?_
    rintro e w7 ⟨rfl, rfl⟩
    go_wp2_with fail
    refine (hcells_nil _).mono ?_
    rintro e w7 ⟨rfl, rfl⟩
    go_wp2_with fail
    refine (htrail_nil _).mono ?_
    rintro e w7 ⟨rfl, rfl⟩
    go_wp2_with fail
    refine (hnames_nil _).mono ?_
    rintro e w7 ⟨rfl, k7⟩
    have HK7 := Lib.hid (HK6.out.trans k7)
    clear k7
    have hfield := names_field0
    go_wp2_with fail
    refine (refMake_yes 0 1 _ ⟨by omega, by omega, by omega, by omega⟩).mono ?_
    rintro e w8 ⟨rfl, rfl⟩
    go_wp2_with fail
    go_ret
    exact ⟨rfl, HK7.out⟩
  · have hr' : room < 0 ∨ 65536 < room := by omega
    have HC := Lib.hid (with_no room w.heap.size (w.alloc (.cells #[.string ⟨#[97]⟩] 9)) hr')
    by_cases h0 : 0 ≤ room
    · have d0 : decide (room ≥ 0) = true := by simpa using h0
      have d1 : decide (room ≤ 65536) = false := by simp; omega
      have d2 : decide (0 ≤ room) = true := by simpa using h0
      clear hr hr' h0
      go_enter Tryd.func4, Tryd.ntmps4
      go_wp2_with fail
      refine HC.out.mono ?_
      rintro e w1 ⟨rfl, k1⟩
      have HK1 := Lib.hid (HK0.out.trans k1)
      clear k1
      go_wp2_with fail
      refine (hmark_nil _).mono ?_
      rintro e w2 ⟨rfl, rfl⟩
      go_wp2_with fail
      refine (tmToW_any (.mk 0 0 ⟨#[]⟩ []) ⟨0, 0, ⟨#[]⟩, none, 0, 0⟩ _ (tr_leaf _ _ 0 0 ⟨#[]⟩ (by decide)) (by rw [tWid]; exact ⟨by simp, by rw [tWids]; trivial⟩)).mono ?_
      rintro e w2 ⟨u, rfl, _, k2⟩
      have HK2 := Lib.hid (HK1.out.trans k2)
      unfold tvV
      clear k2
      go_wp2_with fail
      refine (hbuild_nil _ _ _ _ _ _ _).mono ?_
      rintro e w3 ⟨rfl, k3⟩
      have HK3 := Lib.hid (HK2.out.trans k3)
      clear k3
      go_wp2_with fail
      refine (hread_nil _).mono ?_
      rintro e w4 ⟨rfl, k4⟩
      have HK4 := Lib.hid ((HK3.out.trans k4).alloc (.cells #[.int .i64 0, .int .i64 0, .string ⟨#[]⟩, .slice none 0 0] 34))
      clear k4
      go_wp2_with fail
      refine (hderef_nil _).mono ?_
      rintro e w5 ⟨rfl, rfl⟩
      go_wp2_with fail
      refine (hunify_nil _).mono ?_
      rintro e w5 ⟨rfl, rfl⟩
      generalize w4.alloc (.cells #[.int .i64 0, .int .i64 0, .string ⟨#[]⟩, .slice none 0 0] 34) = w4 at HK4 ⊢
      go_wp2_with fail
      refine (told5_any _ (HSt.out.keep HK4.out)).mono ?_
      rintro e w6 ⟨rfl, k6⟩
      have HK6 := Lib.hid (HK4.out.trans k6)
      clear k6
      go_wp2_with fail
      refine (hundo_nil _).mono ?_
      rintro e w7 ⟨rfl, rfl⟩
      go_wp2_with fail
      refine (hdrop_nil _).mono ?_
      rintro e w7 ⟨rfl, rfl⟩
      go_wp2_with fail
      refine (hpush_nil _).mono ?_
      rintro e w7 ⟨rfl, rfl⟩
      go_wp2_with fail
      refine (hbind_nil _).mono ?_
      rintro e w7 ⟨rfl, rfl⟩
      go_wp2_with fail
      refine (hmarks_nil _).mono ?_
      rintro e w7 ⟨rfl, rfl⟩
      go_wp2_with fail
      refine (hcells_nil _).mono ?_
      rintro e w7 ⟨rfl, rfl⟩
      go_wp2_with fail
      refine (htrail_nil _).mono ?_
      rintro e w7 ⟨rfl, rfl⟩
      go_wp2_with fail
      refine (hnames_nil _).mono ?_
      rintro e w7 ⟨rfl, k7⟩
      have HK7 := Lib.hid (HK6.out.trans k7)
      clear k7
      have hfield := names_field0
      go_wp2_with fail
      refine (refMake_yes 0 1 _ ⟨by omega, by omega, by omega, by omega⟩).mono ?_
      rintro e w8 ⟨rfl, rfl⟩
      go_wp2_with fail
      go_ret
      exact ⟨rfl, HK7.out⟩
    · have d0 : decide (room ≥ 0) = false := by simp; omega
      have d2 : decide (0 ≤ room) = false := by simp; omega
      clear hr hr' h0
      go_enter Tryd.func4, Tryd.ntmps4
      go_wp2_with fail
      refine HC.out.mono ?_
      rintro e w1 ⟨rfl, k1⟩
      have HK1 := Lib.hid (HK0.out.trans k1)
      clear k1
      go_wp2_with fail
      refine (hmark_nil _).mono ?_
      rintro e w2 ⟨rfl, rfl⟩
      go_wp2_with fail
      refine (tmToW_any (.mk 0 0 ⟨#[]⟩ []) ⟨0, 0, ⟨#[]⟩, none, 0, 0⟩ _ (tr_leaf _ _ 0 0 ⟨#[]⟩ (by decide)) (by rw [tWid]; exact ⟨by simp, by rw [tWids]; trivial⟩)).mono ?_
      rintro e w2 ⟨u, rfl, _, k2⟩
      have HK2 := Lib.hid (HK1.out.trans k2)
      unfold tvV
      clear k2
      go_wp2_with fail
      refine (hbuild_nil _ _ _ _ _ _ _).mono ?_
      rintro e w3 ⟨rfl, k3⟩
      have HK3 := Lib.hid (HK2.out.trans k3)
      clear k3
      go_wp2_with fail
      refine (hread_nil _).mono ?_
      rintro e w4 ⟨rfl, k4⟩
      have HK4 := Lib.hid ((HK3.out.trans k4).alloc (.cells #[.int .i64 0, .int .i64 0, .string ⟨#[]⟩, .slice none 0 0] 34))
      clear k4
      go_wp2_with fail
      refine (hderef_nil _).mono ?_
      rintro e w5 ⟨rfl, rfl⟩
      go_wp2_with fail
      refine (hunify_nil _).mono ?_
      rintro e w5 ⟨rfl, rfl⟩
      generalize w4.alloc (.cells #[.int .i64 0, .int .i64 0, .string ⟨#[]⟩, .slice none 0 0] 34) = w4 at HK4 ⊢
      go_wp2_with fail
      refine (told5_any _ (HSt.out.keep HK4.out)).mono ?_
      rintro e w6 ⟨rfl, k6⟩
      have HK6 := Lib.hid (HK4.out.trans k6)
      clear k6
      go_wp2_with fail
      refine (hundo_nil _).mono ?_
      rintro e w7 ⟨rfl, rfl⟩
      go_wp2_with fail
      refine (hdrop_nil _).mono ?_
      rintro e w7 ⟨rfl, rfl⟩
      go_wp2_with fail
      refine (hpush_nil _).mono ?_
      rintro e w7 ⟨rfl, rfl⟩
      go_wp2_with fail
      refine (hbind_nil _).mono ?_
      rintro e w7 ⟨rfl, rfl⟩
      go_wp2_with fail
      refine (hmarks_nil _).mono ?_
      rintro e w7 ⟨rfl, rfl⟩
      go_wp2_with fail
      refine (hcells_nil _).mono ?_
      rintro e w7 ⟨rfl, rfl⟩
      go_wp2_with fail
      refine (htrail_nil _).mono ?_
      rintro e w7 ⟨rfl, rfl⟩
      go_wp2_with fail
      refine (hnames_nil _).mono ?_
      rintro e w7 ⟨rfl, k7⟩
      have HK7 := Lib.hid (HK6.out.trans k7)
      clear k7
      have hfield := names_field0
      go_wp2_with fail
      refine (refMake_yes 0 1 _ ⟨by omega, by omega, by omega, by omega⟩).mono ?_
      rintro e w8 ⟨rfl, rfl⟩
      go_wp2_with fail
      go_ret
      exact ⟨rfl, HK7.out⟩
end Go.Proofs.YtnonfmaehfmigaaDoor
