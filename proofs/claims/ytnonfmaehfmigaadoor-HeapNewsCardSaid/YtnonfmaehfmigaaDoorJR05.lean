/- Numbers of names, and of such with terms. Printed by gen_hpfns.py. -/
import Derived.Test.YtnonfmaehfmigaaDoorJR04
import Derived.Test.YtnonfmaehfmigaaDoorJR03
import Derived.Test.YtnonfmaehfmigaaDoorJR02
import Derived.Shelf.Spec.SlicesInsertGrow
import Derived.Shelf.SlMaps.Clone
namespace Go.Proofs.YtnonfmaehfmigaaDoor
open Go.RowKit Go.Maps

theorem idx_at {α : Type} [DecidableEq α] : ∀ {l : List α} {k : Nat} {x : α}, l[k]? = some x → (∀ y ∈ l.take k, y ≠ x) → l.idxOf x = k
  | [], k, x, hx, _ => by simp at hx
  | a :: l, 0, x, hx, _ => by
    simp at hx
    subst hx
    exact List.idxOf_cons_self
  | a :: l, k + 1, x, hx, hb => by
    have h1 : a ≠ x := hb a (by simp)
    have h2 := idx_at (l := l) (k := k) (x := x) (by simpa using hx) (fun y hy => hb y (by simp [hy]))
    have h3 : (a == x) = false := by rw [beq_eq_false_iff_ne]; exact h1
    rw [List.idxOf_cons, h3, h2]
    rfl
/-- Its place, or -1. -/
def idxI {α : Type} [DecidableEq α] (l : List α) (x : α) : Int := if x ∈ l then (l.idxOf x : Int) else -1
theorem idxI_at {α : Type} [DecidableEq α] {l : List α} {k : Nat} {x : α} (hx : l[k]? = some x) (hb : ∀ y ∈ l.take k, y ≠ x) : idxI l x = k := by
  unfold idxI
  rw [if_pos (List.mem_of_getElem? hx), idx_at hx hb]
theorem idxI_no {α : Type} [DecidableEq α] {l : List α} {x : α} (h : x ∉ l) : idxI l x = -1 := by
  unfold idxI
  rw [if_neg h]
theorem idxI_num {α : Type} [DecidableEq α] (l : List α) (x : α) : (0 ≤ idxI l x ∧ numL l x = l ∧ (numI l x : Int) = idxI l x) ∨ (idxI l x = -1 ∧ numL l x = l ++ [x] ∧ numI l x = l.length) := by
  unfold idxI numL numI
  by_cases h : x ∈ l
  · rw [if_pos h, if_pos h, if_pos h]
    exact .inl ⟨by omega, rfl, rfl⟩
  · rw [if_neg h, if_neg h, if_neg h]
    exact .inr ⟨rfl, rfl, rfl⟩
def strE (x : ByteArray) : List Value := [.string x]
theorem strE_len (x : ByteArray) : (strE x).length = 1 := rfl
theorem strE_flat : ∀ l : List ByteArray, l.flatMap strE = l.map Value.string
  | [] => rfl
  | a :: l => by rw [List.flatMap_cons, strE_flat l]; rfl
theorem el_fun : ElemT Tryd.prog 44 80 2 := elemT_of (b := 24) (z := .agg #[.string ⟨#[]⟩, .int .i64 0]) Tryd.underlying44 (by kernel_rfl) (by omega) rfl (by omega)

set_option maxRecDepth 100000 in
set_option maxHeartbeats 1600000 in
theorem indexS_any (x : ByteArray) (A : Option Addr) (n c : Nat) (l : List (ByteArray)) (w : World) (hl : l.length = n) (hn : n ≤ 1000000) (hA : Rd w A (l.flatMap strE)) :
    Calls Tryd.prog 88 #[.slice A n c, (.string x)] w fun e w' => e = .returned (.int .i64 (idxI l x)) ∧ Keeps w w' [] := by
  have HL := Lib.hid hl
  have HA := Lib.hid hA
  have HKw : Hid (Keeps w w []) := Keeps.refl _ _
  clear hl hA
  go_enter Tryd.func88, Tryd.ntmps88
  go_wp2_with fail
  go_loopw [8] (fun i wr => ∃ k : Nat, k ≤ n ∧ i = .int .i64 k ∧ (∀ y ∈ l.take k, y ≠ x) ∧ Keeps w wr []) (fun i _ => n - (intOf i).toNat)
  case atStart => exact ⟨0, Nat.zero_le _, rfl, (fun y hy => by simp at hy), Keeps.refl _ _⟩
  case round =>
    obtain ⟨k, hk, rfl, hb, hkeep⟩ := hrel
    have HB := Lib.hid hb
    have HK := Lib.hid hkeep
    clear hb
    by_cases hlt : k < n
    · obtain ⟨y, hy⟩ := at_of HL.out hlt
      obtain ⟨b, off, rfl, hbl, hc⟩ := (HA.out.keep (HKw.out.trans hkeep)).field strE_len hy (by omega)
      have p0 : (wr.cell? ⟨b, off + k, none⟩) = some (.string y) := by have := hc 0 _ rfl; simpa using this
      have HY := Lib.hid hy
      have b0 : (0 : Int) ≤ (k : Int) := Int.natCast_nonneg _
      have b1 : (k : Int) < (n : Int) := by omega
      clear hy hc hkeep
      by_cases hxy : x = y
      · subst hxy
        have HI : Hid ((idxI l x) = (k : Int)) := by
          exact idxI_at HY.out HB.out
        go_wp2_with fail
        go_ret
        exact ⟨by rw [HI.out]; rfl, HKw.out.trans HK.out⟩
      · have HN : Hid (∀ z ∈ l.take (k + 1), z ≠ x) := fun z hz => by
          rw [List.take_add_one, HY.out] at hz
          rcases List.mem_append.1 hz with hz | hz
          · exact HB.out z hz
          · simp at hz; subst hz; exact fun e => hxy e.symm
        have d0 : (x.toList == y.toList) = false := by rw [str_eq]; simpa using hxy
        have d1 : ¬ x.toList = y.toList := by simpa using d0
        clear hxy
        go_wp2_with fail
        go_roundw
        case rel => exact ⟨k + 1, by omega, by go_num, HN.out, HK.out⟩
        case measure => simp [intOf]; omega
    · obtain rfl : n = k := by omega
      have HI : Hid ((idxI l x) = -1) := by
        refine idxI_no fun hm => ?_
        have h1 := HB.out
        rw [List.take_of_length_le (by rw [HL.out]; omega)] at h1
        exact h1 x hm rfl
      clear hlt hk hkeep
      go_wp2_with fail
      go_ret
      exact ⟨by rw [HI.out]; rfl, HKw.out.trans HK.out⟩

set_option maxRecDepth 100000 in
set_option maxHeartbeats 1600000 in
theorem indexF_any (x : ByteArray × Int) (A : Option Addr) (n c : Nat) (l : List (ByteArray × Int)) (w : World) (hl : l.length = n) (hn : n ≤ 1000000) (hA : Rd w A (l.flatMap funE)) :
    Calls Tryd.prog 89 #[.slice A n c, (.agg #[.string x.1, .int .i64 x.2])] w fun e w' => e = .returned (.int .i64 (idxI l x)) ∧ Keeps w w' [] := by
  have HL := Lib.hid hl
  have HA := Lib.hid hA
  have HKw : Hid (Keeps w (w.alloc (.cells #[.string x.1, .int .i64 x.2] 80)) []) := (Keeps.refl w []).alloc _
  have HBx : Hid (Blk (w.alloc (.cells #[.string x.1, .int .i64 x.2] 80)) w.heap.size 80 #[.string x.1, .int .i64 x.2]) := Blk.new _ _ _
  clear hl hA
  go_enter Tryd.func89, Tryd.ntmps89
  go_wp2_with fail
  go_loopw [8] (fun i wr => ∃ k : Nat, k ≤ n ∧ i = .int .i64 k ∧ (∀ y ∈ l.take k, y ≠ x) ∧ Keeps (w.alloc (.cells #[.string x.1, .int .i64 x.2] 80)) wr []) (fun i _ => n - (intOf i).toNat)
  case atStart => exact ⟨0, Nat.zero_le _, rfl, (fun y hy => by simp at hy), Keeps.refl _ _⟩
  case round =>
    obtain ⟨k, hk, rfl, hb, hkeep⟩ := hrel
    have HB := Lib.hid hb
    have HK := Lib.hid hkeep
    clear hb
    by_cases hlt : k < n
    · obtain ⟨y, hy⟩ := at_of HL.out hlt
      obtain ⟨b, off, rfl, hbl, hc⟩ := (HA.out.keep (HKw.out.trans hkeep)).field funE_len hy (by omega)
      have p0 : (wr.cell? ⟨b, off + k * 2, none⟩) = some (.string y.1) := by have := hc 0 _ rfl; simpa using this
      have p1 : (wr.cell? ⟨b, off + k * 2 + 1, none⟩) = some (.int .i64 y.2) := hc 1 _ rfl
      have x0 := (HBx.out.keep hkeep (by simp)).cell 0
      have x1 := (HBx.out.keep hkeep (by simp)).cell 1
      have HY := Lib.hid hy
      have b0 : (0 : Int) ≤ (k : Int) := Int.natCast_nonneg _
      have b1 : (k : Int) < (n : Int) := by omega
      clear hy hc hkeep
      by_cases hxy : x = y
      · subst hxy
        have HI : Hid ((idxI l x) = (k : Int)) := by
          exact idxI_at HY.out HB.out
        go_upto_region 4 with fail
        refine wp_region_tx (fun W' => W'.cell? ⟨w.heap.size, 0, none⟩ = some (.string x.1) ∧ W'.cell? ⟨w.heap.size, 1, none⟩ = some (.int .i64 x.2) ∧ W'.cell? ⟨b, off + k * 2, none⟩ = some (.string x.1) ∧ W'.cell? ⟨b, off + k * 2 + 1, none⟩ = some (.int .i64 x.2)) [(0, true), (1, true), (2, true), (3, true), (4, true), (5, false)] (by kernel_rfl) (by kernel_rfl) ⟨x0, x1, p0, p1⟩ (fun hHeld => ?_)
        (repeat (first | (refine wpTx_take (v := ?_) rfl (by assumption) ?_ (by rfl) ?_; rotate_left; (focus (intro w' hSw; (try dsimp only at hSw); go_simp; (try with_reducible rfl); done)); simp only [Act.put, List.setIfInBounds_toArray, List.set_cons_zero, List.set_cons_succ]) | (refine wpTx_skip rfl (by assumption) (by rfl) ?_; simp only [Act.put, List.setIfInBounds_toArray, List.set_cons_zero, List.set_cons_succ])))
        refine wpTx_last rfl (fun K hK => ?_)
        go_simp
        refine hK.out _ _ (NoPanic.normal ?_); clear hK K; (try simp only [Act.put, List.setIfInBounds_toArray, List.set_cons_zero, List.set_cons_succ])
        clear x0 x1 p0 p1
        go_wp2_with fail
        go_ret
        exact ⟨by rw [HI.out]; rfl, HKw.out.trans HK.out.drew⟩
      · have HN : Hid (∀ z ∈ l.take (k + 1), z ≠ x) := fun z hz => by
          rw [List.take_add_one, HY.out] at hz
          rcases List.mem_append.1 hz with hz | hz
          · exact HB.out z hz
          · simp at hz; subst hz; exact fun e => hxy e.symm
        by_cases hs : x.1 = y.1
        · have d2 : (x.2 == y.2) = false := by
            simp only [beq_eq_false_iff_ne]
            exact fun e => hxy (Prod.ext hs e)
          rw [← hs] at p0
          clear hxy hs
          go_upto_region 4 with fail
          refine wp_region_tx (fun W' => W'.cell? ⟨w.heap.size, 0, none⟩ = some (.string x.1) ∧ W'.cell? ⟨w.heap.size, 1, none⟩ = some (.int .i64 x.2) ∧ W'.cell? ⟨b, off + k * 2, none⟩ = some (.string x.1) ∧ W'.cell? ⟨b, off + k * 2 + 1, none⟩ = some (.int .i64 y.2)) [(0, true), (1, true), (2, true), (3, true), (4, true), (5, false)] (by kernel_rfl) (by kernel_rfl) ⟨x0, x1, p0, p1⟩ (fun hHeld => ?_)
          (repeat (first | (refine wpTx_take (v := ?_) rfl (by assumption) ?_ (by rfl) ?_; rotate_left; (focus (intro w' hSw; (try dsimp only at hSw); go_simp; (try with_reducible rfl); done)); simp only [Act.put, List.setIfInBounds_toArray, List.set_cons_zero, List.set_cons_succ]) | (refine wpTx_skip rfl (by assumption) (by rfl) ?_; simp only [Act.put, List.setIfInBounds_toArray, List.set_cons_zero, List.set_cons_succ])))
          refine wpTx_last rfl (fun K hK => ?_)
          go_simp
          refine hK.out _ _ (NoPanic.normal ?_); clear hK K; (try simp only [Act.put, List.setIfInBounds_toArray, List.set_cons_zero, List.set_cons_succ])
          clear x0 x1 p0 p1
          go_wp2_with fail
          go_roundw
          case rel => exact ⟨k + 1, by omega, by go_num, HN.out, HK.out.drew⟩
          case measure => simp [intOf]; omega
        · have d0 : (x.1.toList == y.1.toList) = false := by rw [str_eq]; simpa using hs
          have d1 : ¬ x.1.toList = y.1.toList := by simpa using d0
          clear hxy hs
          go_upto_region 4 with fail
          refine wp_region_tx (fun W' => W'.cell? ⟨w.heap.size, 0, none⟩ = some (.string x.1) ∧ W'.cell? ⟨w.heap.size, 1, none⟩ = some (.int .i64 x.2) ∧ W'.cell? ⟨b, off + k * 2, none⟩ = some (.string y.1) ∧ W'.cell? ⟨b, off + k * 2 + 1, none⟩ = some (.int .i64 y.2)) [(0, true), (1, true), (2, true), (3, true), (4, true), (5, false)] (by kernel_rfl) (by kernel_rfl) ⟨x0, x1, p0, p1⟩ (fun hHeld => ?_)
          (repeat (first | (refine wpTx_take (v := ?_) rfl (by assumption) ?_ (by rfl) ?_; rotate_left; (focus (intro w' hSw; (try dsimp only at hSw); go_simp; (try with_reducible rfl); done)); simp only [Act.put, List.setIfInBounds_toArray, List.set_cons_zero, List.set_cons_succ]) | (refine wpTx_skip rfl (by assumption) (by rfl) ?_; simp only [Act.put, List.setIfInBounds_toArray, List.set_cons_zero, List.set_cons_succ])))
          refine wpTx_last rfl (fun K hK => ?_)
          go_simp
          refine hK.out _ _ (NoPanic.normal ?_); clear hK K; (try simp only [Act.put, List.setIfInBounds_toArray, List.set_cons_zero, List.set_cons_succ])
          clear x0 x1 p0 p1
          go_wp2_with fail
          go_roundw
          case rel => exact ⟨k + 1, by omega, by go_num, HN.out, HK.out.drew⟩
          case measure => simp [intOf]; omega
    · obtain rfl : n = k := by omega
      have HI : Hid ((idxI l x) = -1) := by
        refine idxI_no fun hm => ?_
        have h1 := HB.out
        rw [List.take_of_length_le (by rw [HL.out]; omega)] at h1
        exact h1 x hm rfl
      clear hlt hk hkeep
      go_wp2_with fail
      go_ret
      exact ⟨by rw [HI.out]; rfl, HKw.out.trans HK.out⟩

set_option maxRecDepth 100000 in
set_option maxHeartbeats 1600000 in
theorem numberS_any (x : ByteArray) (l : List (ByteArray)) (A : Option Addr) (c base : Nat) (w : World) (hown : w.ownsRow base 9 1 (.slice A l.length c) l.length (l.flatMap strE)) (hn : l.length ≤ 1000000) (hb : base ≤ w.heap.size) :
    Calls Tryd.prog 73 #[.slice A l.length c, (.string x)] w fun e w' => ∃ A' c', e = .returned (.tuple #[.slice A' (numL l x).length c', .int .i64 (numI l x)]) ∧ w'.ownsRow base 9 1 (.slice A' (numL l x).length c') (numL l x).length ((numL l x).flatMap strE) ∧ Keeps w w' (ownL (.slice A 0 0)) ∧ ∀ b ∈ ownL (.slice A' 0 0), b ∈ ownL (.slice A 0 0) ∨ w.heap.size ≤ b := by
  obtain ⟨n, hnl⟩ : ∃ n, l.length = n := ⟨_, rfl⟩
  rw [hnl] at hown hn ⊢
  have HL := Lib.hid hnl
  have HK0 : Hid (Keeps w w []) := Keeps.refl _ _
  have HO := Lib.hid (own_keep0 hown HK0.out)
  have HC := Lib.hid (indexS_any x A n c l w hnl hn (Rd.of_own HO.out))
  clear hown hnl
  go_enter Tryd.func73, Tryd.ntmps73
  go_wp2_with fail
  refine HC.out.mono ?_
  rintro e w1 ⟨rfl, k1⟩
  have HK1 := Lib.hid (HK0.out.trans k1)
  have HO1 := Lib.hid (own_keep0 HO.out k1)
  clear k1 HC HO
  rcases idxI_num l x with ⟨h0, h1, h2⟩ | ⟨h0, h1, h2⟩
  · have HE1 := Lib.hid h1
    have HE2 := Lib.hid h2
    clear h1 h2
    generalize idxI l x = q at *
    go_wp2_with fail
    go_ret2
    refine ⟨A, c, ?_, ?_, HK1.out.to_ _, fun b hb => .inl hb⟩
    · rw [HE1.out, HE2.out, HL.out]; rfl
    · rw [HE1.out, HL.out]; exact HO1.out
  · have HE1 := Lib.hid h1
    have HE2 := Lib.hid h2
    clear h1 h2
    rw [h0]
    clear h0
    go_wp2_with (at_builtin; have K5 := (Keeps.refl w1 []).alloc (.cells #[.string x] 9); have hz1 := HK1.out.size; have hz5 := K5.size; refine wpList_app _ el_str rfl (.tmp 14) (.tmp 16) rfl base A n c (l.flatMap strE) rfl (own_keep0 HO1.out K5) (some ⟨w1.heap.size, 0, none⟩) 1 1 (strE x) rfl (Rd.one w1 _ (strE x)) rfl (by simp) (by simp [strE, Value.oneCell']) (by omega) (by omega) ?_; intro A' c' w2 hown2 hgrow hat; have HN := Lib.hid hown2; have HG := Lib.hid (K5.to_ (ownL (.slice A n c)) |>.trans (Keeps.ofGrown hgrow)); have HAt := Lib.hid hat; clear hown2 hgrow hat K5)
    go_ret2
    refine ⟨A', c', ?_, ?_, ?_, fun b hb => ?_⟩
    · rw [HE1.out, HE2.out, List.length_append, List.length_singleton, HL.out]; rfl
    · rw [HE1.out, List.length_append, List.length_singleton, HL.out, List.flatMap_append]
      have h3 := HN.out
      simpa using h3
    · have h3 := (HK1.out.to_ (ownL (.slice A n c))).trans HG.out
      rw [ownL_slice] at h3
      exact h3
    · have h3 := HAt.out
      have hz1 := HK1.out.size
      have hb2 : some b = (Value.slice A' (n + 1) c').ownBlock := by
        rw [← ownL_slice A' (n + 1) c'] at hb
        unfold ownL at hb
        exact (by simpa using hb : (Value.slice A' (n + 1) c').ownBlock = some b).symm
      rcases h3 with h3 | h3
      · left
        rw [← ownL_slice A n c]
        unfold ownL
        rw [← h3, ← hb2]
        simp
      · right
        rw [h3] at hb2
        simp at hb2
        omega

set_option maxRecDepth 100000 in
set_option maxHeartbeats 1600000 in
theorem numberF_any (x : ByteArray × Int) (l : List (ByteArray × Int)) (A : Option Addr) (c base : Nat) (w : World) (hown : w.ownsRow base 80 2 (.slice A l.length c) l.length (l.flatMap funE)) (hn : l.length ≤ 1000000) (hb : base ≤ w.heap.size) :
    Calls Tryd.prog 74 #[.slice A l.length c, (.agg #[.string x.1, .int .i64 x.2])] w fun e w' => ∃ A' c', e = .returned (.tuple #[.slice A' (numL l x).length c', .int .i64 (numI l x)]) ∧ w'.ownsRow base 80 2 (.slice A' (numL l x).length c') (numL l x).length ((numL l x).flatMap funE) ∧ Keeps w w' (ownL (.slice A 0 0)) ∧ ∀ b ∈ ownL (.slice A' 0 0), b ∈ ownL (.slice A 0 0) ∨ w.heap.size ≤ b := by
  obtain ⟨n, hnl⟩ : ∃ n, l.length = n := ⟨_, rfl⟩
  rw [hnl] at hown hn ⊢
  have HL := Lib.hid hnl
  have HK0 : Hid (Keeps w (w.alloc (.cells #[.string x.1, .int .i64 x.2] 80)) []) := (Keeps.refl w []).alloc _
  have HBx : Hid (Blk (w.alloc (.cells #[.string x.1, .int .i64 x.2] 80)) w.heap.size 80 #[.string x.1, .int .i64 x.2]) := Blk.new _ _ _
  have HO := Lib.hid (own_keep0 hown HK0.out)
  have HC := Lib.hid (indexF_any x A n c l (w.alloc (.cells #[.string x.1, .int .i64 x.2] 80)) hnl hn (Rd.of_own HO.out))
  clear hown hnl
  go_enter Tryd.func74, Tryd.ntmps74
  go_wp2_with fail
  refine HC.out.mono ?_
  rintro e w1 ⟨rfl, k1⟩
  have HK1 := Lib.hid (HK0.out.trans k1)
  have HO1 := Lib.hid (own_keep0 HO.out k1)
  have x0 := (HBx.out.keep k1 (by simp)).cell 0
  have x1 := (HBx.out.keep k1 (by simp)).cell 1
  clear k1 HC HO
  rcases idxI_num l x with ⟨h0, h1, h2⟩ | ⟨h0, h1, h2⟩
  · have HE1 := Lib.hid h1
    have HE2 := Lib.hid h2
    clear h1 h2
    generalize idxI l x = q at *
    go_wp2_with fail
    go_ret2
    refine ⟨A, c, ?_, ?_, HK1.out.to_ _, fun b hb => .inl hb⟩
    · rw [HE1.out, HE2.out, HL.out]; rfl
    · rw [HE1.out, HL.out]; exact HO1.out
  · have HE1 := Lib.hid h1
    have HE2 := Lib.hid h2
    clear h1 h2
    rw [h0]
    clear h0
    go_wp2_with (at_builtin; have K5 := (Keeps.refl w1 []).alloc (.cells #[.string x.1, .int .i64 x.2] 80); have hz1 := HK1.out.size; have hz5 := K5.size; refine wpList_app _ el_fun rfl (.tmp 14) (.tmp 16) rfl base A n c (l.flatMap funE) rfl (own_keep0 HO1.out K5) (some ⟨w1.heap.size, 0, none⟩) 1 1 (funE x) rfl (Rd.one w1 _ (funE x)) rfl (by simp) (by simp [funE, Value.oneCell']) (by omega) (by omega) ?_; intro A' c' w2 hown2 hgrow hat; have HN := Lib.hid hown2; have HG := Lib.hid (K5.to_ (ownL (.slice A n c)) |>.trans (Keeps.ofGrown hgrow)); have HAt := Lib.hid hat; clear hown2 hgrow hat K5)
    go_ret2
    refine ⟨A', c', ?_, ?_, ?_, fun b hb => ?_⟩
    · rw [HE1.out, HE2.out, List.length_append, List.length_singleton, HL.out]; rfl
    · rw [HE1.out, List.length_append, List.length_singleton, HL.out, List.flatMap_append]
      have h3 := HN.out
      simpa using h3
    · have h3 := (HK1.out.to_ (ownL (.slice A n c))).trans HG.out
      rw [ownL_slice] at h3
      exact h3
    · have h3 := HAt.out
      have hz1 := HK1.out.size
      have hb2 : some b = (Value.slice A' (n + 1) c').ownBlock := by
        rw [← ownL_slice A' (n + 1) c'] at hb
        unfold ownL at hb
        exact (by simpa using hb : (Value.slice A' (n + 1) c').ownBlock = some b).symm
      rcases h3 with h3 | h3
      · left
        rw [← ownL_slice A n c]
        unfold ownL
        rw [← h3, ← hb2]
        simp
      · right
        rw [h3] at hb2
        simp at hb2
        omega
end Go.Proofs.YtnonfmaehfmigaaDoor

/- slices.Insert of one cell ahead of a row of cells: in place, or a new row. (The walk's lines: the kit's worked slices.Insert at other elements, turned to cells.) -/
namespace Go.Proofs.YtnonfmaehfmigaaDoor
open Go.RowKit Go.Lib

theorem cell_size (w : World) : (Go.sizeOf 28).run Tryd.prog w = .ok 1 w := by kernel_rfl
set_option maxHeartbeats 4000000 in
set_option maxRecDepth 100000 in
/-- There is room: in place. -/
theorem insC_shift (b n c vb vc : Nat) (cs : List Value) (v : Value) (w : World) (hi : 0 < n) (hroom : n + 1 ≤ c) (hc63 : c ≤ 9223372036854775807) (hvb : vb ≠ b)
    (hcl : cs.length = n) (hcs : ∀ j v, cs[j]? = some v → w.cell? ⟨b, j, none⟩ = some v) (hsp : ∀ j, j < n + 1 → (w.cell? ⟨b, j, none⟩).isSome = true) (hfz : ∀ j, j < n + 1 → w.frozen? ⟨b, j, none⟩ = false)
    (hv : w.cell? ⟨vb, 0, none⟩ = some v) (h1c : ∀ v ∈ cs, v.oneCell' = true) (h1v : v.oneCell' = true)
    (tA tB : TypeId) (kA kB : Nat) (hsa : w.shape? vb = some (tA, kA)) (hsb : w.shape? b = some (tB, kB)) (hkB : kB ≠ 0) (hfa : w.frozen? ⟨vb, 0, none⟩ = false) (hfe : w.frozen? ⟨vb, kA, none⟩ = false) :
    Calls Tryd.prog 75 #[.slice (some ⟨b, 0, none⟩) n c, .int .i64 0, .slice (some ⟨vb, 0, none⟩) 1 vc] w fun e w' =>
      e = .returned (.slice (some ⟨b, 0, none⟩) (n + 1) c) ∧ w' = (w.drew.setCells b 1 cs).setCells b 0 [v] := by
  have ht := Tryd.underlying56
  have hz2 : ¬ ((0 : Int) = (n : Int)) := by omega
  have hsz : (Tryd.prog.info? 28).map (·.size) = some 1 := by kernel_rfl
  have hov : ∀ lb cb, (callFunc 90 #[.slice (some ⟨vb, 0, none⟩) 1 vc, .slice (some ⟨b, 1, none⟩) lb cb]).run Tryd.prog w = .ok (.value (.bool false)) w := fun lb cb => by
    rw [run_callFunc_extern Tryd.func90 (by kernel_rfl) (by kernel_rfl) (by kernel_rfl) (e := Extern.SlicesOverlaps.overlaps #[56, 56] #[4]) (by kernel_rfl),
      Lib.run_overlaps_apart w 56 4 28 ht 1 cell_size ⟨vb, 0, none⟩ ⟨b, 1, none⟩ 1 vc lb cb hvb tA tB kA kB hsa hsb hkB hfa hfe]
    rfl
  have hb2 : ¬ (c = 1) := by omega
  have hb4 : ¬ (c = 0) := by omega
  have hw0 : IntKind.i64.wrap (0 + 1) = 1 := by rw [IntKind.wrap_i64]; rfl
  have hw1 : IntKind.i64.wrap 1 = 1 := by rw [IntKind.wrap_i64]; rfl
  have mixed : Tryd.prog.follows .mixedOrders = true := by kernel_rfl
  have hb3 : (1 : Int) ≤ (n : Int) + 1 := by omega
  have hb5 : (0 : Int) ≤ (n : Int) + 1 := by omega
  have hcp1 : ∀ ty dc sc, (Builtin.copy_ #[56, 56] ty #[.slice (some ⟨b, 1, none⟩) n dc, .slice (some ⟨b, 0, none⟩) (n + 1) sc]).run Tryd.prog w.drew = .ok (goInt cs.length) (w.drew.setCells b 1 cs) := fun ty dc sc =>
    run_copy_cells w.drew _ _ ty 28 b 1 n dc ⟨b, 0, none⟩ (n + 1) sc cs ht hsz (by rw [hcl]; simp only [Nat.min_def]; split <;> omega)
      (fun j v hj => by rw [Addr.add_lit, Nat.zero_add]; exact hcs j v hj)
      (fun j hj => hsp _ (by omega)) (fun j hj => hfz _ (by omega)) h1c
  obtain ⟨W1, hW1⟩ : ∃ W1, W1 = w.drew.setCells b 1 cs := ⟨_, rfl⟩
  have hsp1 : ∀ k, k < n + 1 → (W1.cell? ⟨b, k, none⟩).isSome = true := fun k hk => by
    rw [hW1]
    exact isSome_setCells b cs 1 w.drew (fun j hj => hsp _ (by omega)) _ (hsp k hk)
  have hcp2 : ∀ (W : World), (∀ x, W.cell? x = W1.cell? x) → (∀ x, W.frozen? x = W1.frozen? x) → ∀ ty dc, (Builtin.copy_ #[56, 56] ty #[.slice (some ⟨b, 0, none⟩) (n + 1) dc, .slice (some ⟨vb, 0, none⟩) 1 vc]).run Tryd.prog W = .ok (goInt 1) (W.setCells b 0 [v]) := fun W hWc hWf ty dc =>
    run_copy_cells W _ _ ty 28 b 0 (n + 1) dc ⟨vb, 0, none⟩ 1 vc [v] ht hsz (by simp)
      (fun j u hj => by
        rw [Addr.add_lit, hWc, hW1, World.cell?_setCells_out b _ _ _ _ (fun h _ => absurd h hvb)]
        cases j with
        | zero => simp at hj; subst hj; exact hv
        | succ j => simp at hj)
      (fun j hj => by rw [hWc]; exact hsp1 _ (by simp at hj; omega)) (fun j hj => by rw [hWf, hW1, World.frozen?_setCells]; exact hfz _ (by simp at hj; omega)) (fun u hu => by simp at hu; subst hu; exact h1v)
  rw [← hW1] at hcp1
  go_enter Tryd.func75, Tryd.ntmps75
  go_wp2_with (simp only [hov])
  go_region_law_o (refine step_copy_runI rfl _ _ 56 56 rfl _ _ (by simp [Act.eval, Act.put]) (by simp [Act.eval, Act.put]) (hcp1 _ _ _) ?_)
  go_wp2_with (at_builtin; refine wpList_copy_runI _ rfl _ _ 56 56 rfl _ _ rfl rfl (hcp2 _ (fun _ => rfl) (fun _ => rfl) _ _) ?_)
  go_ret
  first | exact ⟨rfl, rfl⟩ | exact ⟨rfl, by rw [hW1]⟩
theorem info_cellH : (Tryd.prog.info? 28).map (fun i => (i.zero, i.size, i.bytes)) = some (some (.int .u64 0), 1, 8) := by kernel_rfl
set_option maxHeartbeats 4000000 in
set_option maxRecDepth 100000 in
/-- There is no room: a new row. -/
theorem insC_grow (b n c vb vc : Nat) (cs : List Value) (v : Value) (w : World) (hi : 0 < n) (hnc : n ≤ c) (hroom : c < n + 1) (hbig : (n + 1) * 8 ≤ 140737488355328)
    (hcl : cs.length = n) (hcs : ∀ j v, cs[j]? = some v → w.cell? ⟨b, j, none⟩ = some v)
    (hv : w.cell? ⟨vb, 0, none⟩ = some v) (h1c : ∀ v ∈ cs, v.oneCell' = true) (h1v : v.oneCell' = true) :
    Calls Tryd.prog 75 #[.slice (some ⟨b, 0, none⟩) n c, .int .i64 0, .slice (some ⟨vb, 0, none⟩) 1 vc] w fun e w' =>
      ∃ G ROW, n + 1 ≤ ROW.size ∧ e = .returned (.slice (some ⟨w.heap.size, 0, none⟩) (n + 1) G) ∧
      w' = (((w.alloc (.cells ROW 28)).drew.setCells w.heap.size 0 [v]).drew).setCells w.heap.size 1 cs := by
  have ht := Tryd.underlying56
  have ht3 := Tryd.underlying3
  have mixed : Tryd.prog.follows .mixedOrders = true := by kernel_rfl
  obtain ⟨i0, hi0, hz0, hzs, hzb⟩ := info_parts info_cellH
  have hz2 : ¬ ((0 : Int) = (n : Int)) := by omega
  have hz3 : (c : Int) < (n : Int) + 1 := by omega
  have hsz : (Tryd.prog.info? 28).map (·.size) = some 1 := by kernel_rfl
  have hbw : b < w.heap.size := block_lt_of_cell (hcs 0 _ (List.getElem?_eq_getElem (by omega)))
  have hvw : vb < w.heap.size := block_lt_of_cell hv
  have hold : (Builtin.firstCells i0.size 0 (.slice (some ⟨b, 0, none⟩) 0 c)).run Tryd.prog w.drew = .ok #[] w.drew := by
    rw [hzs]
    exact run_firstCells_some w.drew 1 0 ⟨b, 0, none⟩ 0 c [] (by simp) (by simp)
  obtain ⟨G, hG⟩ : ∃ G, G = grownCap w (n + 1) c 28 := ⟨_, rfl⟩
  obtain ⟨ROW, hROW⟩ : ∃ ROW : Array Value, ROW = #[] ++ Builtin.zeroCells (Value.int .u64 0).cells (n + 1) ++ Builtin.zeroCells (Value.int .u64 0).cells (G - (n + 1)) := ⟨_, rfl⟩
  have hrz : ∀ ty, (Builtin.append_ #[56, 3] ty #[.slice (some ⟨b, 0, none⟩) 0 c, .int .i64 ((n : Int) + 1)]).run Tryd.prog w =
      .ok (.slice (some ⟨w.heap.size, 0, none⟩) (n + 1) G) (w.drew.alloc (.cells ROW 28)) := fun ty => by
    have h := Lib.run_append_grow_zeros w 56 3 ty 28 i0 _ .i64 .i64 ht ht3 hi0 hz0 (some ⟨b, 0, none⟩) 0 c [] hold (n + 1) (by omega) (by omega) (by omega) (by omega) (by rw [hzb]; omega) (by rw [hzb, Nat.zero_add]; exact growslice_fits hroom hbig)
    rw [hROW, hG]
    simpa using h
  have hRl : n + 1 ≤ ROW.size := by
    rw [hROW]
    simp [Builtin.zeroCells, Value.cells]
  obtain ⟨W1, hW1⟩ : ∃ W1, W1 = w.drew.alloc (.cells ROW 28) := ⟨_, rfl⟩
  rw [← hW1] at hrz
  have hN : ∀ j, j < n + 1 → (W1.cell? ⟨w.heap.size, j, none⟩).isSome = true := fun j hj => by
    rw [hW1, World.cell?_alloc_at (w := w.drew) ROW _ w.heap.size j rfl, Array.getElem?_eq_getElem (by omega)]; rfl
  have hNf : ∀ j, W1.frozen? ⟨w.heap.size, j, none⟩ = false := fun j => by rw [hW1]; exact World.frozen?_alloc_at (w := w.drew) ROW _ w.heap.size j rfl
  have hOb : ∀ j v, w.cell? ⟨b, j, none⟩ = some v → W1.cell? ⟨b, j, none⟩ = some v := fun j v h => by rw [hW1, World.cell?_alloc_past (w := w.drew) _ b j hbw]; exact h
  have hOv : ∀ j v, w.cell? ⟨vb, j, none⟩ = some v → W1.cell? ⟨vb, j, none⟩ = some v := fun j v h => by rw [hW1, World.cell?_alloc_past (w := w.drew) _ vb j hvw]; exact h
  have hcpA : ∀ (W : World), (∀ x, W.cell? x = W1.cell? x) → (∀ x, W.frozen? x = W1.frozen? x) → ∀ ty dc, (Builtin.copy_ #[56, 56] ty #[.slice (some ⟨w.heap.size, 0, none⟩) (n + 1) dc, .slice (some ⟨vb, 0, none⟩) 1 vc]).run Tryd.prog W = .ok (goInt 1) (W.setCells w.heap.size 0 [v]) := fun W hWc hWf ty dc =>
    run_copy_cells W _ _ ty 28 w.heap.size 0 (n + 1) dc ⟨vb, 0, none⟩ 1 vc [v] ht hsz (by simp)
      (fun j u hj => by
        cases j with
        | zero => simp at hj; subst hj; rw [Addr.add_lit, hWc]; exact hOv _ _ hv
        | succ j => simp at hj)
      (fun j hj => by rw [hWc]; exact hN _ (by simp at hj; omega)) (fun j hj => by rw [hWf]; exact hNf _) (fun u hu => by simp at hu; subst hu; exact h1v)
  have hGn : n + 1 ≤ G := by rw [hG]; exact grownCap_ge w _ _ _
  have hG63 : G ≤ 9223372036854775807 := by
    have := grownCap_le_maxLen w (n + 1) c 28 (by unfold maxLen; omega)
    rw [← hG] at this
    unfold maxLen at this
    omega
  have hGi : ¬ (G = 0) := by omega
  have hGim : ¬ (G = 1) := by omega
  have hci : ¬ (c = 0) := by omega
  have hbN : b ≠ w.heap.size := by omega
  have hcpB : ∀ (W : World), (∀ x, W.cell? x = (W1.setCells w.heap.size 0 [v]).cell? x) → (∀ x, W.frozen? x = (W1.setCells w.heap.size 0 [v]).frozen? x) → ∀ ty dc sc, (Builtin.copy_ #[56, 56] ty #[.slice (some ⟨w.heap.size, 1, none⟩) n dc, .slice (some ⟨b, 0, none⟩) n sc]).run Tryd.prog W = .ok (goInt cs.length) (W.setCells w.heap.size 1 cs) := fun W hWc hWf ty dc sc =>
    run_copy_cells W _ _ ty 28 w.heap.size 1 n dc ⟨b, 0, none⟩ n sc cs ht hsz (by rw [hcl]; simp)
      (fun j u hj => by
        rw [Addr.add_lit, hWc, World.cell?_setCells_out _ _ _ _ _ (fun h _ => absurd h hbN), Nat.zero_add]
        exact hOb _ u (hcs j u hj))
      (fun j hj => by rw [hWc]; exact isSome_setCells _ [v] 0 W1 (fun t ht => hN _ (by simp at ht; omega)) _ (hN _ (by omega)))
      (fun j hj => by rw [hWf, World.frozen?_setCells]; exact hNf _) h1c
  subst hW1
  have hE1 : ∀ x, ((w.alloc (.cells ROW 28)).drew).cell? x = (w.drew.alloc (.cells ROW 28)).cell? x := fun x => rfl
  have hE2 : ∀ x, ((w.alloc (.cells ROW 28)).drew).frozen? x = (w.drew.alloc (.cells ROW 28)).frozen? x := fun x => rfl
  have hF1 : ∀ x, (((w.alloc (.cells ROW 28)).drew.setCells w.heap.size 0 [v]).drew).cell? x = ((w.drew.alloc (.cells ROW 28)).setCells w.heap.size 0 [v]).cell? x := fun x => rfl
  have hF2 : ∀ x, (((w.alloc (.cells ROW 28)).drew.setCells w.heap.size 0 [v]).drew).frozen? x = ((w.drew.alloc (.cells ROW 28)).setCells w.heap.size 0 [v]).frozen? x := fun x => rfl
  have hw0 : IntKind.i64.wrap (0 + 1) = 1 := by rw [IntKind.wrap_i64]; rfl
  have hw1 : IntKind.i64.wrap 1 = 1 := by rw [IntKind.wrap_i64]; rfl
  have hb5 : (0 : Int) ≤ (n : Int) := by omega
  have hb6 : (1 : Int) ≤ (n : Int) + 1 := by omega
  have hb7 : (0 : Int) ≤ (n : Int) + 1 := by omega
  have HR := Lib.hid hRl
  clear hold hROW hG hRl
  go_enter Tryd.func75, Tryd.ntmps75
  go_wp2_with (first
    | (at_builtin; refine Lib.wpList_append_run _ rfl _ _ _ _ rfl _ _ rfl rfl _ _ (hrz _) ?_)
    | (at_builtin; refine wpList_copy_runI _ rfl _ _ 56 56 rfl _ _ rfl rfl (hcpA _ hE1 hE2 _ _) ?_)
    | (at_builtin; refine wpList_copy_runI _ rfl _ _ 56 56 rfl _ _ rfl rfl (hcpB _ (fun _ => rfl) (fun _ => rfl) _ _ _) ?_))
  go_region_law_o (refine step_copy_runI rfl _ _ 56 56 rfl (.slice (some ⟨w.heap.size, 1, none⟩) n (G - 1)) (.slice (some ⟨b, 0, none⟩) n c) (by simp [Act.eval, Act.put]) (by simp [Act.eval, Act.put]) (hcpB _ hF1 hF2 3 (G - 1) c) ?_)
  go_wp2
  go_ret
  exact ⟨G, ROW, HR.out, rfl, rfl⟩
theorem Keeps.cells {a : World} {L : List Nat} {b : Nat} (hb : b ∈ L ∨ a.heap.size ≤ b) : ∀ (vs : List Value) (o : Nat) (w : World), Keeps a w L → Keeps a (w.setCells b o vs) L
  | [], _, _, h => h
  | v :: r, o, w, h => by
    rw [World.setCells]
    exact Keeps.cells hb r (o + 1) _ (h.setCell hb v)
/-- The row that reads so behind it. -/
theorem rd_ins (W : World) (g n : Nat) (cs : List Value) (v : Value) (hcl : cs.length = n) (hg : g < W.heap.size) (hsp : ∀ j, j < n + 1 → (W.cell? ⟨g, j, none⟩).isSome = true) : Rd ((W.setCells g 1 cs).setCells g 0 [v]) (some ⟨g, 0, none⟩) (v :: cs) ∧ Rd ((W.setCells g 0 [v]).setCells g 1 cs) (some ⟨g, 0, none⟩) (v :: cs) := by
  have k1 : Keeps W ((W.setCells g 1 cs).setCells g 0 [v]) [g] := Keeps.cells (.inl (by simp)) _ _ _ (Keeps.cells (.inl (by simp)) _ _ _ (Keeps.refl W [g]))
  have k2 : Keeps W ((W.setCells g 0 [v]).setCells g 1 cs) [g] := Keeps.cells (.inl (by simp)) _ _ _ (Keeps.cells (.inl (by simp)) _ _ _ (Keeps.refl W [g]))
  constructor
  · intro j hj
    rw [List.length_cons, hcl] at hj
    cases j with
    | zero =>
      refine ⟨g, 0, v, rfl, Nat.lt_of_lt_of_le hg k1.size, ?_, rfl⟩
      exact World.cell?_setCells_in g [v] 0 _ (fun t ht => isSome_setCells g cs 1 W (fun j hj => hsp _ (by omega)) _ (hsp _ (by simp at ht; omega))) 0 (by simp)
    | succ j =>
      refine ⟨g, 0, cs[j]'(by omega), rfl, Nat.lt_of_lt_of_le hg k1.size, ?_, by rw [List.getElem?_cons_succ]; exact List.getElem?_eq_getElem (by omega)⟩
      rw [World.cell?_setCells_out g [v] 0 _ _ (fun _ _ => .inr (by simp))]
      have h := World.cell?_setCells_in g cs 1 W (fun t ht => hsp _ (by omega)) j (by omega)
      rw [show 0 + (j + 1) = 1 + j by omega]
      exact h
  · intro j hj
    rw [List.length_cons, hcl] at hj
    cases j with
    | zero =>
      refine ⟨g, 0, v, rfl, Nat.lt_of_lt_of_le hg k2.size, ?_, rfl⟩
      rw [World.cell?_setCells_out g cs 1 _ _ (fun _ _ => .inl (by simp))]
      exact World.cell?_setCells_in g [v] 0 _ (fun t ht => hsp _ (by simp at ht; omega)) 0 (by simp)
    | succ j =>
      refine ⟨g, 0, cs[j]'(by omega), rfl, Nat.lt_of_lt_of_le hg k2.size, ?_, by rw [List.getElem?_cons_succ]; exact List.getElem?_eq_getElem (by omega)⟩
      have h := World.cell?_setCells_in g cs 1 (W.setCells g 0 [v]) (fun t ht => isSome_setCells g [v] 0 W (fun j hj => hsp _ (by simp at hj; omega)) _ (hsp _ (by omega))) j (by omega)
      rw [show 0 + (j + 1) = 1 + j by omega]
      exact h
theorem own_atH {w : World} {base n c size : Nat} {e : TypeId} {A : Option Addr} {xs : List Value} (h : w.ownsRow base e size (.slice A n c) n xs) (hn : 0 < n) : ∃ g, A = some ⟨g, 0, none⟩ ∧ n ≤ c := by
  rcases h.2 with ⟨_, h1⟩ | ⟨g, cap, cur, h1, h2, h3, h4, _⟩
  · omega
  · injection h1 with h1 _ h8
    subst h8
    exact ⟨g, h1, h4⟩
theorem insC_any (l : List Int) (A : Option Addr) (n c base : Nat) (x : Int) (w : World) (hown : w.ownsRow base 28 1 (.slice A n c) n (l.map (Value.int .u64))) (h0 : 0 < n) (hn : n ≤ 1000000) (vb vc : Nat) (hvb : Blk w vb 28 #[.int .u64 x]) (hne : vb ∉ ownL (.slice A n c)) :
    Calls Tryd.prog 75 #[.slice A n c, .int .i64 0, .slice (some ⟨vb, 0, none⟩) 1 vc] w fun e w' => ∃ A' c', e = .returned (.slice A' (n + 1) c') ∧ Rd w' A' ((x :: l).map (Value.int .u64)) ∧ Keeps w w' (ownL (.slice A n c)) ∧ ∃ g', A' = some ⟨g', 0, none⟩ ∧ (g' ∈ ownL (.slice A n c) ∨ g' = w.heap.size) := by
  obtain ⟨g, rfl, hnc⟩ := own_atH hown h0
  have hln : l.length = n := by have := hown.1; simpa using this
  obtain ⟨cur, hb, hcs, htk, _, _⟩ := own_block hown
  have hcm : c ≤ maxLen := by
    rcases hown.2 with ⟨h, _⟩ | ⟨g', cap, cur', h1, _, _, _, h5, _⟩
    · cases h
    · injection h1 with _ _ h1
      subst h1
      exact h5
  have hvg : vb ≠ g := fun e => hne (by subst e; simp [ownL, Value.ownBlock])
  have hcell : ∀ j v, (l.map (Value.int .u64))[j]? = some v → w.cell? ⟨g, j, none⟩ = some v := fun j v hj => by
    obtain ⟨b, off, u, e, _, hc, hu⟩ := Rd.of_own hown j (List.getElem?_eq_some_iff.1 hj).1
    injection e with e
    injection e with e1 e2
    subst e1 e2
    rw [Nat.zero_add] at hc
    rw [hj] at hu
    injection hu with hu
    rw [hc, hu]
  have hm : g ∈ ownL (.slice (some ⟨g, 0, none⟩) n c) := by simp [ownL, Value.ownBlock]
  have h1c : ∀ v ∈ l.map (Value.int .u64), v.oneCell' = true := fun v hv => by obtain ⟨y, _, rfl⟩ := List.mem_map.1 hv; rfl
  by_cases hroom : n + 1 ≤ c
  · have hsp : ∀ j, j < n + 1 → (w.cell? ⟨g, j, none⟩).isSome = true := fun j hj => by
      rw [hb.cell j, Array.getElem?_eq_getElem (by omega)]; rfl
    refine (insC_shift g n c vb vc (l.map (Value.int .u64)) (.int .u64 x) w h0 hroom (by unfold maxLen at hcm; omega) hvg (by simpa using hln) hcell hsp (fun j _ => hb.frozen j) (hvb.cell 0) h1c rfl 28 28 1 cur.size (by unfold World.shape?; rw [show w.heap[vb]? = _ from hvb]; rfl) (by unfold World.shape?; rw [show w.heap[g]? = _ from hb]) (by omega) (hvb.frozen 0) (hvb.frozen 1)).mono ?_
    rintro e w' ⟨rfl, rfl⟩
    exact ⟨_, _, rfl, (rd_ins w.drew g n (l.map (Value.int .u64)) (.int .u64 x) (by simpa using hln) hb.lt hsp).1, Keeps.cells (.inl hm) _ _ _ (Keeps.cells (.inl hm) _ _ _ (Keeps.refl w _).drew), g, rfl, .inl hm⟩
  · refine (insC_grow g n c vb vc (l.map (Value.int .u64)) (.int .u64 x) w h0 hnc (by omega) (by omega) (by simpa using hln) hcell (hvb.cell 0) h1c rfl).mono ?_
    rintro e w' ⟨G, ROW, hR, rfl, rfl⟩
    rw [drew_setCells]
    have hsp : ∀ j, j < n + 1 → ((w.alloc (.cells ROW 28)).drew.cell? ⟨w.heap.size, j, none⟩).isSome = true := fun j hj => by
      have h := (Blk.new w 28 ROW).cell j
      show ((w.alloc (.cells ROW 28)).cell? ⟨w.heap.size, j, none⟩).isSome = true
      rw [h, Array.getElem?_eq_getElem (by omega)]; rfl
    exact ⟨_, _, rfl, (rd_ins (w.alloc (.cells ROW 28)).drew.drew w.heap.size n (l.map (Value.int .u64)) (.int .u64 x) (by simpa using hln) (Blk.new w 28 ROW).lt hsp).2, Keeps.cells (.inr (Nat.le_refl _)) _ _ _ (Keeps.cells (.inr (Nat.le_refl _)) _ _ _ (((Keeps.refl w _).alloc _).drew.drew)), w.heap.size, rfl, .inr rfl⟩
end Go.Proofs.YtnonfmaehfmigaaDoor

/- A heap's parts lie apart; what turns them. No function in sight. -/
namespace Go.Proofs.YtnonfmaehfmigaaDoor
open Go.RowKit Go.Maps

theorem own_disj {w : World} {base base' n n' size size' : Nat} {e e' : TypeId} {v v' : Value} {xs xs' : List Value} (h : w.ownsRow base e size v n xs) (h' : w.ownsRow base' e' size' v' n' xs') (hne : e ≠ e') : ∀ b ∈ ownL v, b ∉ ownL v' := by
  intro b hb hb'
  unfold ownL at hb hb'
  simp only [Option.mem_toList] at hb hb'
  rcases h.2 with ⟨rfl, _⟩ | ⟨g, cap, cur, rfl, _, h1, _⟩
  · simp [Value.ownBlock] at hb
  · rcases h'.2 with ⟨rfl, _⟩ | ⟨g', cap', cur', rfl, _, h2, _⟩
    · simp [Value.ownBlock] at hb'
    · simp [Value.ownBlock] at hb hb'
      subst hb hb'
      rw [h1] at h2
      simp at h2
      exact hne h2.2
theorem VM.ne {w : World} {b n g : Nat} {f : Int → Option Int} {t : TypeId} {cs : Array Value} (h : VM w b n f) (k : Blk w g t cs) : b ≠ g := by
  rintro rfl
  obtain ⟨D, ⟨es, clock, e1, _⟩, _⟩ := h
  unfold Blk at k
  rw [e1] at k
  cases k
theorem VM.out {w : World} {b n m base size : Nat} {f : Int → Option Int} {e : TypeId} {v : Value} {xs : List Value} (h : VM w b n f) (k : w.ownsRow base e size v m xs) : b ∉ ownL v := by
  intro hb
  unfold ownL at hb
  simp only [Option.mem_toList] at hb
  obtain ⟨D, ⟨es, clock, e1, _⟩, _⟩ := h
  rcases k.2 with ⟨rfl, _⟩ | ⟨g, cap, cur, rfl, _, h1, _⟩
  · simp [Value.ownBlock] at hb
  · simp [Value.ownBlock] at hb
    subst hb
    rw [e1] at h1
    cases h1
theorem VM.more {w : World} {b n n' : Nat} {f : Int → Option Int} (h : VM w b n f) (hn : n ≤ n') : VM w b n' f := by
  obtain ⟨D, h1, h2⟩ := h
  exact ⟨D, h1.mono hn, h2⟩
section
variable {w : World} {base hb ag ah vb : Nat} {AA FA TA MA : Option Addr} {ca nt ct nm cm cf : Nat} {H : PH} {tr : List Int} {mk : List (Int × Int)} {room : Nat}
/-- The parts lie apart. -/
structure Apart (w : World) (hb ag ah vb : Nat) (AA FA TA MA : Option Addr) : Prop where
  a1 : hb ≠ ag ∧ hb ≠ ah ∧ vb ≠ hb ∧ vb ≠ ag ∧ vb ≠ ah ∧ ag ≠ ah
  a2 : ∀ b ∈ [hb, ag, ah, vb], b ∉ ownL (.slice AA 0 0) ∧ b ∉ ownL (.slice FA 0 0) ∧ b ∉ ownL (.slice TA 0 0) ∧ b ∉ ownL (.slice MA 0 0)
  a3 : (∀ b ∈ ownL (.slice AA 0 0), b ∉ ownL (.slice FA 0 0) ∧ b ∉ ownL (.slice TA 0 0) ∧ b ∉ ownL (.slice MA 0 0)) ∧ (∀ b ∈ ownL (.slice FA 0 0), b ∉ ownL (.slice TA 0 0) ∧ b ∉ ownL (.slice MA 0 0)) ∧ (∀ b ∈ ownL (.slice TA 0 0), b ∉ ownL (.slice MA 0 0))
  lt : hb < w.heap.size ∧ ag < w.heap.size ∧ ah < w.heap.size ∧ vb < w.heap.size
theorem Hm.apart (h : Hm w base hb ag ah vb AA FA TA MA ca nt ct nm cm cf H tr mk room) : Apart w hb ag ah vb AA FA TA MA := by
  obtain ⟨cap, hba, hoa, _⟩ := h.ar.blk
  obtain ⟨cur, hbc, _⟩ := own_block hoa
  have o1 := h.atoms
  have o2 := h.funs
  have o3 := h.trail
  have o4 := h.marks
  have e1 := ownL_slice AA H.atoms.length ca
  have e2 := ownL_slice FA H.funs.length cf
  have e3 := ownL_slice TA nt ct
  have e4 := ownL_slice MA nm cm
  refine ⟨⟨h.blk.ne_ hba (by decide), h.blk.ne_ hbc (by decide), h.vars.ne h.blk, h.vars.ne hba, h.vars.ne hbc, hba.ne_ hbc (by decide)⟩, fun b hb' => ?_, ⟨fun b hb' => ?_, fun b hb' => ?_, fun b hb' => ?_⟩, h.blk.lt, hba.lt, hbc.lt, h.vars.lt⟩
  · rw [← e1, ← e2, ← e3, ← e4]
    simp only [List.mem_cons, List.not_mem_nil, or_false] at hb'
    rcases hb' with rfl | rfl | rfl | rfl
    · exact ⟨own_outT o1 h.blk (by decide), own_outT o2 h.blk (by decide), own_outT o3 h.blk (by decide), own_outT o4 h.blk (by decide)⟩
    · exact ⟨own_outT o1 hba (by decide), own_outT o2 hba (by decide), own_outT o3 hba (by decide), own_outT o4 hba (by decide)⟩
    · exact ⟨own_outT o1 hbc (by decide), own_outT o2 hbc (by decide), own_outT o3 hbc (by decide), own_outT o4 hbc (by decide)⟩
    · exact ⟨h.vars.out o1, h.vars.out o2, h.vars.out o3, h.vars.out o4⟩
  · rw [← e1] at hb'
    rw [← e2, ← e3, ← e4]
    exact ⟨own_disj o1 o2 (by decide) b hb', own_disj o1 o3 (by decide) b hb', own_disj o1 o4 (by decide) b hb'⟩
  · rw [← e2] at hb'
    rw [← e3, ← e4]
    exact ⟨own_disj o2 o3 (by decide) b hb', own_disj o2 o4 (by decide) b hb'⟩
  · rw [← e3] at hb'
    rw [← e4]
    exact own_disj o3 o4 (by decide) b hb'
theorem own_keepZ {w w' : World} {L : List Nat} {base n size c : Nat} {e : TypeId} {A : Option Addr} {xs : List Value} (h : w.ownsRow base e size (.slice A n c) n xs) (k : Keeps w w' L) (hL : ∀ b ∈ L, b ∉ ownL (.slice A 0 0)) : w'.ownsRow base e size (.slice A n c) n xs :=
  own_keepL h k fun b hb => by rw [ownL_slice]; exact hL b hb
/-- Nothing of it turns. -/
theorem Hm.keep (h : Hm w base hb ag ah vb AA FA TA MA ca nt ct nm cm cf H tr mk room) {w' : World} {L : List Nat} (k : Keeps w w' L) (hL : ∀ b ∈ L, b ∉ hpL hb ag ah vb AA FA TA MA) : Hm w' base hb ag ah vb AA FA TA MA ca nt ct nm cm cf H tr mk room := by
  have hn : ∀ b ∈ L, (b ≠ hb ∧ b ≠ ag ∧ b ≠ ah ∧ b ≠ vb) ∧ b ∉ ownL (.slice AA 0 0) ∧ b ∉ ownL (.slice FA 0 0) ∧ b ∉ ownL (.slice TA 0 0) ∧ b ∉ ownL (.slice MA 0 0) := fun b hb => by
    have h1 := hL b hb
    unfold hpL at h1
    simp only [List.mem_append, List.mem_cons, List.not_mem_nil, or_false, not_or] at h1
    exact ⟨⟨h1.1.1, h1.1.2.1, h1.1.2.2.1, h1.1.2.2.2⟩, h1.2.1, h1.2.2.1, h1.2.2.2.1, h1.2.2.2.2⟩
  exact ⟨h.blk.keep k (fun hm => (hn _ hm).1.1 rfl), h.ar.keep k (fun hm => (hn _ hm).1.2.1 rfl) (fun hm => (hn _ hm).1.2.2.1 rfl), own_keepZ h.atoms k (fun b hb => (hn b hb).2.1), own_keepZ h.funs k (fun b hb => (hn b hb).2.2.1), h.vars.kept k (fun hm => (hn _ hm).1.2.2.2 rfl), own_keepZ h.trail k (fun b hb => (hn b hb).2.2.2.1), own_keepZ h.marks k (fun b hb => (hn b hb).2.2.2.2), h.low, h.few⟩
theorem Hm.keep0 (h : Hm w base hb ag ah vb AA FA TA MA ca nt ct nm cm cf H tr mk room) {w' : World} (k : Keeps w w' []) : Hm w' base hb ag ah vb AA FA TA MA ca nt ct nm cm cf H tr mk room := h.keep k (by simp)
/-- One more cell, or others. -/
theorem Hm.cells (h : Hm w base hb ag ah vb AA FA TA MA ca nt ct nm cm cf H tr mk room) {w' : World} (k : Keeps w w' [ag, ah]) {l : List Int} (ha : Ar w' base ag ah l room) (hl : H.cells.length ≤ l.length) : Hm w' base hb ag ah vb AA FA TA MA ca nt ct nm cm cf { H with cells := l } tr mk room := by
  have ap := h.apart
  have hx : ∀ b ∈ [ag, ah], b ∉ ownL (.slice AA 0 0) ∧ b ∉ ownL (.slice FA 0 0) ∧ b ∉ ownL (.slice TA 0 0) ∧ b ∉ ownL (.slice MA 0 0) := fun b hb => ap.a2 b (by simp only [List.mem_cons, List.not_mem_nil, or_false] at hb ⊢; rcases hb with rfl | rfl <;> simp)
  have a1 := ap.a1
  exact ⟨h.blk.keep k (by simp only [List.mem_cons, List.not_mem_nil, or_false, not_or]; exact ⟨a1.1, a1.2.1⟩), ha, own_keepZ h.atoms k (fun b hb => (hx b hb).1), own_keepZ h.funs k (fun b hb => (hx b hb).2.1), (h.vars.kept k (by simp only [List.mem_cons, List.not_mem_nil, or_false, not_or]; exact ⟨a1.2.2.2.1, a1.2.2.2.2.1⟩)).more hl, own_keepZ h.trail k (fun b hb => (hx b hb).2.2.1), own_keepZ h.marks k (fun b hb => (hx b hb).2.2.2), h.low, h.few⟩
/-- A variable's place. -/
theorem Hm.vars_ (h : Hm w base hb ag ah vb AA FA TA MA ca nt ct nm cm cf H tr mk room) {w' : World} (k : Keeps w w' [vb]) {f : Int → Option Int} (hv : VM w' vb H.cells.length f) : Hm w' base hb ag ah vb AA FA TA MA ca nt ct nm cm cf { H with vars := f } tr mk room := by
  have ap := h.apart
  have hx : ∀ b ∈ [vb], b ∉ ownL (.slice AA 0 0) ∧ b ∉ ownL (.slice FA 0 0) ∧ b ∉ ownL (.slice TA 0 0) ∧ b ∉ ownL (.slice MA 0 0) := fun b hb => ap.a2 b (by simp only [List.mem_cons, List.not_mem_nil, or_false] at hb ⊢; subst hb; simp)
  have a1 := ap.a1
  exact ⟨h.blk.keep k (by simp only [List.mem_cons, List.not_mem_nil, or_false]; exact Ne.symm a1.2.2.1), h.ar.keep k (by simp only [List.mem_cons, List.not_mem_nil, or_false]; exact Ne.symm a1.2.2.2.1) (by simp only [List.mem_cons, List.not_mem_nil, or_false]; exact Ne.symm a1.2.2.2.2.1), own_keepZ h.atoms k (fun b hb => (hx b hb).1), own_keepZ h.funs k (fun b hb => (hx b hb).2.1), hv, own_keepZ h.trail k (fun b hb => (hx b hb).2.2.1), own_keepZ h.marks k (fun b hb => (hx b hb).2.2.2), h.low, h.few⟩
/-- .. atoms turn. -/
theorem Hm.atoms_ (h : Hm w base hb ag ah vb AA FA TA MA ca nt ct nm cm cf H tr mk room) {w1 : World} (k : Keeps w w1 (ownL (.slice AA 0 0))) {A' : Option Addr} {c' : Nat} {l' : List ByteArray} (ho : w1.ownsRow base 9 1 (.slice A' l'.length c') l'.length (l'.map Value.string)) (hn : ∀ b ∈ ownL (.slice A' 0 0), b ∈ ownL (.slice AA 0 0) ∨ w.heap.size ≤ b) (hf : l'.length ≤ 1000000) :
    Hm (w1.setCell ⟨hb, 1, none⟩ (.slice A' l'.length c')) base hb ag ah vb A' FA TA MA c' nt ct nm cm cf { H with atoms := l' } tr mk room := by
  have ap := h.apart
  have a1 := ap.a1
  have hx : ∀ b ∈ ownL (.slice AA 0 0), b ∉ [hb, ag, ah, vb] := fun b hb' hm => (ap.a2 b hm).1 hb'
  have hno : hb ∉ ownL (.slice AA 0 0) := fun hm => hx hb hm (by simp)
  have b1 := h.blk.keep k hno
  have r1 := h.ar.keep k (fun hm => hx ag hm (by simp)) (fun hm => hx ah hm (by simp))
  have v1 := h.vars.kept k (fun hm => hx vb hm (by simp))
  have o1 := own_keepZ h.funs k (fun b hb' => (ap.a3.1 b hb').1)
  have o2 := own_keepZ h.trail k (fun b hb' => (ap.a3.1 b hb').2.1)
  have o3 := own_keepZ h.marks k (fun b hb' => (ap.a3.1 b hb').2.2)
  have ks : Keeps w1 (w1.setCell ⟨hb, 1, none⟩ (.slice A' l'.length c')) [hb] := (Keeps.refl w1 [hb]).setCell (.inl (by simp)) _
  have hy := ap.a2 hb (by simp)
  have hA : hb ∉ ownL (.slice A' 0 0) := fun hm => by
    rcases hn hb hm with h1 | h1
    · exact hno h1
    · have := ap.lt.1; omega
  have one : ∀ {Q : Option Addr}, hb ∉ ownL (.slice Q 0 0) → ∀ b ∈ [hb], b ∉ ownL (.slice Q 0 0) := fun hq b hb' => by simp at hb'; subst hb'; exact hq
  have b2 := b1.set_ 1 (.slice A' l'.length c')
  exact ⟨by simpa using b2, r1.keep ks (by simp only [List.mem_cons, List.not_mem_nil, or_false]; exact Ne.symm a1.1) (by simp only [List.mem_cons, List.not_mem_nil, or_false]; exact Ne.symm a1.2.1), own_keepZ ho ks (one hA), own_keepZ o1 ks (one hy.2.1), v1.kept ks (by simp only [List.mem_cons, List.not_mem_nil, or_false]; exact a1.2.2.1), own_keepZ o2 ks (one hy.2.2.1), own_keepZ o3 ks (one hy.2.2.2), h.low, ⟨hf, h.few.2⟩⟩
/-- .. funs turn. -/
theorem Hm.funs_ (h : Hm w base hb ag ah vb AA FA TA MA ca nt ct nm cm cf H tr mk room) {w1 : World} (k : Keeps w w1 (ownL (.slice FA 0 0))) {A' : Option Addr} {c' : Nat} {l' : List (ByteArray × Int)} (ho : w1.ownsRow base 80 2 (.slice A' l'.length c') l'.length (l'.flatMap funE)) (hn : ∀ b ∈ ownL (.slice A' 0 0), b ∈ ownL (.slice FA 0 0) ∨ w.heap.size ≤ b) (hf : l'.length ≤ 1000000) :
    Hm (w1.setCell ⟨hb, 2, none⟩ (.slice A' l'.length c')) base hb ag ah vb AA A' TA MA ca nt ct nm cm c' { H with funs := l' } tr mk room := by
  have ap := h.apart
  have a1 := ap.a1
  have hx : ∀ b ∈ ownL (.slice FA 0 0), b ∉ [hb, ag, ah, vb] := fun b hb' hm => (ap.a2 b hm).2.1 hb'
  have hno : hb ∉ ownL (.slice FA 0 0) := fun hm => hx hb hm (by simp)
  have b1 := h.blk.keep k hno
  have r1 := h.ar.keep k (fun hm => hx ag hm (by simp)) (fun hm => hx ah hm (by simp))
  have v1 := h.vars.kept k (fun hm => hx vb hm (by simp))
  have o1 := own_keepZ h.atoms k (fun b hb' => fun hm => (ap.a3.1 b hm).1 hb')
  have o2 := own_keepZ h.trail k (fun b hb' => (ap.a3.2.1 b hb').1)
  have o3 := own_keepZ h.marks k (fun b hb' => (ap.a3.2.1 b hb').2)
  have ks : Keeps w1 (w1.setCell ⟨hb, 2, none⟩ (.slice A' l'.length c')) [hb] := (Keeps.refl w1 [hb]).setCell (.inl (by simp)) _
  have hy := ap.a2 hb (by simp)
  have hA : hb ∉ ownL (.slice A' 0 0) := fun hm => by
    rcases hn hb hm with h1 | h1
    · exact hno h1
    · have := ap.lt.1; omega
  have one : ∀ {Q : Option Addr}, hb ∉ ownL (.slice Q 0 0) → ∀ b ∈ [hb], b ∉ ownL (.slice Q 0 0) := fun hq b hb' => by simp at hb'; subst hb'; exact hq
  have b2 := b1.set_ 2 (.slice A' l'.length c')
  exact ⟨by simpa using b2, r1.keep ks (by simp only [List.mem_cons, List.not_mem_nil, or_false]; exact Ne.symm a1.1) (by simp only [List.mem_cons, List.not_mem_nil, or_false]; exact Ne.symm a1.2.1), own_keepZ o1 ks (one hy.1), own_keepZ ho ks (one hA), v1.kept ks (by simp only [List.mem_cons, List.not_mem_nil, or_false]; exact a1.2.2.1), own_keepZ o2 ks (one hy.2.2.1), own_keepZ o3 ks (one hy.2.2.2), h.low, ⟨h.few.1, hf⟩⟩
end
theorem Hm.lt {w : World} {base hb ag ah vb : Nat} {AA FA TA MA : Option Addr} {ca nt ct nm cm cf : Nat} {H : PH} {tr : List Int} {mk : List (Int × Int)} {room : Nat} (h : Hm w base hb ag ah vb AA FA TA MA ca nt ct nm cm cf H tr mk room) : ∀ b ∈ hpL hb ag ah vb AA FA TA MA, b < w.heap.size := by
  intro b hb'
  have ap := h.apart
  unfold hpL at hb'
  simp only [List.mem_append, List.mem_cons, List.not_mem_nil, or_false] at hb'
  rcases hb' with (rfl | rfl | rfl | rfl) | hb' | hb' | hb' | hb'
  · exact ap.lt.1
  · exact ap.lt.2.1
  · exact ap.lt.2.2.1
  · exact ap.lt.2.2.2
  · rw [← ownL_slice AA H.atoms.length ca] at hb'; exact (own_lt h.atoms hb').2
  · rw [← ownL_slice FA H.funs.length cf] at hb'; exact (own_lt h.funs hb').2
  · rw [← ownL_slice TA nt ct] at hb'; exact (own_lt h.trail hb').2
  · rw [← ownL_slice MA nm cm] at hb'; exact (own_lt h.marks hb').2
theorem Hp.lt {w : World} {base hb : Nat} {L : List Nat} {H : PH} {tr : List Int} {mk : List (Int × Int)} {room : Nat} (h : Hp w base hb L H tr mk room) : ∀ b ∈ L, b < w.heap.size := by
  obtain ⟨ag, ah, vb, AA, FA, TA, MA, ca, nt, ct, nm, cm, cf, rfl, h⟩ := h
  exact h.lt
theorem Hp.keep {w w' : World} {base hb : Nat} {L M : List Nat} {H : PH} {tr : List Int} {mk : List (Int × Int)} {room : Nat} (h : Hp w base hb L H tr mk room) (k : Keeps w w' M) (hM : ∀ b ∈ M, b ∉ L) : Hp w' base hb L H tr mk room := by
  obtain ⟨ag, ah, vb, AA, FA, TA, MA, ca, nt, ct, nm, cm, cf, rfl, h⟩ := h
  exact ⟨ag, ah, vb, AA, FA, TA, MA, ca, nt, ct, nm, cm, cf, rfl, h.keep k hM⟩
/-- Only some of its blocks turn, none comes. -/
theorem HSt.of {w w' : World} {L M : List Nat} (k : Keeps w w' M) (hM : ∀ b ∈ M, b ∈ L) : HSt w L w' L := ⟨k.more fun b _ hb => hM b hb, fun _ h => .inl h⟩
theorem HSt.keep0 {a w w' : World} {L M : List Nat} (h : HSt a L w M) (k : Keeps w w' []) : HSt a L w' M := h.trans ⟨k.to_ _, fun _ h => .inl h⟩
/-- What lies outside stays outside. -/
theorem HSt.out {w w' : World} {L L' : List Nat} (h : HSt w L w' L') {b : Nat} (hb : b < w.heap.size) (hn : b ∉ L) : b ∉ L' := fun hm => by
  rcases h.own b hm with h1 | h1
  · exact hn h1
  · omega
end Go.Proofs.YtnonfmaehfmigaaDoor

/- A region that draws its order and ends in operations that write one behind the other: as XText, S asked ahead of these alone. Over any program. -/
namespace Go.Proofs.YtnonfmaehfmigaaDoor
open Go

section
variable {P : Program} {ops : Array Oper} {Q : Exit → Act → World → Prop} {md : Region.Mode} {S : World → Prop}

/-- Whatever order is picked: S holds behind every operation ahead of number n. -/
def wpAnyF (P : Program) (md : Region.Mode) (ops : Array Oper) (Q : Exit → Act → World → Prop) (S : World → Prop) (n : Nat) : Nat → Array Bool → Act → World → Prop
  | 0, listed, a, w => Region.ready md ops listed = [] ∧ Q .normal a w
  | fuel + 1, listed, a, w =>
    (Region.ready md ops listed = [] → Q .normal a w) ∧
    ∀ i ∈ Region.ready md ops listed, wpOp P ops Q i (fun a' w' => (i < n → S w') ∧ wpAnyF P md ops Q S n fuel (listed.setIfInBounds i true) a' w') a w

theorem wpAny_of_F {n : Nat} : ∀ (fuel : Nat) (listed : Array Bool) (a : Act) (w : World), wpAnyF P md ops Q S n fuel listed a w → wpAny P md ops Q fuel listed a w
  | 0, _, _, _, h => h
  | fuel + 1, _, _, _, h => ⟨h.1, fun i hi => wpOp_mono (fun a' w' h' => wpAny_of_F fuel _ a' w' h'.2) (h.2 i hi)⟩

theorem wpAnyF_first {n i : Nat} {oi : Oper} {v : Value} (hi : ops[i]? = some oi) (hsel : ∀ (j : Nat) (o : Oper) cs b, ops[j]? = some o → o.op ≠ .select cs b)
    (hQ : ∀ c a w, Q (.panic c) (a.put oi.dst v) w → Q (.panic c) a w) (hs : Region.sinkB md ops n = true) (hc : Region.chainB md ops n = true) (hn : n < ops.size) (hin : i < n) :
    ∀ (fuel : Nat) (listed : Array Bool) (a : Act) (w : World), HeadInv md ops n listed →
      (∀ j oj, ops[j]? = some oj → j ≠ i → listed.getD j true = false → (∀ e ∈ oj.after, Region.binds md e = true → e.on ≠ i) → oi.apart ops oj = true) →
      i ∈ Region.ready md ops listed → YieldsIf P ops S oi v a → S w →
      wpAnyF P md ops Q S n fuel (listed.setIfInBounds i true) (a.put oi.dst v) w → wpAnyF P md ops Q S n (fuel + 1) listed a w := by
  intro fuel
  induction fuel with
  | zero =>
    intro listed a w _ _ hr hy hS H
    refine ⟨fun h => (by rw [h] at hr; cases hr), fun j hj => ?_⟩
    by_cases hji : j = i
    · subst hji; exact hy.wpOp hi hS ⟨fun _ => hS, H⟩
    · have := ready_mono hj hji
      rw [H.1] at this
      cases this
  | succ fuel ih =>
    intro listed a w inv hfree hr hy hS H
    have hun := (mem_ready.1 hr).1
    refine ⟨fun h => (by rw [h] at hr; cases hr), fun j hj => ?_⟩
    by_cases hji : j = i
    · subst hji; exact hy.wpOp hi hS ⟨fun _ => hS, H⟩
    · have hjn : j < n := by
        rcases Nat.lt_or_ge j n with h | h
        · exact h
        · exact absurd hj (tail_waits hs hc hn inv _ i rfl hin hun j h)
      have h1 := H.2 j (ready_mono hj hji)
      obtain ⟨hjun, oj, hoj, hall⟩ := mem_ready.1 hj
      have hnot : ∀ e ∈ oj.after, Region.binds md e = true → e.on ≠ i := fun e he hb heq => by
        have h1 := hall e he hb
        rw [heq, getD_both hun] at h1
        cases h1
      have h2 := wpOp_putIf hoj (hfree j oj hoj hji hjun hnot) (fun cs b => hsel i oi cs b hi) (fun cs b => hsel j oj cs b hoj) hQ hy h1
      have hfree' : ∀ k ok, ops[k]? = some ok → k ≠ i → (listed.setIfInBounds j true).getD k true = false →
          (∀ e ∈ ok.after, Region.binds md e = true → e.on ≠ i) → oi.apart ops ok = true := fun k ok hk hki hun hno => by
        refine hfree k ok hk hki ?_ hno
        by_cases hjk : j = k
        · subst hjk; exact hjun
        · rw [getD_set_ne true hjk] at hun; exact hun
      refine wpOp_mono (fun a' w' h3 => ⟨h3.2.1, ih (listed.setIfInBounds j true) a' w' (inv.set hj hjn) hfree' (ready_mono hr (Ne.symm hji)) h3.1 (h3.2.1 hjn) ?_⟩) h2
      rw [Array.setIfInBounds_comm _ _ hji]
      exact h3.2.2

/-- The walk in the order of a schedule: (k, true): number k is taken first; (k, false): it comes up alone. -/
def wpTy (P : Program) (l : List Oper) (Q : Exit → Act → World → Prop) (S : World → Prop) (n : Nat) : List (Nat × Bool) → Act → World → Prop
  | [], a, w => Q .normal a w
  | (k, true) :: r, a, w => ∃ o v, nthO l k = some o ∧ YieldsIf P l.toArray S o v a ∧ S w ∧ wpTy P l Q S n r (a.put o.dst v) w
  | (k, false) :: r, a, w => wpOp P l.toArray Q k (fun a' w' => (k < n → S w') ∧ wpTy P l Q S n r a' w') a w

def tyB (md : Region.Mode) (ops : Array Oper) (n : Nat) : List (Nat × Bool) → Array Bool → Bool
  | [], listed => (Region.ready md ops listed).isEmpty
  | (k, true) :: r, listed => decide (k < n) && (Region.ready md ops listed).contains k && Region.free md ops listed k && tyB md ops n r (listed.setIfInBounds k true)
  | (k, false) :: r, listed => decide (Region.ready md ops listed = [k]) && (decide (k < n) || r.all fun x => !x.2 && decide (n ≤ x.1)) && tyB md ops n r (listed.setIfInBounds k true)
def tyAllB (md : Region.Mode) (l : List Oper) (n : Nat) (sched : List (Nat × Bool)) : Bool :=
  Region.noSelect l.toArray && decide (n < l.length) && Region.sinkB md l.toArray n && Region.chainB md l.toArray n && decide (sched.length = l.length) && tyB md l.toArray n sched (Array.replicate l.length false)

theorem wpAnyF_of_ty {l : List Oper} {n : Nat} (hsel : Region.noSelect l.toArray = true) (hQ : ∀ c a d v w, Q (.panic c) (Act.put a d v) w → Q (.panic c) a w) (hs : Region.sinkB md l.toArray n = true) (hc : Region.chainB md l.toArray n = true) (hn : n < l.toArray.size) :
    ∀ (r : List (Nat × Bool)) (listed : Array Bool) (a : Act) (w : World), HeadInv md l.toArray n listed ∨ (r.all fun x => !x.2 && decide (n ≤ x.1)) = true → tyB md l.toArray n r listed = true → wpTy P l Q S n r a w → wpAnyF P md l.toArray Q S n r.length listed a w
  | [], listed, a, w, _, hB, h => ⟨by simpa [tyB] using hB, h⟩
  | (k, true) :: r, listed, a, w, hinv, hB, h => by
    have inv : HeadInv md l.toArray n listed := by
      rcases hinv with h | h
      · exact h
      · simp at h
    simp only [tyB, Bool.and_eq_true, decide_eq_true_eq] at hB
    obtain ⟨⟨⟨hk, hr⟩, hf⟩, hB'⟩ := hB
    obtain ⟨o, v, ho, hy, hS, h'⟩ := h
    have h0 : l.toArray[k]? = some o := (nthO_eq l k).trans ho
    have hr' : k ∈ Region.ready md l.toArray listed := by simpa using hr
    exact wpAnyF_first h0 (Region.noSelect_spec hsel) (fun c a w => hQ c a _ _ w) hs hc hn hk r.length listed a w inv (Region.free_spec h0 hf) hr' hy hS
      (wpAnyF_of_ty hsel hQ hs hc hn r _ _ _ (.inl (inv.set hr' hk)) hB' h')
  | (k, false) :: r, listed, a, w, hinv, hB, h => by
    simp only [tyB, Bool.and_eq_true, decide_eq_true_eq] at hB
    obtain ⟨⟨hr, hlast⟩, hB'⟩ := hB
    refine ⟨fun h1 => (by rw [hr] at h1; cases h1), fun i hi => ?_⟩
    have hik : i = k := by rw [hr] at hi; simpa using hi
    subst hik
    have h2 : HeadInv md l.toArray n (listed.setIfInBounds i true) ∨ (r.all fun x => !x.2 && decide (n ≤ x.1)) = true := by
      by_cases hkn : i < n
      · rcases hinv with h | h
        · exact .inl (h.set hi hkn)
        · simp at h
          omega
      · simp only [Bool.or_eq_true, decide_eq_true_eq] at hlast
        rcases hlast with h | h
        · exact absurd h hkn
        · exact .inr h
    exact wpOp_mono (fun a' w' h' => ⟨h'.1, wpAnyF_of_ty hsel hQ hs hc hn r _ a' w' h2 hB' h'.2⟩) h

theorem wp_region_ty {id : Nat} {l : List Oper} {a : Act} {w : World} (S : World → Prop) (n : Nat) (sched : List (Nat × Bool)) (hm : P.follows .mixedOrders = true) (hB : tyAllB .any l n sched = true)
    (hS : S w.drew) (h : S w.drew → wpTy P l (NoPanic Q) S n sched a w.drew) : (Code.region id l.toArray true).wp P Q a w := by
  refine wp_region_noPanic ?_
  have hQ : ∀ c a d v w, NoPanic Q (.panic c) (Act.put a d v) w → NoPanic Q (.panic c) a w := fun _ _ _ _ _ h => h
  simp only [tyAllB, Bool.and_eq_true, decide_eq_true_eq] at hB
  obtain ⟨⟨⟨⟨⟨hsel, hl⟩, hs⟩, hc⟩, hlen⟩, hB⟩ := hB
  have hn : n < l.toArray.size := by simpa using hl
  have inv0 : HeadInv .any l.toArray n (Array.replicate l.length false) :=
    ⟨by simp, fun j oj _ hl => (by rw [getD_replicate_false] at hl; cases hl), fun t _ ht => getD_in (by simpa using ht) (getD_replicate_false _ _)⟩
  have H := wpAnyF_of_ty hsel hQ hs hc hn sched _ a w.drew (.inl inv0) hB (h hS)
  rw [hlen] at H
  refine wp_region_any hm (wpAny_of_F (S := S) (n := n) _ _ _ _ ?_)
  rw [show l.toArray.size = l.length by simp]
  exact H

theorem wpTy_take {l : List Oper} {n k : Nat} {r : List (Nat × Bool)} {o : Oper} {v : Value} {a : Act} {w : World} (ho : nthO l k = some o) (hS : S w)
    (hy : ∀ w, S w → (execOp a.eval o).run P w = .ok (.value v) w) (hw : Region.wanted o (yielded l.toArray a.tmps) = true) (h : wpTy P l Q S n r (a.put o.dst v) w) : wpTy P l Q S n ((k, true) :: r) a w :=
  ⟨o, v, ho, .inl ⟨hw, hy⟩, hS, h⟩
theorem wpTy_skip {l : List Oper} {n k : Nat} {r : List (Nat × Bool)} {o : Oper} {a : Act} {w : World} (ho : nthO l k = some o) (hS : S w)
    (hw : Region.wanted o (yielded l.toArray a.tmps) = false) (h : wpTy P l Q S n r (a.put o.dst undef) w) : wpTy P l Q S n ((k, true) :: r) a w :=
  ⟨o, undef, ho, .inr ⟨hw, rfl⟩, hS, h⟩
theorem wpTy_go {l : List Oper} {n k : Nat} {r : List (Nat × Bool)} {o : Oper} {a : Act} {w : World} (ho : nthO l k = some o)
    (h : ∀ K : Act → World → Prop, Shut (∀ a w, S w → (S w → wpTy P l Q S n r a w) → K a w) → if Region.wanted o (yielded l.toArray a.tmps) = true then Oper.wp P o a w K Q else K (a.put o.dst undef) w) : wpTy P l Q S n ((k, false) :: r) a w :=
  wpOp_step ((nthO_eq l k).trans ho) (fun K hK => h K (fun a w hS hW => hK a w ⟨fun _ => hS, hW hS⟩))
/-- .. one of the tail: S is not asked. -/
theorem wpTy_tail {l : List Oper} {n k : Nat} {x : Nat × Bool} {r : List (Nat × Bool)} {o : Oper} {a : Act} {w : World} (ho : nthO l k = some o) (hk : n ≤ k)
    (h : ∀ K : Act → World → Prop, Shut (∀ a w, wpTy P l Q S n (x :: r) a w → K a w) → if Region.wanted o (yielded l.toArray a.tmps) = true then Oper.wp P o a w K Q else K (a.put o.dst undef) w) : wpTy P l Q S n ((k, false) :: x :: r) a w :=
  wpOp_step ((nthO_eq l k).trans ho) (fun K hK => h K (fun a w hW => hK a w ⟨fun h => absurd h (by omega), hW⟩))
theorem wpTy_last {l : List Oper} {n k : Nat} {o : Oper} {a : Act} {w : World} (ho : nthO l k = some o) (hk : n ≤ k)
    (h : ∀ K : Act → World → Prop, Shut (∀ a w, Q .normal a w → K a w) → if Region.wanted o (yielded l.toArray a.tmps) = true then Oper.wp P o a w K Q else K (a.put o.dst undef) w) : wpTy P l Q S n [(k, false)] a w :=
  wpOp_step ((nthO_eq l k).trans ho) (fun K hK => h K (fun a w hq => hK a w ⟨fun h => absurd h (by omega), hq⟩))
end
end Go.Proofs.YtnonfmaehfmigaaDoor

/- A region that draws its order and ends in operations that write one behind the other, where some operations that any world answers alike (they are known by `post`) are not awaited by the first of these. Over any program. -/
namespace Go.Proofs.YtnonfmaehfmigaaDoor
open Go

section
variable {P : Program} {ops : Array Oper} {Q : Exit → Act → World → Prop} {md : Region.Mode} {S : World → Prop}
def sinkQ (md : Region.Mode) (ops : Array Oper) (n : Nat) (post : List Nat) : Bool :=
  (List.range n).all fun i => post.contains i || (List.range (n + 1)).any fun j => decide (i < j) && !post.contains j && Region.waitsFor md ops j i
theorem tail_waitsQ {n : Nat} {post : List Nat} {listed : Array Bool} (hs : sinkQ md ops n post = true) (hc : Region.chainB md ops n = true) (hn : n < ops.size) (inv : HeadInv md ops n listed) :
    ∀ (d i : Nat), n - i = d → i < n → post.contains i = false → listed.getD i true = false → ∀ t, n ≤ t → t ∉ Region.ready md ops listed := by
  intro d
  induction d using Nat.strongRecOn with
  | _ d ih =>
    intro i hd hi hpi hun t ht hr
    obtain ⟨_, ot, hot, hall⟩ := mem_ready.1 hr
    have htlt : t < ops.size := (Array.getElem?_eq_some_iff.1 hot).1
    by_cases htn : t = n
    · subst htn
      have h1 := List.all_eq_true.1 hs i (List.mem_range.2 hi)
      rw [hpi, Bool.false_or] at h1
      obtain ⟨j, hj, hj2⟩ := List.any_eq_true.1 h1
      simp only [Bool.and_eq_true, decide_eq_true_eq, Bool.not_eq_true'] at hj2
      obtain ⟨oj, hoj, e, he, hb, hon⟩ := Region.waitsFor_spec hj2.2
      have hjle : j ≤ t := by have := List.mem_range.1 hj; omega
      by_cases hjt : j = t
      · subst hjt
        have : oj = ot := Option.some.inj (hoj.symm.trans hot)
        subst this
        have h2 := hall e he hb
        rw [hon, getD_both hun] at h2
        cases h2
      · cases hl : listed.getD j false with
        | true =>
          have h2 := inv.closed j oj hoj hl e he hb
          rw [hon, getD_both hun] at h2
          cases h2
        | false =>
          have hjs : j < listed.size := by rw [inv.size]; omega
          exact ih (t - j) (by omega) j rfl (by omega) hj2.1.2 (getD_in hjs hl) t (Nat.le_refl _) hr
    · have h1 := List.all_eq_true.1 hc t (List.mem_range.2 htlt)
      simp only [Bool.or_eq_true, decide_eq_true_eq] at h1
      rcases h1 with h1 | h1
      · omega
      · obtain ⟨o', ho', e, he, hb, hon⟩ := Region.waitsFor_spec h1
        have : o' = ot := Option.some.inj (ho'.symm.trans hot)
        subst this
        have h2 := hall e he hb
        rw [hon, getD_both (inv.tail (t - 1) (by omega) (by omega))] at h2
        cases h2
/-- None of the tail has been. -/
def NoB (ops : Array Oper) (n : Nat) (listed : Array Bool) : Prop := ∀ t, n ≤ t → t < ops.size → listed.getD t true = false
theorem NoB.set {n i : Nat} {listed : Array Bool} (hi : i < n) : NoB ops n (listed.setIfInBounds i true) ↔ NoB ops n listed := by
  constructor
  · intro h t ht hts
    have := h t ht hts
    rwa [getD_set_ne true (by omega)] at this
  · intro h t ht hts
    rw [getD_set_ne true (by omega)]
    exact h t ht hts
/-- Whatever order is picked: S holds as long as none of the tail has been. -/
def wpAnyH (P : Program) (md : Region.Mode) (ops : Array Oper) (Q : Exit → Act → World → Prop) (S : World → Prop) (n : Nat) : Nat → Array Bool → Act → World → Prop
  | 0, listed, a, w => Region.ready md ops listed = [] ∧ Q .normal a w
  | fuel + 1, listed, a, w =>
    (Region.ready md ops listed = [] → Q .normal a w) ∧
    ∀ i ∈ Region.ready md ops listed, wpOp P ops Q i (fun a' w' => (i < n → NoB ops n listed → S w') ∧ wpAnyH P md ops Q S n fuel (listed.setIfInBounds i true) a' w') a w
theorem wpAny_of_H {n : Nat} : ∀ (fuel : Nat) (listed : Array Bool) (a : Act) (w : World), wpAnyH P md ops Q S n fuel listed a w → wpAny P md ops Q fuel listed a w
  | 0, _, _, _, h => h
  | fuel + 1, _, _, _, h => ⟨h.1, fun i hi => wpOp_mono (fun a' w' h' => wpAny_of_H fuel _ a' w' h'.2) (h.2 i hi)⟩
theorem wpAnyH_first {n i : Nat} {post : List Nat} {oi : Oper} {v : Value} (hi : ops[i]? = some oi) (hsel : ∀ (j : Nat) (o : Oper) cs b, ops[j]? = some o → o.op ≠ .select cs b)
    (hQ : ∀ c a w, Q (.panic c) (a.put oi.dst v) w → Q (.panic c) a w) (hs : sinkQ md ops n post = true) (hc : Region.chainB md ops n = true) (hn : n < ops.size) (hin : i < n) (hpi : post.contains i = false) :
    ∀ (fuel : Nat) (listed : Array Bool) (a : Act) (w : World), HeadInv md ops n listed →
      (∀ j oj, ops[j]? = some oj → j ≠ i → listed.getD j true = false → (∀ e ∈ oj.after, Region.binds md e = true → e.on ≠ i) → oi.apart ops oj = true) →
      i ∈ Region.ready md ops listed → YieldsIf P ops S oi v a → S w →
      wpAnyH P md ops Q S n fuel (listed.setIfInBounds i true) (a.put oi.dst v) w → wpAnyH P md ops Q S n (fuel + 1) listed a w := by
  intro fuel
  induction fuel with
  | zero =>
    intro listed a w _ _ hr hy hS H
    refine ⟨fun h => (by rw [h] at hr; cases hr), fun j hj => ?_⟩
    by_cases hji : j = i
    · subst hji; exact hy.wpOp hi hS ⟨fun _ _ => hS, H⟩
    · have := ready_mono hj hji
      rw [H.1] at this
      cases this
  | succ fuel ih =>
    intro listed a w inv hfree hr hy hS H
    have hun := (mem_ready.1 hr).1
    refine ⟨fun h => (by rw [h] at hr; cases hr), fun j hj => ?_⟩
    by_cases hji : j = i
    · subst hji; exact hy.wpOp hi hS ⟨fun _ _ => hS, H⟩
    · have hjn : j < n := by
        rcases Nat.lt_or_ge j n with h | h
        · exact h
        · exact absurd hj (tail_waitsQ hs hc hn inv _ i rfl hin hpi hun j h)
      have h1 := H.2 j (ready_mono hj hji)
      obtain ⟨hjun, oj, hoj, hall⟩ := mem_ready.1 hj
      have hnot : ∀ e ∈ oj.after, Region.binds md e = true → e.on ≠ i := fun e he hb heq => by
        have h1 := hall e he hb
        rw [heq, getD_both hun] at h1
        cases h1
      have h2 := wpOp_putIf hoj (hfree j oj hoj hji hjun hnot) (fun cs b => hsel i oi cs b hi) (fun cs b => hsel j oj cs b hoj) hQ hy h1
      have hfree' : ∀ k ok, ops[k]? = some ok → k ≠ i → (listed.setIfInBounds j true).getD k true = false →
          (∀ e ∈ ok.after, Region.binds md e = true → e.on ≠ i) → oi.apart ops ok = true := fun k ok hk hki hun hno => by
        refine hfree k ok hk hki ?_ hno
        by_cases hjk : j = k
        · subst hjk; exact hjun
        · rw [getD_set_ne true hjk] at hun; exact hun
      have hnb : NoB ops n (listed.setIfInBounds i true) := (NoB.set hin).2 inv.tail
      refine wpOp_mono (fun a' w' h3 => ⟨fun _ _ => h3.2.1 hjn hnb, ih (listed.setIfInBounds j true) a' w' (inv.set hj hjn) hfree' (ready_mono hr (Ne.symm hji)) h3.1 (h3.2.1 hjn hnb) ?_⟩) h2
      rw [Array.setIfInBounds_comm _ _ hji]
      exact h3.2.2
/-- .. one that any world answers alike. -/
theorem wpAnyH_pure {n i : Nat} {oi : Oper} {v : Value} (hi : ops[i]? = some oi) (hsel : ∀ (j : Nat) (o : Oper) cs b, ops[j]? = some o → o.op ≠ .select cs b)
    (hQ : ∀ c a w, Q (.panic c) (a.put oi.dst v) w → Q (.panic c) a w) (hin : i < n) :
    ∀ (fuel : Nat) (listed : Array Bool) (a : Act) (w : World), (NoB ops n listed → S w) →
      (∀ j oj, ops[j]? = some oj → j ≠ i → listed.getD j true = false → (∀ e ∈ oj.after, Region.binds md e = true → e.on ≠ i) → oi.apart ops oj = true) →
      i ∈ Region.ready md ops listed → YieldsIf P ops (fun _ => True) oi v a →
      wpAnyH P md ops Q S n fuel (listed.setIfInBounds i true) (a.put oi.dst v) w → wpAnyH P md ops Q S n (fuel + 1) listed a w := by
  intro fuel
  induction fuel with
  | zero =>
    intro listed a w hS _ hr hy H
    refine ⟨fun h => (by rw [h] at hr; cases hr), fun j hj => ?_⟩
    by_cases hji : j = i
    · subst hji; exact hy.wpOp hi trivial ⟨fun _ h => hS h, H⟩
    · have := ready_mono hj hji
      rw [H.1] at this
      cases this
  | succ fuel ih =>
    intro listed a w hS hfree hr hy H
    have hun := (mem_ready.1 hr).1
    refine ⟨fun h => (by rw [h] at hr; cases hr), fun j hj => ?_⟩
    by_cases hji : j = i
    · subst hji; exact hy.wpOp hi trivial ⟨fun _ h => hS h, H⟩
    · have h1 := H.2 j (ready_mono hj hji)
      obtain ⟨hjun, oj, hoj, hall⟩ := mem_ready.1 hj
      have hjs : j < ops.size := (Array.getElem?_eq_some_iff.1 hoj).1
      have hnot : ∀ e ∈ oj.after, Region.binds md e = true → e.on ≠ i := fun e he hb heq => by
        have h1 := hall e he hb
        rw [heq, getD_both hun] at h1
        cases h1
      have h2 := wpOp_putIf hoj (hfree j oj hoj hji hjun hnot) (fun cs b => hsel i oi cs b hi) (fun cs b => hsel j oj cs b hoj) hQ hy h1
      have hfree' : ∀ k ok, ops[k]? = some ok → k ≠ i → (listed.setIfInBounds j true).getD k true = false →
          (∀ e ∈ ok.after, Region.binds md e = true → e.on ≠ i) → oi.apart ops ok = true := fun k ok hk hki hun hno => by
        refine hfree k ok hk hki ?_ hno
        by_cases hjk : j = k
        · subst hjk; exact hjun
        · rw [getD_set_ne true hjk] at hun; exact hun
      refine wpOp_mono (fun a' w' h3 => ⟨fun hjn hb => h3.2.1 hjn ((NoB.set hin).2 hb), ih (listed.setIfInBounds j true) a' w' (fun hb => ?_) hfree' (ready_mono hr (Ne.symm hji)) h3.1 ?_⟩) h2
      · rcases Nat.lt_or_ge j n with hjn | hjn
        · exact h3.2.1 hjn ((NoB.set hin).2 ((NoB.set hjn).1 hb))
        · have := hb j hjn hjs
          have hsz : j < listed.size := by
            rcases Nat.lt_or_ge j listed.size with h | h
            · exact h
            · rw [Array.getD_eq_getD_getElem?, Array.getElem?_eq_none h] at hjun
              cases hjun
          simp [Array.getD, hsz] at this
      · rw [Array.setIfInBounds_comm _ _ hji]
        exact h3.2.2
/-- The walk in the order of a schedule: (k, true): taken first, k of `post`: in any world; (k, false): it comes up alone. -/
def wpTh (P : Program) (l : List Oper) (Q : Exit → Act → World → Prop) (S : World → Prop) (n : Nat) (post : List Nat) : List (Nat × Bool) → Act → World → Prop
  | [], a, w => Q .normal a w
  | (k, true) :: r, a, w => ∃ o v, nthO l k = some o ∧ YieldsIf P l.toArray (if post.contains k then fun _ => True else S) o v a ∧ S w ∧ wpTh P l Q S n post r (a.put o.dst v) w
  | (k, false) :: r, a, w => wpOp P l.toArray Q k (fun a' w' => (k < n → S w') ∧ wpTh P l Q S n post r a' w') a w
theorem wpAnyH_of_th {l : List Oper} {n : Nat} {post : List Nat} (hsel : Region.noSelect l.toArray = true) (hQ : ∀ c a d v w, Q (.panic c) (Act.put a d v) w → Q (.panic c) a w) (hs : sinkQ md l.toArray n post = true) (hc : Region.chainB md l.toArray n = true) (hn : n < l.toArray.size) :
    ∀ (r : List (Nat × Bool)) (listed : Array Bool) (a : Act) (w : World), HeadInv md l.toArray n listed ∨ (r.all fun x => !x.2 && decide (n ≤ x.1)) = true → tyB md l.toArray n r listed = true → wpTh P l Q S n post r a w → wpAnyH P md l.toArray Q S n r.length listed a w
  | [], listed, a, w, _, hB, h => ⟨by simpa [tyB] using hB, h⟩
  | (k, true) :: r, listed, a, w, hinv, hB, h => by
    have inv : HeadInv md l.toArray n listed := by
      rcases hinv with h | h
      · exact h
      · simp at h
    simp only [tyB, Bool.and_eq_true, decide_eq_true_eq] at hB
    obtain ⟨⟨⟨hk, hr⟩, hf⟩, hB'⟩ := hB
    obtain ⟨o, v, ho, hy, hS, h'⟩ := h
    have h0 : l.toArray[k]? = some o := (nthO_eq l k).trans ho
    have hr' : k ∈ Region.ready md l.toArray listed := by simpa using hr
    have hnext := wpAnyH_of_th hsel hQ hs hc hn r _ _ _ (.inl (inv.set hr' hk)) hB' h'
    cases hp : post.contains k with
    | false =>
      rw [hp] at hy
      exact wpAnyH_first h0 (Region.noSelect_spec hsel) (fun c a w => hQ c a _ _ w) hs hc hn hk hp r.length listed a w inv (Region.free_spec h0 hf) hr' hy hS hnext
    | true =>
      rw [hp] at hy
      exact wpAnyH_pure h0 (Region.noSelect_spec hsel) (fun c a w => hQ c a _ _ w) hk r.length listed a w (fun _ => hS) (Region.free_spec h0 hf) hr' hy hnext
  | (k, false) :: r, listed, a, w, hinv, hB, h => by
    simp only [tyB, Bool.and_eq_true, decide_eq_true_eq] at hB
    obtain ⟨⟨hr, hlast⟩, hB'⟩ := hB
    refine ⟨fun h1 => (by rw [hr] at h1; cases h1), fun i hi => ?_⟩
    have hik : i = k := by rw [hr] at hi; simpa using hi
    subst hik
    have h2 : HeadInv md l.toArray n (listed.setIfInBounds i true) ∨ (r.all fun x => !x.2 && decide (n ≤ x.1)) = true := by
      by_cases hkn : i < n
      · rcases hinv with h | h
        · exact .inl (h.set hi hkn)
        · simp at h
          omega
      · simp only [Bool.or_eq_true, decide_eq_true_eq] at hlast
        rcases hlast with h | h
        · exact absurd h hkn
        · exact .inr h
    exact wpOp_mono (fun a' w' h' => ⟨fun hk _ => h'.1 hk, wpAnyH_of_th hsel hQ hs hc hn r _ a' w' h2 hB' h'.2⟩) h
def thAllB (md : Region.Mode) (l : List Oper) (n : Nat) (post : List Nat) (sched : List (Nat × Bool)) : Bool :=
  Region.noSelect l.toArray && decide (n < l.length) && sinkQ md l.toArray n post && Region.chainB md l.toArray n && decide (sched.length = l.length) && tyB md l.toArray n sched (Array.replicate l.length false)
theorem wp_region_th {id : Nat} {l : List Oper} {a : Act} {w : World} (S : World → Prop) (n : Nat) (post : List Nat) (sched : List (Nat × Bool)) (hm : P.follows .mixedOrders = true) (hB : thAllB .any l n post sched = true)
    (hS : S w.drew) (h : S w.drew → wpTh P l (NoPanic Q) S n post sched a w.drew) : (Code.region id l.toArray true).wp P Q a w := by
  refine wp_region_noPanic ?_
  have hQ : ∀ c a d v w, NoPanic Q (.panic c) (Act.put a d v) w → NoPanic Q (.panic c) a w := fun _ _ _ _ _ h => h
  simp only [thAllB, Bool.and_eq_true, decide_eq_true_eq] at hB
  obtain ⟨⟨⟨⟨⟨hsel, hl⟩, hs⟩, hc⟩, hlen⟩, hB⟩ := hB
  have hn : n < l.toArray.size := by simpa using hl
  have inv0 : HeadInv .any l.toArray n (Array.replicate l.length false) :=
    ⟨by simp, fun j oj _ hl => (by rw [getD_replicate_false] at hl; cases hl), fun t _ ht => getD_in (by simpa using ht) (getD_replicate_false _ _)⟩
  have H := wpAnyH_of_th hsel hQ hs hc hn sched _ a w.drew (.inl inv0) hB (h hS)
  rw [hlen] at H
  refine wp_region_any hm (wpAny_of_H (S := S) (n := n) _ _ _ _ ?_)
  rw [show l.toArray.size = l.length by simp]
  exact H
theorem wpTh_take {l : List Oper} {n k : Nat} {post : List Nat} {r : List (Nat × Bool)} {o : Oper} {v : Value} {a : Act} {w : World} (ho : nthO l k = some o) (hp : post.contains k = false) (hS : S w)
    (hy : ∀ w, S w → (execOp a.eval o).run P w = .ok (.value v) w) (hw : Region.wanted o (yielded l.toArray a.tmps) = true) (h : wpTh P l Q S n post r (a.put o.dst v) w) : wpTh P l Q S n post ((k, true) :: r) a w :=
  ⟨o, v, ho, .inl ⟨hw, by rw [hp]; exact hy⟩, hS, h⟩
theorem wpTh_pure {l : List Oper} {n k : Nat} {post : List Nat} {r : List (Nat × Bool)} {o : Oper} {v : Value} {a : Act} {w : World} (ho : nthO l k = some o) (hp : post.contains k = true) (hS : S w)
    (hy : ∀ w, (execOp a.eval o).run P w = .ok (.value v) w) (hw : Region.wanted o (yielded l.toArray a.tmps) = true) (h : wpTh P l Q S n post r (a.put o.dst v) w) : wpTh P l Q S n post ((k, true) :: r) a w :=
  ⟨o, v, ho, .inl ⟨hw, by rw [hp]; exact fun w _ => hy w⟩, hS, h⟩
theorem wpTh_go {l : List Oper} {n k : Nat} {post : List Nat} {r : List (Nat × Bool)} {o : Oper} {a : Act} {w : World} (ho : nthO l k = some o)
    (h : ∀ K : Act → World → Prop, Shut (∀ a w, S w → (S w → wpTh P l Q S n post r a w) → K a w) → if Region.wanted o (yielded l.toArray a.tmps) = true then Oper.wp P o a w K Q else K (a.put o.dst undef) w) : wpTh P l Q S n post ((k, false) :: r) a w :=
  wpOp_step ((nthO_eq l k).trans ho) (fun K hK => h K (fun a w hS hW => hK a w ⟨fun _ => hS, hW hS⟩))
theorem wpTh_tail {l : List Oper} {n k : Nat} {post : List Nat} {r : List (Nat × Bool)} {o : Oper} {a : Act} {w : World} (ho : nthO l k = some o) (hk : n ≤ k)
    (h : ∀ K : Act → World → Prop, Shut (∀ a w, wpTh P l Q S n post r a w → K a w) → if Region.wanted o (yielded l.toArray a.tmps) = true then Oper.wp P o a w K Q else K (a.put o.dst undef) w) : wpTh P l Q S n post ((k, false) :: r) a w :=
  wpOp_step ((nthO_eq l k).trans ho) (fun K hK => h K (fun a w hW => hK a w ⟨fun h => absurd h (by omega), hW⟩))
theorem wpTh_last {l : List Oper} {n k : Nat} {post : List Nat} {o : Oper} {a : Act} {w : World} (ho : nthO l k = some o) (hk : n ≤ k)
    (h : ∀ K : Act → World → Prop, Shut (∀ a w, Q .normal a w → K a w) → if Region.wanted o (yielded l.toArray a.tmps) = true then Oper.wp P o a w K Q else K (a.put o.dst undef) w) : wpTh P l Q S n post [(k, false)] a w :=
  wpOp_step ((nthO_eq l k).trans ho) (fun K hK => h K (fun a w hq => hK a w ⟨fun h => absurd h (by omega), hq⟩))
end
end Go.Proofs.YtnonfmaehfmigaaDoor

/- A term is laid: the program's Push, variable, lay, Build. Printed by gen_hplay.py. -/
namespace Go.Proofs.YtnonfmaehfmigaaDoor
open Go.RowKit Go.Maps

section
variable {w : World} {base hb ag ah vb : Nat} {AA FA TA MA : Option Addr} {ca nt ct nm cm cf : Nat} {H : PH} {tr : List Int} {mk : List (Int × Int)} {room : Nat}
theorem keep3 {w w' : World} {L M : List Nat} (h : Keeps w w' L) (hs : ∀ b ∈ L, b ∈ M) : Keeps w w' M := h.more fun b _ hb => hs b hb
set_option maxRecDepth 100000 in
set_option maxHeartbeats 1600000 in
theorem hpush_any (h : Hm w base hb ag ah vb AA FA TA MA ca nt ct nm cm cf H tr mk room) (c : Int) (hc0 : 0 ≤ c) (hc1 : c < 18446744073709551616) (hr : right c = true) (hlt : H.cells.length < room) :
    Calls Tryd.prog 19 #[(.pointer (some ⟨hb, 0, none⟩)), .int .u64 c] w fun e w' => e = .returned (.bool true) ∧ Hm w' base hb ag ah vb AA FA TA MA ca nt ct nm cm cf { H with cells := H.cells ++ [c] } tr mk room ∧ Keeps w w' [ag, ah] := by
  have HH := Lib.hid h
  have HC := Lib.hid (push_yes h.ar c hc0 hc1 hr hlt)
  have c0 := h.blk.cell 0
  clear h hc0 hc1 hr hlt
  go_enter Tryd.func19, Tryd.ntmps19
  go_wp2_with fail
  refine HC.out.mono ?_
  rintro e w1 ⟨rfl, ha, k1⟩
  have HA := Lib.hid ha
  have HK := Lib.hid k1
  clear ha k1 HC
  go_wp2_with fail
  go_ret
  exact ⟨rfl, HH.out.cells HK.out HA.out (by simp), HK.out⟩
set_option maxRecDepth 100000 in
set_option maxHeartbeats 1600000 in
theorem variable_any (h : Hm w base hb ag ah vb AA FA TA MA ca nt ct nm cm cf H tr mk room) (hv : VB H) (n : Int) (hn : I64 n) (hroom : (layV H n).1.cells.length ≤ room) :
    Calls Tryd.prog 72 #[(.pointer (some ⟨hb, 0, none⟩)), .int .i64 n] w fun e w' => e = .returned (.tuple #[.int .u64 (layV H n).2, .bool true]) ∧ Hm w' base hb ag ah vb AA FA TA MA ca nt ct nm cm cf (layV H n).1 tr mk room ∧ Keeps w w' [ag, ah, vb] := by
  have HH := Lib.hid h
  have hlook := h.vars.look hn
  have hmost := h.ar.most
  have hfits := h.ar.fits
  have c0 := h.blk.cell 0
  have c3 := h.blk.cell 3
  cases hvn : H.vars n with
  | some p =>
    obtain ⟨q, rfl, hq⟩ := hv.at_ n p hvn
    have hql := hq
    have HL : Hid (layV H n = (H, (q : Int) * 8)) := by show _ = _; unfold layV; rw [hvn]
    have HM := Lib.hid (fun W => make_yes 0 (q : Int) W ⟨by omega, by omega, by omega, by omega⟩)
    rw [hvn] at hlook
    simp only [Option.getD_some, Option.isSome_some] at hlook
    rw [HL.out]
    clear hv hq hvn hroom h
    go_enter Tryd.func72, Tryd.ntmps72
    go_wp2_with fail
    refine (HM.out _).mono ?_
    rintro e w1 ⟨rfl, rfl⟩
    go_wp2_with fail
    go_ret2
    exact ⟨by simp, HH.out, Keeps.refl _ _⟩
  | none =>
    obtain ⟨q, hq⟩ : ∃ q, H.cells.length = q := ⟨_, rfl⟩
    have HL : Hid (layV H n = ({ H with cells := H.cells ++ [(q : Int) * 8], vars := putV H.vars n q }, (q : Int) * 8)) := by show _ = _; unfold layV; rw [hvn, hq]
    rw [HL.out] at hroom
    have hq1 : q + 1 ≤ room := by simpa [hq] using hroom
    have HT := Lib.hid (atop_any h.ar)
    have HM := Lib.hid (fun W => make_yes 0 (q : Int) W ⟨by omega, by omega, by omega, by omega⟩)
    have HPu := Lib.hid (hpush_any h ((q : Int) * 8) (by omega) (by omega) (by simp [right]; omega) (by omega))
    rw [hq] at HT
    rw [hvn] at hlook
    simp only [Option.getD_none, Option.isSome_none] at hlook
    rw [HL.out]
    have HQ := Lib.hid hq
    clear hv hvn hroom h hq
    go_enter Tryd.func72, Tryd.ntmps72
    go_wp2_with fail
    refine HT.out.mono ?_
    rintro e w1 ⟨rfl, rfl⟩
    go_wp2_with fail
    refine (HM.out _).mono ?_
    rintro e w1 ⟨rfl, rfl⟩
    rw [Int.add_zero]
    go_wp2_with fail
    refine HPu.out.mono ?_
    rintro e w2 ⟨rfl, h2, k2⟩
    have hvm : VM w2 vb q H.vars := by
      have h3 := HH.out.vars.kept k2 (by have := HH.out.apart.a1; simp only [List.mem_cons, List.not_mem_nil, or_false, not_or]; exact ⟨this.2.2.2.1, this.2.2.2.2.1⟩)
      rw [HQ.out] at h3
      exact h3
    obtain ⟨w3, hupd, hv3, k3⟩ := hvm.put (x := n) (p := (q : Int)) (by omega) hn ⟨by omega, by omega⟩
    have h3 := h2.vars_ k3 (f := putV H.vars n q) (by show VM w3 vb (H.cells ++ [(q : Int) * 8]).length _; rw [List.length_append, List.length_singleton, HQ.out]; exact hv3)
    have HH3 := Lib.hid h3
    have HK3 := Lib.hid ((keep3 k2 (M := [ag, ah, vb]) (by simp +contextual)).trans (keep3 k3 (M := [ag, ah, vb]) (by simp +contextual)))
    have d3 := h2.blk.cell 3
    clear h2 k2 hvm hv3 k3 h3 c0 c3 hlook HPu HT HH
    go_wp2_with fail
    refine (HM.out _).mono ?_
    rintro e w4 ⟨rfl, rfl⟩
    go_wp2_with fail
    go_ret2
    exact ⟨by simp, HH3.out, HK3.out⟩
end
/-- All fits. -/
def FitR (room : Nat) (H : PH) : Prop := H.cells.length ≤ room ∧ H.atoms.length ≤ 1000000 ∧ H.funs.length ≤ 1000000
theorem FitR.le {room : Nat} {H H' : PH} (h : FitR room H') (k : H.le H') : FitR room H := ⟨Nat.le_trans k.cells.length_le h.1, Nat.le_trans k.atoms.length_le h.2.1, Nat.le_trans k.funs.length_le h.2.2⟩
/-- What is told of a term that is laid. -/
def LayR (w : World) (base hb : Nat) (L : List Nat) (r : PH × Int) (tr : List Int) (mk : List (Int × Int)) (room : Nat) (e : Ending) (w' : World) : Prop :=
  e = .returned (.tuple #[.int .u64 r.2, .bool true]) ∧ ∃ L', Hp w' base hb L' r.1 tr mk room ∧ HSt w L w' L'
set_option maxRecDepth 100000 in
set_option maxHeartbeats 3200000 in
/-- A variable. -/
theorem layV_any (base hb : Nat) (tr : List Int) (mk : List (Int × Int)) (room : Nat) (n : Int) (s : ByteArray) (l : List Tm) (v : TV) (w : World) (L : List Nat) (H : PH) (hH : Hp w base hb L H tr mk room) (hv : VB H) (ht : Tr w (fun b => b ∉ L) (.mk 0 n s l) v) (hr : tRight (.mk 0 n s l) = true) (hf : FitR room (lay H (.mk 0 n s l)).1) :
    Calls Tryd.prog 40 #[(.pointer (some ⟨hb, 0, none⟩)), tvV v] w (LayR w base hb L (lay H (.mk 0 n s l)) tr mk room) := by
  have hlay : lay H (.mk 0 n s l) = layV H n := by rw [lay, if_pos rfl]
  rw [hlay] at hf ⊢
  have hn9 := (right_var hr).2
  obtain ⟨e1, e2, e3, e4, _, _⟩ := ht.inv
  obtain ⟨k, n', s', A, m, c⟩ := v
  replace e1 : k = 0 := e1
  replace e2 : n' = n := e2
  subst e1 e2
  obtain ⟨ag, ah, vb, AA, FA, TA, MA, ca, nt, ct, nm, cm, cf, rfl, hm⟩ := hH
  have hm1 := hm.keep0 ((Keeps.refl w []).alloc (.cells #[.int .i64 0, .int .i64 n', .string s', .slice A m c] 34))
  have HC := Lib.hid (variable_any hm1 hv n' ⟨by omega, by omega⟩ hf.1)
  clear hm hm1 hv ht hr hf hlay e3 e4 hn9
  unfold tvV
  go_enter Tryd.func40, Tryd.ntmps40
  go_wp2_with fail
  refine HC.out.mono ?_
  rintro e w1 ⟨rfl, h1, k1⟩
  have H1 := Lib.hid h1
  have K1 := Lib.hid k1
  clear h1 k1 HC
  go_wp2_with fail
  go_ret2
  refine ⟨rfl, _, ⟨ag, ah, vb, AA, FA, TA, MA, ca, nt, ct, nm, cm, cf, rfl, H1.out⟩, HSt.of (((Keeps.refl w _).alloc _).trans K1.out) fun b hb' => ?_⟩
  unfold hpL
  simp only [List.mem_append, List.mem_cons, List.not_mem_nil, or_false] at hb' ⊢
  rcases hb' with rfl | rfl | rfl <;> simp
set_option maxRecDepth 100000 in
set_option maxHeartbeats 3200000 in
/-- A name. -/
theorem layC_any (base hb : Nat) (tr : List Int) (mk : List (Int × Int)) (room : Nat) (n : Int) (s : ByteArray) (l : List Tm) (v : TV) (w : World) (L : List Nat) (H : PH) (hH : Hp w base hb L H tr mk room) (ht : Tr w (fun b => b ∉ L) (.mk 1 n s l) v) (hf : FitR room (lay H (.mk 1 n s l)).1) :
    Calls Tryd.prog 40 #[(.pointer (some ⟨hb, 0, none⟩)), tvV v] w (LayR w base hb L (lay H (.mk 1 n s l)) tr mk room) := by
  have hlay : lay H (.mk 1 n s l) = ({ H with atoms := numL H.atoms s }, (numI H.atoms s : Int) * 8 + 2) := by rw [lay, if_neg (by decide), if_pos rfl]
  rw [hlay] at hf ⊢
  obtain ⟨e1, e2, e3, e4, _, _⟩ := ht.inv
  obtain ⟨k, n', s', A, m, c⟩ := v
  replace e1 : k = 1 := e1
  replace e3 : s' = s := e3
  subst e1 e3
  obtain ⟨ag, ah, vb, AA, FA, TA, MA, ca, nt, ct, nm, cm, cf, rfl, hm⟩ := hH
  have hn1 : (numL H.atoms s').length ≤ 1000000 := hf.2.1
  have hni := numI_lt H.atoms s'
  have HN1 := Lib.hid hn1
  have HM := Lib.hid hm
  have HMk := Lib.hid (fun W => make_yes 2 (numI H.atoms s' : Int) W ⟨by omega, by omega, by omega, by omega⟩)
  have hK0 : Keeps w (w.alloc (.cells #[.int .i64 1, .int .i64 n', .string s', .slice A m c] 34)) [] := (Keeps.refl w []).alloc _
  have hB0 : Blk (w.alloc (.cells #[.int .i64 1, .int .i64 n', .string s', .slice A m c] 34)) w.heap.size 34 #[.int .i64 1, .int .i64 n', .string s', .slice A m c] := Blk.new _ _ _
  clear hm ht hf hlay e2 e4 hn1 hni
  unfold tvV
  go_enter Tryd.func40, Tryd.ntmps40
  go_upto_region 6 with fail
  generalize (w.alloc (.cells #[.int .i64 1, .int .i64 n', .string s', .slice A m c] 34)) = w0 at hK0 hB0 ⊢
  have HB0 := Lib.hid hB0
  have HK0 := Lib.hid hK0
  have hm0 := HM.out.keep0 hK0
  have HM0 := Lib.hid hm0
  have x1 := hm0.blk.cell 1
  have x2 := hB0.cell 2
  have ap := hm0.apart
  have hAA : ∀ W', Keeps w0 W' (ownL (.slice AA 0 0)) → (W'.cell? ⟨hb, 1, none⟩ = some (.slice AA H.atoms.length ca) ∧ W'.cell? ⟨w.heap.size, 2, none⟩ = some (.string s')) := fun W' kk =>
    ⟨(HM0.out.blk.keep kk (fun hh => (ap.a2 hb (by simp)).1 hh)).cell 1, (HB0.out.keep kk (fun hh => by have h1 := HM.out.atoms; rw [← ownL_slice AA H.atoms.length ca] at hh; have := (own_lt h1 hh).2; omega)).cell 2⟩
  have HAA := Lib.hid hAA
  clear hK0 hB0 hm0 x1 x2 ap hAA
  refine wp_region_th (fun W' => W'.cell? ⟨hb, 1, none⟩ = some (.slice AA H.atoms.length ca) ∧ W'.cell? ⟨w.heap.size, 2, none⟩ = some (.string s')) 12 [11] [(0, true), (1, true), (2, true), (3, true), (4, true), (5, true), (6, true), (7, true), (8, false), (9, true), (10, true), (11, true), (12, false), (13, false), (14, false), (15, false), (16, false)] (by kernel_rfl) (by kernel_rfl) (HAA.out _ (Keeps.refl _ _).drew) (fun hHeld => ?_)
  (repeat (first | (refine wpTh_take (v := ?_) rfl (by rfl) (by assumption) ?_ (by rfl) ?_; rotate_left; (focus (intro w' hSw; (try dsimp only at hSw); go_simp; (try with_reducible rfl); done)); simp only [Act.put, List.setIfInBounds_toArray, List.set_cons_zero, List.set_cons_succ]) | (refine wpTh_pure (v := ?_) rfl (by rfl) (by assumption) ?_ (by rfl) ?_; rotate_left; (focus (intro w'; go_simp; (try with_reducible rfl); done)); simp only [Act.put, List.setIfInBounds_toArray, List.set_cons_zero, List.set_cons_succ])))
  refine wpTh_go rfl (fun K hK => ?_)
  go_simp
  refine (numberS_any s' H.atoms AA ca base w0.drew (by rw [strE_flat]; exact HM0.out.atoms.drew) HM0.out.few.1 (by have := HM0.out.low.1; have := HM0.out.blk.lt; show base ≤ w0.heap.size; omega)).mono ?_
  rintro e w1 ⟨A', c', rfl, ho, k1, hn1⟩
  have HO := Lib.hid ho
  have K1 := Lib.hid ((Keeps.refl w0 (ownL (.slice AA 0 0))).drew.trans k1)
  have HNw := Lib.hid hn1
  clear ho k1 hn1
  refine hK.out _ _ ?_ ?_
  · exact HAA.out _ K1.out
  (clear hHeld; intro hHeld; clear hK K; (try simp only [Act.put, List.setIfInBounds_toArray, List.set_cons_zero, List.set_cons_succ]))
  (repeat (first | (refine wpTh_take (v := ?_) rfl (by rfl) (by assumption) ?_ (by rfl) ?_; rotate_left; (focus (intro w' hSw; (try dsimp only at hSw); go_simp; (try with_reducible rfl); done)); simp only [Act.put, List.setIfInBounds_toArray, List.set_cons_zero, List.set_cons_succ]) | (refine wpTh_pure (v := ?_) rfl (by rfl) (by assumption) ?_ (by rfl) ?_; rotate_left; (focus (intro w'; go_simp; (try with_reducible rfl); done)); simp only [Act.put, List.setIfInBounds_toArray, List.set_cons_zero, List.set_cons_succ])))
  refine wpTh_tail rfl (by decide) (fun K hK => ?_)
  go_simp
  refine hK.out _ _ ?_; clear hK K; (try simp only [Act.put, List.setIfInBounds_toArray, List.set_cons_zero, List.set_cons_succ])
  refine wpTh_tail rfl (by decide) (fun K hK => ?_)
  go_simp
  refine hK.out _ _ ?_; clear hK K; (try simp only [Act.put, List.setIfInBounds_toArray, List.set_cons_zero, List.set_cons_succ])
  refine wpTh_tail rfl (by decide) (fun K hK => ?_)
  go_simp
  refine hK.out _ _ ?_; clear hK K; (try simp only [Act.put, List.setIfInBounds_toArray, List.set_cons_zero, List.set_cons_succ])
  have hy1 := (HAA.out _ K1.out).1
  have hyf : w1.frozen? ⟨hb, 1, none⟩ = false := (HM0.out.blk.keep K1.out (fun hh => (HM0.out.apart.a2 hb (by simp)).1 hh)).frozen 1
  have HM2 := Lib.hid (HM0.out.atoms_ K1.out (by rw [← strE_flat]; exact HO.out) HNw.out HN1.out)
  refine wpTh_tail rfl (by decide) (fun K hK => ?_)
  go_simp
  refine hK.out _ _ ?_; clear hK K; (try simp only [Act.put, List.setIfInBounds_toArray, List.set_cons_zero, List.set_cons_succ])
  refine wpTh_last rfl (by decide) (fun K hK => ?_)
  go_simp
  refine hK.out _ _ (NoPanic.normal ?_)
  clear hK K
  change Exit.then _ _ _ _ (w1.setCell ⟨hb, 1, none⟩ (.slice A' (numL H.atoms s').length c'))
  have HK2 := Lib.hid ((HK0.out.to_ (hb :: ownL (.slice AA 0 0))).trans ((K1.out.more (T := hb :: ownL (.slice AA 0 0)) fun b _ hb' => List.mem_cons_of_mem _ hb').setCell (p := ⟨hb, 1, none⟩) (.inl (by simp)) (.slice A' (numL H.atoms s').length c')))
  generalize w1.setCell ⟨hb, 1, none⟩ (.slice A' (numL H.atoms s').length c') = w2 at HM2 HK2 ⊢
  clear hy1 hyf
  go_wp2_with fail
  refine (HMk.out _).mono ?_
  rintro e w3 ⟨rfl, rfl⟩
  go_wp2_with fail
  go_ret2
  refine ⟨rfl, _, ⟨ag, ah, vb, A', FA, TA, MA, c', nt, ct, nm, cm, cf, rfl, HM2.out⟩, ⟨HK2.out.more fun b _ hb' => ?_, fun b hb' => ?_⟩⟩
  · unfold hpL
    simp only [List.mem_append, List.mem_cons, List.not_mem_nil, or_false] at hb' ⊢
    rcases hb' with rfl | hb'
    · simp
    · exact .inr (.inl hb')
  · unfold hpL at hb' ⊢
    simp only [List.mem_append, List.mem_cons, List.not_mem_nil, or_false] at hb' ⊢
    rcases hb' with hb' | hb' | hb'
    · exact .inl (.inl hb')
    · rcases HNw.out b hb' with h1 | h1
      · exact .inl (.inr (.inl h1))
      · right
        have := HK0.out.size
        exact Nat.le_trans this h1
    · exact .inl (.inr (.inr hb'))
theorem lays_app : ∀ (H : PH) (l m : List Tm), lays H (l ++ m) = ((lays (lays H l).1 m).1, (lays H l).2 ++ (lays (lays H l).1 m).2)
  | H, [], m => by rw [List.nil_append]; simp only [lays]; rfl
  | H, a :: l, m => by rw [List.cons_append, lays, lays_app _ l m, lays]; rfl
/-- Part of the way. -/
theorem lays_take {H : PH} (v : VB H) {l : List Tm} (j : Nat) : H.le (lays H (l.take j)).1 ∧ VB (lays H (l.take j)).1 ∧ (lays H (l.take j)).1.le (lays H l).1 := by
  obtain ⟨h1, h2⟩ := laysB_ok (l.take j) (fun a _ H v => layB_ok a H v) H v
  obtain ⟨h3, _⟩ := laysB_ok (l.drop j) (fun a _ H v => layB_ok a H v) _ h2
  refine ⟨h1, h2, ?_⟩
  have h4 := lays_app H (l.take j) (l.drop j)
  rw [List.take_append_drop] at h4
  rw [h4]
  exact h3
theorem el_cells : ElemT Tryd.prog 56 28 1 := elemT_of (b := 8) (z := .int .u64 0) Tryd.underlying56 (by kernel_rfl) (by omega) rfl (by omega)
def CallLay (base hb : Nat) (tr : List Int) (mk : List (Int × Int)) (room : Nat) (a : Tm) : Prop :=
  ∀ (v : TV) (w : World) (L : List Nat) (H : PH), Hp w base hb L H tr mk room → VB H → Tr w (fun b => b ∉ L) a v → FitR room (lay H a).1 → Calls Tryd.prog 40 #[(.pointer (some ⟨hb, 0, none⟩)), .agg #[.int .i64 v.k, .int .i64 v.n, .string v.s, .slice v.A v.len v.c]] w (LayR w base hb L (lay H a) tr mk room)
end Go.Proofs.YtnonfmaehfmigaaDoor

/- A node is laid: the program's lay where the term has parts. Printed by gen_hplay.py. -/
namespace Go.Proofs.YtnonfmaehfmigaaDoor
open Go.RowKit Go.Maps
theorem lay_cell {room : Nat} (hr : room ≤ 65536) (H : PH) (v : VB H) (t : Tm) (hf : FitR room (lay H t).1) : 0 ≤ (lay H t).2 ∧ (lay H t).2 < 18446744073709551616 ∧ right (lay H t).2 = true := by
  have key : ∃ (n : Nat) (k : Int), n ≤ 1000000 ∧ 0 ≤ k ∧ k ≤ 4 ∧ (lay H t).2 = (n : Int) * 8 + k := by
    obtain ⟨k, n, s, l⟩ := t
    by_cases h0 : k = 0
    · rw [lay, if_pos h0] at hf ⊢
      cases hvn : H.vars n with
      | some p =>
        obtain ⟨q, rfl, hq⟩ := v.at_ n p hvn
        have hql := hq
        have e : layV H n = (H, (q : Int) * 8) := by unfold layV; rw [hvn]
        rw [e] at hf ⊢
        have h5 : H.cells.length ≤ room := hf.1
        exact ⟨q, 0, by omega, by omega, by omega, by simp⟩
      | none =>
        have e : layV H n = ({ H with cells := H.cells ++ [(H.cells.length : Int) * 8], vars := putV H.vars n H.cells.length }, (H.cells.length : Int) * 8) := by unfold layV; rw [hvn]
        rw [e] at hf ⊢
        have h1 := hf.1
        simp at h1
        exact ⟨H.cells.length, 0, by omega, by omega, by omega, by simp⟩
    · by_cases h1 : k = 1
      · rw [lay, if_neg h0, if_pos h1] at hf ⊢
        have h2 := hf.2.1
        have h3 := numI_lt H.atoms s
        simp only at h2
        exact ⟨numI H.atoms s, 2, by omega, by omega, by omega, rfl⟩
      · rw [lay, if_neg h0, if_neg h1] at hf ⊢
        simp only at hf ⊢
        by_cases h2 : k = 2
        · rw [if_pos h2] at hf ⊢
          have h3 := hf.1
          simp at h3
          exact ⟨(lays H l).1.cells.length, 1, by omega, by omega, by omega, rfl⟩
        · rw [if_neg h2] at hf ⊢
          have h3 := hf.1
          simp at h3
          exact ⟨(lays H l).1.cells.length, 3, by omega, by omega, by omega, rfl⟩
  obtain ⟨n, k, h1, h2, h3, h4⟩ := key
  rw [h4]
  exact ⟨by omega, by omega, (right_iff _).2 ⟨by omega, by omega⟩⟩
theorem lays_cell {room : Nat} (hr : room ≤ 65536) : ∀ (l : List Tm), (∀ a ∈ l, tRight a = true) → ∀ (H : PH), VB H → FitR room (lays H l).1 → ∀ c ∈ (lays H l).2, 0 ≤ c ∧ c < 18446744073709551616 ∧ right c = true
  | [], _, H, _, _, c, hc => by rw [lays] at hc; simp at hc
  | a :: l, hR, H, v, hf, c, hc => by
    obtain ⟨h1, h2⟩ := layB_ok a H v
    have hl : ∀ b ∈ l, tRight b = true := fun b hb => hR b (by simp [hb])
    obtain ⟨g1, _⟩ := laysB_ok l (fun a _ H v => layB_ok a H v) _ h2
    rw [lays] at hf hc
    rcases List.mem_cons.1 hc with rfl | hc
    · exact lay_cell hr H v a (hf.le g1)
    · exact lays_cell hr l hl _ h2 hf c hc
theorem right_two {n : Int} {s : ByteArray} {l : List Tm} (h : tRight (.mk 2 n s l) = true) : 1 ≤ l.length := by
  rw [tRight, Bool.and_eq_true, if_neg (by decide), if_neg (by decide), if_pos rfl] at h
  simp only [Bool.and_eq_true, decide_eq_true_eq] at h
  exact h.2.1.2
/-- What stands while the parts are laid. -/
structure LayS (w wr : World) (base hb : Nat) (L L1 : List Nat) (H1 : PH) (cs : List Int) (tr : List Int) (mk : List (Int × Int)) (room : Nat) (A : Option Addr) (j c : Nat) (tb : Nat) (tcs : Array Value) : Prop where
  hp : Hp wr base hb L1 H1 tr mk room
  st : HSt w L wr L1
  own : wr.ownsRow w.heap.size 28 1 (.slice A j c) j (cs.map (Value.int .u64))
  out : ∀ b ∈ ownL (.slice A 0 0), b ∉ L1
  blk : Blk wr tb 34 tcs
  tout : tb ∉ L1 ∧ tb ∉ ownL (.slice A 0 0)
section
variable {w wr : World} {base hb : Nat} {L L1 : List Nat} {H1 : PH} {cs : List Int} {tr : List Int} {mk : List (Int × Int)} {room : Nat} {A : Option Addr} {j c : Nat} {tb : Nat} {tcs : Array Value}
theorem LayS.keep0 (h : LayS w wr base hb L L1 H1 cs tr mk room A j c tb tcs) {W : World} (k : Keeps wr W []) : LayS w W base hb L L1 H1 cs tr mk room A j c tb tcs :=
  ⟨h.hp.keep k (by simp), h.st.keep0 k, own_keep0 h.own k, h.out, h.blk.keep k (by simp), h.tout⟩
/-- A part is laid. -/
theorem LayS.laid (h : LayS w wr base hb L L1 H1 cs tr mk room A j c tb tcs) {W : World} {L2 : List Nat} {H2 : PH} (hp : Hp W base hb L2 H2 tr mk room) (st : HSt wr L1 W L2) : LayS w W base hb L L2 H2 cs tr mk room A j c tb tcs := by
  have hlt : ∀ b ∈ ownL (.slice A 0 0), b < wr.heap.size := fun b hb' => by rw [← ownL_slice A j c] at hb'; exact (own_lt h.own hb').2
  refine ⟨hp, h.st.trans st, own_keepL h.own st.keep (fun b hb' hm => h.out b (by rw [← ownL_slice A j c]; exact hm) hb'), fun b hb' => st.out (hlt b hb') (h.out b hb'), h.blk.keep st.keep h.tout.1, st.out h.blk.lt h.tout.1, h.tout.2⟩
/-- .. and its cell comes behind. -/
theorem LayS.push (h0 : LayS w wr base hb L L1 H1 cs tr mk room A j c tb tcs) {W W2 : World} (kk : Keeps wr W []) {x : Int} {A' : Option Addr} {c' : Nat} (hown : W2.ownsRow w.heap.size 28 1 (.slice A' (j + 1) c') (j + 1) (cs.map (Value.int .u64) ++ [.int .u64 x])) (hg : W.grownBy W2 (Value.slice A j c).ownBlock)
    (hat : (Value.slice A' (j + 1) c').ownBlock = (Value.slice A j c).ownBlock ∨ (Value.slice A' (j + 1) c').ownBlock = some W.heap.size) : LayS w W2 base hb L L1 H1 (cs ++ [x]) tr mk room A' (j + 1) c' tb tcs := by
  have h := h0.keep0 kk
  have kg : Keeps W W2 (ownL (.slice A 0 0)) := by rw [← ownL_slice A j c]; exact Keeps.ofGrown hg
  have hsz := h.st.keep.size
  have hA : ∀ b ∈ ownL (.slice A' 0 0), b ∈ ownL (.slice A 0 0) ∨ b = W.heap.size := fun b hb' => by
    rw [← ownL_slice A' (j + 1) c'] at hb'
    rw [← ownL_slice A j c]
    unfold ownL at hb' ⊢
    simp only [Option.mem_toList] at hb' ⊢
    rcases hat with h1 | h1
    · left; rw [← h1]; exact hb'
    · right; rw [h1] at hb'; simpa using hb'.symm
  have hlt := h.hp.lt
  refine ⟨h.hp.keep kg (fun b hb' => h.out b hb'), ⟨⟨kg.os.trans h.st.keep.os, kg.tape.trans h.st.keep.tape, kg.output.trans h.st.keep.output, Nat.le_trans h.st.keep.size kg.size, fun i hi hn => (kg.block i (Nat.lt_of_lt_of_le hi hsz) (fun hm => ?_)).trans (h.st.keep.block i hi hn)⟩, h.st.own⟩, by rw [List.map_append]; exact hown, fun b hb' hm => ?_, h.blk.keep kg h.tout.2, h.tout.1, fun hm => ?_⟩
  · rw [← ownL_slice A j c] at hm
    have := (own_lt h.own hm).1
    omega
  · rcases hA b hb' with h1 | h1
    · exact h.out b h1 hm
    · have := hlt b hm; omega
  · rcases hA tb hm with h1 | h1
    · exact h.tout.2 h1
    · have := h.blk.lt; omega
end
set_option maxRecDepth 100000 in
set_option maxHeartbeats 6400000 in
/-- A node. -/
theorem layN_any (base hb : Nat) (tr : List Int) (mk : List (Int × Int)) (room : Nat) (k n : Int) (s : ByteArray) (l : List Tm) (h0 : k ≠ 0) (h1 : k ≠ 1) (v : TV) (w : World) (L : List Nat) (H : PH) (hH : Hp w base hb L H tr mk room) (hv : VB H) (ht : Tr w (fun b => b ∉ L) (.mk k n s l) v) (hr : tRight (.mk k n s l) = true) (hf : FitR room (lay H (.mk k n s l)).1)
    (hC : ∀ a ∈ l, CallLay base hb tr mk room a) : Calls Tryd.prog 40 #[(.pointer (some ⟨hb, 0, none⟩)), tvV v] w (LayR w base hb L (lay H (.mk k n s l)) tr mk room) := by
  have hlt := hH.lt
  cases ht with
  | mk _ _ _ _ A c vs hl hR hS hc hz hk =>
  have h8 := right_len hr
  have hrp := right_parts hr
  obtain ⟨m, hm⟩ : ∃ m, l.length = m := ⟨_, rfl⟩
  have hK0 : Keeps w (w.alloc (.cells #[.int .i64 k, .int .i64 n, .string s, .slice A m c] 34)) [] := (Keeps.refl w []).alloc _
  have hB0 : Blk (w.alloc (.cells #[.int .i64 k, .int .i64 n, .string s, .slice A m c] 34)) w.heap.size 34 #[.int .i64 k, .int .i64 n, .string s, .slice A m c] := Blk.new _ _ _
  have htb : w.heap.size ∉ L := fun hm => by have := hlt _ hm; omega
  have HLS : Hid (LayS (w.alloc (.cells #[.int .i64 k, .int .i64 n, .string s, .slice A m c] 34)) (w.alloc (.cells #[.int .i64 k, .int .i64 n, .string s, .slice A m c] 34)) base hb L L H [] tr mk room none 0 0 w.heap.size #[.int .i64 k, .int .i64 n, .string s, .slice A m c]) :=
    ⟨hH.keep hK0 (by simp), HSt.refl _ _, World.ownsRow_nil _ _ _ _, (fun b hb' => by simp [ownL, Value.ownBlock] at hb'), hB0, htb, by simp [ownL, Value.ownBlock]⟩
  have HT : Hid (Trs (w.alloc (.cells #[.int .i64 k, .int .i64 n, .string s, .slice A m c] 34)) (fun b => b ∉ L) l vs) := Trs.keep ⟨hl, hk⟩ hK0
  have HR : Hid (Rd (w.alloc (.cells #[.int .i64 k, .int .i64 n, .string s, .slice A m c] 34)) A (vs.flatMap tvE)) := hR.keep hK0
  have HS0 := Lib.hid hS
  have HM := Lib.hid hm
  have HV := Lib.hid hv
  have HRp := Lib.hid hrp
  have HF := Lib.hid hf
  have HCl := Lib.hid hC
  have HRt := Lib.hid hr
  have HKw := Lib.hid hK0
  have hLe : Hid ((lays H l).1.le (lay H (.mk k n s l)).1) := by
    show PH.le _ _
    rw [lay, if_neg h0, if_neg h1]
    simp only
    split
    · exact ⟨List.prefix_append _ _, List.prefix_refl _, numL_pre _ _, fun _ _ h => h⟩
    · exact ⟨List.prefix_append _ _, List.prefix_refl _, List.prefix_refl _, fun _ _ h => h⟩
  have e0 : (k == 0) = false := by simpa using h0
  have e1 : (k == 1) = false := by simpa using h1
  have hm8 : m ≤ 8 := by omega
  clear hH hv hl hR hS hc hz hk hr hf hC hlt hB0 hrp h8
  unfold tvV
  simp only [hm]
  clear hm
  go_enter Tryd.func40, Tryd.ntmps40
  go_upto_region 8 with fail
  (try simp only [])
  obtain ⟨w0, hw0⟩ : ∃ w0, (w.alloc (.cells #[.int .i64 k, .int .i64 n, .string s, .slice A m c] 34)) = w0 := ⟨_, rfl⟩
  rw [hw0] at HLS HT HR HKw hK0 ⊢
  clear hw0
  have x3 := HLS.out.blk.cell 3
  go_wp2_with fail
  clear x3
  go_loopw [7, 48] (fun x7 x48 wr => ∃ (j : Nat) (A2 : Option Addr) (c2 : Nat) (L1 : List Nat), j ≤ m ∧ x48 = .int .i64 j ∧ x7 = .slice A2 j c2 ∧ LayS w0 wr base hb L L1 (lays H (l.take j)).1 (lays H (l.take j)).2 tr mk room A2 j c2 w.heap.size #[.int .i64 k, .int .i64 n, .string s, .slice A m c]) (fun _ i _ => m - (intOf i).toNat)
  case atStart => exact ⟨0, none, 0, L, Nat.zero_le _, rfl, rfl, by rw [List.take_zero, lays]; exact HLS.out⟩
  case round =>
    clear HLS
    obtain ⟨j, A2, c2, L1, hj, rfl, rfl, hls⟩ := hrel
    have HLS := Lib.hid hls
    clear hls
    by_cases hlt : j < m
    · obtain ⟨a, hx⟩ := at_of HM.out hlt
      obtain ⟨v', bb, off, _, htr, rfl, hbb, p0, p1, p2, p3⟩ := HT.out.get HR.out hx
      have HX := Lib.hid hx
      have HA := Lib.hid (List.mem_of_getElem? hx)
      have hnb : bb ∉ L := HS0.out bb off rfl (fun e => by rw [e] at hx; simp at hx)
      replace p0 := (HLS.out.st.keep.cell (p := ⟨bb, off + j * 4, none⟩) hbb hnb).trans p0
      replace p1 := (HLS.out.st.keep.cell (p := ⟨bb, off + j * 4 + 1, none⟩) hbb hnb).trans p1
      replace p2 := (HLS.out.st.keep.cell (p := ⟨bb, off + j * 4 + 2, none⟩) hbb hnb).trans p2
      replace p3 := (HLS.out.st.keep.cell (p := ⟨bb, off + j * 4 + 3, none⟩) hbb hnb).trans p3
      have htj := lays_take (l := l) HV.out j
      have hsn : lays H (l.take (j + 1)) = ((lay (lays H (l.take j)).1 a).1, (lays H (l.take j)).2 ++ [(lay (lays H (l.take j)).1 a).2]) := by
        rw [show l.take (j + 1) = l.take j ++ [a] by rw [List.take_add_one, hx]; rfl]
        exact lays_snoc H (l.take j) a
      have hfit : FitR room (lay (lays H (l.take j)).1 a).1 := by
        have h5 := (lays_take (l := l) HV.out (j + 1)).2.2
        rw [hsn] at h5
        exact (HF.out.le hLe.out).le h5
      have HSn := Lib.hid hsn
      have HTr : Hid (Tr wr (fun b => b ∉ L1) a v') := HLS.out.st.tree htr
      have HCc : Hid (∀ W, Keeps wr W [] → Calls Tryd.prog 40 #[(.pointer (some ⟨hb, 0, none⟩)), .agg #[.int .i64 v'.k, .int .i64 v'.n, .string v'.s, .slice v'.A v'.len v'.c]] W (LayR W base hb L1 (lay (lays H (l.take j)).1 a) tr mk room)) := fun W kk => HCl.out a HA.out v' W L1 (lays H (l.take j)).1 (HLS.out.keep0 kk).hp htj.2.1 (HTr.out.keep kk) hfit
      have b0 : (0 : Int) ≤ (j : Int) := Int.natCast_nonneg _
      have b1 : (j : Int) < (m : Int) := by omega
      clear hx htr hnb htj hsn hfit hbb
      go_upto_region 12 with fail
      have ka : Keeps wr (wr.alloc (.cells #[.int .i64 v'.k, .int .i64 v'.n, .string v'.s, .slice v'.A v'.len v'.c] 34)) [] := (Keeps.refl wr []).alloc _
      have hb4 : Blk (wr.alloc (.cells #[.int .i64 v'.k, .int .i64 v'.n, .string v'.s, .slice v'.A v'.len v'.c] 34)) wr.heap.size 34 #[.int .i64 v'.k, .int .i64 v'.n, .string v'.s, .slice v'.A v'.len v'.c] := Blk.new _ _ _
      generalize (wr.alloc (.cells #[.int .i64 v'.k, .int .i64 v'.n, .string v'.s, .slice v'.A v'.len v'.c] 34)) = wa at ka hb4 ⊢
      have HKa := Lib.hid ka
      have q0 := hb4.cell 0
      have q1 := hb4.cell 1
      have q2 := hb4.cell 2
      have q3 := hb4.cell 3
      clear ka hb4 p0 p1 p2 p3
      go_wp2_with fail
      refine (HCc.out _ HKa.out).mono ?_
      rintro e w3 ⟨rfl, L2, hp2, st2⟩
      have HL3 := Lib.hid ((HLS.out.keep0 HKa.out).laid hp2 st2)
      clear hp2 st2 q0 q1 q2 q3 HCc HTr
      generalize lay (lays H (l.take j)).1 a = r at *
      go_wp2_with (at_builtin; have K5 := (Keeps.refl w3 []).alloc (.cells #[.int .u64 r.2] 28); have hz5 := K5.size; have hz6 := HL3.out.st.keep.size; refine wpList_app _ el_cells rfl (.tmp 60) (.tmp 62) rfl w0.heap.size A2 j c2 ((lays H (l.take j)).2.map (Value.int .u64)) rfl (own_keep0 HL3.out.own K5) (some ⟨w3.heap.size, 0, none⟩) 1 1 [.int .u64 r.2] rfl (Rd.one w3 _ [.int .u64 r.2]) rfl (by simp) (by simp [Value.oneCell']) (by omega) (by omega) ?_; intro A' c' w4 hown hgrow hat; have HN := Lib.hid (HL3.out.push K5 hown hgrow hat); clear hown hgrow hat K5 hz5 hz6)
      go_roundw
      case rel => exact ⟨j + 1, A', c', L2, by omega, by go_num, rfl, by rw [HSn.out]; exact HN.out⟩
      case measure => simp [intOf]; omega
    · obtain rfl : m = j := by omega
      have htk : l.take m = l := List.take_of_length_le (by rw [HM.out]; exact Nat.le_refl _)
      rw [htk] at HLS
      obtain ⟨ag, ah, vb, AA, FA, TA, MA, ca, nt, ct, nm, cm, cf, rfl, hm⟩ := HLS.out.hp
      have HHm := Lib.hid hm
      have hb0 := hm.blk.cell 0
      have HTop := Lib.hid (fun W (kk : Keeps wr W []) => atop_any (hm.keep0 kk).ar)
      have x0 := HLS.out.blk.cell 0
      clear hm
      go_wp2_with fail
      refine (HTop.out _ (Keeps.refl _ _)).mono ?_
      rintro e w1 ⟨rfl, rfl⟩
      by_cases hk2 : k = 2
      · subst hk2
        have e2 : ((2 : Int) == 2) = true := rfl
        have HEq : Hid (lay H (.mk 2 n s l) = ({ (lays H l).1 with funs := numL (lays H l).1.funs (s, (m : Int)), cells := (lays H l).1.cells ++ ((numI (lays H l).1.funs (s, (m : Int)) : Int) * 8 + 4) :: (lays H l).2 }, ((lays H l).1.cells.length : Int) * 8 + 1)) := by
          show _ = _
          rw [lay, if_neg h0, if_neg h1]
          simp only [↓reduceIte]
          rw [HM.out]
        have hfu : (numL (lays H l).1.funs (s, (m : Int))).length ≤ 1000000 := by have h5 := HF.out.2.2; rw [HEq.out] at h5; exact h5
        have hfi := numI_lt (lays H l).1.funs (s, (m : Int))
        have HFu := Lib.hid hfu
        have HMf4 := Lib.hid (fun W => make_yes 4 (numI (lays H l).1.funs (s, (m : Int)) : Int) W ⟨by omega, by omega, by omega, by omega⟩)
        have hsub : ∀ b ∈ ownL (.slice FA 0 0), b ∈ hpL hb ag ah vb AA FA TA MA := fun b hb' => by unfold hpL; simp [hb']
        have hAA : ∀ W', Keeps wr W' (ownL (.slice FA 0 0)) → (W'.cell? ⟨hb, 2, none⟩ = some (.slice FA (lays H l).1.funs.length cf) ∧ W'.cell? ⟨w.heap.size, 2, none⟩ = some (.string s) ∧ W'.cell? ⟨w.heap.size, 3, none⟩ = some (.slice A m c)) := fun W' kk =>
          have kb := HLS.out.blk.keep kk (fun hh => HLS.out.tout.1 (hsub _ hh))
          ⟨(HHm.out.blk.keep kk (fun hh => (HHm.out.apart.a2 hb (by simp)).2.1 hh)).cell 2, kb.cell 2, kb.cell 3⟩
        have HAA := Lib.hid hAA
        clear hfu hfi hsub hAA hb0
        go_upto_region 20 with fail
        clear x0
        refine wp_region_th (fun W' => W'.cell? ⟨hb, 2, none⟩ = some (.slice FA (lays H l).1.funs.length cf) ∧ W'.cell? ⟨w.heap.size, 2, none⟩ = some (.string s) ∧ W'.cell? ⟨w.heap.size, 3, none⟩ = some (.slice A m c)) 16 [15] [(0, true), (1, true), (2, true), (3, true), (4, true), (5, true), (6, true), (7, true), (8, true), (9, true), (10, true), (11, true), (12, false), (13, true), (14, true), (15, true), (16, false), (17, false), (18, false), (19, false), (20, false)] (by kernel_rfl) (by kernel_rfl) (HAA.out _ (Keeps.refl _ _).drew) (fun hHeld => ?_)
        (repeat (first | (refine wpTh_take (v := ?_) rfl (by rfl) (by assumption) ?_ (by rfl) ?_; rotate_left; (focus (intro w' hSw; (try dsimp only at hSw); go_simp; (try with_reducible rfl); done)); simp only [Act.put, List.setIfInBounds_toArray, List.set_cons_zero, List.set_cons_succ]) | (refine wpTh_pure (v := ?_) rfl (by rfl) (by assumption) ?_ (by rfl) ?_; rotate_left; (focus (intro w'; go_simp; (try with_reducible rfl); done)); simp only [Act.put, List.setIfInBounds_toArray, List.set_cons_zero, List.set_cons_succ])))
        refine wpTh_go rfl (fun K hK => ?_)
        go_simp
        refine (numberF_any (s, (m : Int)) (lays H l).1.funs FA cf base wr.drew HHm.out.funs.drew HHm.out.few.2 (by have h5 := HHm.out.low.1; have h6 := HHm.out.blk.lt; show base ≤ wr.heap.size; omega)).mono ?_
        rintro e w1 ⟨A', c', rfl, ho, k1, hn1⟩
        have HO := Lib.hid ho
        have K1 := Lib.hid ((Keeps.refl wr (ownL (.slice FA 0 0))).drew.trans k1)
        have HNw := Lib.hid hn1
        clear ho k1 hn1
        refine hK.out _ _ ?_ ?_
        · exact HAA.out _ K1.out
        (clear hHeld; intro hHeld; clear hK K; (try simp only [Act.put, List.setIfInBounds_toArray, List.set_cons_zero, List.set_cons_succ]))
        (repeat (first | (refine wpTh_take (v := ?_) rfl (by rfl) (by assumption) ?_ (by rfl) ?_; rotate_left; (focus (intro w' hSw; (try dsimp only at hSw); go_simp; (try with_reducible rfl); done)); simp only [Act.put, List.setIfInBounds_toArray, List.set_cons_zero, List.set_cons_succ]) | (refine wpTh_pure (v := ?_) rfl (by rfl) (by assumption) ?_ (by rfl) ?_; rotate_left; (focus (intro w'; go_simp; (try with_reducible rfl); done)); simp only [Act.put, List.setIfInBounds_toArray, List.set_cons_zero, List.set_cons_succ])))
        refine wpTh_tail rfl (by decide) (fun K hK => ?_)
        go_simp
        refine hK.out _ _ ?_; clear hK K; (try simp only [Act.put, List.setIfInBounds_toArray, List.set_cons_zero, List.set_cons_succ])
        refine wpTh_tail rfl (by decide) (fun K hK => ?_)
        go_simp
        refine hK.out _ _ ?_; clear hK K; (try simp only [Act.put, List.setIfInBounds_toArray, List.set_cons_zero, List.set_cons_succ])
        refine wpTh_tail rfl (by decide) (fun K hK => ?_)
        go_simp
        refine hK.out _ _ ?_; clear hK K; (try simp only [Act.put, List.setIfInBounds_toArray, List.set_cons_zero, List.set_cons_succ])
        have hy1 := (HAA.out _ K1.out).1
        have hyf : w1.frozen? ⟨hb, 2, none⟩ = false := (HHm.out.blk.keep K1.out (fun hh => (HHm.out.apart.a2 hb (by simp)).2.1 hh)).frozen 2
        have HM2 := Lib.hid (HHm.out.funs_ K1.out HO.out HNw.out HFu.out)
        refine wpTh_tail rfl (by decide) (fun K hK => ?_)
        go_simp
        refine hK.out _ _ ?_; clear hK K; (try simp only [Act.put, List.setIfInBounds_toArray, List.set_cons_zero, List.set_cons_succ])
        refine wpTh_last rfl (by decide) (fun K hK => ?_)
        go_simp
        refine hK.out _ _ (NoPanic.normal ?_)
        clear hK K
        change Exit.then _ _ _ _ (w1.setCell ⟨hb, 2, none⟩ (.slice A' (numL (lays H l).1.funs (s, (m : Int))).length c'))
        have HK2 := Lib.hid ((K1.out.more (T := hb :: ownL (.slice FA 0 0)) fun b _ hb' => List.mem_cons_of_mem _ hb').setCell (p := ⟨hb, 2, none⟩) (.inl (by simp)) (.slice A' (numL (lays H l).1.funs (s, (m : Int))).length c'))
        generalize w1.setCell ⟨hb, 2, none⟩ (.slice A' (numL (lays H l).1.funs (s, (m : Int))).length c') = w2 at HM2 HK2 ⊢
        clear hy1 hyf hHeld
        go_wp2_with fail
        refine (HMf4.out _).mono ?_
        rintro e w3 ⟨rfl, rfl⟩
        go_wp2_with fail
        have K5 : Keeps w2 (w2.alloc (.cells #[.int .u64 ((numI (lays H l).1.funs (s, (m : Int)) : Int) * 8 + 4)] 28)) [] := (Keeps.refl w2 []).alloc _
        have hm1 : 0 < m := by have h5 := right_two HRt.out; rw [HM.out] at h5; omega
        have hsub : ∀ b ∈ hb :: ownL (.slice FA 0 0), b ∈ hpL hb ag ah vb AA FA TA MA := fun b hb' => by
          unfold hpL
          rcases List.mem_cons.1 hb' with rfl | h5
          · simp
          · simp [h5]
        have hro : w2.ownsRow w0.heap.size 28 1 (.slice A2 m c2) m ((lays H l).2.map (Value.int .u64)) := own_keepL HLS.out.own HK2.out (fun b hb' hm' => HLS.out.out b (by rw [← ownL_slice A2 m c2]; exact hm') (hsub b hb'))
        refine (insC_any (lays H l).2 A2 m c2 w0.heap.size _ _ (own_keep0 hro K5) hm1 (by omega) w2.heap.size 1 (Blk.new _ _ _) (fun hm' => by have := (own_lt hro hm').2; omega)).mono ?_
        rintro e w9 ⟨A9, c9, rfl, hr9, k9, g9, hA9, hg9⟩
        have hz5 := K5.size
        have hlt9 := HLS.out.hp.lt
        have hz2 := HK2.out.size
        have hkA : Keeps wr w9 ((hb :: ownL (.slice FA 0 0)) ++ ownL (.slice A2 m c2)) := (keep3 HK2.out (fun b hb' => List.mem_append_left _ hb')).trans ((K5.to_ _).trans (keep3 k9 (fun b hb' => List.mem_append_right _ hb')))
        have hagah : ∀ b ∈ [ag, ah], b ∈ hpL hb ag ah vb AA FA TA MA ∧ b ∉ ownL (.slice FA 0 0) := fun b hb' => ⟨by unfold hpL; simp only [List.mem_cons, List.not_mem_nil, or_false] at hb'; rcases hb' with rfl | rfl <;> simp, by simp only [List.mem_cons, List.not_mem_nil, or_false] at hb'; rcases hb' with rfl | rfl <;> exact (HHm.out.apart.a2 _ (by simp)).2.1⟩
        have hF9 := HF.out
        rw [HEq.out] at hF9
        have hln := lays_len H l
        rw [HM.out] at hln
        have hc5 := hF9.1
        simp only [List.length_append, List.length_cons] at hc5
        have hmost := HHm.out.ar.most
        have hKw9 := HKw.out.size
        have hSw : HSt w L wr (hpL hb ag ah vb AA FA TA MA) := HSt.trans ⟨HKw.out.to_ _, fun _ h => .inl h⟩ HLS.out.st
        have hout9 : ∀ b, b ∈ ownL (.slice A2 m c2) → b ∉ hpL hb ag ah vb AA FA TA MA := fun b hb' => HLS.out.out b (by rw [← ownL_slice A2 m c2]; exact hb')
        have hkS := hkA.more (T := hpL hb ag ah vb AA FA TA MA ++ ownL (.slice A2 m c2)) (fun b _ hb' => by
          rcases List.mem_append.1 hb' with h5 | h5
          · exact List.mem_append_left _ (hsub b h5)
          · exact List.mem_append_right _ h5)
        have hkW : Keeps w w9 L := (((keep3 hSw.keep (fun b hb' => List.mem_append_left _ hb')).trans (keep3 hkS (M := L ++ (hpL hb ag ah vb AA FA TA MA ++ ownL (.slice A2 m c2))) (fun b hb' => List.mem_append_right _ hb')))).more (fun b hbl hb' => by
          rcases List.mem_append.1 hb' with h5 | h5
          · exact h5
          · rcases List.mem_append.1 h5 with h6 | h6
            · rcases hSw.own b h6 with h7 | h7
              · exact h7
              · omega
            · have := (own_lt hro h6).1
              omega)
        have hA5 : ∀ b ∈ hpL hb ag ah vb AA A' TA MA, b ∈ hpL hb ag ah vb AA FA TA MA ∨ wr.heap.size ≤ b := fun b hb' => by
          unfold hpL at hb' ⊢
          simp only [List.mem_append, List.mem_cons, List.not_mem_nil, or_false] at hb' ⊢
          rcases hb' with hb' | hb' | hb' | hb' | hb'
          · exact .inl (.inl hb')
          · exact .inl (.inr (.inl hb'))
          · rcases HNw.out b hb' with h1 | h1
            · exact .inl (.inr (.inr (.inl h1)))
            · exact .inr h1
          · exact .inl (.inr (.inr (.inr (.inl hb'))))
          · exact .inl (.inr (.inr (.inr (.inr hb'))))
        have HM9 : Hid (Hm w9 base hb ag ah vb AA A' TA MA ca nt ct nm cm c' { (lays H l).1 with funs := numL (lays H l).1.funs (s, (m : Int)) } tr mk room) := (HM2.out.keep0 K5).keep k9 (fun b hb' hm' => by
          rcases hA5 b hm' with h5 | h5
          · exact hout9 b hb' h5
          · have := (own_lt HLS.out.own hb').2
            omega)
        have HR9 : Hid (Rd w9 A9 ((((numI (lays H l).1.funs (s, (m : Int)) : Int) * 8 + 4) :: (lays H l).2).map (Value.int .u64))) := hr9
        have HN9 : Hid ((((numI (lays H l).1.funs (s, (m : Int)) : Int) * 8 + 4) :: (lays H l).2).length = m + 1) := by show _ = _; rw [List.length_cons, hln]
        have HA9 : Hid (∀ b off, A9 = some ⟨b, off, none⟩ → b ∉ [ag, ah]) := fun b off e hm' => by
          rw [hA9] at e
          injection e with e
          injection e with e _ _
          subst e
          rcases hg9 with h5 | h5
          · exact hout9 g9 h5 (hagah g9 hm').1
          · have := hlt9 g9 (hagah g9 hm').1
            omega
        have HC9 : Hid (∀ x ∈ (((numI (lays H l).1.funs (s, (m : Int)) : Int) * 8 + 4) :: (lays H l).2), 0 ≤ x ∧ x < 18446744073709551616 ∧ right x = true) := fun x hx => by
          have h6 := HFu.out
          have h7 := numI_lt (lays H l).1.funs (s, (m : Int))
          rcases List.mem_cons.1 hx with rfl | hx
          · exact ⟨by omega, by omega, (right_iff _).2 ⟨by omega, by omega⟩⟩
          · exact lays_cell hmost l HRp.out H HV.out (HF.out.le hLe.out) x hx
        have HF9 : Hid ((lays H l).1.cells.length + (m + 1) ≤ room) := by show _ ≤ _; omega
        have HS9 : Hid (HSt w L w9 (hpL hb ag ah vb AA A' TA MA)) := ⟨hkW, fun b hb' => by
          have h5 := hA5 b hb'
          rcases h5 with h5 | h5
          · exact hSw.own b h5
          · exact .inr (Nat.le_trans hSw.keep.size h5)⟩
        have HMk9 := Lib.hid (fun W => make_yes 1 ((lays H l).1.cells.length : Int) W ⟨by omega, by omega, by omega, by omega⟩)
        generalize (((numI (lays H l).1.funs (s, (m : Int)) : Int) * 8 + 4) :: (lays H l).2) = cs9 at HR9 HN9 HC9 HEq ⊢
        clear hF9 hln hc5 hmost hA5 hkA hagah hro K5 hsub hz5 hlt9 hz2 hm1 hr9 hA9 hg9 k9 hout9
        clear HLS HT HR HS0 HCl HRp HKw HTop HHm hK0
        go_wp2_with fail
        go_loopw [99] (fun x99 wr => ∃ j : Nat, j ≤ m + 1 ∧ x99 = .int .i64 j ∧ Hm wr base hb ag ah vb AA A' TA MA ca nt ct nm cm c' { (lays H l).1 with funs := numL (lays H l).1.funs (s, (m : Int)), cells := (lays H l).1.cells ++ cs9.take j } tr mk room ∧ Keeps w9 wr [ag, ah]) (fun i _ => m + 1 - (intOf i).toNat)
        case atStart => exact ⟨0, Nat.zero_le _, rfl, by simpa using HM9.out, Keeps.refl _ _⟩
        case round =>
          obtain ⟨j, hj, rfl, hmj, hkj⟩ := hrel
          have HMj := Lib.hid hmj
          have HKj := Lib.hid hkj
          clear hmj hkj
          by_cases hlt : j < m + 1
          · obtain ⟨x, hx⟩ := at_of HN9.out hlt
            obtain ⟨b, off, xv, rfl, hbl, p0, hv⟩ := HR9.out j (by simp; rw [HN9.out]; exact hlt)
            obtain rfl : xv = .int .u64 x := by simpa [hx] using hv.symm
            replace p0 := (HKj.out.cell (p := ⟨b, off + j, none⟩) hbl (HA9.out b off rfl)).trans p0
            have hxr := HC9.out x (List.mem_of_getElem? hx)
            have HPu := Lib.hid (fun W (kk : Keeps wr W []) => hpush_any (HMj.out.keep0 kk) x hxr.1 hxr.2.1 hxr.2.2 (by have h5 := HF9.out; simp; rw [HN9.out]; omega))
            have HX := Lib.hid hx
            have b0 : (0 : Int) ≤ (j : Int) := Int.natCast_nonneg _
            have b1 : (j : Int) < ((m + 1 : Nat) : Int) := by omega
            clear hx hv hbl hxr
            go_wp2_with fail
            refine (HPu.out _ (Keeps.refl _ _)).mono ?_
            rintro e w5 ⟨rfl, hm5, k5⟩
            have HM5 := Lib.hid hm5
            have HK5 := Lib.hid k5
            clear hm5 k5 p0 HPu
            go_wp2_with fail
            go_roundw
            case rel => exact ⟨j + 1, by omega, by go_num, by rw [List.take_add_one, HX.out, ← List.append_assoc]; exact HM5.out, HKj.out.trans HK5.out⟩
            case measure => simp [intOf]; omega
          · obtain hmj1 : j = m + 1 := by omega
            subst hmj1
            clear hlt hj
            go_wp2_with fail
            refine (HMk9.out _).mono ?_
            rintro e w6 ⟨rfl, rfl⟩
            go_wp2_with fail
            go_ret2
            rw [HEq.out]
            have hm6 := HMj.out
            rw [List.take_of_length_le (by rw [HN9.out]; exact Nat.le_refl _)] at hm6
            exact ⟨rfl, _, ⟨ag, ah, vb, AA, A', TA, MA, ca, nt, ct, nm, cm, c', rfl, hm6⟩, HS9.out.trans (HSt.of HKj.out (fun b hb' => by unfold hpL; simp only [List.mem_cons, List.not_mem_nil, or_false] at hb'; rcases hb' with rfl | rfl <;> simp))⟩
      · have e2 : (k == 2) = false := by simpa using hk2
        obtain ⟨w9, rfl⟩ : ∃ w9, w9 = wr := ⟨wr, rfl⟩
        have HEq : Hid (lay H (.mk k n s l) = ({ (lays H l).1 with cells := (lays H l).1.cells ++ (lays H l).2 }, ((lays H l).1.cells.length : Int) * 8 + 3)) := by
          show _ = _
          rw [lay, if_neg h0, if_neg h1]
          simp only
          rw [if_neg hk2]
        have hF9 := HF.out
        rw [HEq.out] at hF9
        have hln := lays_len H l
        rw [HM.out] at hln
        have hc5 := hF9.1
        simp only [List.length_append] at hc5
        have hmost := HHm.out.ar.most
        have HM9 := Lib.hid HHm.out
        have HR9 : Hid (Rd w9 A2 ((lays H l).2.map (Value.int .u64))) := Rd.of_own HLS.out.own
        have HN9 := Lib.hid hln
        have HA9 : Hid (∀ b off, A2 = some ⟨b, off, none⟩ → b ∉ [ag, ah]) := fun b off e hm' => HLS.out.out b (by rw [e]; simp [ownL, Value.ownBlock]) (by unfold hpL; simp only [List.mem_cons, List.not_mem_nil, or_false] at hm'; rcases hm' with rfl | rfl <;> simp)
        have HC9 : Hid (∀ x ∈ (lays H l).2, 0 ≤ x ∧ x < 18446744073709551616 ∧ right x = true) := lays_cell hmost l HRp.out H HV.out (HF.out.le hLe.out)
        have HF9 : Hid ((lays H l).1.cells.length + m ≤ room) := by show _ ≤ _; omega
        have HS9 : Hid (HSt w L w9 (hpL hb ag ah vb AA FA TA MA)) := (HSt.trans ⟨HKw.out.to_ _, fun _ h => .inl h⟩ HLS.out.st)
        have HMk9 := Lib.hid (fun W => make_yes 3 ((lays H l).1.cells.length : Int) W ⟨by omega, by omega, by omega, by omega⟩)
        clear hF9 hln hc5 hmost hb0
        go_upto_region 22 with fail
        clear x0
        clear HLS HT HR HS0 HCl HRp HKw HTop HHm hK0
        go_wp2_with fail
        go_loopw [99] (fun x99 wr => ∃ j : Nat, j ≤ m ∧ x99 = .int .i64 j ∧ Hm wr base hb ag ah vb AA FA TA MA ca nt ct nm cm cf { (lays H l).1 with cells := (lays H l).1.cells ++ (lays H l).2.take j } tr mk room ∧ Keeps w9 wr [ag, ah]) (fun i _ => m - (intOf i).toNat)
        case atStart => exact ⟨0, Nat.zero_le _, rfl, by simpa using HM9.out, Keeps.refl _ _⟩
        case round =>
          obtain ⟨j, hj, rfl, hmj, hkj⟩ := hrel
          have HMj := Lib.hid hmj
          have HKj := Lib.hid hkj
          clear hmj hkj
          by_cases hlt : j < m
          · obtain ⟨x, hx⟩ := at_of HN9.out hlt
            obtain ⟨b, off, xv, rfl, hbl, p0, hv⟩ := HR9.out j (by simp; rw [HN9.out]; exact hlt)
            obtain rfl : xv = .int .u64 x := by simpa [hx] using hv.symm
            replace p0 := (HKj.out.cell (p := ⟨b, off + j, none⟩) hbl (HA9.out b off rfl)).trans p0
            have hxr := HC9.out x (List.mem_of_getElem? hx)
            have HPu := Lib.hid (fun W (kk : Keeps wr W []) => hpush_any (HMj.out.keep0 kk) x hxr.1 hxr.2.1 hxr.2.2 (by have h5 := HF9.out; simp; rw [HN9.out]; omega))
            have HX := Lib.hid hx
            have b0 : (0 : Int) ≤ (j : Int) := Int.natCast_nonneg _
            have b1 : (j : Int) < (m : Int) := by omega
            clear hx hv hbl hxr
            go_wp2_with fail
            refine (HPu.out _ (Keeps.refl _ _)).mono ?_
            rintro e w5 ⟨rfl, hm5, k5⟩
            have HM5 := Lib.hid hm5
            have HK5 := Lib.hid k5
            clear hm5 k5 p0 HPu
            go_wp2_with fail
            go_roundw
            case rel => exact ⟨j + 1, by omega, by go_num, by rw [List.take_add_one, HX.out, ← List.append_assoc]; exact HM5.out, HKj.out.trans HK5.out⟩
            case measure => simp [intOf]; omega
          · obtain rfl : m = j := by omega
            clear hlt hj
            go_wp2_with fail
            refine (HMk9.out _).mono ?_
            rintro e w6 ⟨rfl, rfl⟩
            go_wp2_with fail
            go_ret2
            rw [HEq.out]
            have hm6 := HMj.out
            rw [List.take_of_length_le (by rw [HN9.out]; exact Nat.le_refl _)] at hm6
            exact ⟨rfl, _, ⟨ag, ah, vb, AA, FA, TA, MA, ca, nt, ct, nm, cm, cf, rfl, hm6⟩, HS9.out.trans (HSt.of HKj.out (fun b hb' => by unfold hpL; simp only [List.mem_cons, List.not_mem_nil, or_false] at hb'; rcases hb' with rfl | rfl <;> simp))⟩
/-- The program's lay: whatever the term. -/
theorem lay_any (base hb : Nat) (tr : List Int) (mk : List (Int × Int)) (room : Nat) (t : Tm) : tRight t = true → CallLay base hb tr mk room t := by
  induction t using Tm.ind_ with
  | h k n s l ih =>
    intro hr v w L H hH hv ht hf
    by_cases h0 : k = 0
    · subst h0
      exact layV_any base hb tr mk room n s l v w L H hH hv ht hr hf
    · by_cases h1 : k = 1
      · subst h1
        exact layC_any base hb tr mk room n s l v w L H hH ht hf
      · exact layN_any base hb tr mk room k n s l h0 h1 v w L H hH hv ht hr hf (fun a ha => ih a ha (right_parts hr a ha))
end Go.Proofs.YtnonfmaehfmigaaDoor

/- maps.Clone at maps of numbers to numbers: the shelf's contract, laid, and in VM's words. -/
namespace Go.Proofs
open Go.Shelf
def Tryd.cloneInt_ren : Go.Shelf.Ren := ⟨fun | 5 => 39 | 7 => 71 | n => n, fun | 23 => 82 | 25 => 3 | n => n, fun | n => n⟩
theorem Tryd.cloneInt : Go.Proofs.SlLaysW.n5 Tryd.prog Tryd.cloneInt_ren := {
  mixed := by kernel_rfl
  f5 := ⟨Tryd.f39.name, by decide, Tryd.func39.trans (congrArg some (by kernel_rfl))⟩
  f7 := Tryd.func71.trans (congrArg some (by kernel_rfl))
  t4 := Tryd.underlying4
  a4 := Tryd.isAgg4
  z4 := Tryd.sizeOf4
  v4 := Tryd.zeroValue4
  t20 := Tryd.underlying20
  a20 := Tryd.isAgg20
  z20 := Tryd.sizeOf20
  v20 := Tryd.zeroValue20
  t23 := Tryd.underlying82
  a23 := Tryd.isAgg82
  z23 := Tryd.sizeOf82
  v23 := Tryd.zeroValue82 }
end Go.Proofs
namespace Go.Proofs.YtnonfmaehfmigaaDoor
open Go.RowKit Go.Maps
/-- The program's maps.Clone. -/
theorem vclone_any {w : World} {b n : Nat} {f : Int → Option Int} (h : VM w b n f) :
    Calls Tryd.prog 39 #[.map (some b)] w fun e w' => e = .returned (.map (some w.heap.size)) ∧ VM w' w.heap.size n f ∧ Keeps w w' [] ∧ w.heap.size < w'.heap.size := by
  obtain ⟨D, h1, h2⟩ := h
  refine (AnyW.maps_Clone_owns Tryd.cloneInt 3 (plainElem Tryd.prog 3) b n D w h1).mono ?_
  rintro e w' ⟨rfl, g1, _, hB⟩
  exact ⟨rfl, ⟨D, g1, h2⟩, Keeps.of_below hB [], g1.lt⟩
theorem vclone_nil (w : World) : Calls Tryd.prog 39 #[.map none] w fun e w' => e = .returned (.map none) ∧ w' = w := AnyW.maps_Clone_nil Tryd.cloneInt w
end Go.Proofs.YtnonfmaehfmigaaDoor
