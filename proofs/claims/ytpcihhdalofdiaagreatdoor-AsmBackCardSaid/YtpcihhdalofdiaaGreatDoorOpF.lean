/- Layer 6: Operands, laid anew each time. -/
import Derived.Test.YtpcihhdalofdiaaGreatDoorOpB
namespace Go.Proofs.YtpcihhdalofdiaaGreatDoor
open Go.RowKit
attribute [local irreducible] nameOf kindsOf opName opList
def KindsF (w : World) (op : Int) (e : Ending) (w' : World) : Prop :=
  ∃ A c, e = .returned (.slice A (kindsOf op).length c) ∧ Nums .i64 w' w'.heap.size A (kindsOf op) ∧ Keeps w w' [] ∧ ∀ b off, A = some ⟨b, off, none⟩ → w.heap.size ≤ b

set_option maxRecDepth 20000 in
set_option maxHeartbeats 400000 in
theorem cloneIntsF_any (A : Option Addr) (n c : Nat) (l : List Int) (w : World) (hl : l.length = n) (hn : n ≤ 65536) (hA : Nums .i64 w w.heap.size A l) :
    Calls Tryz.prog 94 #[.slice A n c] w fun e w' => ∃ A' c', e = .returned (.slice A' n c') ∧ Nums .i64 w' w'.heap.size A' l ∧ Keeps w w' [] ∧ ∀ b off, A' = some ⟨b, off, none⟩ → w.heap.size ≤ b := by
  cases A with
  | none =>
    have h0 : l = [] := by
      cases l with
      | nil => rfl
      | cons x t =>
        obtain ⟨b, off, v, e, _⟩ := hA 0 (by simp)
        cases e
    subst h0
    simp only [List.length_nil] at hl
    subst hl
    clear hA hn
    go_enter Tryz.func94, Tryz.ntmps94
    have hne := Lib.run_eql_slice_nil (P := Tryz.prog)
    go_wp2_with fail
    go_ret
    exact ⟨none, 0, rfl, Nums.nil, Keeps.refl _ _, fun b off h => by cases h⟩
  | some A =>
  obtain ⟨i0, hi, hz0, hz1, hz2⟩ := info_parts info_int
  have HL := Lib.hid hl
  have HA := Lib.hid hA
  have hne := Lib.run_eql_slice_nil (P := Tryz.prog)
  clear hl hA
  go_enter Tryz.func94, Tryz.ntmps94
  go_wp2_with (at_builtin; refine wpList_append_row _ rfl (.tmp 5) (.tmp 6) _ rfl w.heap.size 3 i0 _ 1 8 Tryz.underlying93 hi hz0 hz1 hz2 rfl (by omega) (some ⟨w.heap.size, 0, none⟩) 0 0 [] rfl (World.ownsRow_made _ #[] 0 (Nat.le_refl _) (Nat.zero_le _) rfl) w.heap.size (some A) n c (l.map (Value.int .i64)) rfl (HA.out.alloc (Nat.le_refl _) _).toRow (by rw [List.length_map, HL.out, Nat.mul_one]) (fun hh => by cases hh) (oneCell_ints _ _) (by simp only [maxLen]; omega) (by omega) (by simp) ?_; intro A' c' w1 hown hgrow hat)
  go_ret
  refine ⟨A', c', by simp, ?_, ((Keeps.refl w []).alloc _).grown hgrow (fun k hk => .inr (by simp [Value.ownBlock] at hk; omega)), fun b off h => (hown.lt b (by rw [h]; rfl)).1⟩
  have := (Row.of_own (by simpa using hown)).toNums (l := l) (K := .i64)
  exact this
set_option maxRecDepth 20000 in
set_option maxHeartbeats 400000 in
theorem kindsF_any (op : Int) (w : World) : Calls Tryz.prog 62 #[.int .i64 op] w (KindsF w op) := by
  have hf := kinds_few op
  go_enter Tryz.func62, Tryz.ntmps62
  go_wp2_with fail
  refine (rowOf_any op _).mono ?_
  rintro e w1 ⟨kk, A, rfl, hN⟩
  have q0 := row_field0 (nameOf op) A (kindsOf op).length (kindsOf op).length
  have q1 := row_field1 (nameOf op) A (kindsOf op).length (kindsOf op).length
  have HN := Lib.hid hN
  clear hN
  go_wp2_with fail
  refine (cloneIntsF_any A _ _ _ _ rfl (by omega) HN.out).mono ?_
  rintro e w2 ⟨A', c', rfl, hN2, k2, hfr⟩
  go_wp2_with fail
  go_ret
  exact ⟨A', c', rfl, hN2, kk.trans k2, fun b off h => Nat.le_trans kk.size (hfr b off h)⟩
end Go.Proofs.YtpcihhdalofdiaaGreatDoor
