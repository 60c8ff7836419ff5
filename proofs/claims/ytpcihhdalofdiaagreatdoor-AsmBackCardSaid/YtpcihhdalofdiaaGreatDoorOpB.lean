/- Layer 6: Name, Operands (a copy of the row's), the document's Operands. -/
import Derived.Test.YtpcihhdalofdiaaGreatDoorOpA
namespace Go.Proofs.YtpcihhdalofdiaaGreatDoor
open Go.RowKit

theorem kinds_few (op : Int) : (kindsOf op).length ≤ 4 := by
  unfold kindsOf
  split
  · rename_i h
    obtain ⟨k, rfl⟩ := Int.eq_ofNat_of_zero_le h.1
    have hk : k < 27 := by omega
    have : ∀ k, k < 27 → (opList k).length ≤ 4 := by decide
    exact this k hk
  · simp
attribute [local irreducible] nameOf kindsOf opName opList
theorem row_field0 (s : ByteArray) (A : Option Addr) (n c : Nat) (w : World) : (Instr.field 140 (.agg #[.string s, .slice A n c]) 0).run Tryz.prog w = .ok (.string s) w := by kernel_rfl
theorem row_field1 (s : ByteArray) (A : Option Addr) (n c : Nat) (w : World) : (Instr.field 140 (.agg #[.string s, .slice A n c]) 1).run Tryz.prog w = .ok (.slice A n c) w := by kernel_rfl
def Named6 (w : World) (op : Int) (e : Ending) (w' : World) : Prop := e = .returned (.string (nameOf op)) ∧ Keeps w w' []
set_option maxRecDepth 20000 in
set_option maxHeartbeats 400000 in
theorem name6_any (op : Int) (w : World) : Calls Tryz.prog 60 #[.int .i64 op] w (Named6 w op) := by
  go_enter Tryz.func60, Tryz.ntmps60
  go_wp2_with fail
  refine (rowOf_any op _).mono ?_
  rintro e w1 ⟨kk, A, rfl, hN⟩
  have q0 := row_field0 (nameOf op) A (kindsOf op).length (kindsOf op).length
  have q1 := row_field1 (nameOf op) A (kindsOf op).length (kindsOf op).length
  go_wp2_with fail
  go_ret
  exact ⟨rfl, kk⟩

/-- An instruction's operands' kinds, read somewhere. -/
def Kinds (w : World) (op : Int) (e : Ending) (w' : World) : Prop :=
  ∃ A c, e = .returned (.slice A (kindsOf op).length c) ∧ Nums .i64 w' w'.heap.size A (kindsOf op) ∧ Keeps w w' []

theorem info_int : (Tryz.prog.info? 3).map (fun i => (i.zero, i.size, i.bytes)) = some (some (.int .i64 0), 1, 8) := by kernel_rfl
set_option maxRecDepth 20000 in
set_option maxHeartbeats 400000 in
theorem cloneInts_any (A : Option Addr) (n c : Nat) (l : List Int) (w : World) (hl : l.length = n) (hn : n ≤ 65536) (hA : Nums .i64 w w.heap.size A l) :
    Calls Tryz.prog 94 #[.slice A n c] w fun e w' => ∃ A' c', e = .returned (.slice A' n c') ∧ Nums .i64 w' w'.heap.size A' l ∧ Keeps w w' [] := by
  cases A with
  | none =>
    have h0 : l = [] := by
      cases l with
      | nil => rfl
      | cons x t =>
        obtain ⟨b, off, v, e, _⟩ := hA 0 (by simp)
        cases e
    subst h0
    simp only [List.length_nil] at hl
    subst hl
    clear hA hn
    go_enter Tryz.func94, Tryz.ntmps94
    have hne := Lib.run_eql_slice_nil (P := Tryz.prog)
    go_wp2_with fail
    go_ret
    exact ⟨none, 0, rfl, Nums.nil, Keeps.refl _ _⟩
  | some A =>
  obtain ⟨i0, hi, hz0, hz1, hz2⟩ := info_parts info_int
  have HL := Lib.hid hl
  have HA := Lib.hid hA
  have hne := Lib.run_eql_slice_nil (P := Tryz.prog)
  clear hl hA
  go_enter Tryz.func94, Tryz.ntmps94
  go_wp2_with (at_builtin; refine wpList_append_row _ rfl (.tmp 5) (.tmp 6) _ rfl w.heap.size 3 i0 _ 1 8 Tryz.underlying93 hi hz0 hz1 hz2 rfl (by omega) (some ⟨w.heap.size, 0, none⟩) 0 0 [] rfl (World.ownsRow_made _ #[] 0 (Nat.le_refl _) (Nat.zero_le _) rfl) w.heap.size (some A) n c (l.map (Value.int .i64)) rfl (HA.out.alloc (Nat.le_refl _) _).toRow (by rw [List.length_map, HL.out, Nat.mul_one]) (fun hh => by cases hh) (oneCell_ints _ _) (by simp only [maxLen]; omega) (by omega) (by simp) ?_; intro A' c' w1 hown hgrow hat)
  go_ret
  refine ⟨A', c', by simp, ?_, ((Keeps.refl w []).alloc _).grown hgrow (fun k hk => .inr (by simp [Value.ownBlock] at hk; omega))⟩
  have := (Row.of_own (by simpa using hown)).toNums (l := l) (K := .i64)
  exact this
set_option maxRecDepth 20000 in
set_option maxHeartbeats 400000 in
theorem kinds_any (op : Int) (w : World) : Calls Tryz.prog 62 #[.int .i64 op] w (Kinds w op) := by
  have hf := kinds_few op
  go_enter Tryz.func62, Tryz.ntmps62
  go_wp2_with fail
  refine (rowOf_any op _).mono ?_
  rintro e w1 ⟨kk, A, rfl, hN⟩
  have q0 := row_field0 (nameOf op) A (kindsOf op).length (kindsOf op).length
  have q1 := row_field1 (nameOf op) A (kindsOf op).length (kindsOf op).length
  have HN := Lib.hid hN
  clear hN
  go_wp2_with fail
  refine (cloneInts_any A _ _ _ _ rfl (by omega) HN.out).mono ?_
  rintro e w2 ⟨A', c', rfl, hN2, k2⟩
  go_wp2_with fail
  go_ret
  exact ⟨A', c', rfl, hN2, kk.trans k2⟩
end Go.Proofs.YtpcihhdalofdiaaGreatDoor
