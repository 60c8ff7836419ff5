/- Layer 6: may an operand be? The program's and the document's. -/
import Derived.Test.YtpcihhdalofdiaaGreatDoorOpC
namespace Go.Proofs.YtpcihhdalofdiaaGreatDoor
open Go.RowKit

def mosts : List Int := [0, 31, 15, 255, 255, 8, 16, 63, 1023, 15]
def mostOf (k : Nat) : Int := mosts.getD k 0
def leastOf6 (k : Nat) : Int := if k = 5 then 1 else 0
def mayOk (op : Int) (k : Nat) (n : Int) : Bool := (decide (leastOf6 k ≤ n) && decide (n ≤ mostOf k)) || ((op == 26) && (n == 65535))

theorem mostOf_lit (k : Nat) (hk : k < 10) (w : World) (t : TypeId) : (w.alloc (.cells #[.int .i64 0, .int .i64 31, .int .i64 15, .int .i64 255, .int .i64 255, .int .i64 8, .int .i64 16, .int .i64 63, .int .i64 1023, .int .i64 15] t)).cell? ⟨w.heap.size, k, none⟩ = some (.int .i64 (mostOf k)) := by
  refine ((Blk.new w _ _).cell k).trans ?_
  match k, hk with
  | 0, _ => rfl
  | 1, _ => rfl
  | 2, _ => rfl
  | 3, _ => rfl
  | 4, _ => rfl
  | 5, _ => rfl
  | 6, _ => rfl
  | 7, _ => rfl
  | 8, _ => rfl
  | 9, _ => rfl
  | k + 10, h => exact absurd h (by omega)
theorem natInt (k m : Nat) : (k == m) = ((k : Int) == (m : Int)) := by
  by_cases h : k = m
  · subst h; simp
  · have h2 : ¬ (k : Int) = m := by omega
    rw [beq_eq_false_iff_ne.2 h, beq_eq_false_iff_ne.2 h2]
theorem and3 (a b c : Bool) : a = false ∨ (a = true ∧ b = false) ∨ (a = true ∧ b = true ∧ c = false) ∨ (a = true ∧ b = true ∧ c = true) := by cases a <;> cases b <;> cases c <;> simp
theorem and4 (a b c d : Bool) : a = false ∨ (a = true ∧ b = false) ∨ (a = true ∧ b = true ∧ c = false) ∨ (a = true ∧ b = true ∧ c = true ∧ d = false) ∨ (a = true ∧ b = true ∧ c = true ∧ d = true) := by cases a <;> cases b <;> cases c <;> cases d <;> simp
def MayTold (w : World) (b : Bool) (e : Ending) (w' : World) : Prop := e = .returned (.bool b) ∧ Keeps w w' []

set_option maxHeartbeats 1600000 in
theorem may_any (op : Int) (k : Nat) (n : Int) (hk : k < 10) (w : World) : Calls Tryz.prog 93 #[.int .i64 op, .int .i64 k, .int .i64 n] w (MayTold w (mayOk op k n)) := by
  have hc := mostOf_lit k hk w 174
  have hM : ∃ M, mostOf k = M := ⟨_, rfl⟩
  obtain ⟨M, hM⟩ := hM
  rw [hM] at hc
  obtain ⟨L, hL⟩ : ∃ L, leastOf6 k = L := ⟨_, rfl⟩
  have HS : Hid (mayOk op k n = ((decide (L ≤ n) && decide (n ≤ M)) || ((op == 26) && (n == 65535)))) := by show _ = _; rw [mayOk, hM, hL]
  have hL2 : ((k : Int) == 5) = true ∧ L = 1 ∨ ((k : Int) == 5) = false ∧ L = 0 := by
    by_cases h5 : k = 5
    · exact .inl ⟨by simp; omega, by rw [← hL, leastOf6, if_pos h5]⟩
    · exact .inr ⟨by simp; omega, by rw [← hL, leastOf6, if_neg h5]⟩
  clear hM hL
  rcases hL2 with ⟨h5, rfl⟩ | ⟨h5, rfl⟩
  · cases b3 : (op == 26) <;> cases b4 : (n == 65535) <;> cases b1 : decide ((1 : Int) ≤ n) <;> cases b2 : decide (n ≤ M) <;>
    (rw [b1, b2, b3, b4] at HS
     go_enter Tryz.func93, Tryz.ntmps93
     go_wp2_with fail
     go_ret
     exact ⟨by rw [HS.out]; rfl, ((Keeps.refl w []).alloc _)⟩)
  · cases b3 : (op == 26) <;> cases b4 : (n == 65535) <;> cases b1 : decide ((0 : Int) ≤ n) <;> cases b2 : decide (n ≤ M) <;>
    (rw [b1, b2, b3, b4] at HS
     go_enter Tryz.func93, Tryz.ntmps93
     go_wp2_with fail
     go_ret
     exact ⟨by rw [HS.out]; rfl, ((Keeps.refl w []).alloc _)⟩)

/-- The document says it so. -/
def mayRef (op : Int) (k : Nat) (n : Int) : Bool := ((k == 8) && (op == 26) && (n == 65535)) || (decide (0 ≤ n) && decide (n ≤ mostOf k) && !((k == 5) && (n == 0)))
set_option maxHeartbeats 1600000 in
theorem refMay_any (op : Int) (k : Nat) (n : Int) (hk : k < 10) (w : World) : Calls Tryz.prog 100 #[.int .i64 op, .int .i64 k, .int .i64 n] w (MayTold w (mayRef op k n)) := by
  have hc := mostOf_lit k hk w 3
  have hM : ∃ M, mostOf k = M := ⟨_, rfl⟩
  obtain ⟨M, hM⟩ := hM
  rw [hM] at hc
  have e1 : (k == 8) = ((k : Int) == 8) := natInt k 8
  have e2 : (k == 5) = ((k : Int) == 5) := natInt k 5
  have HS : Hid (mayRef op k n = ((((k : Int) == 8) && (op == 26) && (n == 65535)) || (decide (0 ≤ n) && decide (n ≤ M) && !(((k : Int) == 5) && (n == 0))))) := by show _ = _; rw [mayRef, hM, e1, e2]
  have d1 : decide ((k : Int) < 10) = true := by simp; omega
  clear hM e1 e2
  have HW : Hid (∀ b, ((((k : Int) == 8) && (op == 26) && (n == 65535)) || (decide (0 ≤ n) && decide (n ≤ M) && !(((k : Int) == 5) && (n == 0)))) = b → mayRef op k n = b) := fun b h => HS.out.trans h
  clear HS
  rcases and3 ((k : Int) == 8) (op == 26) (n == 65535) with b8 | ⟨b8, b3⟩ | ⟨b8, b3, b4⟩ | ⟨b8, b3, b4⟩
  iterate 3
    rcases and4 (decide ((0 : Int) ≤ n)) (decide (n ≤ M)) ((k : Int) == 5) (n == 0) with b1 | ⟨b1, b2⟩ | ⟨b1, b2, b5⟩ | ⟨b1, b2, b5, b6⟩ | ⟨b1, b2, b5, b6⟩
    iterate 5
      have HB : Hid (mayRef op k n = _) := HW.out _ (by simp only [*]; rfl)
      go_enter Tryz.func100, Tryz.ntmps100
      go_wp2_with fail
      go_ret
      exact ⟨by rw [HB.out]; rfl, (Keeps.refl w []).alloc _⟩
  have HB : Hid (mayRef op k n = true) := HW.out _ (by simp only [*]; rfl)
  go_enter Tryz.func100, Tryz.ntmps100
  go_wp2_with fail
  go_ret
  exact ⟨by rw [HB.out]; rfl, Keeps.refl w []⟩
end Go.Proofs.YtpcihhdalofdiaaGreatDoor
