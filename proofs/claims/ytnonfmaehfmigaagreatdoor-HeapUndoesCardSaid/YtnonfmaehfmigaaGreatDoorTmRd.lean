/- The program's reader: skip, want, while, number. -/
import Derived.Test.YtnonfmaehfmigaaGreatDoorTmText
import Derived.Test.YtnonfmaehfmigaaGreatDoorTmRight
import Derived.Lib.AtoiAll
namespace Go.Proofs.YtnonfmaehfmigaaGreatDoor
open Go.RowKit

theorem lt_cell6 {w : World} {a : Addr} {v : Value} (h : w.cell? a = some v) : a.block < w.heap.size := by
  unfold World.cell? at h
  cases hb : w.heap[a.block]? with
  | none => rw [hb] at h; simp at h
  | some o => exact (Array.getElem?_eq_some_iff.1 hb).1
theorem Keeps.past6 {a b c : World} {S T : List Nat} (h : Keeps a b S) (k : Keeps b c T) (hT : ∀ q, q ∈ T → q ∈ S ∨ a.heap.size ≤ q) : Keeps a c S :=
  ⟨k.os.trans h.os, k.tape.trans h.tape, k.output.trans h.output, Nat.le_trans h.size k.size, fun i hi hn => (k.block i (Nat.lt_of_lt_of_le hi h.size) (fun hm => by
    rcases hT i hm with h' | h'
    · exact hn h'
    · omega)).trans (h.block i hi hn)⟩
def insC6 (op : Int) (l : List Int) : Array Value := #[.int .i64 op, .int .i64 (l.getD 0 0), .int .i64 (l.getD 1 0), .int .i64 (l.getD 2 0), .int .i64 (l.getD 3 0)]
def atoiV : List UInt8 → Option Int := fun l => match Lib.atoiAll l with
  | .ok v => some v
  | _ => none
theorem dat_at (s : ByteArray) (j : Nat) (h : j < s.size) : s.data.toList[j]? = some s[j] := by
  rw [Array.getElem?_toList, Array.getElem?_eq_getElem h]
  rfl
theorem piece_is (s : ByteArray) (f i : Nat) : s.extract f i = stB ((s.data.toList.take i).drop f) := by
  have h : (s.extract f i).data.toList = (s.data.toList.take i).drop f := by rw [Lib.extract_data, List.drop_take]
  rw [← h, stB_of]

theorem tail_ext (s : ByteArray) : s.extract 1 s.size = stB s.data.toList.tail := by
  rw [piece_is, List.take_of_length_le (show s.data.toList.length ≤ s.size from Nat.le_refl _), List.drop_one]

theorem digC_any (c : UInt8) (w : World) : Calls Tryz.prog 81 #[.int .u8 (c.toNat : Int)] w fun e w' => e = .returned (.bool (isDig c)) ∧ w = w' := by
  have h := digit_any (c.toNat : Int) w
  rw [show isDigit (c.toNat : Int) = isDig c by simp only [isDigit, isDig]; congr 1 <;> (apply decide_eq_decide.2; omega)] at h
  exact h
theorem smC_any (c : UInt8) (w : World) : Calls Tryz.prog 78 #[.int .u8 (c.toNat : Int)] w fun e w' => e = .returned (.bool (isSm c)) ∧ w = w' := by
  have h := small_any (c.toNat : Int) w
  rw [show isSmall (c.toNat : Int) = isSm c by simp only [isSmall, isSm]; congr 1 <;> (apply decide_eq_decide.2; omega)] at h
  exact h
end Go.Proofs.YtnonfmaehfmigaaGreatDoor
