/- Two arrays of four ints, compared. Over any program. -/
import Derived.Test.YtpcihhdalofdiaaGreatDoorBase
import Derived.Laws.StructEq
import Derived.ChangeKeysEq
namespace Go.Proofs.YtpcihhdalofdiaaGreatDoor
open Go.RowKit

theorem eq_arr4 {P : Program} (w : World) (d : Nat) (t e : TypeId) (i : TypeInfo) (a0 a1 a2 a3 b0 b1 b2 b3 : Int) (ht : P.underlying t = some (.array 4 e)) (he : P.underlying e = some (.int .i64)) (hi : P.info? e = some i) (hs : P.cellsOf e = 1) (hp : P.plainKey e = true) :
    (Op.equalIn (d + 2) t (.agg #[.int .i64 a0, .int .i64 a1, .int .i64 a2, .int .i64 a3]) (.agg #[.int .i64 b0, .int .i64 b1, .int .i64 b2, .int .i64 b3])).run P w = .ok ((a0 == b0) && ((a1 == b1) && ((a2 == b2) && (a3 == b3)))) w := by
  rw [run_equalIn_array w (d + 1) _ _ ht hi, hs]
  have hr : List.range 4 = [0, 1, 2, 3] := rfl
  have x0 : ∀ b0 b1 b2 b3 : Int, (part e #[.int .i64 b0, .int .i64 b1, .int .i64 b2, .int .i64 b3] 0).run P w = .ok (.int .i64 b0) w := fun _ _ _ _ => run_part_plain w hp rfl
  have x1 : ∀ b0 b1 b2 b3 : Int, (part e #[.int .i64 b0, .int .i64 b1, .int .i64 b2, .int .i64 b3] 1).run P w = .ok (.int .i64 b1) w := fun _ _ _ _ => run_part_plain w hp rfl
  have x2 : ∀ b0 b1 b2 b3 : Int, (part e #[.int .i64 b0, .int .i64 b1, .int .i64 b2, .int .i64 b3] 2).run P w = .ok (.int .i64 b2) w := fun _ _ _ _ => run_part_plain w hp rfl
  have x3 : ∀ b0 b1 b2 b3 : Int, (part e #[.int .i64 b0, .int .i64 b1, .int .i64 b2, .int .i64 b3] 3).run P w = .ok (.int .i64 b3) w := fun _ _ _ _ => run_part_plain w hp rfl
  have hq : ∀ a b : Int, (Op.equalIn (d + 1) e (.int .i64 a) (.int .i64 b)).run P w = .ok (a == b) w := fun a b => run_equalIn_int w d e .i64 .i64 a b he
  rw [hr]
  simp only [Op.eqItems, Nat.mul_one, Sem.run_bind, x0, hq, Result.andThen_ok]
  cases h0 : a0 == b0 <;> cases h1 : a1 == b1 <;> cases h2 : a2 == b2 <;> cases h3 : a3 == b3 <;> simp [x1, x2, x3, hq, h1, h2, h3]
theorem ins_arr_eq (w : World) (a0 a1 a2 a3 b0 b1 b2 b3 : Int) :
    (Op.equalIn 9999 70 (.agg #[.int .i64 a0, .int .i64 a1, .int .i64 a2, .int .i64 a3]) (.agg #[.int .i64 b0, .int .i64 b1, .int .i64 b2, .int .i64 b3])).run Tryz.prog w = .ok ((a0 == b0) && ((a1 == b1) && ((a2 == b2) && (a3 == b3)))) w := by
  obtain ⟨i, hi⟩ : ∃ i, Tryz.prog.info? 3 = some i := Option.isSome_iff_exists.1 (by kernel_rfl)
  exact eq_arr4 w 9997 _ 3 i _ _ _ _ _ _ _ _ Tryz.underlying70 Tryz.underlying3 hi (by kernel_rfl) (by kernel_rfl)
end Go.Proofs.YtpcihhdalofdiaaGreatDoor
