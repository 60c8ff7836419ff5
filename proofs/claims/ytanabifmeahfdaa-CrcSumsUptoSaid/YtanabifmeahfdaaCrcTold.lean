/- The walk of resolventlaw07.told: the sum of 123456789 is told. -/
import Derived.Test.YtanabifmeahfdaaCrcWalks
import Derived.Lib.SlBytesConst
namespace Go.Proofs.Ytanabifmeahfdaa
open Go.RowKit

theorem told_sum : Crc.int ([[49, 50, 51, 52], [53, 54, 55, 56, 57]].foldl Crc.go 0#32) = 3421780262 := by decide +kernel
theorem told_none : Crc.int (([] : List (List Int)).foldl Crc.go 0#32) = 0 := by decide +kernel

set_option maxHeartbeats 400000 in
theorem crcTold_any (w : World) : Calls Try.prog 8 #[] w fun e w' => e = .returned (.bool true) ∧ Below w.heap.size w w' := by
  have k1 := fun (C : Array Value) (n c : Nat) => Lib.run_convert_bytes_const (P := Try.prog) w 23 5 C n c Try.underlying23 Try.underlying5
  have k2 : ∀ (o : Obj) (C : Array Value) (n c : Nat), (convert 23 23 (.slice (some ⟨w.heap.size + 1, 0, none⟩) n c)).run Try.prog ((w.alloc o).alloc (.cells C 5)) =
      .ok (.slice (some ⟨w.heap.size + 1, 0, none⟩) n c) ((w.alloc o).alloc (.cells C 5 (C.size, C.size + 1))) := fun o C n c => by
    simpa using Lib.run_convert_bytes_const (P := Try.prog) (w.alloc o) 23 5 C n c Try.underlying23 Try.underlying5
  go_enter Try.func8, Try.ntmps8
  go_wp2_with fail
  refine (crcSum_any _ 2 _ [[49, 50, 51, 52], [53, 54, 55, 56, 57]] (w.heap.size + 3) _ rfl (by omega) ?_).mono ?_
  · have n1 := ((Nums.lit (K := .u8) w 5 (4, 5) [49, 50, 51, 52] rfl).alloc (by simp) (.cells #[.int .u8 53, .int .u8 54, .int .u8 55, .int .u8 56, .int .u8 57] 5 (5, 6)))
    have n2 := (Nums.lit (K := .u8) (w.alloc (.cells #[.int .u8 49, .int .u8 50, .int .u8 51, .int .u8 52] 5 (4, 5))) 5 (5, 6) [53, 54, 55, 56, 57] rfl)
    simp only [World.size_alloc] at n2
    intro k hk
    match k, hk with
    | 0, _ => exact ⟨w.heap.size + 2, 0, _, 4, [49, 50, 51, 52], rfl, by omega, by simp [go_sem], rfl, (n1.alloc (by simp) _).more (by omega), by unfold IsByte; decide, by decide⟩
    | 1, _ => exact ⟨w.heap.size + 2, 0, _, 5, [53, 54, 55, 56, 57], rfl, by omega, by simp [go_sem], rfl, (n2.alloc (by simp) _).more (by omega), by unfold IsByte; decide, by decide⟩
  rintro e w' ⟨rfl, rfl⟩
  rw [told_sum]
  go_wp2_with fail
  refine (crcSum_any none 0 0 [] 0 _ rfl (by omega) (fun k hk => absurd hk (by simp))).mono ?_
  rintro e w' ⟨rfl, rfl⟩
  rw [told_none]
  go_wp2_with fail
  go_ret
  exact ⟨rfl, by go_grown⟩
end Go.Proofs.Ytanabifmeahfdaa
