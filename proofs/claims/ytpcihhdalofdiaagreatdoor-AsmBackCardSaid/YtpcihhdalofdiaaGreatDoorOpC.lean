/- Layer 6: the document's Operands. Printed by gen_opc.py. -/
import Derived.Test.YtpcihhdalofdiaaGreatDoorOpB
namespace Go.Proofs.YtpcihhdalofdiaaGreatDoor
open Go.RowKit
theorem kinds_at (k : Nat) (hk : k < 27) {l : List Int} (h : opList k = l) : kindsOf (k : Int) = l := (kindsOf_of rfl hk).trans h

set_option maxHeartbeats 400000 in
theorem refKinds0 (w : World) : Calls Tryz.prog 40 #[.int .i64 0] w (Kinds w 0) := by
  have HK : Hid (kindsOf 0 = []) := kinds_at 0 (by omega) rfl
  go_enter Tryz.func40, Tryz.ntmps40
  go_wp2_with fail
  go_ret
  refine ⟨none, 0, by rw [HK.out]; rfl, ?_, Keeps.refl w []⟩
  rw [HK.out]
  exact Nums.nil
set_option maxHeartbeats 400000 in
theorem refKinds1 (w : World) : Calls Tryz.prog 40 #[.int .i64 1] w (Kinds w 1) := by
  have HK : Hid (kindsOf 1 = [1, 2]) := kinds_at 1 (by omega) rfl
  go_enter Tryz.func40, Tryz.ntmps40
  go_wp2_with fail
  go_ret
  refine ⟨some ⟨w.heap.size, 0, none⟩, 2, by rw [HK.out]; rfl, ?_, (Keeps.refl w []).alloc _⟩
  rw [HK.out]
  exact Nums.of_blk [1, 2] (Blk.new _ _ _) rfl
set_option maxHeartbeats 400000 in
theorem refKinds2 (w : World) : Calls Tryz.prog 40 #[.int .i64 2] w (Kinds w 2) := by
  have HK : Hid (kindsOf 2 = [1, 2]) := kinds_at 2 (by omega) rfl
  go_enter Tryz.func40, Tryz.ntmps40
  go_wp2_with fail
  go_ret
  refine ⟨some ⟨w.heap.size, 0, none⟩, 2, by rw [HK.out]; rfl, ?_, (Keeps.refl w []).alloc _⟩
  rw [HK.out]
  exact Nums.of_blk [1, 2] (Blk.new _ _ _) rfl
set_option maxHeartbeats 400000 in
theorem refKinds3 (w : World) : Calls Tryz.prog 40 #[.int .i64 3] w (Kinds w 3) := by
  have HK : Hid (kindsOf 3 = [3, 2]) := kinds_at 3 (by omega) rfl
  go_enter Tryz.func40, Tryz.ntmps40
  go_wp2_with fail
  go_ret
  refine ⟨some ⟨w.heap.size, 0, none⟩, 2, by rw [HK.out]; rfl, ?_, (Keeps.refl w []).alloc _⟩
  rw [HK.out]
  exact Nums.of_blk [3, 2] (Blk.new _ _ _) rfl
set_option maxHeartbeats 400000 in
theorem refKinds4 (w : World) : Calls Tryz.prog 40 #[.int .i64 4] w (Kinds w 4) := by
  have HK : Hid (kindsOf 4 = [4, 2]) := kinds_at 4 (by omega) rfl
  go_enter Tryz.func40, Tryz.ntmps40
  go_wp2_with fail
  go_ret
  refine ⟨some ⟨w.heap.size, 0, none⟩, 2, by rw [HK.out]; rfl, ?_, (Keeps.refl w []).alloc _⟩
  rw [HK.out]
  exact Nums.of_blk [4, 2] (Blk.new _ _ _) rfl
set_option maxHeartbeats 400000 in
theorem refKinds5 (w : World) : Calls Tryz.prog 40 #[.int .i64 5] w (Kinds w 5) := by
  have HK : Hid (kindsOf 5 = [2]) := kinds_at 5 (by omega) rfl
  go_enter Tryz.func40, Tryz.ntmps40
  go_wp2_with fail
  go_ret
  refine ⟨some ⟨w.heap.size, 0, none⟩, 1, by rw [HK.out]; rfl, ?_, (Keeps.refl w []).alloc _⟩
  rw [HK.out]
  exact Nums.of_blk [2] (Blk.new _ _ _) rfl
set_option maxHeartbeats 400000 in
theorem refKinds6 (w : World) : Calls Tryz.prog 40 #[.int .i64 6] w (Kinds w 6) := by
  have HK : Hid (kindsOf 6 = [1]) := kinds_at 6 (by omega) rfl
  go_enter Tryz.func40, Tryz.ntmps40
  go_wp2_with fail
  go_ret
  refine ⟨some ⟨w.heap.size, 0, none⟩, 1, by rw [HK.out]; rfl, ?_, (Keeps.refl w []).alloc _⟩
  rw [HK.out]
  exact Nums.of_blk [1] (Blk.new _ _ _) rfl
set_option maxHeartbeats 400000 in
theorem refKinds7 (w : World) : Calls Tryz.prog 40 #[.int .i64 7] w (Kinds w 7) := by
  have HK : Hid (kindsOf 7 = [1]) := kinds_at 7 (by omega) rfl
  go_enter Tryz.func40, Tryz.ntmps40
  go_wp2_with fail
  go_ret
  refine ⟨some ⟨w.heap.size, 0, none⟩, 1, by rw [HK.out]; rfl, ?_, (Keeps.refl w []).alloc _⟩
  rw [HK.out]
  exact Nums.of_blk [1] (Blk.new _ _ _) rfl
set_option maxHeartbeats 400000 in
theorem refKinds8 (w : World) : Calls Tryz.prog 40 #[.int .i64 8] w (Kinds w 8) := by
  have HK : Hid (kindsOf 8 = [3]) := kinds_at 8 (by omega) rfl
  go_enter Tryz.func40, Tryz.ntmps40
  go_wp2_with fail
  go_ret
  refine ⟨some ⟨w.heap.size, 0, none⟩, 1, by rw [HK.out]; rfl, ?_, (Keeps.refl w []).alloc _⟩
  rw [HK.out]
  exact Nums.of_blk [3] (Blk.new _ _ _) rfl
set_option maxHeartbeats 400000 in
theorem refKinds9 (w : World) : Calls Tryz.prog 40 #[.int .i64 9] w (Kinds w 9) := by
  have HK : Hid (kindsOf 9 = [5]) := kinds_at 9 (by omega) rfl
  go_enter Tryz.func40, Tryz.ntmps40
  go_wp2_with fail
  go_ret
  refine ⟨some ⟨w.heap.size, 0, none⟩, 1, by rw [HK.out]; rfl, ?_, (Keeps.refl w []).alloc _⟩
  rw [HK.out]
  exact Nums.of_blk [5] (Blk.new _ _ _) rfl
set_option maxHeartbeats 400000 in
theorem refKinds10 (w : World) : Calls Tryz.prog 40 #[.int .i64 10] w (Kinds w 10) := by
  have HK : Hid (kindsOf 10 = [1, 2]) := kinds_at 10 (by omega) rfl
  go_enter Tryz.func40, Tryz.ntmps40
  go_wp2_with fail
  go_ret
  refine ⟨some ⟨w.heap.size, 0, none⟩, 2, by rw [HK.out]; rfl, ?_, (Keeps.refl w []).alloc _⟩
  rw [HK.out]
  exact Nums.of_blk [1, 2] (Blk.new _ _ _) rfl
set_option maxHeartbeats 400000 in
theorem refKinds11 (w : World) : Calls Tryz.prog 40 #[.int .i64 11] w (Kinds w 11) := by
  have HK : Hid (kindsOf 11 = [1, 2]) := kinds_at 11 (by omega) rfl
  go_enter Tryz.func40, Tryz.ntmps40
  go_wp2_with fail
  go_ret
  refine ⟨some ⟨w.heap.size, 0, none⟩, 2, by rw [HK.out]; rfl, ?_, (Keeps.refl w []).alloc _⟩
  rw [HK.out]
  exact Nums.of_blk [1, 2] (Blk.new _ _ _) rfl
set_option maxHeartbeats 400000 in
theorem refKinds12 (w : World) : Calls Tryz.prog 40 #[.int .i64 12] w (Kinds w 12) := by
  have HK : Hid (kindsOf 12 = [3, 2]) := kinds_at 12 (by omega) rfl
  go_enter Tryz.func40, Tryz.ntmps40
  go_wp2_with fail
  go_ret
  refine ⟨some ⟨w.heap.size, 0, none⟩, 2, by rw [HK.out]; rfl, ?_, (Keeps.refl w []).alloc _⟩
  rw [HK.out]
  exact Nums.of_blk [3, 2] (Blk.new _ _ _) rfl
set_option maxHeartbeats 400000 in
theorem refKinds13 (w : World) : Calls Tryz.prog 40 #[.int .i64 13] w (Kinds w 13) := by
  have HK : Hid (kindsOf 13 = [4, 2]) := kinds_at 13 (by omega) rfl
  go_enter Tryz.func40, Tryz.ntmps40
  go_wp2_with fail
  go_ret
  refine ⟨some ⟨w.heap.size, 0, none⟩, 2, by rw [HK.out]; rfl, ?_, (Keeps.refl w []).alloc _⟩
  rw [HK.out]
  exact Nums.of_blk [4, 2] (Blk.new _ _ _) rfl
set_option maxHeartbeats 400000 in
theorem refKinds14 (w : World) : Calls Tryz.prog 40 #[.int .i64 14] w (Kinds w 14) := by
  have HK : Hid (kindsOf 14 = [2]) := kinds_at 14 (by omega) rfl
  go_enter Tryz.func40, Tryz.ntmps40
  go_wp2_with fail
  go_ret
  refine ⟨some ⟨w.heap.size, 0, none⟩, 1, by rw [HK.out]; rfl, ?_, (Keeps.refl w []).alloc _⟩
  rw [HK.out]
  exact Nums.of_blk [2] (Blk.new _ _ _) rfl
set_option maxHeartbeats 400000 in
theorem refKinds15 (w : World) : Calls Tryz.prog 40 #[.int .i64 15] w (Kinds w 15) := by
  have HK : Hid (kindsOf 15 = [6]) := kinds_at 15 (by omega) rfl
  go_enter Tryz.func40, Tryz.ntmps40
  go_wp2_with fail
  go_ret
  refine ⟨some ⟨w.heap.size, 0, none⟩, 1, by rw [HK.out]; rfl, ?_, (Keeps.refl w []).alloc _⟩
  rw [HK.out]
  exact Nums.of_blk [6] (Blk.new _ _ _) rfl
set_option maxHeartbeats 400000 in
theorem refKinds16 (w : World) : Calls Tryz.prog 40 #[.int .i64 16] w (Kinds w 16) := by
  have HK : Hid (kindsOf 16 = []) := kinds_at 16 (by omega) rfl
  go_enter Tryz.func40, Tryz.ntmps40
  go_wp2_with fail
  go_ret
  refine ⟨none, 0, by rw [HK.out]; rfl, ?_, Keeps.refl w []⟩
  rw [HK.out]
  exact Nums.nil
set_option maxHeartbeats 400000 in
theorem refKinds17 (w : World) : Calls Tryz.prog 40 #[.int .i64 17] w (Kinds w 17) := by
  have HK : Hid (kindsOf 17 = [7]) := kinds_at 17 (by omega) rfl
  go_enter Tryz.func40, Tryz.ntmps40
  go_wp2_with fail
  go_ret
  refine ⟨some ⟨w.heap.size, 0, none⟩, 1, by rw [HK.out]; rfl, ?_, (Keeps.refl w []).alloc _⟩
  rw [HK.out]
  exact Nums.of_blk [7] (Blk.new _ _ _) rfl
set_option maxHeartbeats 400000 in
theorem refKinds18 (w : World) : Calls Tryz.prog 40 #[.int .i64 18] w (Kinds w 18) := by
  have HK : Hid (kindsOf 18 = [7]) := kinds_at 18 (by omega) rfl
  go_enter Tryz.func40, Tryz.ntmps40
  go_wp2_with fail
  go_ret
  refine ⟨some ⟨w.heap.size, 0, none⟩, 1, by rw [HK.out]; rfl, ?_, (Keeps.refl w []).alloc _⟩
  rw [HK.out]
  exact Nums.of_blk [7] (Blk.new _ _ _) rfl
set_option maxHeartbeats 400000 in
theorem refKinds19 (w : World) : Calls Tryz.prog 40 #[.int .i64 19] w (Kinds w 19) := by
  have HK : Hid (kindsOf 19 = []) := kinds_at 19 (by omega) rfl
  go_enter Tryz.func40, Tryz.ntmps40
  go_wp2_with fail
  go_ret
  refine ⟨none, 0, by rw [HK.out]; rfl, ?_, Keeps.refl w []⟩
  rw [HK.out]
  exact Nums.nil
set_option maxHeartbeats 400000 in
theorem refKinds20 (w : World) : Calls Tryz.prog 40 #[.int .i64 20] w (Kinds w 20) := by
  have HK : Hid (kindsOf 20 = [8]) := kinds_at 20 (by omega) rfl
  go_enter Tryz.func40, Tryz.ntmps40
  go_wp2_with fail
  go_ret
  refine ⟨some ⟨w.heap.size, 0, none⟩, 1, by rw [HK.out]; rfl, ?_, (Keeps.refl w []).alloc _⟩
  rw [HK.out]
  exact Nums.of_blk [8] (Blk.new _ _ _) rfl
set_option maxHeartbeats 400000 in
theorem refKinds21 (w : World) : Calls Tryz.prog 40 #[.int .i64 21] w (Kinds w 21) := by
  have HK : Hid (kindsOf 21 = [8]) := kinds_at 21 (by omega) rfl
  go_enter Tryz.func40, Tryz.ntmps40
  go_wp2_with fail
  go_ret
  refine ⟨some ⟨w.heap.size, 0, none⟩, 1, by rw [HK.out]; rfl, ?_, (Keeps.refl w []).alloc _⟩
  rw [HK.out]
  exact Nums.of_blk [8] (Blk.new _ _ _) rfl
set_option maxHeartbeats 400000 in
theorem refKinds22 (w : World) : Calls Tryz.prog 40 #[.int .i64 22] w (Kinds w 22) := by
  have HK : Hid (kindsOf 22 = []) := kinds_at 22 (by omega) rfl
  go_enter Tryz.func40, Tryz.ntmps40
  go_wp2_with fail
  go_ret
  refine ⟨none, 0, by rw [HK.out]; rfl, ?_, Keeps.refl w []⟩
  rw [HK.out]
  exact Nums.nil
set_option maxHeartbeats 400000 in
theorem refKinds23 (w : World) : Calls Tryz.prog 40 #[.int .i64 23] w (Kinds w 23) := by
  have HK : Hid (kindsOf 23 = []) := kinds_at 23 (by omega) rfl
  go_enter Tryz.func40, Tryz.ntmps40
  go_wp2_with fail
  go_ret
  refine ⟨none, 0, by rw [HK.out]; rfl, ?_, Keeps.refl w []⟩
  rw [HK.out]
  exact Nums.nil
set_option maxHeartbeats 400000 in
theorem refKinds24 (w : World) : Calls Tryz.prog 40 #[.int .i64 24] w (Kinds w 24) := by
  have HK : Hid (kindsOf 24 = [9]) := kinds_at 24 (by omega) rfl
  go_enter Tryz.func40, Tryz.ntmps40
  go_wp2_with fail
  go_ret
  refine ⟨some ⟨w.heap.size, 0, none⟩, 1, by rw [HK.out]; rfl, ?_, (Keeps.refl w []).alloc _⟩
  rw [HK.out]
  exact Nums.of_blk [9] (Blk.new _ _ _) rfl
set_option maxHeartbeats 400000 in
theorem refKinds25 (w : World) : Calls Tryz.prog 40 #[.int .i64 25] w (Kinds w 25) := by
  have HK : Hid (kindsOf 25 = [9]) := kinds_at 25 (by omega) rfl
  go_enter Tryz.func40, Tryz.ntmps40
  go_wp2_with fail
  go_ret
  refine ⟨some ⟨w.heap.size, 0, none⟩, 1, by rw [HK.out]; rfl, ?_, (Keeps.refl w []).alloc _⟩
  rw [HK.out]
  exact Nums.of_blk [9] (Blk.new _ _ _) rfl
set_option maxHeartbeats 400000 in
theorem refKinds26 (w : World) : Calls Tryz.prog 40 #[.int .i64 26] w (Kinds w 26) := by
  have HK : Hid (kindsOf 26 = [8, 8, 8, 8]) := kinds_at 26 (by omega) rfl
  go_enter Tryz.func40, Tryz.ntmps40
  go_wp2_with fail
  go_ret
  refine ⟨some ⟨w.heap.size, 0, none⟩, 4, by rw [HK.out]; rfl, ?_, (Keeps.refl w []).alloc _⟩
  rw [HK.out]
  exact Nums.of_blk [8, 8, 8, 8] (Blk.new _ _ _) rfl
set_option maxHeartbeats 800000 in
theorem refKinds_none (op : Int) (h : op < 0 ∨ 26 < op) (w : World) : Calls Tryz.prog 40 #[.int .i64 op] w (Kinds w op) := by
  have HK : Hid (kindsOf op = []) := if_neg (by omega)
  have h1 : (op == 1) = false := by simp; omega
  have h2 : (op == 2) = false := by simp; omega
  have h3 : (op == 3) = false := by simp; omega
  have h4 : (op == 4) = false := by simp; omega
  have h5 : (op == 5) = false := by simp; omega
  have h6 : (op == 6) = false := by simp; omega
  have h7 : (op == 7) = false := by simp; omega
  have h8 : (op == 8) = false := by simp; omega
  have h9 : (op == 9) = false := by simp; omega
  have h10 : (op == 10) = false := by simp; omega
  have h11 : (op == 11) = false := by simp; omega
  have h12 : (op == 12) = false := by simp; omega
  have h13 : (op == 13) = false := by simp; omega
  have h14 : (op == 14) = false := by simp; omega
  have h15 : (op == 15) = false := by simp; omega
  have h17 : (op == 17) = false := by simp; omega
  have h18 : (op == 18) = false := by simp; omega
  have h20 : (op == 20) = false := by simp; omega
  have h21 : (op == 21) = false := by simp; omega
  have h24 : (op == 24) = false := by simp; omega
  have h25 : (op == 25) = false := by simp; omega
  have h26 : (op == 26) = false := by simp; omega
  clear h
  go_enter Tryz.func40, Tryz.ntmps40
  go_wp2_with fail
  go_ret
  refine ⟨none, 0, by rw [HK.out]; rfl, ?_, Keeps.refl w []⟩
  rw [HK.out]
  exact Nums.nil
theorem refKinds_any (op : Int) (w : World) : Calls Tryz.prog 40 #[.int .i64 op] w (Kinds w op) := by
  by_cases h : op < 0 ∨ 26 < op
  · exact refKinds_none op h w
  · obtain ⟨k, rfl⟩ := Int.eq_ofNat_of_zero_le (show 0 ≤ op by omega)
    match k, (show k < 27 by omega) with
    | 0, _ => exact refKinds0 w
    | 1, _ => exact refKinds1 w
    | 2, _ => exact refKinds2 w
    | 3, _ => exact refKinds3 w
    | 4, _ => exact refKinds4 w
    | 5, _ => exact refKinds5 w
    | 6, _ => exact refKinds6 w
    | 7, _ => exact refKinds7 w
    | 8, _ => exact refKinds8 w
    | 9, _ => exact refKinds9 w
    | 10, _ => exact refKinds10 w
    | 11, _ => exact refKinds11 w
    | 12, _ => exact refKinds12 w
    | 13, _ => exact refKinds13 w
    | 14, _ => exact refKinds14 w
    | 15, _ => exact refKinds15 w
    | 16, _ => exact refKinds16 w
    | 17, _ => exact refKinds17 w
    | 18, _ => exact refKinds18 w
    | 19, _ => exact refKinds19 w
    | 20, _ => exact refKinds20 w
    | 21, _ => exact refKinds21 w
    | 22, _ => exact refKinds22 w
    | 23, _ => exact refKinds23 w
    | 24, _ => exact refKinds24 w
    | 25, _ => exact refKinds25 w
    | 26, _ => exact refKinds26 w
    | k + 27, h => exact absurd h (by omega)
end Go.Proofs.YtpcihhdalofdiaaGreatDoor
