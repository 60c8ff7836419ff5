/- CodeMakes, CodeRights: the walks. -/
import Derived.Test.YtiimlajhofikeaaDoorTxtL
import Derived.Laws.StructEq
namespace Go.Proofs.YtiimlajhofikeaaDoor
open Go.RowKit

attribute [local irreducible] kindsOf nameOf insTxt namedT opP insOk
set_option maxRecDepth 100000 in
set_option maxHeartbeats 3200000 in
theorem codeMakes_any (op : Int) (A : Option Addr) (c n : Nat) (l : List Int) (w : World) (h : St w) (hn : l.length = n) (hl : n ≤ 9223372036854775807) (hN : Nums .i64 w w.heap.size A l) :
    Calls Tryd.prog 4 #[.int .i64 op, .slice A n c] w fun e w' => e = .returned (.bool true) ∧ Keeps w w' [] := by
  have HSt := Lib.hid h
  obtain ⟨a0, a1, a2, a3, hV⟩ : ∃ a0 a1 a2 a3 : Int, insW op l = ⟨op, a0, a1, a2, a3⟩ := ⟨_, _, _, _, rfl⟩
  have HM : Hid (Calls Tryd.prog 17 #[.int .i64 op, .slice A n c] w fun e w' => e = .returned (.agg #[.int .i64 op, .int .i64 a0, .int .i64 a1, .int .i64 a2, .int .i64 a3]) ∧ Keeps w w' []) := by
    have := make6_any op A c l w hN
    rw [hn, hV] at this
    exact this
  have HRM : Hid (∀ w', Keeps w w' [] → Calls Tryd.prog 19 #[.int .i64 op, .slice A n c] w' fun e w'' => e = .returned (.agg #[.int .i64 op, .int .i64 a0, .int .i64 a1, .int .i64 a2, .int .i64 a3]) ∧ Keeps w' w'' []) := fun w' k => by
    have := refMake_any op A c l w' ((hN.keep (fun p hp => k.cell hp (by simp))).more k.size) (by omega)
    rw [hn, hV] at this
    exact this
  have HF := Lib.hid (insFrom6_any ⟨op, a0, a1, a2, a3⟩)
  unfold insV at HF
  have heq := fun w => ins_arr_eq w a0 a1 a2 a3 a0 a1 a2 a3
  clear h hN hn hV
  go_enter Tryd.func4, Tryd.ntmps4
  go_wp2_with fail
  refine HM.out.mono ?_
  rintro e w1 ⟨rfl, k1⟩
  have HK1 := Lib.hid (k1.alloc (.cells #[.int .i64 op, .int .i64 a0, .int .i64 a1, .int .i64 a2, .int .i64 a3] 27))
  have HB1 : Hid (Blk (w1.alloc (.cells #[.int .i64 op, .int .i64 a0, .int .i64 a1, .int .i64 a2, .int .i64 a3] 27)) w1.heap.size 27 #[.int .i64 op, .int .i64 a0, .int .i64 a1, .int .i64 a2, .int .i64 a3]) := Blk.new _ _ _
  clear k1
  go_wp2_with fail
  refine (told6_any _ (HSt.out.keep HK1.out)).mono ?_
  rintro e w2 ⟨rfl, k2⟩
  have p0 := (HB1.out.keep k2 (by simp)).cell 0
  have p1 := (HB1.out.keep k2 (by simp)).cell 1
  have p2 := (HB1.out.keep k2 (by simp)).cell 2
  have p3 := (HB1.out.keep k2 (by simp)).cell 3
  have p4 := (HB1.out.keep k2 (by simp)).cell 4
  have HK2 := Lib.hid (HK1.out.trans k2)
  clear k2
  go_wp2_with fail
  refine (HF.out _).mono ?_
  rintro e w3 ⟨rfl, k3⟩
  have HK3 := Lib.hid (HK2.out.trans k3)
  clear k3
  go_wp2_with fail
  refine (HRM.out _ HK3.out).mono ?_
  rintro e w4 ⟨rfl, k4⟩
  go_wp2_with fail
  go_ret
  exact ⟨by simp, HK3.out.trans k4⟩
end Go.Proofs.YtiimlajhofikeaaDoor
