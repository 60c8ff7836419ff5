/- Instructions of operands: the program's Make, the document's. -/
import Derived.Test.YtpcihhdalofdiaaGreatDoorTxtE
import Derived.Laws.CopyRow
import Derived.Laws.IdiomCopy
namespace Go.Proofs.YtpcihhdalofdiaaGreatDoor
open Go.RowKit

theorem keeps_setRow (w : World) (b : Nat) (cs : Array Value) : Keeps w (w.setRow b cs) [b] :=
  ⟨rfl, rfl, rfl, by simp [World.setRow], fun i _ hn => by
    have : i ≠ b := fun h => hn (by simp [h])
    simp only [World.setRow]
    rw [Array.getElem?_modify, if_neg (Ne.symm this)]⟩
theorem splice6 (op : Int) (l : List Int) : ((insC6 op []).toList.take 1 ++ (l.take 4).map (Value.int IntKind.i64) ++ (insC6 op []).toList.drop (1 + ((l.take 4).map (Value.int IntKind.i64)).length)).toArray = insC6 op l := by
  match l with
  | [] => rfl
  | [a] => rfl
  | [a, b] => rfl
  | [a, b, c] => rfl
  | a :: b :: c :: d :: l => simp [insC6]
theorem copy_ins {w : World} {b B : Nat} {op : Int} {A : Option Addr} {c : Nat} {l : List Int} (hN : Nums .i64 w B A l) (hB : Blk w b 79 (insC6 op [])) :
    ∃ w', (Builtin.copy_ #[93, 93] 3 #[.slice (some ⟨b, 1, none⟩) 4 4, .slice A l.length c]).run Tryz.prog w = .ok (.int .i64 (min l.length 4 : Nat)) w' ∧ Blk w' b 79 (insC6 op l) ∧ Keeps w w' [b] := by
  have hs : (Tryz.prog.info? 3).map (·.size) = some 1 := by kernel_rfl
  by_cases h0 : l = []
  · subst h0
    refine ⟨w, ?_, hB, Keeps.refl _ _⟩
    exact Go.run_copy_none w 93 93 3 3 _ A 4 4 _ c Tryz.underlying93 hs (by simp)
  · have hp : 0 < l.length := List.length_pos_iff.2 h0
    obtain ⟨g, off, x, rfl, _, _, _⟩ := hN 0 hp
    have hlen : ((l.take 4).map (Value.int IntKind.i64)).length = Nat.min l.length 4 := by simp [Nat.min_comm]
    have hr := Go.run_copy_row (P := Tryz.prog) w 93 93 3 3 b 1 4 4 ⟨g, off, none⟩ l.length c (insC6 op []) 79 ((l.take 4).map (Value.int IntKind.i64)) Tryz.underlying93 hs hB hlen (fun j v hv => by
      have hj : j < ((l.take 4).map (Value.int IntKind.i64)).length := (List.getElem?_eq_some_iff.1 hv).1
      rw [hlen] at hj
      have hj2 : j < l.length := Nat.lt_of_lt_of_le hj (Nat.min_le_left _ _)
      have hj4 : j < 4 := Nat.lt_of_lt_of_le hj (Nat.min_le_right _ _)
      obtain ⟨g', off', x', e, _, hc, hx⟩ := hN j hj2
      obtain ⟨rfl, rfl⟩ : g = g' ∧ off = off' := by simpa using e
      have : v = .int .i64 x' := by
        rw [List.getElem?_map, List.getElem?_take_of_lt hj4, hx] at hv
        simpa using hv.symm
      have hadd : (⟨g, off, none⟩ : Addr).add j = ⟨g, off + j, none⟩ := by unfold Addr.add; split <;> simp_all
      rw [this, hadd]
      exact hc) (by rw [hlen]; exact Nat.add_le_add_left (Nat.min_le_right l.length 4) 1) (fun v hv => by
        obtain ⟨x, _, rfl⟩ := List.mem_map.1 hv
        rfl)
    rw [splice6, hlen] at hr
    exact ⟨_, hr, setRow_heap w b (insC6 op []) _ 79 (0, 0) hB, keeps_setRow _ _ _⟩
set_option maxHeartbeats 1600000 in
theorem make6_any (op : Int) (A : Option Addr) (c : Nat) (l : List Int) (w : World) (hN : Nums .i64 w w.heap.size A l) :
    Calls Tryz.prog 82 #[.int .i64 op, .slice A l.length c] w fun e w' => e = .returned (insV (insW op l)) ∧ Keeps w w' [] := by
  have hz : Blk ((w.alloc (.cells #[.int .i64 0, .int .i64 0, .int .i64 0, .int .i64 0, .int .i64 0] 79)).alloc (.cells #[.int .i64 op, .int .i64 0, .int .i64 0, .int .i64 0, .int .i64 0] 79)) (w.heap.size + 1) 79 (insC6 op []) := Blk.atNew _ _ (by simp)
  have hk : Keeps w ((w.alloc (.cells #[.int .i64 0, .int .i64 0, .int .i64 0, .int .i64 0, .int .i64 0] 79)).alloc (.cells #[.int .i64 op, .int .i64 0, .int .i64 0, .int .i64 0, .int .i64 0] 79)) [] := ((Keeps.refl w []).alloc _).alloc _
  have hz0 : Blk ((w.alloc (.cells #[.int .i64 0, .int .i64 0, .int .i64 0, .int .i64 0, .int .i64 0] 79)).alloc (.cells #[.int .i64 op, .int .i64 0, .int .i64 0, .int .i64 0, .int .i64 0] 79)) w.heap.size 79 #[.int .i64 0, .int .i64 0, .int .i64 0, .int .i64 0, .int .i64 0] := (Blk.new w _ _).alloc _
  obtain ⟨w3, hr, hb3, hk3⟩ := copy_ins (c := c) (hN.keep (w' := (w.alloc (.cells #[.int .i64 0, .int .i64 0, .int .i64 0, .int .i64 0, .int .i64 0] 79)).alloc (.cells #[.int .i64 op, .int .i64 0, .int .i64 0, .int .i64 0, .int .i64 0] 79)) (fun p hp => hk.cell hp (by simp))) hz
  have hIV : insV (insW op l) = .agg (insC6 op l) := rfl
  obtain ⟨a0, a1, a2, a3, hC⟩ : ∃ a0 a1 a2 a3 : Int, insC6 op l = #[.int .i64 op, .int .i64 a0, .int .i64 a1, .int .i64 a2, .int .i64 a3] := ⟨_, _, _, _, rfl⟩
  rw [hC] at hb3 hIV
  have HIV := Lib.hid hIV
  have HZ := Lib.hid (hz0.keep hk3 (by simp))
  have HK2 : Hid (Keeps w w3 []) := Keeps.past6 hk hk3 (fun q hq => by simp at hq; omega)
  have y0 := hb3.cell 0
  have y1 := hb3.cell 1
  have y2 := hb3.cell 2
  have y3 := hb3.cell 3
  have y4 := hb3.cell 4
  have x0 := HZ.out.frozen 0
  have x1 := HZ.out.frozen 1
  have x2 := HZ.out.frozen 2
  have x3 := HZ.out.frozen 3
  have x4 := HZ.out.frozen 4
  have v0 := HZ.out.cell 0
  have v1 := HZ.out.cell 1
  have v2 := HZ.out.cell 2
  have v3 := HZ.out.cell 3
  have v4 := HZ.out.cell 4
  clear hz hk hz0 hb3 hk3 hIV hC hN
  go_enter Tryz.func82, Tryz.ntmps82
  go_wp2_with fail
  have HB := Lib.hid (blk_fill HZ.out op a0 a1 a2 a3)
  have HKf := Lib.hid (keeps_fill w3 w.heap.size op a0 a1 a2 a3)
  dsimp only [fillW] at HB HKf
  clear x0 x1 x2 x3 x4 v0 v1 v2 v3 v4 y0 y1 y2 y3 y4
  generalize ((((((w3).setCell ⟨w.heap.size, 0, none⟩ (.int .i64 op)).setCell ⟨w.heap.size, 1, none⟩ (.int .i64 a0)).setCell ⟨w.heap.size, 2, none⟩ (.int .i64 a1)).setCell ⟨w.heap.size, 3, none⟩ (.int .i64 a2)).setCell ⟨w.heap.size, 4, none⟩ (.int .i64 a3)) = W at *
  have y0 := HB.out.cell 0
  have y1 := HB.out.cell 1
  have y2 := HB.out.cell 2
  have y3 := HB.out.cell 3
  have y4 := HB.out.cell 4
  refine bodyPost_ret (v := .agg #[.int .i64 op, .int .i64 a0, .int .i64 a1, .int .i64 a2, .int .i64 a3]) (by simp [results, Tryz.results82, go_sem, y0, y1, y2, y3, y4]) rfl ⟨by rw [HIV.out], ?_⟩
  exact HK2.out.past6 HKf.out (fun q hq => by simp at hq; omega)
end Go.Proofs.YtpcihhdalofdiaaGreatDoor
