/- Layer 6: rowOf, Name, Operands. -/
import Derived.Test.YtpcihhdalofdiaaGreatDoorOp
namespace Go.Proofs.YtpcihhdalofdiaaGreatDoor
open Go.RowKit

def nameOf (op : Int) : ByteArray := if 0 ≤ op ∧ op ≤ 26 then opName op.toNat else ⟨#[]⟩
def kindsOf (op : Int) : List Int := if 0 ≤ op ∧ op ≤ 26 then opList op.toNat else []
/-- The row of an instruction's number, as a value: its name, its operands' kinds (laid somewhere). -/
def RowOf (w : World) (op : Int) (e : Ending) (w' : World) : Prop :=
  Keeps w w' [] ∧ ∃ A, e = .returned (.agg #[.string (nameOf op), .slice A (kindsOf op).length (kindsOf op).length]) ∧ Nums .i64 w' w'.heap.size A (kindsOf op)
theorem nameOf_of {op : Int} {k : Nat} (h : op = k) (hk : k < 27) : nameOf op = opName k := by
  subst h
  rw [nameOf, if_pos (by omega)]
  rfl
theorem kindsOf_of {op : Int} {k : Nat} (h : op = k) (hk : k < 27) : kindsOf op = opList k := by
  subst h
  rw [kindsOf, if_pos (by omega)]
  rfl
theorem rowOf_none {w : World} {op : Int} (h : op < 0 ∨ 26 < op) : RowOf w op (.returned (.agg #[.string ⟨#[]⟩, .slice none 0 0])) (w.alloc (.cells #[.string ⟨#[]⟩, .slice none 0 0] 140)) := by
  have hn : nameOf op = ⟨#[]⟩ := if_neg (by omega)
  have hk : kindsOf op = [] := if_neg (by omega)
  refine ⟨(Keeps.refl w []).alloc _, none, ?_, ?_⟩
  · rw [hn, hk]
    rfl
  · rw [hk]
    exact Nums.nil
theorem Nums.farRow {K : IntKind} {w : World} {B n : Nat} {t : TypeId} {cs : Array Value} {A : Option Addr} {l : List Int} (h : Nums K w B A l) (hb : Blk w n t cs) (hno : ∀ (i : Nat) (x : Int), cs[i]? ≠ some (Value.int K x)) (i : Nat) (u : Value) : Nums K (w.setCell ⟨n, i, none⟩ u) B A l := by
  intro k hk
  obtain ⟨b, off, x, rfl, hlt, hc, hx⟩ := h k hk
  refine ⟨b, off, x, rfl, hlt, ?_, hx⟩
  by_cases hbn : b = n
  · subst hbn
    exact absurd ((hb.cell (off + k)).symm.trans hc) (hno _ _)
  · exact (World.cell?_setCell_other w _ _ _ (fun e => hbn (by injection e with e1 _ _; exact e1.symm))).trans hc
theorem rowNoInt : ∀ (i : Nat) (x : Int), (#[Value.string ⟨#[]⟩, .slice none 0 0])[i]? ≠ some (.int .i64 x) := by
  intro i x
  match i with
  | 0 => simp
  | 1 => simp
  | i + 2 => simp
theorem rowNoInt2 {s : ByteArray} : ∀ (i : Nat) (x : Int), ((#[Value.string ⟨#[]⟩, .slice none 0 0]).setIfInBounds 0 (.string s))[i]? ≠ some (.int .i64 x) := by
  intro i x
  match i with
  | 0 => simp
  | 1 => simp
  | i + 2 => simp
set_option maxHeartbeats 800000 in
theorem rowOf_any (op : Int) (w : World) : Calls Tryz.prog 92 #[.int .i64 op] w (RowOf w op) := by
  by_cases h0 : op < 0
  · have d0 : decide (op < 0) = true := by simpa using h0
    have HQ := Lib.hid (rowOf_none (w := w) (.inl h0))
    clear h0
    go_enter Tryz.func92, Tryz.ntmps92
    go_wp2_with fail
    exact bodyPost_ret (v := .agg #[.string ⟨#[]⟩, .slice none 0 0]) (by simp [results, Tryz.results92, go_sem]) rfl HQ.out
  · have d0 : decide (op < 0) = false := by simpa using h0
    by_cases h1 : 26 < op
    · have d1 : decide (26 < op) = true := by simpa using h1
      have HQ := Lib.hid (rowOf_none (w := w) (.inr h1))
      clear h0 h1
      go_enter Tryz.func92, Tryz.ntmps92
      go_wp2_with fail
      exact bodyPost_ret (v := .agg #[.string ⟨#[]⟩, .slice none 0 0]) (by simp [results, Tryz.results92, go_sem]) rfl HQ.out
    · have d1 : decide (26 < op) = false := by simpa using h1
      obtain ⟨k, rfl⟩ := Int.eq_ofNat_of_zero_le (show 0 ≤ op by omega)
      have hk : k < 27 := by omega
      have HN : Hid (nameOf (k : Int) = opName k) := nameOf_of rfl hk
      have HK : Hid (kindsOf (k : Int) = opList k) := kindsOf_of rfl hk
      clear h0 h1
      go_enter Tryz.func92, Tryz.ntmps92
      go_wp2_with fail
      refine (rows_any _).mono ?_
      rintro e w2 ⟨b, rfl, kk, hb, hrows⟩
      obtain ⟨A, c0, c1, hN⟩ := hrows k hk
      have HNu := Lib.hid hN
      have HKe := Lib.hid kk
      rw [World.size_alloc] at hb
      have hb0 : Blk w2 w.heap.size 140 #[.string ⟨#[]⟩, .slice none 0 0] := (Blk.new w _ _).keep kk (by simp)
      have r0 := hb0.cell 0
      have r1 := hb0.cell 1
      have f0 := hb0.frozen 0
      have f1 := hb0.frozen 1
      have HB := Lib.hid hb0
      clear hrows hN kk hb0
      go_wp2_with fail
      have q0 : (w2.setCell ⟨w.heap.size, 0, none⟩ (.string (opName k))).cell? ⟨w.heap.size, 0, none⟩ = some (.string (opName k)) := ((HB.out.set_ 0 (.string (opName k))).cell 0).trans rfl
      have q1 : ((w2.setCell ⟨w.heap.size, 0, none⟩ (.string (opName k))).setCell ⟨w.heap.size, 1, none⟩ (.slice A (opList k).length (opList k).length)).cell? ⟨w.heap.size, 1, none⟩ = some (.slice A (opList k).length (opList k).length) := (((HB.out.set_ 0 (.string (opName k))).set_ 1 (.slice A (opList k).length (opList k).length)).cell 1).trans rfl
      refine bodyPost_ret (v := .agg #[.string (opName k), .slice A (opList k).length (opList k).length]) (by simp [results, Tryz.results92, go_sem, q0, q1]) rfl ⟨?_, A, by rw [HN.out, HK.out], ?_⟩
      · exact ((((Keeps.refl w []).alloc _).trans HKe.out).setCell (.inr (Nat.le_refl _)) _).setCell (.inr (Nat.le_refl _)) _
      · rw [HK.out]
        have n1 := HNu.out.farRow HB.out rowNoInt 0 (.string (opName k))
        have n2 := n1.farRow (HB.out.set_ 0 (.string (opName k))) rowNoInt2 1 (.slice A (opList k).length (opList k).length)
        simpa [World.setCell] using n2
end Go.Proofs.YtpcihhdalofdiaaGreatDoor
