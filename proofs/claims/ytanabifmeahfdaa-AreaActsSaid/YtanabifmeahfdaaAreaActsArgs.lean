/- The acts that came in, read off memory. -/
import Derived.Test.YtanabifmeahfdaaAreaActs0
import Derived.Test.YtanabifmeahfdaaLift
import Derived.Lib.SmallJoins
import Derived.Deep.Slices
import Derived.Deep.Fields
namespace Go.Proofs.Ytanabifmeahfdaa
open Go.Joins Go.ChangeShapes Go.WideShapes Go.ChangeAt Go.RowKit Go.Deep

def ActAt (w : World) (a : Addr) (o : Act4) : Prop :=
  w.cell? (a.add 0) = some (.int .i64 o.kind) ∧ w.cell? (a.add 1) = some (.int .i64 o.at_) ∧ w.cell? (a.add 2) = some (.int .u64 o.cell) ∧ w.cell? (a.add 3) = some (.bool o.raw) ∧
    (-9223372036854775808 ≤ o.kind ∧ o.kind ≤ 9223372036854775807) ∧ (-9223372036854775808 ≤ o.at_ ∧ o.at_ ≤ 9223372036854775807) ∧ 0 ≤ o.cell ∧ o.cell < 18446744073709551616

theorem act_at {H : Type} {enc : TypeId × Value → H} {w : World} {base fuel : Nat} {sp : Nat → Bool} {held : Bool} {a : Addr} {cs : List Value} {y : DataW H × List MemPlace}
    (hc : w.cells? base a 4 = some cs) (h : DataW.trod enc Try.prog w base sp held fuel 53 cs = some y) : ∃ o, ActAt w a o := by
  obtain ⟨_, hlen, hat⟩ := World.cells?_some hc
  obtain ⟨y0, y1, y2, y3, n, _, _, h0, h1, h2, h3⟩ := trod_struct4 Try.underlying53 h
  match cs, hlen with
  | [c0, c1, c2, c3], _ =>
    have e3 : Try.prog.cellsOf 3 = 1 := by kernel_rfl
    have e30 : Try.prog.cellsOf 30 = 1 := by kernel_rfl
    have e4 : Try.prog.cellsOf 4 = 1 := by kernel_rfl
    simp only [e3, e30, e4, List.drop, List.take] at h0 h1 h2 h3
    obtain ⟨x0, q0, _, z0⟩ := DataW.trod_int Try.underlying3 h0
    obtain ⟨x1, q1, _, z1⟩ := DataW.trod_int Try.underlying3 h1
    obtain ⟨x2, q2, _, z2⟩ := DataW.trod_int Try.underlying30 h2
    obtain ⟨x3, q3, _⟩ := DataW.trod_bool Try.underlying4 h3
    simp only [List.cons.injEq, and_true] at q0 q1 q2 q3
    subst q0 q1 q2 q3
    have b0 := wf_i64 z0
    have b1 := wf_i64 z1
    have b2 := wf_u64 z2
    exact ⟨⟨x0, x1, x2, x3⟩, hat 0 (by omega), hat 1 (by omega), hat 2 (by omega), hat 3 (by omega), b0, b1, b2.1, b2.2⟩

theorem acts_of {H : Type} {enc : TypeId × Value → H} {w : World} {fuel : Nat} {A : Option Addr} {len cap : Nat} {x : DataW H × List MemPlace}
    (h : DataW.trod enc Try.prog w 0 (fun _ => true) true fuel 45 [.slice A len cap] = some x) : ∃ ops : List Act4, ops.length = len ∧ len ≤ 9223372036854775807 ∧ Acts w w.heap.size A ops := by
  have eo : Try.prog.cellsOf 53 = 4 := by kernel_rfl
  rcases open_slice Try.underlying45 h with ⟨hcs, _⟩ | ⟨a, len', cap', m, n, D, Pl, hcs, _, hl, hm, hmm, _, hi⟩
  · simp only [List.cons.injEq, Value.slice.injEq, and_true] at hcs
    obtain ⟨rfl, rfl, rfl⟩ := hcs
    exact ⟨[], rfl, by omega, fun k hk => absurd hk (by simp)⟩
  · simp only [List.cons.injEq, Value.slice.injEq, and_true] at hcs
    obtain ⟨rfl, rfl, rfl⟩ := hcs
    simp only [if_true] at hmm
    subst hmm
    unfold maxLen at hm
    have hall : ∀ i, ∃ o, i < len → ActAt w (a.add (i * 4)) o := fun i => by
      by_cases hlt : i < len
      · obtain ⟨cs', hc, ht⟩ := hi i (by omega)
        rw [eo] at hc
        obtain ⟨o, ho⟩ := act_at hc ht
        exact ⟨o, fun _ => ho⟩
      · exact ⟨⟨0, 0, 0, false⟩, fun h => absurd h hlt⟩
    obtain ⟨f, hf⟩ := Classical.axiomOfChoice hall
    refine ⟨(List.range len).map f, by simp, by omega, fun k hk => ?_⟩
    rw [List.length_map, List.length_range] at hk
    obtain ⟨c0, c1, c2, c3, b⟩ := hf k hk
    obtain ⟨bk, off, spot⟩ := a
    have hspot : spot = none := by
      have h0 := World.cell?_spot (hf 0 (by omega)).1
      simpa [Addr.add] using h0
    subst hspot
    simp only [add_lit, Nat.add_zero] at c0 c1 c2 c3
    have hlt : bk < w.heap.size := World.block_lt_of_cell? w _ c0
    exact ⟨bk, off, f k, rfl, hlt, by simp [hk], c0, by rw [Nat.add_assoc]; exact c1, by rw [Nat.add_assoc]; exact c2, by rw [Nat.add_assoc]; exact c3, b⟩
end Go.Proofs.Ytanabifmeahfdaa
