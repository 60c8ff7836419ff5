/- What arguments that came in give: slices of numbers, slices of slices of numbers. -/
import Derived.Test.YtnonfmaehfmigaaGreatDoorAppend
import Derived.ProofKit
import Derived.OpenShut
import Derived.SizedLaws
import Derived.JoinedCond
import Derived.Deep.Matrix
import Derived.Test.YtnonfmaehfmigaaGreatDoorTmRd
import Derived.Lib.SmallJoins
import Derived.Deep.Slices
import Derived.Deep.Fields
import Derived.Test.YtnonfmaehfmigaaGreatDoorJU05
import Derived.Test.YtnonfmaehfmigaaGreatDoorCards
import Derived.Test.YtnonfmaehfmigaaGreatDoorTie
import Derived.Deep.DeepHandedRow
import Derived.Lib.LaidTab
import Derived.Lay
import Derived.LaidMore
namespace Go.Proofs.YtnonfmaehfmigaaGreatDoor
open Go.ChangeShapes Go.WideShapes Go.ChangeAt Go.RowKit

theorem own : ownKnob Tryz.prog.godebug = none := by kernel_rfl
theorem laidOut : laidOutB Tryz.prog = true := by kernel_rfl

theorem wf_u8 {x : Int} (h : (Lit.int .u8 x).wf = true) : 0 ≤ x ∧ x < 256 := by
  simp [Lit.wf, IntKind.min, IntKind.max, IntKind.signed, IntKind.bits] at h
  omega
theorem wf_u32 {x : Int} (h : (Lit.int .u32 x).wf = true) : 0 ≤ x ∧ x < 4294967296 := by
  simp [Lit.wf, IntKind.min, IntKind.max, IntKind.signed, IntKind.bits] at h
  omega
theorem wf_i64 {x : Int} (h : (Lit.int .i64 x).wf = true) : -9223372036854775808 ≤ x ∧ x ≤ 9223372036854775807 := by
  simp [Lit.wf, IntKind.min, IntKind.max, IntKind.signed, IntKind.bits] at h
  omega
theorem wf_u64 {x : Int} (h : (Lit.int .u64 x).wf = true) : 0 ≤ x ∧ x < 18446744073709551616 := by
  simp [Lit.wf, IntKind.min, IntKind.max, IntKind.signed, IntKind.bits] at h
  omega

/-- What a slice of numbers that came in gives. -/
theorem nums_of_cells {K : IntKind} {w : World} {x : Addr} {zs : List Int} {len cap : Nat} (hl : len ≤ cap) (hz : zs.length = cap)
    (hcell : ∀ i, i < cap → w.cell? (x.add i) = some (.int K (zs.getD i 0))) : Nums K w w.heap.size (some x) (zs.take len) := by
  intro k hk
  rw [List.length_take] at hk
  have hc := hcell k (by omega)
  obtain ⟨b, off, spot⟩ := x
  have hspot : spot = none := by
    have h0 := World.cell?_spot (hcell 0 (by omega))
    simpa [Addr.add] using h0
  subst hspot
  rw [add_lit] at hc
  have hlt : b < w.heap.size := World.block_lt_of_cell? w _ hc
  refine ⟨b, off, zs[k], rfl, hlt, ?_, ?_⟩
  · rw [hc]
    simp [List.getD, List.getElem?_eq_getElem (show k < zs.length by omega)]
  · rw [List.getElem?_take, if_pos (by omega)]
    exact List.getElem?_eq_getElem (by omega)
end Go.Proofs.YtnonfmaehfmigaaGreatDoor

/- A term that came in, read off memory. -/
namespace Go.Proofs.YtnonfmaehfmigaaGreatDoor
open Go.Joins Go.ChangeShapes Go.WideShapes Go.ChangeAt Go.RowKit Go.Deep

theorem Tr.leaf' (w : World) (k n : Int) (s : ByteArray) (hs : s.size ≤ 9223372036854775807) : Tr w (fun _ => True) (.mk k n s []) ⟨k, n, s, none, 0, 0⟩ :=
  .mk k n s [] none 0 [] rfl Rd.nil (fun b off e => by cases e) (fun _ => rfl) ⟨hs, by simp⟩ (fun j t v h => by simp at h)
/-- The elements of a row of trees. -/
theorem trees_of {w : World} {a : Addr} {len : Nat} (hi : ∀ i, i < len → ∃ cs', w.cells? 0 (a.add (i * 4)) 4 = some cs' ∧ ∃ t v, cs' = tvE v ∧ Tr w (fun _ => True) t v) :
    ∃ (l : List Tm) (vs : List TV), l.length = len ∧ Trs w (fun _ => True) l vs ∧ Rd w (some a) (vs.flatMap tvE) := by
  have hall : ∀ i, ∃ o : Tm × TV, i < len → Tr w (fun _ => True) o.1 o.2 ∧ ∀ j, j < 4 → w.cell? ((a.add (i * 4)).add j) = (tvE o.2)[j]? := fun i => by
    by_cases hlt : i < len
    · obtain ⟨cs', hc, t, v, rfl, ht⟩ := hi i hlt
      obtain ⟨_, _, hat⟩ := World.cells?_some hc
      exact ⟨(t, v), fun _ => ⟨ht, hat⟩⟩
    · exact ⟨(.mk 0 0 ⟨#[]⟩ [], ⟨0, 0, ⟨#[]⟩, none, 0, 0⟩), fun h => absurd h hlt⟩
  obtain ⟨f, hf⟩ := Classical.axiomOfChoice hall
  refine ⟨(List.range len).map fun i => (f i).1, (List.range len).map fun i => (f i).2, by simp, ⟨by simp, fun j t v h1 h2 => ?_⟩, ?_⟩
  · have hj : j < len := by have := (List.getElem?_eq_some_iff.1 h1).1; simpa using this
    have := (hf j hj).1
    simp [hj] at h1 h2
    rw [← h1, ← h2]
    exact this
  · intro k hk
    rw [length_flat tvE_len, List.length_map, List.length_range] at hk
    have hq : k / 4 < len := (Nat.div_lt_iff_lt_mul (by omega)).2 hk
    have hr : k % 4 < 4 := Nat.mod_lt _ (by omega)
    have hspot : a.spot = none := by
      have h1 := (hf 0 (Nat.lt_of_le_of_lt (Nat.zero_le _) hq)).2 0 (by omega)
      have : ∃ v, w.cell? ((a.add (0 * 4)).add 0) = some v := ⟨_, h1.trans (List.getElem?_eq_getElem (by rw [tvE_len]; omega))⟩
      obtain ⟨v, hv⟩ := this
      have h0 := World.cell?_spot hv
      simpa [Addr.add] using h0
    obtain ⟨bk, off, spot⟩ := a
    simp only at hspot
    subst hspot
    have hcell := (hf (k / 4) hq).2 (k % 4) hr
    have hv : (tvE (f (k / 4)).2)[k % 4]? = some ((tvE (f (k / 4)).2)[k % 4]'(by rw [tvE_len]; exact hr)) := List.getElem?_eq_getElem (by rw [tvE_len]; exact hr)
    have hk2 : k / 4 * 4 + k % 4 = k := by rw [Nat.mul_comm]; exact Nat.div_add_mod k 4
    rw [hv] at hcell
    simp only [add_lit] at hcell
    rw [Nat.add_assoc, hk2] at hcell
    refine ⟨bk, off, _, rfl, World.block_lt_of_cell? w _ hcell, hcell, ?_⟩
    have hlen : k / 4 < ((List.range len).map fun i => (f i).2).length := by simpa using hq
    have := getElem?_flat tvE_len ((List.range len).map fun i => (f i).2) (k / 4) hlen (k % 4) hr
    rw [hk2] at this
    rw [this]
    simp only [List.getElem_map, List.getElem_range]
    exact hv
section
variable {H : Type} {enc : TypeId × Value → H} {w : World}
/-- A struct of four fields, and how much fuel is left. -/
theorem four_fields {P : Program} {t : TypeId} {a b c d : Field} {fuel : Nat} {cs : List Value} {y : DataW H × List MemPlace} (ht : P.underlying t = some (.struct #[a, b, c, d])) (h : DataW.trod enc P w 0 (fun _ => true) true fuel t cs = some y) :
    ∃ n y0 y1 y2 y3, fuel = n + 1 ∧ cs.length = P.cellsOf t ∧ DataW.trod enc P w 0 (fun _ => true) true n a.type ((cs.drop a.offset).take (P.cellsOf a.type)) = some y0 ∧ DataW.trod enc P w 0 (fun _ => true) true n b.type ((cs.drop b.offset).take (P.cellsOf b.type)) = some y1 ∧
      DataW.trod enc P w 0 (fun _ => true) true n c.type ((cs.drop c.offset).take (P.cellsOf c.type)) = some y2 ∧ DataW.trod enc P w 0 (fun _ => true) true n d.type ((cs.drop d.offset).take (P.cellsOf d.type)) = some y3 := by
  obtain ⟨xs, n, rfl, _, hl, hlen, hf⟩ := DataW.trod_struct ht h
  match xs, hlen, hf with
  | [y0, y1, y2, y3], _, hf => exact ⟨n, y0, y1, y2, y3, rfl, hl, by simpa using hf 0 a rfl, by simpa using hf 1 b rfl, by simpa using hf 2 c rfl, by simpa using hf 3 d rfl⟩
set_option maxRecDepth 100000 in
theorem tree_of : ∀ (fuel : Nat) (cs : List Value) (y : DataW H × List MemPlace), DataW.trod enc Tryz.prog w 0 (fun _ => true) true fuel 24 cs = some y → ∃ t v, cs = tvE v ∧ Tr w (fun _ => True) t v := by
  intro fuel
  induction fuel using Nat.strongRecOn with
  | _ fuel ih =>
    intro cs y h
    obtain ⟨n, y0, y1, y2, y3, rfl, hl, h0, h1, h2, h3⟩ := four_fields Tryz.underlying24 h
    have e : Tryz.prog.cellsOf 24 = 4 := by kernel_rfl
    have e0 : Tryz.prog.cellsOf 3 = 1 := by kernel_rfl
    have e1 : Tryz.prog.cellsOf 9 = 1 := by kernel_rfl
    have e2 : Tryz.prog.cellsOf 22 = 1 := by kernel_rfl
    replace hl := hl.trans e
    match cs, hl, h0, h1, h2, h3 with
    | [c0, c1, c2, c3], _, h0, h1, h2, h3 =>
      simp only [e0, e1, e2, List.drop, List.take] at h0 h1 h2 h3
      obtain ⟨x0, q0, _, _⟩ := DataW.trod_int Tryz.underlying3 h0
      obtain ⟨x1, q1, _, _⟩ := DataW.trod_int Tryz.underlying3 h1
      obtain ⟨x2, q2, _, z2⟩ := DataW.trod_string Tryz.underlying9 h2
      simp only [List.cons.injEq, and_true] at q0 q1 q2
      subst q0 q1 q2
      have z2' : x2.size ≤ 9223372036854775807 := by unfold maxLen at z2; omega
      rcases DataW.trod_slice Tryz.underlying22 h3 with ⟨hcs, _⟩ | ⟨a, len, cap, elems, rest, n2, rfl, hcs, _, _, hlc, hcm, hel, hi, _, _⟩
      · simp only [List.cons.injEq, and_true] at hcs
        subst hcs
        exact ⟨.mk x0 x1 x2 [], ⟨x0, x1, x2, none, 0, 0⟩, rfl, Tr.leaf' w x0 x1 x2 z2'⟩
      · simp only [List.cons.injEq, and_true] at hcs
        subst hcs
        obtain ⟨l, vs, hll, hT, hR⟩ := trees_of (w := w) (a := a) (len := len) (fun i hlt => by
          have hb := hi i hlt
          rw [List.getElem?_eq_getElem (by omega : i < elems.length), e] at hb
          obtain ⟨cs', hc, ht⟩ := Option.bind_eq_some_iff.1 hb
          obtain ⟨t, v, hv, htr⟩ := ih n2 (by omega) cs' _ ht
          exact ⟨cs', hc, t, v, hv, htr⟩)
        subst hll
        have hlm : l.length ≤ 9223372036854775807 := by unfold maxLen at hcm; omega
        exact ⟨.mk x0 x1 x2 l, ⟨x0, x1, x2, some a, l.length, cap⟩, rfl, .mk x0 x1 x2 l (some a) cap vs hT.len hR (fun _ _ _ _ => trivial) (fun h => by cases h) ⟨z2', hlm⟩ hT.at_⟩
theorem tree_arg {v : Value} {d : DataW H} {p : List MemPlace} (h : DataW.Trod enc Tryz.prog w 0 (fun _ => true) true 24 v d p) : ∃ t x, v = tvV x ∧ Tr w (fun _ => True) t x := by
  obtain ⟨fuel, h⟩ := h
  obtain ⟨t, x, hv, ht⟩ := tree_of fuel _ _ h
  refine ⟨t, x, ?_, ht⟩
  cases v with
  | agg c =>
    obtain ⟨l⟩ := c
    simp only [Value.cells] at hv
    subst hv
    rfl
  | _ => have := congrArg List.length hv; simp [Value.cells, tvE] at this
end
end Go.Proofs.YtnonfmaehfmigaaGreatDoor

/- A row of terms that came in. -/
namespace Go.Proofs.YtnonfmaehfmigaaGreatDoor
open Go.Joins Go.ChangeShapes Go.WideShapes Go.ChangeAt Go.RowKit Go.Deep

section
variable {H : Type} {enc : TypeId × Value → H} {w : World}
theorem trees_arg {a : Option Addr} {len cap : Nat} {d : DataW H} {p : List MemPlace} (h : DataW.Trod enc Tryz.prog w 0 (fun _ => true) true 22 (.slice a len cap) d p) : ∃ (l : List Tm) (vs : List TV), l.length = len ∧ Trs w (fun _ => True) l vs ∧ Rd w a (vs.flatMap tvE) := by
  obtain ⟨fuel, hf⟩ := h
  have e : Tryz.prog.cellsOf 24 = 4 := by kernel_rfl
  rcases DataW.trod_slice Tryz.underlying22 hf with ⟨hcs, _⟩ | ⟨a', len', cap', elems, rest, n2, rfl, hcs, _, _, hlc, hcm, hel, hi, _, _⟩
  · simp only [Value.cells, List.cons.injEq, and_true, Value.slice.injEq] at hcs
    obtain ⟨rfl, rfl, rfl⟩ := hcs
    exact ⟨[], [], rfl, Trs.nil, Rd.nil⟩
  · simp only [Value.cells, List.cons.injEq, and_true, Value.slice.injEq] at hcs
    obtain ⟨rfl, rfl, rfl⟩ := hcs
    exact trees_of (w := w) (a := a') (len := len) (fun i hlt => by
      have hb := hi i hlt
      rw [List.getElem?_eq_getElem (by omega : i < elems.length), e] at hb
      obtain ⟨cs', hc, ht⟩ := Option.bind_eq_some_iff.1 hb
      obtain ⟨t, v, hv, htr⟩ := tree_of n2 cs' _ ht
      exact ⟨cs', hc, t, v, hv, htr⟩)
end
end Go.Proofs.YtnonfmaehfmigaaGreatDoor

/- HeapUndoes: for every input the law returns true, in every world in which the listed variables lie as the program's text lays them; the card. -/
namespace Go.Proofs.YtnonfmaehfmigaaGreatDoor
open Go.Joins Go.ChangeShapes Go.WideShapes Go.ChangeAt Go.RowKit Go.Deep Go.ChangeMaps

theorem gTab : Tryz.prog.globalNamed "internal/strconv.uint64pow10" = some 0 := by kernel_rfl
theorem gTabType : (Tryz.prog.globals[0]?).map (·.type) = some 149 := by kernel_rfl
theorem cellsTab : Tryz.prog.cellsOf 149 = 20 := by kernel_rfl
theorem cellsU64 : Tryz.prog.cellsOf 27 = 1 := by kernel_rfl
theorem table {W : World} (h : laidMetH Tryz.prog Rows.heapUndoesRow.laid W) : Tab W :=
  Lib.tabIs_of_head (rest := []) gTab gTabType Tryz.underlying149 Tryz.underlying27 cellsU64 cellsTab (h.filter (fun x => x.1 == "internal/strconv.uint64pow10"))
theorem frame_of {w w' : World} (k : Keeps w w' []) : Below w.heap.size w w' := ⟨k.os, k.tape, k.output, k.size, fun i hi => k.block i hi (by simp)⟩

set_option maxRecDepth 100000 in
theorem law_contract (H : Type) (enc : TypeId × Value → H) (W : World) (base : Nat) (args : Array Value) (ds gs : List (DataW H)) (before : List MemPlace)
    (hval : ∀ (j : Nat) t v, Tryz.f3.params[j]? = some t → args[j]? = some v → Value.okWide Tryz.prog W .any base t v)
    (hW : DataW.Whole enc Tryz.prog Tryz.f3.params.toList Rows.heapUndoesSpec.vars false W args.toList ds gs before) (hS : Tab W) :
    Calls Tryz.prog 3 args W fun e W' => ∃ v, e = .returned v ∧ Rows.heapUndoesSpec.post enc Tryz.prog Tryz.f3 false true false false W args v W' := by
  have hW' := hW
  obtain ⟨p, q, hA0, hV, rfl, hfz, hnd⟩ := hW
  have hA : DataW.TrodAll enc Tryz.prog W 0 (fun _ => true) true Tryz.f3.params.toList args.toList ds p := hA0
  rw [Tryz.params3] at hA hval
  obtain ⟨v0, vs0, d0, ds0, p0, q0, hargs, rfl, rfl, h0, r0⟩ := trodAll_cons hA
  obtain ⟨v1, vs1, d1, ds1, p1, q1, rfl, rfl, rfl, h1, r1⟩ := trodAll_cons r0
  obtain ⟨v2, vs2, d2, ds2, p2, q2, rfl, rfl, rfl, h2, r2⟩ := trodAll_cons r1
  obtain ⟨rfl, rfl, rfl⟩ := trodAll_nil r2
  obtain rfl : args = #[v0, v1, v2] := by cases args; simp_all
  obtain ⟨rfl, rfl⟩ := trodVars_none hV
  have k0 := h0
  have lt0 : ∀ x ∈ p0, x.block < W.heap.size := by obtain ⟨m, hm⟩ := k0; exact DataW.trod_lt m _ _ _ hm
  obtain ⟨t0, x0, rfl, ht0⟩ := tree_arg h0
  have k1 := h1
  have lt1 : ∀ x ∈ p1, x.block < W.heap.size := by obtain ⟨m, hm⟩ := k1; exact DataW.trod_lt m _ _ _ hm
  obtain ⟨t1, x1, rfl, ht1⟩ := tree_arg h1
  have k2 := h2
  have lt2 : ∀ x ∈ p2, x.block < W.heap.size := by obtain ⟨m, hm⟩ := k2; exact DataW.trod_lt m _ _ _ hm
  obtain ⟨A2, n2, c2, rfl⟩ := okWide_slice Tryz.underlying22 (hval 2 22 v2 rfl rfl)
  obtain ⟨l2, z2, hl2, hT2, hR2⟩ := trees_arg h2
  clear hA0
  refine (heapUndoes_any t0 x0 t1 x1 l2 z2 A2 n2 c2 W ht0 ht1 hT2 hR2 hl2 hS).mono fun e W' ⟨he, hk⟩ => ?_
  have bel := frame_of hk
  subst he
  exact ⟨_, rfl, _, _, _, [], _, [], hW', trodAll_mk1 (shut_bool Tryz.underlying4 _), (trodAll_cons_mk (Below.trod laidOut (by kernel_rfl) (of_decide_eq_true (by kernel_rfl)) k0 bel lt0) (trodAll_cons_mk (Below.trod laidOut (by kernel_rfl) (of_decide_eq_true (by kernel_rfl)) k1 bel lt1) (trodAll_cons_mk (Below.trod laidOut (by kernel_rfl) (of_decide_eq_true (by kernel_rfl)) k2 bel lt2) trodAll_mk0))), rfl, bel.frame _, fun h => by cases h⟩

theorem laid_met (os : Os) (args : Array Value) : laidMetH Tryz.prog Rows.heapUndoesRow.laid ((World.laidAll Tryz.prog os Rows.heapUndoesRow.laid).forCall (fun _ _ => 0) ⟨#[], args, []⟩).memory := by
  rw [MakeChecks.laidMetH_plain _ _ _ (by kernel_rfl)]
  exact laidMet_laidAll _ (by kernel_rfl) (by kernel_rfl)
theorem law_reads (os : Os) {H : Type} (enc : TypeId × Value → H) : ∃ x, DataW.whole enc Tryz.prog ((World.laidAll Tryz.prog os Rows.heapUndoesRow.laid).forCall (fun _ _ => 0) ⟨#[], #[.agg #[.int .i64 0, .int .i64 0, .string ⟨#[]⟩, .slice none 0 0], .agg #[.int .i64 0, .int .i64 0, .string ⟨#[]⟩, .slice none 0 0], .slice none 0 0], []⟩).memory Tryz.f3.params.toList Rows.heapUndoesSpec.vars false #[.agg #[.int .i64 0, .int .i64 0, .string ⟨#[]⟩, .slice none 0 0], .agg #[.int .i64 0, .int .i64 0, .string ⟨#[]⟩, .slice none 0 0], .slice none 0 0].toList 8 = some x := Option.isSome_iff_exists.1 (by kernel_rfl)
set_option maxRecDepth 100000 in
theorem law_lifted (os : Os) (started : os.Started) (H : Type) (enc : TypeId × Value → H) (F : Stop.Interp) :
    ReturnsInHanded {} Tryz.checked os 3 .any ((OpenSpec.ofChange Rows.heapUndoesSpec).preRow enc Tryz.prog Tryz.f3 Rows.heapUndoesRow.domain false Rows.heapUndoesRow.laid) (((OpenSpec.ofChange Rows.heapUndoesSpec).at F).post enc Tryz.prog Tryz.f3 false true false false) := by
  obtain ⟨x, hx⟩ := law_reads os enc
  refine returnsInHanded_of_row (C := Tryz.checked) (s := OpenSpec.ofChange Rows.heapUndoesSpec) own started (by kernel_rfl) Tryz.func3
    (witness_row_at (enc := enc) (C := Tryz.checked) false (World.laidAll Tryz.prog os Rows.heapUndoesRow.laid) #[.agg #[.int .i64 0, .int .i64 0, .string ⟨#[]⟩, .slice none 0 0], .agg #[.int .i64 0, .int .i64 0, .string ⟨#[]⟩, .slice none 0 0], .slice none 0 0] (World.laidAll_os _ _ _) (by kernel_rfl) (by kernel_rfl) (by kernel_rfl)
      (OpenSpec.preRow_of_cond 8 hx rfl (fun k hk => by cases hk) (by kernel_rfl) (laid_met os _))) ?_
  intro W base args ds gs before hval hW _ _ _ hL _ _
  exact law_contract H enc W base args ds gs before hval hW (table hL)
theorem law_said : Rows.HeapUndoesSaid :=
  OpenClaim.holds_of_cond 3 Tryz.f3 rfl rfl rfl rfl rfl rfl rfl ⟨rfl, rfl, rfl, rfl, rfl⟩ rfl rfl rfl rfl rfl (by kernel_rfl) Tryz.func3 (by kernel_rfl)
    (of_decide_eq_true (by kernel_rfl)) (by unfold Func.isWrapper; first | (rw [if_pos (by decide +kernel)]; kernel_rfl) | (rw [if_neg (by decide +kernel)]; exact ⟨rfl, rfl⟩))
    (fun os started H enc _ F => by rw [OpenClaim.pre_eq_preRow]; exact law_lifted os started H enc F)
theorem law_plain (f : FuncId) (fn : Func) (hf : Tryz.pinned.checked.prog.funcNamed "resolvent/resolventlaw05.HeapUndoes" = some f) (hfn : Tryz.pinned.checked.prog.funcs[f]? = some fn) :
    true = Tryz.pinned.checked.prog.looks [] ∧ ∀ (j : Nat) t, fn.params[j]? = some t → Tryz.pinned.checked.prog.wantsStandIn t = false := by
  obtain rfl : f = 3 := Option.some.inj ((show Tryz.prog.funcNamed "resolvent/resolventlaw05.HeapUndoes" = some 3 by kernel_rfl).symm.trans hf) |>.symm
  obtain rfl : fn = Tryz.f3 := (Option.some.inj (Tryz.func3.symm.trans hfn)).symm
  refine ⟨by kernel_rfl, fun j t ht => ?_⟩
  rw [Tryz.params3] at ht
  have hm : t = 24 ∨ t = 22 := by simpa using Array.mem_of_getElem? ht
  rcases hm with rfl | rfl
  · exact (show Tryz.prog.wantsStandIn 24 = false by kernel_rfl)
  · exact (show Tryz.prog.wantsStandIn 22 = false by kernel_rfl)
theorem heapUndoes_card : Rows.HeapUndoesCardSaid :=
  Claim7.holds_tied_plain_at .later [] _ _ _ _ law_said (fun _ h => by cases h) (by kernel_rfl) (fun _ h => by cases h) heapUndoes_row_tie rfl ⟨rfl, rfl⟩ (by kernel_rfl) rfl law_plain (by kernel_rfl)
#print axioms heapUndoes_card
end Go.Proofs.YtnonfmaehfmigaaGreatDoor
