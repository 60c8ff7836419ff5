/- CodeRights, CodeMakes and CodeTexts: for every input the law returns true, in every world in which the listed variables lie as the program's text lays them; the cards. -/
import Derived.Test.YtiimlajhofikeaaDoorTxtM
import Derived.Test.YtiimlajhofikeaaDoorTxtN
import Derived.Test.YtiimlajhofikeaaDoorTxtP
import Derived.Test.YtiimlajhofikeaaDoorCards
import Derived.Test.YtiimlajhofikeaaDoorTie
import Derived.Test.YtiimlajhofikeaaDoorLift
import Derived.ProofKit
import Derived.OpenShut
import Derived.Deep.DeepHandedRow
import Derived.Deep.Fields
import Derived.Deep.Slices
import Derived.Lib.SmallJoins
import Derived.Lib.LaidTab
import Derived.Lay
import Derived.LaidMore
import Derived.Shelf.Vars
namespace Go.Proofs.YtiimlajhofikeaaDoor
open Go.Joins Go.ChangeShapes Go.WideShapes Go.ChangeAt Go.RowKit Go.Deep Go.ChangeMaps

theorem gTab : Tryd.prog.globalNamed "internal/strconv.uint64pow10" = some 3 := by kernel_rfl
theorem gTabType : (Tryd.prog.globals[3]?).map (·.type) = some 119 := by kernel_rfl
theorem cellsTab : Tryd.prog.cellsOf 119 = 20 := by kernel_rfl
theorem cellsU64 : Tryd.prog.cellsOf 104 = 1 := by kernel_rfl
theorem table {W : World} (h : laidMetH Tryd.prog Rows.codeMakesRow.laid W) : Tab W :=
  Lib.tabIs_of_head (rest := []) gTab gTabType Tryd.underlying119 Tryd.underlying104 cellsU64 cellsTab (h.filter (fun x => x.1 == "internal/strconv.uint64pow10"))
/-- A listed variable that holds an error. -/
theorem err_cell {W : World} {nm tn : String} {g : Nat} {t : TypeId} {ms : Array (String × TypeId)} {d : DataW Unit} (hg : Tryd.prog.globalNamed nm = some g) (ht : (Tryd.prog.globals[g]?).map (·.type) = some t)
    (hi : Tryd.prog.underlying t = some (.interface ms)) (h : laidMet Tryd.prog [(nm, .iface tn d)] W) : ∃ ev, W.cell? ⟨g, 0, none⟩ = some ev ∧ (ev = .nilIface ∨ ∃ te pe, ev = .iface te pe) := by
  obtain ⟨ps, ⟨g', t', cs, fuel, p, q, hg', ht', hv, hd, _, _⟩, _, _⟩ := h
  obtain rfl := Option.some.inj (hg.symm.trans hg')
  obtain rfl := Option.some.inj (ht.symm.trans ht')
  obtain ⟨f1, u, v, hcs, _, _⟩ := iface_of_trod hi hd
  refine ⟨.iface u v, ?_, .inr ⟨u, v, rfl⟩⟩
  rw [World.var?_cell hg hv 0]
  have h0 : cs.toList[0]? = some (.iface u v) := by rw [hcs]; rfl
  simpa using h0
theorem errs_syn {W : World} (h : laidMetH Tryd.prog Rows.codeMakesRow.laid W) : ∃ ev, W.cell? ⟨1, 0, none⟩ = some ev ∧ (ev = .nilIface ∨ ∃ te pe, ev = .iface te pe) := by
  have h1 : laidMetH Tryd.prog [("strconv.ErrSyntax", Rows.laid_strconv_ErrSyntax)] W := h.filter (fun x => x.1 == "strconv.ErrSyntax")
  rw [MakeChecks.laidMetH_plain _ _ _ (by kernel_rfl)] at h1
  exact err_cell (by kernel_rfl) (by kernel_rfl) Tryd.underlying70 h1
theorem errs_rng {W : World} (h : laidMetH Tryd.prog Rows.codeMakesRow.laid W) : ∃ ev, W.cell? ⟨2, 0, none⟩ = some ev ∧ (ev = .nilIface ∨ ∃ te pe, ev = .iface te pe) := by
  have h1 : laidMetH Tryd.prog [("strconv.ErrRange", Rows.laid_strconv_ErrRange)] W := h.filter (fun x => x.1 == "strconv.ErrRange")
  rw [MakeChecks.laidMetH_plain _ _ _ (by kernel_rfl)] at h1
  exact err_cell (by kernel_rfl) (by kernel_rfl) Tryd.underlying70 h1
theorem st_of {W : World} (h : laidMetH Tryd.prog Rows.codeMakesRow.laid W) (hs : W.ShapedOpen Tryd.prog) : St W :=
  ⟨table h, Go.Proofs.cell_of_shapedOpen_int (zero := #[.int .i64 0]) (t := 3) hs (of_decide_eq_true (by kernel_rfl)) (by kernel_rfl) rfl (by kernel_rfl) (by kernel_rfl) Tryd.underlying3, errs_syn h, errs_rng h⟩
theorem frame_of {w w' : World} (k : Keeps w w' []) : Below w.heap.size w w' := ⟨k.os, k.tape, k.output, k.size, fun i hi => k.block i hi (by simp)⟩

section
variable {H : Type} {enc : TypeId × Value → H} {w : World} {base : Nat} {sp : Nat → Bool} {held : Bool} {fuel : Nat} {cs : List Value} {y : DataW H × List MemPlace}
set_option maxRecDepth 100000 in
theorem four_of (h : DataW.trod enc Tryd.prog w base sp held fuel 22 cs = some y) : ∃ a b c d : Int, cs = [.int .i64 a, .int .i64 b, .int .i64 c, .int .i64 d] := by
  obtain ⟨xs, m, _, _, hl, hx, hi⟩ := DataW.trod_array Tryd.underlying22 h
  have e : Tryd.prog.cellsOf 22 = 4 := by kernel_rfl
  have e1 : Tryd.prog.cellsOf 3 = 1 := by kernel_rfl
  replace hl := hl.trans e
  match cs, hl, hi with
  | [c0, c1, c2, c3], _, hi =>
    match xs, hx, hi with
    | [y0, y1, y2, y3], _, hi =>
      have h0 := hi 0 (by omega)
      have h1 := hi 1 (by omega)
      have h2 := hi 2 (by omega)
      have h3 := hi 3 (by omega)
      simp only [e1, Nat.mul_one, List.drop, List.take] at h0 h1 h2 h3
      obtain ⟨x0, q0, _, _⟩ := DataW.trod_int Tryd.underlying3 h0
      obtain ⟨x1, q1, _, _⟩ := DataW.trod_int Tryd.underlying3 h1
      obtain ⟨x2, q2, _, _⟩ := DataW.trod_int Tryd.underlying3 h2
      obtain ⟨x3, q3, _, _⟩ := DataW.trod_int Tryd.underlying3 h3
      simp only [List.cons.injEq, and_true] at q0 q1 q2 q3
      subst q0 q1 q2 q3
      exact ⟨x0, x1, x2, x3, rfl⟩
set_option maxRecDepth 100000 in
theorem ins_of {v : Value} {d : DataW H} {p : List MemPlace} (h : DataW.Trod enc Tryd.prog w base sp held 24 v d p) : ∃ i, v = insV i := by
  obtain ⟨fuel, h⟩ := h
  obtain ⟨y0, y1, n, _, hl, h0, h1⟩ := trod_struct2 Tryd.underlying24 h
  have e : Tryd.prog.cellsOf 24 = 5 := by kernel_rfl
  have e0 : Tryd.prog.cellsOf 3 = 1 := by kernel_rfl
  have e1 : Tryd.prog.cellsOf 22 = 4 := by kernel_rfl
  replace hl := hl.trans e
  have hv : ∃ c, v = .agg c := by
    cases v <;> first | exact ⟨_, rfl⟩ | simp [Value.cells] at hl
  obtain ⟨c, rfl⟩ := hv
  obtain ⟨l⟩ := c
  simp only [Value.cells] at hl h0 h1
  match l, hl, h0, h1 with
  | [c0, c1, c2, c3, c4], _, h0, h1 =>
    simp only [e0, e1, List.drop, List.take] at h0 h1
    obtain ⟨x0, q0, _, _⟩ := DataW.trod_int Tryd.underlying3 h0
    obtain ⟨a, b, c, d, q1⟩ := four_of h1
    simp only [List.cons.injEq, and_true] at q0 q1
    obtain ⟨rfl, rfl, rfl, rfl⟩ := q1
    subst q0
    exact ⟨⟨x0, a, b, c, d⟩, rfl⟩
end

set_option maxRecDepth 100000 in
theorem rights_contract (H : Type) (enc : TypeId × Value → H) (W : World) (base : Nat) (args : Array Value) (ds gs : List (DataW H)) (before : List MemPlace)
    (hval : ∀ (j : Nat) t v, Tryd.f3.params[j]? = some t → args[j]? = some v → Value.okWide Tryd.prog W .any base t v)
    (hW : DataW.Whole enc Tryd.prog Tryd.f3.params.toList Rows.codeRightsSpec.vars false W args.toList ds gs before) (hS : St W) :
    Calls Tryd.prog 3 args W fun e W' => ∃ v, e = .returned v ∧ Rows.codeRightsSpec.post enc Tryd.prog Tryd.f3 false true false false W args v W' := by
  have hW' := hW
  obtain ⟨p, q, hA0, hV, rfl, hfz, hnd⟩ := hW
  have hA : DataW.TrodAll enc Tryd.prog W 0 (fun _ => true) true Tryd.f3.params.toList args.toList ds p := hA0
  rw [Tryd.params3] at hA hval
  obtain ⟨v0, vs0, d0, ds0, p0, q0, hargs, rfl, rfl, h0, r0⟩ := trodAll_cons hA
  obtain ⟨rfl, rfl, rfl⟩ := trodAll_nil r0
  obtain rfl : args = #[v0] := by cases args; simp_all
  obtain ⟨rfl, rfl⟩ := trodVars_none hV
  have k0 := h0
  have lt0 : ∀ x ∈ p0, x.block < W.heap.size := by obtain ⟨m, hm⟩ := k0; exact DataW.trod_lt m _ _ _ hm
  obtain ⟨i, rfl⟩ := ins_of h0
  clear hA0
  refine (codeRights_any i W hS).mono fun e W' ⟨he, hk⟩ => ?_
  have bel := frame_of hk
  subst he
  exact ⟨_, rfl, _, _, _, [], _, [], hW', trodAll_mk1 (shut_bool Tryd.underlying4 _), (trodAll_cons_mk (Below.trod laidOut (by kernel_rfl) (of_decide_eq_true (by kernel_rfl)) k0 bel lt0) trodAll_mk0), rfl, bel.frame _, fun h => by cases h⟩

set_option maxRecDepth 100000 in
theorem makes_contract (H : Type) (enc : TypeId × Value → H) (W : World) (base : Nat) (args : Array Value) (ds gs : List (DataW H)) (before : List MemPlace)
    (hval : ∀ (j : Nat) t v, Tryd.f4.params[j]? = some t → args[j]? = some v → Value.okWide Tryd.prog W .any base t v)
    (hW : DataW.Whole enc Tryd.prog Tryd.f4.params.toList Rows.codeMakesSpec.vars false W args.toList ds gs before) (hS : St W) :
    Calls Tryd.prog 4 args W fun e W' => ∃ v, e = .returned v ∧ Rows.codeMakesSpec.post enc Tryd.prog Tryd.f4 false true false false W args v W' := by
  have hW' := hW
  obtain ⟨p, q, hA0, hV, rfl, hfz, hnd⟩ := hW
  have hA : DataW.TrodAll enc Tryd.prog W 0 (fun _ => true) true Tryd.f4.params.toList args.toList ds p := hA0
  rw [Tryd.params4] at hA hval
  obtain ⟨v0, vs0, d0, ds0, p0, q0, hargs, rfl, rfl, h0, r0⟩ := trodAll_cons hA
  obtain ⟨v1, vs1, d1, ds1, p1, q1, rfl, rfl, rfl, h1, r1⟩ := trodAll_cons r0
  obtain ⟨rfl, rfl, rfl⟩ := trodAll_nil r1
  obtain rfl : args = #[v0, v1] := by cases args; simp_all
  obtain ⟨rfl, rfl⟩ := trodVars_none hV
  obtain ⟨a0, rfl, rfl, rfl, w0⟩ := open_int Tryd.underlying3 (hval 0 3 v0 rfl rfl) h0
  obtain ⟨a1, len1, cap1, rfl⟩ := okWide_slice Tryd.underlying31 (hval 1 31 v1 rfl rfl)
  have k1 := h1
  have lt1 : ∀ x ∈ p1, x.block < W.heap.size := by obtain ⟨m, hm⟩ := k1; exact DataW.trod_lt m _ _ _ hm
  obtain ⟨l, e1, e2, e3⟩ : ∃ l : List Int, l.length = len1 ∧ Nums .i64 W W.heap.size a1 l ∧ len1 ≤ 9223372036854775807 := by
    obtain ⟨fuel, hf⟩ := h1
    rcases open_ints Tryd.underlying31 Tryd.underlying3 (by kernel_rfl) hf with ⟨hcs, _⟩ | ⟨x, len, cap, zs, hcs, _, hl, hm, hz, hx, hcell, hwz⟩
    · simp [Value.cells] at hcs
      obtain ⟨rfl, rfl, rfl⟩ := hcs
      exact ⟨[], rfl, Nums.nil, by omega⟩
    · simp [Value.cells] at hcs
      obtain ⟨rfl, rfl, rfl⟩ := hcs
      have hz' : zs.length = cap1 := by simpa using hz
      have hm' : maxLen ≤ 9223372036854775807 := by unfold maxLen; omega
      exact ⟨zs.take len1, by rw [List.length_take]; omega, nums_of_cells hl hz' (fun i hi => hcell i (by omega)), by omega⟩
  clear hA0
  refine (codeMakes_any a0 a1 cap1 len1 l W hS e1 e3 e2).mono fun e W' ⟨he, hk⟩ => ?_
  have bel := frame_of hk
  subst he
  exact ⟨_, rfl, _, _, _, [], _, [], hW', trodAll_mk1 (shut_bool Tryd.underlying4 _), (trodAll_cons_mk (shut_int Tryd.underlying3 w0) (trodAll_cons_mk (Below.trod laidOut (by kernel_rfl) (of_decide_eq_true (by kernel_rfl)) k1 bel lt1) trodAll_mk0)), rfl, bel.frame _, fun h => by cases h⟩

set_option maxRecDepth 100000 in
theorem texts_contract (H : Type) (enc : TypeId × Value → H) (W : World) (base : Nat) (args : Array Value) (ds gs : List (DataW H)) (before : List MemPlace)
    (hval : ∀ (j : Nat) t v, Tryd.f5.params[j]? = some t → args[j]? = some v → Value.okWide Tryd.prog W .any base t v)
    (hW : DataW.Whole enc Tryd.prog Tryd.f5.params.toList Rows.codeTextsSpec.vars false W args.toList ds gs before) (hS : St W) :
    Calls Tryd.prog 5 args W fun e W' => ∃ v, e = .returned v ∧ Rows.codeTextsSpec.post enc Tryd.prog Tryd.f5 false true false false W args v W' := by
  have hW' := hW
  obtain ⟨p, q, hA0, hV, rfl, hfz, hnd⟩ := hW
  have hA : DataW.TrodAll enc Tryd.prog W 0 (fun _ => true) true Tryd.f5.params.toList args.toList ds p := hA0
  rw [Tryd.params5] at hA hval
  obtain ⟨v0, vs0, d0, ds0, p0, q0, hargs, rfl, rfl, h0, r0⟩ := trodAll_cons hA
  obtain ⟨v1, vs1, d1, ds1, p1, q1, rfl, rfl, rfl, h1, r1⟩ := trodAll_cons r0
  obtain ⟨rfl, rfl, rfl⟩ := trodAll_nil r1
  obtain rfl : args = #[v0, v1] := by cases args; simp_all
  obtain ⟨rfl, rfl⟩ := trodVars_none hV
  have k0 := h0
  have lt0 : ∀ x ∈ p0, x.block < W.heap.size := by obtain ⟨m, hm⟩ := k0; exact DataW.trod_lt m _ _ _ hm
  obtain ⟨i, rfl⟩ := ins_of h0
  obtain ⟨s1, rfl, rfl, rfl, w1⟩ := open_string Tryd.underlying9 (hval 1 9 v1 rfl rfl) h1
  clear hA0
  refine (codeTexts_any i s1 W hS).mono fun e W' ⟨he, hk⟩ => ?_
  have bel := frame_of hk
  subst he
  exact ⟨_, rfl, _, _, _, [], _, [], hW', trodAll_mk1 (shut_bool Tryd.underlying4 _), (trodAll_cons_mk (Below.trod laidOut (by kernel_rfl) (of_decide_eq_true (by kernel_rfl)) k0 bel lt0) (trodAll_cons_mk (shut_string Tryd.underlying9 w1) trodAll_mk0)), rfl, bel.frame _, fun h => by cases h⟩

theorem laid_met (os : Os) (args : Array Value) : laidMetH Tryd.prog Rows.codeMakesRow.laid ((World.laidAll Tryd.prog os Rows.codeMakesRow.laid).forCall (fun _ _ => 0) ⟨#[], args, []⟩).memory := by
  rw [MakeChecks.laidMetH_plain _ _ _ (by kernel_rfl)]
  exact laidMet_laidAll _ (by kernel_rfl) (by kernel_rfl)

theorem rights_reads (os : Os) {H : Type} (enc : TypeId × Value → H) : ∃ x, DataW.whole enc Tryd.prog ((World.laidAll Tryd.prog os Rows.codeMakesRow.laid).forCall (fun _ _ => 0) ⟨#[], #[.agg #[.int .i64 0, .int .i64 0, .int .i64 0, .int .i64 0, .int .i64 0]], []⟩).memory Tryd.f3.params.toList Rows.codeRightsSpec.vars false #[.agg #[.int .i64 0, .int .i64 0, .int .i64 0, .int .i64 0, .int .i64 0]].toList 8 = some x := Option.isSome_iff_exists.1 (by kernel_rfl)
set_option maxRecDepth 100000 in
theorem rights_lifted (os : Os) (started : os.Started) (H : Type) (enc : TypeId × Value → H) (F : Stop.Interp) :
    ReturnsInHanded {} Tryd.checked os 3 .any ((OpenSpec.ofChange Rows.codeRightsSpec).preRow enc Tryd.prog Tryd.f3 Rows.codeRightsRow.domain false Rows.codeRightsRow.laid) (((OpenSpec.ofChange Rows.codeRightsSpec).at F).post enc Tryd.prog Tryd.f3 false true false false) := by
  obtain ⟨x, hx⟩ := rights_reads os enc
  refine returnsInHanded_of_row (C := Tryd.checked) (s := OpenSpec.ofChange Rows.codeRightsSpec) own started (by kernel_rfl) Tryd.func3
    (witness_row_at (enc := enc) (C := Tryd.checked) false (World.laidAll Tryd.prog os Rows.codeMakesRow.laid) #[.agg #[.int .i64 0, .int .i64 0, .int .i64 0, .int .i64 0, .int .i64 0]] (World.laidAll_os _ _ _) (by kernel_rfl) (by kernel_rfl) (by kernel_rfl)
      (OpenSpec.preRow_of_cond 8 hx rfl (fun k hk => by cases hk) (by kernel_rfl) (laid_met os _))) ?_
  intro W base args ds gs before hval hW _ _ _ hL hSh _
  exact rights_contract H enc W base args ds gs before hval hW (st_of hL hSh)
theorem rights_said : Rows.CodeRightsSaid :=
  OpenClaim.holds_of_cond 3 Tryd.f3 rfl rfl rfl rfl rfl rfl rfl ⟨rfl, rfl, rfl, rfl, rfl⟩ rfl rfl rfl rfl rfl (by kernel_rfl) Tryd.func3 (by kernel_rfl)
    (of_decide_eq_true (by kernel_rfl)) (by unfold Func.isWrapper; first | (rw [if_pos (by decide +kernel)]; kernel_rfl) | (rw [if_neg (by decide +kernel)]; exact ⟨rfl, rfl⟩))
    (fun os started H enc _ F => by rw [OpenClaim.pre_eq_preRow]; exact rights_lifted os started H enc F)
theorem rights_plain (f : FuncId) (fn : Func) (hf : Tryd.pinned.checked.prog.funcNamed "resolvent/resolventlaw06.CodeRights" = some f) (hfn : Tryd.pinned.checked.prog.funcs[f]? = some fn) :
    true = Tryd.pinned.checked.prog.looks [] ∧ ∀ (j : Nat) t, fn.params[j]? = some t → Tryd.pinned.checked.prog.wantsStandIn t = false := by
  obtain rfl : f = 3 := Option.some.inj ((show Tryd.prog.funcNamed "resolvent/resolventlaw06.CodeRights" = some 3 by kernel_rfl).symm.trans hf) |>.symm
  obtain rfl : fn = Tryd.f3 := (Option.some.inj (Tryd.func3.symm.trans hfn)).symm
  refine ⟨by kernel_rfl, fun j t ht => ?_⟩
  rw [Tryd.params3] at ht
  have hm := Array.mem_of_getElem? ht
  obtain rfl : t = 24 := by simpa using hm
  exact (show Tryd.prog.wantsStandIn 24 = false by kernel_rfl)
theorem codeRights_card : Rows.CodeRightsCardSaid :=
  Claim7.holds_tied_plain_at .later [] _ _ _ _ rights_said (fun _ h => by cases h) (by kernel_rfl) (fun _ h => by cases h) codeRights_row_tie rfl ⟨rfl, rfl⟩ (by kernel_rfl) rfl rights_plain (by kernel_rfl)
#print axioms codeRights_card

theorem makes_reads (os : Os) {H : Type} (enc : TypeId × Value → H) : ∃ x, DataW.whole enc Tryd.prog ((World.laidAll Tryd.prog os Rows.codeMakesRow.laid).forCall (fun _ _ => 0) ⟨#[], #[.int .i64 0, .slice none 0 0], []⟩).memory Tryd.f4.params.toList Rows.codeMakesSpec.vars false #[.int .i64 0, .slice none 0 0].toList 8 = some x := Option.isSome_iff_exists.1 (by kernel_rfl)
set_option maxRecDepth 100000 in
theorem makes_lifted (os : Os) (started : os.Started) (H : Type) (enc : TypeId × Value → H) (F : Stop.Interp) :
    ReturnsInHanded {} Tryd.checked os 4 .any ((OpenSpec.ofChange Rows.codeMakesSpec).preRow enc Tryd.prog Tryd.f4 Rows.codeMakesRow.domain false Rows.codeMakesRow.laid) (((OpenSpec.ofChange Rows.codeMakesSpec).at F).post enc Tryd.prog Tryd.f4 false true false false) := by
  obtain ⟨x, hx⟩ := makes_reads os enc
  refine returnsInHanded_of_row (C := Tryd.checked) (s := OpenSpec.ofChange Rows.codeMakesSpec) own started (by kernel_rfl) Tryd.func4
    (witness_row_at (enc := enc) (C := Tryd.checked) false (World.laidAll Tryd.prog os Rows.codeMakesRow.laid) #[.int .i64 0, .slice none 0 0] (World.laidAll_os _ _ _) (by kernel_rfl) (by kernel_rfl) (by kernel_rfl)
      (OpenSpec.preRow_of_cond 8 hx rfl (fun k hk => by cases hk) (by kernel_rfl) (laid_met os _))) ?_
  intro W base args ds gs before hval hW _ _ _ hL hSh _
  exact makes_contract H enc W base args ds gs before hval hW (st_of hL hSh)
theorem makes_said : Rows.CodeMakesSaid :=
  OpenClaim.holds_of_cond 4 Tryd.f4 rfl rfl rfl rfl rfl rfl rfl ⟨rfl, rfl, rfl, rfl, rfl⟩ rfl rfl rfl rfl rfl (by kernel_rfl) Tryd.func4 (by kernel_rfl)
    (of_decide_eq_true (by kernel_rfl)) (by unfold Func.isWrapper; first | (rw [if_pos (by decide +kernel)]; kernel_rfl) | (rw [if_neg (by decide +kernel)]; exact ⟨rfl, rfl⟩))
    (fun os started H enc _ F => by rw [OpenClaim.pre_eq_preRow]; exact makes_lifted os started H enc F)
theorem makes_plain (f : FuncId) (fn : Func) (hf : Tryd.pinned.checked.prog.funcNamed "resolvent/resolventlaw06.CodeMakes" = some f) (hfn : Tryd.pinned.checked.prog.funcs[f]? = some fn) :
    true = Tryd.pinned.checked.prog.looks [] ∧ ∀ (j : Nat) t, fn.params[j]? = some t → Tryd.pinned.checked.prog.wantsStandIn t = false := by
  obtain rfl : f = 4 := Option.some.inj ((show Tryd.prog.funcNamed "resolvent/resolventlaw06.CodeMakes" = some 4 by kernel_rfl).symm.trans hf) |>.symm
  obtain rfl : fn = Tryd.f4 := (Option.some.inj (Tryd.func4.symm.trans hfn)).symm
  refine ⟨by kernel_rfl, fun j t ht => ?_⟩
  rw [Tryd.params4] at ht
  have hm := Array.mem_of_getElem? ht
  have hm2 : t = 3 ∨ t = 31 := by simpa using hm
  rcases hm2 with rfl | rfl
  · exact (show Tryd.prog.wantsStandIn 3 = false by kernel_rfl)
  · exact (show Tryd.prog.wantsStandIn 31 = false by kernel_rfl)
theorem codeMakes_card : Rows.CodeMakesCardSaid :=
  Claim7.holds_tied_plain_at .later [] _ _ _ _ makes_said (fun _ h => by cases h) (by kernel_rfl) (fun _ h => by cases h) codeMakes_row_tie rfl ⟨rfl, rfl⟩ (by kernel_rfl) rfl makes_plain (by kernel_rfl)
#print axioms codeMakes_card

theorem texts_reads (os : Os) {H : Type} (enc : TypeId × Value → H) : ∃ x, DataW.whole enc Tryd.prog ((World.laidAll Tryd.prog os Rows.codeMakesRow.laid).forCall (fun _ _ => 0) ⟨#[], #[.agg #[.int .i64 0, .int .i64 0, .int .i64 0, .int .i64 0, .int .i64 0], .string ⟨#[]⟩], []⟩).memory Tryd.f5.params.toList Rows.codeTextsSpec.vars false #[.agg #[.int .i64 0, .int .i64 0, .int .i64 0, .int .i64 0, .int .i64 0], .string ⟨#[]⟩].toList 8 = some x := Option.isSome_iff_exists.1 (by kernel_rfl)
set_option maxRecDepth 100000 in
theorem texts_lifted (os : Os) (started : os.Started) (H : Type) (enc : TypeId × Value → H) (F : Stop.Interp) :
    ReturnsInHanded {} Tryd.checked os 5 .any ((OpenSpec.ofChange Rows.codeTextsSpec).preRow enc Tryd.prog Tryd.f5 Rows.codeTextsRow.domain false Rows.codeTextsRow.laid) (((OpenSpec.ofChange Rows.codeTextsSpec).at F).post enc Tryd.prog Tryd.f5 false true false false) := by
  obtain ⟨x, hx⟩ := texts_reads os enc
  refine returnsInHanded_of_row (C := Tryd.checked) (s := OpenSpec.ofChange Rows.codeTextsSpec) own started (by kernel_rfl) Tryd.func5
    (witness_row_at (enc := enc) (C := Tryd.checked) false (World.laidAll Tryd.prog os Rows.codeMakesRow.laid) #[.agg #[.int .i64 0, .int .i64 0, .int .i64 0, .int .i64 0, .int .i64 0], .string ⟨#[]⟩] (World.laidAll_os _ _ _) (by kernel_rfl) (by kernel_rfl) (by kernel_rfl)
      (OpenSpec.preRow_of_cond 8 hx rfl (fun k hk => by cases hk) (by kernel_rfl) (laid_met os _))) ?_
  intro W base args ds gs before hval hW _ _ _ hL hSh _
  exact texts_contract H enc W base args ds gs before hval hW (st_of hL hSh)
theorem texts_said : Rows.CodeTextsSaid :=
  OpenClaim.holds_of_cond 5 Tryd.f5 rfl rfl rfl rfl rfl rfl rfl ⟨rfl, rfl, rfl, rfl, rfl⟩ rfl rfl rfl rfl rfl (by kernel_rfl) Tryd.func5 (by kernel_rfl)
    (of_decide_eq_true (by kernel_rfl)) (by unfold Func.isWrapper; first | (rw [if_pos (by decide +kernel)]; kernel_rfl) | (rw [if_neg (by decide +kernel)]; exact ⟨rfl, rfl⟩))
    (fun os started H enc _ F => by rw [OpenClaim.pre_eq_preRow]; exact texts_lifted os started H enc F)
theorem texts_plain (f : FuncId) (fn : Func) (hf : Tryd.pinned.checked.prog.funcNamed "resolvent/resolventlaw06.CodeTexts" = some f) (hfn : Tryd.pinned.checked.prog.funcs[f]? = some fn) :
    true = Tryd.pinned.checked.prog.looks [] ∧ ∀ (j : Nat) t, fn.params[j]? = some t → Tryd.pinned.checked.prog.wantsStandIn t = false := by
  obtain rfl : f = 5 := Option.some.inj ((show Tryd.prog.funcNamed "resolvent/resolventlaw06.CodeTexts" = some 5 by kernel_rfl).symm.trans hf) |>.symm
  obtain rfl : fn = Tryd.f5 := (Option.some.inj (Tryd.func5.symm.trans hfn)).symm
  refine ⟨by kernel_rfl, fun j t ht => ?_⟩
  rw [Tryd.params5] at ht
  have hm := Array.mem_of_getElem? ht
  have hm2 : t = 24 ∨ t = 9 := by simpa using hm
  rcases hm2 with rfl | rfl
  · exact (show Tryd.prog.wantsStandIn 24 = false by kernel_rfl)
  · exact (show Tryd.prog.wantsStandIn 9 = false by kernel_rfl)
theorem codeTexts_card : Rows.CodeTextsCardSaid :=
  Claim7.holds_tied_plain_at .later [] _ _ _ _ texts_said (fun _ h => by cases h) (by kernel_rfl) (fun _ h => by cases h) codeTexts_row_tie rfl ⟨rfl, rfl⟩ (by kernel_rfl) rfl texts_plain (by kernel_rfl)
#print axioms codeTexts_card
end Go.Proofs.YtiimlajhofikeaaDoor
