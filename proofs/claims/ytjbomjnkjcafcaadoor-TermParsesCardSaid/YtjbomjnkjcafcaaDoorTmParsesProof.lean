/- TermParses: for every input the law returns true, in every world in which the listed variables lie as the program's text lays them; the card. -/
import Derived.Test.YtjbomjnkjcafcaaDoorTmParses
import Derived.Test.YtjbomjnkjcafcaaDoorTmArgs
import Derived.Test.YtjbomjnkjcafcaaDoorCards
import Derived.Test.YtjbomjnkjcafcaaDoorTie
import Derived.ProofKit
import Derived.OpenShut
import Derived.Deep.DeepHandedRow
import Derived.Lib.LaidTab
import Derived.Lay
import Derived.LaidMore
namespace Go.Proofs.YtjbomjnkjcafcaaDoor
open Go.Joins Go.ChangeShapes Go.WideShapes Go.ChangeAt Go.RowKit Go.Deep Go.ChangeMaps

theorem gTab : Tryd.prog.globalNamed "internal/strconv.uint64pow10" = some 0 := by kernel_rfl
theorem gTabType : (Tryd.prog.globals[0]?).map (·.type) = some 104 := by kernel_rfl
theorem cellsTab : Tryd.prog.cellsOf 104 = 20 := by kernel_rfl
theorem cellsU64 : Tryd.prog.cellsOf 83 = 1 := by kernel_rfl
theorem table {W : World} (h : laidMetH Tryd.prog Rows.termParsesRow.laid W) : Tab W :=
  Lib.tabIs_of_head (rest := []) gTab gTabType Tryd.underlying104 Tryd.underlying83 cellsU64 cellsTab (h.filter (fun x => x.1 == "internal/strconv.uint64pow10"))
/-- A listed variable that holds an error. -/
theorem err_cell {W : World} {nm tn : String} {g : Nat} {t : TypeId} {ms : Array (String × TypeId)} {d : DataW Unit} (hg : Tryd.prog.globalNamed nm = some g) (ht : (Tryd.prog.globals[g]?).map (·.type) = some t)
    (hi : Tryd.prog.underlying t = some (.interface ms)) (h : laidMet Tryd.prog [(nm, .iface tn d)] W) : ∃ ev, W.cell? ⟨g, 0, none⟩ = some ev ∧ (ev = .nilIface ∨ ∃ te pe, ev = .iface te pe) := by
  obtain ⟨ps, ⟨g', t', cs, fuel, p, q, hg', ht', hv, hd, _, _⟩, _, _⟩ := h
  obtain rfl := Option.some.inj (hg.symm.trans hg')
  obtain rfl := Option.some.inj (ht.symm.trans ht')
  obtain ⟨f1, u, v, hcs, _, _⟩ := iface_of_trod hi hd
  refine ⟨.iface u v, ?_, .inr ⟨u, v, rfl⟩⟩
  rw [World.var?_cell hg hv 0]
  have h0 : cs.toList[0]? = some (.iface u v) := by rw [hcs]; rfl
  simpa using h0
theorem errs_syn {W : World} (h : laidMetH Tryd.prog Rows.termParsesRow.laid W) : ∃ ev, W.cell? ⟨2, 0, none⟩ = some ev ∧ (ev = .nilIface ∨ ∃ te pe, ev = .iface te pe) := by
  have h1 : laidMetH Tryd.prog [("strconv.ErrSyntax", Rows.laid_strconv_ErrSyntax)] W := h.filter (fun x => x.1 == "strconv.ErrSyntax")
  rw [MakeChecks.laidMetH_plain _ _ _ (by kernel_rfl)] at h1
  exact err_cell (by kernel_rfl) (by kernel_rfl) Tryd.underlying78 h1
theorem errs_rng {W : World} (h : laidMetH Tryd.prog Rows.termParsesRow.laid W) : ∃ ev, W.cell? ⟨3, 0, none⟩ = some ev ∧ (ev = .nilIface ∨ ∃ te pe, ev = .iface te pe) := by
  have h1 : laidMetH Tryd.prog [("strconv.ErrRange", Rows.laid_strconv_ErrRange)] W := h.filter (fun x => x.1 == "strconv.ErrRange")
  rw [MakeChecks.laidMetH_plain _ _ _ (by kernel_rfl)] at h1
  exact err_cell (by kernel_rfl) (by kernel_rfl) Tryd.underlying78 h1
theorem st_of {W : World} (h : laidMetH Tryd.prog Rows.termParsesRow.laid W) : St W := ⟨table h, errs_syn h, errs_rng h⟩
theorem frame_of {w w' : World} (k : Keeps w w' []) : Below w.heap.size w w' := ⟨k.os, k.tape, k.output, k.size, fun i hi => k.block i hi (by simp)⟩

set_option maxRecDepth 100000 in
theorem law_contract (H : Type) (enc : TypeId × Value → H) (W : World) (base : Nat) (args : Array Value) (ds gs : List (DataW H)) (before : List MemPlace)
    (hval : ∀ (j : Nat) t v, Tryd.f4.params[j]? = some t → args[j]? = some v → Value.okWide Tryd.prog W .any base t v)
    (hW : DataW.Whole enc Tryd.prog Tryd.f4.params.toList Rows.termParsesSpec.vars false W args.toList ds gs before) (hS : St W) :
    Calls Tryd.prog 4 args W fun e W' => ∃ v, e = .returned v ∧ Rows.termParsesSpec.post enc Tryd.prog Tryd.f4 false true false false W args v W' := by
  have hW' := hW
  obtain ⟨p, q, hA0, hV, rfl, hfz, hnd⟩ := hW
  have hA : DataW.TrodAll enc Tryd.prog W 0 (fun _ => true) true Tryd.f4.params.toList args.toList ds p := hA0
  rw [Tryd.params4] at hA hval
  obtain ⟨v0, vs0, d0, ds0, p0, q0, hargs, rfl, rfl, h0, r0⟩ := trodAll_cons hA
  obtain ⟨rfl, rfl, rfl⟩ := trodAll_nil r0
  obtain rfl : args = #[v0] := by cases args; simp_all
  obtain ⟨rfl, rfl⟩ := trodVars_none hV
  obtain ⟨s0, rfl, rfl, rfl, w0⟩ := open_string Tryd.underlying9 (hval 0 9 v0 rfl rfl) h0
  clear hA0
  refine (termParses_any s0 W hS).mono fun e W' ⟨he, hk⟩ => ?_
  have bel := frame_of hk
  subst he
  exact ⟨_, rfl, _, _, _, [], _, [], hW', trodAll_mk1 (shut_bool Tryd.underlying4 _), (trodAll_cons_mk (shut_string Tryd.underlying9 w0) trodAll_mk0), rfl, bel.frame _, fun h => by cases h⟩

theorem laid_met (os : Os) (args : Array Value) : laidMetH Tryd.prog Rows.termParsesRow.laid ((World.laidAll Tryd.prog os Rows.termParsesRow.laid).forCall (fun _ _ => 0) ⟨#[], args, []⟩).memory := by
  rw [MakeChecks.laidMetH_plain _ _ _ (by kernel_rfl)]
  exact laidMet_laidAll _ (by kernel_rfl) (by kernel_rfl)
theorem law_reads (os : Os) {H : Type} (enc : TypeId × Value → H) : ∃ x, DataW.whole enc Tryd.prog ((World.laidAll Tryd.prog os Rows.termParsesRow.laid).forCall (fun _ _ => 0) ⟨#[], #[.string ⟨#[]⟩], []⟩).memory Tryd.f4.params.toList Rows.termParsesSpec.vars false #[.string ⟨#[]⟩].toList 8 = some x := Option.isSome_iff_exists.1 (by kernel_rfl)
set_option maxRecDepth 100000 in
theorem law_lifted (os : Os) (started : os.Started) (H : Type) (enc : TypeId × Value → H) (F : Stop.Interp) :
    ReturnsInHanded {} Tryd.checked os 4 .any ((OpenSpec.ofChange Rows.termParsesSpec).preRow enc Tryd.prog Tryd.f4 Rows.termParsesRow.domain false Rows.termParsesRow.laid) (((OpenSpec.ofChange Rows.termParsesSpec).at F).post enc Tryd.prog Tryd.f4 false true false false) := by
  obtain ⟨x, hx⟩ := law_reads os enc
  refine returnsInHanded_of_row (C := Tryd.checked) (s := OpenSpec.ofChange Rows.termParsesSpec) own started (by kernel_rfl) Tryd.func4
    (witness_row_at (enc := enc) (C := Tryd.checked) false (World.laidAll Tryd.prog os Rows.termParsesRow.laid) #[.string ⟨#[]⟩] (World.laidAll_os _ _ _) (by kernel_rfl) (by kernel_rfl) (by kernel_rfl)
      (OpenSpec.preRow_of_cond 8 hx rfl (fun k hk => by cases hk) (by kernel_rfl) (laid_met os _))) ?_
  intro W base args ds gs before hval hW _ _ _ hL _ _
  exact law_contract H enc W base args ds gs before hval hW (st_of hL)
theorem law_said : Rows.TermParsesSaid :=
  OpenClaim.holds_of_cond 4 Tryd.f4 rfl rfl rfl rfl rfl rfl rfl ⟨rfl, rfl, rfl, rfl, rfl⟩ rfl rfl rfl rfl rfl (by kernel_rfl) Tryd.func4 (by kernel_rfl)
    (of_decide_eq_true (by kernel_rfl)) (by unfold Func.isWrapper; first | (rw [if_pos (by decide +kernel)]; kernel_rfl) | (rw [if_neg (by decide +kernel)]; exact ⟨rfl, rfl⟩))
    (fun os started H enc _ F => by rw [OpenClaim.pre_eq_preRow]; exact law_lifted os started H enc F)
theorem law_plain (f : FuncId) (fn : Func) (hf : Tryd.pinned.checked.prog.funcNamed "resolvent/resolventlaw03.TermParses" = some f) (hfn : Tryd.pinned.checked.prog.funcs[f]? = some fn) :
    true = Tryd.pinned.checked.prog.looks [] ∧ ∀ (j : Nat) t, fn.params[j]? = some t → Tryd.pinned.checked.prog.wantsStandIn t = false := by
  obtain rfl : f = 4 := Option.some.inj ((show Tryd.prog.funcNamed "resolvent/resolventlaw03.TermParses" = some 4 by kernel_rfl).symm.trans hf) |>.symm
  obtain rfl : fn = Tryd.f4 := (Option.some.inj (Tryd.func4.symm.trans hfn)).symm
  refine ⟨by kernel_rfl, fun j t ht => ?_⟩
  rw [Tryd.params4] at ht
  obtain rfl : t = 9 := by simpa using Array.mem_of_getElem? ht
  exact (show Tryd.prog.wantsStandIn 9 = false by kernel_rfl)
theorem termParses_card : Rows.TermParsesCardSaid :=
  Claim7.holds_tied_plain_at .later [] _ _ _ _ law_said (fun _ h => by cases h) (by kernel_rfl) (fun _ h => by cases h) termParses_row_tie rfl ⟨rfl, rfl⟩ (by kernel_rfl) rfl law_plain (by kernel_rfl)
#print axioms termParses_card
end Go.Proofs.YtjbomjnkjcafcaaDoor
