/- AsmPrograms: for every input the law returns true, in every world in which the listed variables lie as the program's text lays them; the card. Printed by gen_asproof.py. -/
import Derived.Test.YtpcihhdalofdiaaGreatDoorJQ15
import Derived.Test.YtpcihhdalofdiaaGreatDoorJQ03
import Derived.Test.YtpcihhdalofdiaaGreatDoorCards
import Derived.Test.YtpcihhdalofdiaaGreatDoorTie
import Derived.ProofKit
import Derived.OpenShut
import Derived.Deep.DeepHandedRow
import Derived.Deep.Fields
import Derived.Deep.Slices
import Derived.Lib.SmallJoins
import Derived.Lib.LaidTab
import Derived.Lay
import Derived.LaidMore
import Derived.Shelf.Vars
namespace Go.Proofs.YtpcihhdalofdiaaGreatDoor
open Go.Joins Go.ChangeShapes Go.WideShapes Go.ChangeAt Go.RowKit Go.Deep Go.ChangeMaps

theorem gTab : Tryz.prog.globalNamed "internal/strconv.uint64pow10" = some 0 := by kernel_rfl
theorem gTabType : (Tryz.prog.globals[0]?).map (·.type) = some 191 := by kernel_rfl
theorem cellsTab : Tryz.prog.cellsOf 191 = 20 := by kernel_rfl
theorem cellsU64 : Tryz.prog.cellsOf 176 = 1 := by kernel_rfl
theorem table {W : World} (h : laidMetH Tryz.prog Rows.asmProgramsRow.laid W) : Tab W :=
  Lib.tabIs_of_head (rest := []) gTab gTabType Tryz.underlying191 Tryz.underlying176 cellsU64 cellsTab (h.filter (fun x => x.1 == "internal/strconv.uint64pow10"))
/-- A listed variable that holds an error. -/
theorem err_cell {W : World} {nm tn : String} {g : Nat} {t : TypeId} {ms : Array (String × TypeId)} {d : DataW Unit} (hg : Tryz.prog.globalNamed nm = some g) (ht : (Tryz.prog.globals[g]?).map (·.type) = some t)
    (hi : Tryz.prog.underlying t = some (.interface ms)) (h : laidMet Tryz.prog [(nm, .iface tn d)] W) : ∃ ev, W.cell? ⟨g, 0, none⟩ = some ev ∧ (ev = .nilIface ∨ ∃ te pe, ev = .iface te pe) := by
  obtain ⟨ps, ⟨g', t', cs, fuel, p, q, hg', ht', hv, hd, _, _⟩, _, _⟩ := h
  obtain rfl := Option.some.inj (hg.symm.trans hg')
  obtain rfl := Option.some.inj (ht.symm.trans ht')
  obtain ⟨f1, u, v, hcs, _, _⟩ := iface_of_trod hi hd
  refine ⟨.iface u v, ?_, .inr ⟨u, v, rfl⟩⟩
  rw [World.var?_cell hg hv 0]
  have h0 : cs.toList[0]? = some (.iface u v) := by rw [hcs]; rfl
  simpa using h0
theorem errs_syn {W : World} (h : laidMetH Tryz.prog Rows.asmProgramsRow.laid W) : ∃ ev, W.cell? ⟨6, 0, none⟩ = some ev ∧ (ev = .nilIface ∨ ∃ te pe, ev = .iface te pe) := by
  have h1 : laidMetH Tryz.prog [("strconv.ErrSyntax", Rows.laid_strconv_ErrSyntax)] W := h.filter (fun x => x.1 == "strconv.ErrSyntax")
  rw [MakeChecks.laidMetH_plain _ _ _ (by kernel_rfl)] at h1
  exact err_cell (by kernel_rfl) (by kernel_rfl) Tryz.underlying151 h1
theorem errs_rng {W : World} (h : laidMetH Tryz.prog Rows.asmProgramsRow.laid W) : ∃ ev, W.cell? ⟨7, 0, none⟩ = some ev ∧ (ev = .nilIface ∨ ∃ te pe, ev = .iface te pe) := by
  have h1 : laidMetH Tryz.prog [("strconv.ErrRange", Rows.laid_strconv_ErrRange)] W := h.filter (fun x => x.1 == "strconv.ErrRange")
  rw [MakeChecks.laidMetH_plain _ _ _ (by kernel_rfl)] at h1
  exact err_cell (by kernel_rfl) (by kernel_rfl) Tryz.underlying151 h1
theorem st_of {W : World} (h : laidMetH Tryz.prog Rows.asmProgramsRow.laid W) (hs : W.ShapedOpen Tryz.prog) : St W :=
  ⟨table h, Go.Proofs.cell_of_shapedOpen_int (zero := #[.int .i64 0]) (t := 3) hs (of_decide_eq_true (by kernel_rfl)) (by kernel_rfl) rfl (by kernel_rfl) (by kernel_rfl) Tryz.underlying3, errs_syn h, errs_rng h⟩
theorem frame_of {w w' : World} (k : Keeps w w' []) : Below w.heap.size w w' := ⟨k.os, k.tape, k.output, k.size, fun i hi => k.block i hi (by simp)⟩

set_option maxRecDepth 100000 in
theorem law_contract (H : Type) (enc : TypeId × Value → H) (W : World) (base : Nat) (args : Array Value) (ds gs : List (DataW H)) (before : List MemPlace)
    (hval : ∀ (j : Nat) t v, Tryz.f3.params[j]? = some t → args[j]? = some v → Value.okWide Tryz.prog W .any base t v)
    (hW : DataW.Whole enc Tryz.prog Tryz.f3.params.toList Rows.asmProgramsSpec.vars false W args.toList ds gs before) (hS : St W) :
    Calls Tryz.prog 3 args W fun e W' => ∃ v, e = .returned v ∧ Rows.asmProgramsSpec.post enc Tryz.prog Tryz.f3 false true false false W args v W' := by
  have hW' := hW
  obtain ⟨p, q, hA0, hV, rfl, hfz, hnd⟩ := hW
  have hA : DataW.TrodAll enc Tryz.prog W 0 (fun _ => true) true Tryz.f3.params.toList args.toList ds p := hA0
  rw [Tryz.params3] at hA hval
  obtain ⟨v0, vs0, d0, ds0, p0, q0, hargs, rfl, rfl, h0, r0⟩ := trodAll_cons hA
  obtain ⟨rfl, rfl, rfl⟩ := trodAll_nil r0
  obtain rfl : args = #[v0] := by cases args; simp_all
  obtain ⟨rfl, rfl⟩ := trodVars_none hV
  have hv0 := hval 0 22 v0 rfl rfl
  have k0 := h0
  have lt0 : ∀ x ∈ p0, x.block < W.heap.size := by obtain ⟨m, hm⟩ := k0; exact DataW.trod_lt m _ _ _ hm
  obtain ⟨A, n, c, rfl⟩ := okWide_slice Tryz.underlying22 hv0
  obtain ⟨fuel, hf⟩ := h0
  obtain ⟨l, hl, hR, hz, _, hcap, hmax⟩ := list_of (encE := strE) strE_len (by omega) ⟨#[]⟩ (fun _ => True) Tryz.underlying22 (by kernel_rfl) (fun h => str_of h) (by simpa [Value.cells] using hf)
  clear hA0
  refine (asmPrograms_any l A n c W hl (by unfold maxLen at hmax; omega) hR hS).mono fun e W' ⟨he, hk⟩ => ?_
  have bel := frame_of hk
  subst he
  exact ⟨_, rfl, _, _, _, [], _, [], hW', trodAll_mk1 (shut_bool Tryz.underlying4 _), (trodAll_cons_mk (Below.trod laidOut (by kernel_rfl) (of_decide_eq_true (by kernel_rfl)) k0 bel lt0) trodAll_mk0), rfl, bel.frame _, fun h => by cases h⟩

theorem laid_met (os : Os) (args : Array Value) : laidMetH Tryz.prog Rows.asmProgramsRow.laid ((World.laidAll Tryz.prog os Rows.asmProgramsRow.laid).forCall (fun _ _ => 0) ⟨#[], args, []⟩).memory := by
  rw [MakeChecks.laidMetH_plain _ _ _ (by kernel_rfl)]
  exact laidMet_laidAll _ (by kernel_rfl) (by kernel_rfl)
theorem law_reads (os : Os) {H : Type} (enc : TypeId × Value → H) : ∃ x, DataW.whole enc Tryz.prog ((World.laidAll Tryz.prog os Rows.asmProgramsRow.laid).forCall (fun _ _ => 0) ⟨#[], #[.slice none 0 0], []⟩).memory Tryz.f3.params.toList Rows.asmProgramsSpec.vars false #[.slice none 0 0].toList 8 = some x := Option.isSome_iff_exists.1 (by kernel_rfl)
set_option maxRecDepth 100000 in
theorem law_lifted (os : Os) (started : os.Started) (H : Type) (enc : TypeId × Value → H) (F : Stop.Interp) :
    ReturnsInHanded {} Tryz.checked os 3 .any ((OpenSpec.ofChange Rows.asmProgramsSpec).preRow enc Tryz.prog Tryz.f3 Rows.asmProgramsRow.domain false Rows.asmProgramsRow.laid) (((OpenSpec.ofChange Rows.asmProgramsSpec).at F).post enc Tryz.prog Tryz.f3 false true false false) := by
  obtain ⟨x, hx⟩ := law_reads os enc
  refine returnsInHanded_of_row (C := Tryz.checked) (s := OpenSpec.ofChange Rows.asmProgramsSpec) own started (by kernel_rfl) Tryz.func3
    (witness_row_at (enc := enc) (C := Tryz.checked) false (World.laidAll Tryz.prog os Rows.asmProgramsRow.laid) #[.slice none 0 0] (World.laidAll_os _ _ _) (by kernel_rfl) (by kernel_rfl) (by kernel_rfl)
      (OpenSpec.preRow_of_cond 8 hx rfl (fun k hk => by cases hk) (by kernel_rfl) (laid_met os _))) ?_
  intro W base args ds gs before hval hW _ _ _ hL hSh _
  exact law_contract H enc W base args ds gs before hval hW (st_of hL hSh)
theorem law_said : Rows.AsmProgramsSaid :=
  OpenClaim.holds_of_cond 3 Tryz.f3 rfl rfl rfl rfl rfl rfl rfl ⟨rfl, rfl, rfl, rfl, rfl⟩ rfl rfl rfl rfl rfl (by kernel_rfl) Tryz.func3 (by kernel_rfl)
    (of_decide_eq_true (by kernel_rfl)) (by unfold Func.isWrapper; first | (rw [if_pos (by decide +kernel)]; kernel_rfl) | (rw [if_neg (by decide +kernel)]; exact ⟨rfl, rfl⟩))
    (fun os started H enc _ F => by rw [OpenClaim.pre_eq_preRow]; exact law_lifted os started H enc F)
theorem law_plain (f : FuncId) (fn : Func) (hf : Tryz.pinned.checked.prog.funcNamed "resolvent/resolventlaw09.AsmPrograms" = some f) (hfn : Tryz.pinned.checked.prog.funcs[f]? = some fn) :
    true = Tryz.pinned.checked.prog.looks [] ∧ ∀ (j : Nat) t, fn.params[j]? = some t → Tryz.pinned.checked.prog.wantsStandIn t = false := by
  obtain rfl : f = 3 := Option.some.inj ((show Tryz.prog.funcNamed "resolvent/resolventlaw09.AsmPrograms" = some 3 by kernel_rfl).symm.trans hf) |>.symm
  obtain rfl : fn = Tryz.f3 := (Option.some.inj (Tryz.func3.symm.trans hfn)).symm
  refine ⟨by kernel_rfl, fun j t ht => ?_⟩
  rw [Tryz.params3] at ht
  obtain rfl : t = 22 := by simpa using Array.mem_of_getElem? ht
  exact (show Tryz.prog.wantsStandIn 22 = false by kernel_rfl)
theorem asmPrograms_card : Rows.AsmProgramsCardSaid :=
  Claim7.holds_tied_plain_at .later [] _ _ _ _ law_said (fun _ h => by cases h) (by kernel_rfl) (fun _ h => by cases h) asmPrograms_row_tie rfl ⟨rfl, rfl⟩ (by kernel_rfl) rfl law_plain (by kernel_rfl)
#print axioms asmPrograms_card
end Go.Proofs.YtpcihhdalofdiaaGreatDoor
