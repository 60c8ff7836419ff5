/- CrcTurns: for every slice of bytes, every number and every word the law returns true, and the bytes read behind the call as before. No condition. -/
import Derived.Test.YtanabifmeahfdaaCrcTurns
import Derived.ProofKit
import Derived.OpenShut
import Derived.SizedLaws
namespace Go.Proofs.Ytanabifmeahfdaa
open Go.ChangeShapes Go.WideShapes Go.ChangeAt Go.RowKit

theorem own : ownKnob Try.prog.godebug = none := by kernel_rfl
theorem laidOut : laidOutB Try.prog = true := by kernel_rfl
theorem bytes_u8 : Try.prog.bytesOf 5 = 1 := by kernel_rfl

set_option maxHeartbeats 400000 in
theorem turns_short (A : Option Addr) (n c : Nat) (at_ by_ : Int) (w : World) (h5 : n < 5) :
    Calls Try.prog 4 #[.slice A n c, .int .i64 at_, .int .u32 by_] w fun e w' => e = .returned (.bool true) ∧ Below w.heap.size w w' := by
  have hd : decide ((n : Int) < 5) = true := by simp; omega
  go_enter Try.func4, Try.ntmps4
  go_wp2_with fail
  refine (crcTold_any _).mono ?_
  rintro e w2 ⟨rfl, hb3⟩
  go_wp2_with fail
  go_ret
  exact ⟨rfl, hb3⟩

set_option maxHeartbeats 400000 in
theorem turns_none (A : Option Addr) (n c : Nat) (at_ : Int) (w : World) (h5 : 5 ≤ n) :
    Calls Try.prog 4 #[.slice A n c, .int .i64 at_, .int .u32 0] w fun e w' => e = .returned (.bool true) ∧ Below w.heap.size w w' := by
  have hd : decide ((n : Int) < 5) = false := by simp; omega
  go_enter Try.func4, Try.ntmps4
  go_wp2_with fail
  refine (crcTold_any _).mono ?_
  rintro e w2 ⟨rfl, hb3⟩
  go_wp2_with fail
  go_ret
  exact ⟨rfl, hb3⟩

theorem turns_any (A : Option Addr) (n c : Nat) (l : List Int) (at_ by_ : Int) (w : World) (hl : l.length = n) (hn : n ≤ 140737488351232) (hc0 : A = none → c = 0)
    (hA : Nums .u8 w w.heap.size A l) (hB : IsByte l) (hy0 : 0 ≤ by_) (hy1 : by_ < 4294967296) :
    Calls Try.prog 4 #[.slice A n c, .int .i64 at_, .int .u32 by_] w fun e w' => e = .returned (.bool true) ∧ Below w.heap.size w w' := by
  by_cases h5 : n < 5
  · exact turns_short A n c at_ by_ w h5
  · by_cases h0 : by_ = 0
    · subst h0
      exact turns_none A n c at_ w (by omega)
    · obtain ⟨U, hU⟩ : ∃ U, IntKind.u64.wrap at_ = U := ⟨_, rfl⟩
      have hU0 : 0 ≤ U := by
        rw [← hU, IntKind.wrap_u64]
        omega
      have hm0 := Int.emod_nonneg U (b := 8 * (n : Int) - 32 + 1) (by omega)
      have hm1 := Int.emod_lt_of_pos U (b := 8 * (n : Int) - 32 + 1) (by omega)
      obtain ⟨k, hk⟩ := Int.eq_ofNat_of_zero_le hm0
      exact turns_main A n c l at_ by_ w hl hn (by omega) hc0 hA hB (by omega) hy1 (by simpa using h0) U hU hU0 k hk (by omega)

/-- What a slice of bytes that came in gives. -/
theorem nums_of_ints {K : IntKind} {w : World} {x : Addr} {zs : List Int} {len cap : Nat} (hl : len ≤ cap) (hz : zs.length = cap)
    (hcell : ∀ i, i < zs.length → w.cell? (x.add i) = some (.int K (zs.getD i 0))) : Nums K w w.heap.size (some x) (zs.take len) := by
  intro k hk
  rw [List.length_take] at hk
  have hc := hcell k (by omega)
  obtain ⟨b, off, spot⟩ := x
  have hspot : spot = none := by
    have h0 := World.cell?_spot (hcell 0 (by omega))
    simpa [Addr.add] using h0
  subst hspot
  rw [add_lit] at hc
  have hlt : b < w.heap.size := World.block_lt_of_cell? w _ hc
  refine ⟨b, off, zs[k], rfl, hlt, ?_, ?_⟩
  · rw [hc]
    simp [List.getD, List.getElem?_eq_getElem (show k < zs.length by omega)]
  · rw [List.getElem?_take, if_pos (by omega)]
    exact List.getElem?_eq_getElem (by omega)

set_option maxRecDepth 100000 in
theorem turns_lifted (os : Os) (started : os.Started) (H : Type) (enc : TypeId × Value → H) :
    ReturnsInHanded {} Try.checked os 4 .any (Rows.crcTurnsSpec.pre6 enc Try.prog Try.f4 Rows.crcTurnsRow.domain false) (Rows.crcTurnsSpec.post enc Try.prog Try.f4 false true false false) := by
  refine returnsInHanded_of_change_sized (C := Try.checked) own started (by kernel_rfl) Try.func4
    (ChangeSpec.witness6 (enc := enc) (C := Try.checked) false ⟨#[], #[.slice none 0 0, .int .i64 0, .int .u32 0], []⟩ 8 (by kernel_rfl) (by kernel_rfl) (by kernel_rfl) (by kernel_rfl)) ?_
  intro W base args ds gs before hval0 hW hcnd hsz0 _
  have hval : ∀ (j : Nat) t v, Try.f4.params[j]? = some t → args[j]? = some v → Value.okWide Try.prog W .any base t v := hval0
  have hsz : (DataW.weightsEach Try.prog (Try.f4.params.toList ++ Rows.crcTurnsSpec.plain.varTypes Try.prog) (ds ++ gs)).all (· ≤ reachBytes) = true := hsz0
  have hW' := hW
  obtain ⟨p, q, hA0, hV, rfl, hfz, hnd⟩ := hW
  have hA : DataW.TrodAll enc Try.prog W 0 (fun _ => true) true Try.f4.params.toList args.toList ds p := hA0
  rw [Try.params4] at hA hval hsz
  obtain ⟨v0, vs0, d0, ds0, p0, q0, hargs, rfl, rfl, h0, r0⟩ := trodAll_cons hA
  obtain ⟨v1, vs1, d1, ds1, p1, q1, rfl, rfl, rfl, h1, r1⟩ := trodAll_cons r0
  obtain ⟨v2, vs2, d2, ds2, p2, q2, rfl, rfl, rfl, h2, r2⟩ := trodAll_cons r1
  obtain ⟨rfl, rfl, rfl⟩ := trodAll_nil r2
  obtain rfl : args = #[v0, v1, v2] := by cases args; simp_all
  obtain ⟨rfl, rfl⟩ := trodVars_none hV
  obtain ⟨a0, len0, cap0, rfl⟩ := okWide_slice Try.underlying23 (hval 0 23 v0 rfl rfl)
  have k0 := h0
  have lt0 : ∀ x ∈ p0, x.block < W.heap.size := by obtain ⟨m, hm⟩ := k0; exact DataW.trod_lt m _ _ _ hm
  obtain ⟨l, w0, w1, w2, w3, w4⟩ : ∃ l : List Int, l.length = len0 ∧ Nums .u8 W W.heap.size a0 l ∧ IsByte l ∧ (a0 = none → cap0 = 0) ∧ len0 ≤ 140737488351232 := by
    obtain ⟨fuel, hf⟩ := h0
    rcases open_ints Try.underlying23 Try.underlying5 (by kernel_rfl) hf with ⟨hcs, _⟩ | ⟨x, len, cap, zs, hcs, _, hl, hm, hz, hx, hcell, hwz⟩
    · simp [Value.cells] at hcs
      obtain ⟨rfl, rfl, rfl⟩ := hcs
      exact ⟨[], rfl, Nums.nil, by unfold IsByte; simp, fun _ => rfl, by omega⟩
    · simp [Value.cells] at hcs
      obtain ⟨rfl, rfl, rfl⟩ := hcs
      have hz' : zs.length = cap0 := by simpa using hz
      simp only [Prod.mk.injEq] at hx
      obtain ⟨hx1, _⟩ := hx
      have hbs := sized_slice hsz (j := 0) (t := 23) (e := 5) rfl (by rw [hx1]; rfl) Try.underlying23
      rw [bytes_u8] at hbs
      simp only [lits, List.length_map, List.length_take, List.length_drop, reachBytes] at hbs
      refine ⟨zs.take len0, by rw [List.length_take]; omega, nums_of_ints hl hz' hcell, fun y hy => ?_, (fun hh => by cases hh), by omega⟩
      have := hwz y (List.mem_of_mem_take hy)
      simp [Lit.wf, IntKind.min, IntKind.max, IntKind.signed, IntKind.bits] at this
      omega
  obtain ⟨a1, rfl, rfl, rfl, x1⟩ := open_int Try.underlying3 (hval 1 3 v1 rfl rfl) h1
  obtain ⟨a2, rfl, rfl, rfl, x2⟩ := open_int Try.underlying24 (hval 2 24 v2 rfl rfl) h2
  have y2 : 0 ≤ a2 ∧ a2 < 4294967296 := by
    have := x2
    simp [Lit.wf, IntKind.min, IntKind.max, IntKind.signed, IntKind.bits] at this
    omega
  clear hA0 hval0
  refine (turns_any a0 len0 cap0 l a1 a2 W w0 w4 w3 w1 w2 y2.1 y2.2).mono fun e W' ⟨he, bel⟩ => ?_
  subst he
  exact ⟨_, rfl, _, _, _, [], _, [], hW', trodAll_mk1 (shut_bool Try.underlying4 _), (trodAll_cons_mk (Below.trod laidOut (by kernel_rfl) (of_decide_eq_true (by kernel_rfl)) k0 bel lt0) (trodAll_cons_mk (shut_int Try.underlying3 x1) (trodAll_cons_mk (shut_int Try.underlying24 x2) trodAll_mk0))), rfl, bel.frame _, fun h => by cases h⟩

theorem crcTurns_holds : Rows.CrcTurnsSaid :=
  OpenClaim.holds_of_wide 4 Try.f4 rfl rfl rfl rfl rfl rfl rfl ⟨rfl, rfl, rfl, rfl, rfl⟩ rfl rfl rfl rfl rfl (by kernel_rfl) Try.func4 (by kernel_rfl)
    (of_decide_eq_true (by kernel_rfl)) (by unfold Func.isWrapper; first | (rw [if_pos (by decide +kernel)]; kernel_rfl) | (rw [if_neg (by decide +kernel)]; exact ⟨rfl, rfl⟩))
    (fun os started H enc _ => turns_lifted os started H enc)
#print axioms crcTurns_holds
end Go.Proofs.Ytanabifmeahfdaa
