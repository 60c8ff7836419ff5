/- slices.Equal at four types; the program's Same; the document's Same. (printed by gen_same.py) -/
import Derived.Test.YtpcihhdalofdiaaGreatDoorJQ02
import Derived.Test.YtpcihhdalofdiaaGreatDoorJQ01
import Derived.ProofKit
import Derived.OpenShut
import Derived.SizedLaws
import Derived.JoinedCond
import Derived.Deep.Matrix
import Derived.Lib.SmallJoins
import Derived.Deep.Slices
import Derived.Deep.Fields
namespace Go.Proofs.YtpcihhdalofdiaaGreatDoor
open Go.RowKit
attribute [local irreducible] kindsOf nameOf bigB checkE

attribute [local go_sem] ins_arr_eq

theorem eq_len {α : Type} [DecidableEq α] {l m : List α} {n k : Nat} (h1 : l.length = n) (h2 : m.length = k) (h : n ≠ k) : decide (l = m) = false := by
  simp only [decide_eq_false_iff_not]
  rintro rfl
  omega
theorem eq_no {α : Type} [DecidableEq α] {l m : List α} {k : Nat} {x y : α} (h1 : l[k]? = some x) (h2 : m[k]? = some y) (h : x ≠ y) : decide (l = m) = false := by
  simp only [decide_eq_false_iff_not]
  rintro rfl
  rw [h1] at h2
  exact h (by injection h2)
theorem eq_step {α : Type} {l m : List α} {k : Nat} {x y : α} (h1 : l[k]? = some x) (h2 : m[k]? = some y) (h : x = y) (ht : l.take k = m.take k) : l.take (k + 1) = m.take (k + 1) := by
  rw [List.take_add_one, List.take_add_one, h1, h2, ht, h]
theorem eq_yes {α : Type} [DecidableEq α] {l m : List α} {n : Nat} (h1 : l.length = n) (h2 : m.length = n) (h : l.take n = m.take n) : decide (l = m) = true := by
  rw [List.take_of_length_le (by omega), List.take_of_length_le (by omega)] at h
  simpa using h
theorem eq_obj (a b : LObj) : decide (a = b) = (decide (a.atoms = b.atoms) && (decide (a.funs = b.funs) && (decide (a.preds = b.preds) && decide (a.code = b.code)))) := by
  obtain ⟨a1, a2, a3, a4⟩ := a
  obtain ⟨b1, b2, b3, b4⟩ := b
  simp only [LObj.mk.injEq, Bool.decide_and]

structure Box2 (w wr : World) (t : TypeId) (cs ds : Array Value) : Prop where
  b1 : Blk wr w.heap.size t cs
  b2 : Blk wr (w.heap.size + 1) t ds
  keep : Keeps w wr []
theorem Box2.go {w wr W : World} {t : TypeId} {cs ds : Array Value} (s : Box2 w wr t cs ds) (k : Keeps wr W []) : Box2 w W t cs ds := ⟨s.b1.keep k (by simp), s.b2.keep k (by simp), s.keep.trans k⟩
theorem Box2.new (w : World) (t : TypeId) (cs ds : Array Value) : Box2 w ((w.alloc (.cells cs t)).alloc (.cells ds t)) t cs ds :=
  ⟨(Blk.new w t cs).alloc _, Blk.newAt t ds (by simp), ((Keeps.refl w []).alloc _).alloc _⟩
def SameCalls (f : FuncId) (a b : LObj) : Prop :=
  ∀ (Aa Af Ap Ac Ba Bf Bp Bc : Option Addr) (na nf np nc ma mf mp mc ca cf cp cc da df dp dc : Nat) (w : World), ObIs w a Aa Af Ap Ac ca cf cp cc → ObIs w b Ba Bf Bp Bc da df dp dc → Fits a → Fits b →
    a.atoms.length = na → a.funs.length = nf → a.preds.length = np → a.code.length = nc → b.atoms.length = ma → b.funs.length = mf → b.preds.length = mp → b.code.length = mc →
    Calls Tryz.prog f #[.agg #[.slice Aa na ca, .slice Af nf cf, .slice Ap np cp, .slice Ac nc cc], .agg #[.slice Ba ma da, .slice Bf mf df, .slice Bp mp dp, .slice Bc mc dc]] w (Told (decide (a = b)) w)

set_option maxRecDepth 100000 in
set_option maxHeartbeats 12800000 in
theorem refSame_any (a b : LObj) : SameCalls 10 a b := by
  intro Aa Af Ap Ac Ba Bf Bp Bc na nf np nc ma mf mp mc ca cf cp cc da df dp dc w h h' hf hf' la lf lp lc la' lf' lp' lc'
  have HB : Hid (Box2 w ((w.alloc (.cells #[.slice Aa na ca, .slice Af nf cf, .slice Ap np cp, .slice Ac nc cc] 39)).alloc (.cells #[.slice Ba ma da, .slice Bf mf df, .slice Bp mp dp, .slice Bc mc dc] 39)) 39 #[.slice Aa na ca, .slice Af nf cf, .slice Ap np cp, .slice Ac nc cc] #[.slice Ba ma da, .slice Bf mf df, .slice Bp mp dp, .slice Bc mc dc]) := Box2.new _ _ _ _
  have HQ := Lib.hid (eq_obj a b)
  have H1 := Lib.hid h
  have H2 := Lib.hid h'
  have ga : na ≤ 65536 := by have := hf.atoms; omega
  have La := Lib.hid la
  have Ma := Lib.hid la'
  have gf : nf ≤ 65536 := by have := hf.funs; omega
  have Lf := Lib.hid lf
  have Mf := Lib.hid lf'
  have gp : np ≤ 65536 := by have := hf.preds; omega
  have Lp := Lib.hid lp
  have Mp := Lib.hid lp'
  have gc : nc ≤ 65536 := by have := hf.code; omega
  have Lc := Lib.hid lc
  have Mc := Lib.hid lc'
  clear h h' hf hf' la lf lp lc la' lf' lp' lc'
  have x0 := HB.out.b1.cell 0
  have y0 := HB.out.b2.cell 0
  have x1 := HB.out.b1.cell 1
  have y1 := HB.out.b2.cell 1
  have x2 := HB.out.b1.cell 2
  have y2 := HB.out.b2.cell 2
  have x3 := HB.out.b1.cell 3
  have y3 := HB.out.b2.cell 3
  by_cases o0 : na = ma
  case neg =>
    have d : ((na : Int) == (ma : Int)) = false := by simp; omega
    have d' : ((na : Int) != (ma : Int)) = true := by simp; omega
    have HV : Hid (decide (a = b) = false) := by show _ = _; rw [HQ.out, eq_len La.out Ma.out o0]; simp
    go_enter Tryz.func10, Tryz.ntmps10
    go_wp2_with fail
    go_ret
    exact ⟨by rw [HV.out]; rfl, HB.out.keep⟩
  subst o0
  by_cases o1 : nf = mf
  case neg =>
    have d : ((nf : Int) == (mf : Int)) = false := by simp; omega
    have d' : ((nf : Int) != (mf : Int)) = true := by simp; omega
    have HV : Hid (decide (a = b) = false) := by show _ = _; rw [HQ.out, eq_len Lf.out Mf.out o1]; simp
    go_enter Tryz.func10, Tryz.ntmps10
    go_wp2_with fail
    go_ret
    exact ⟨by rw [HV.out]; rfl, HB.out.keep⟩
  subst o1
  by_cases o2 : np = mp
  case neg =>
    have d : ((np : Int) == (mp : Int)) = false := by simp; omega
    have d' : ((np : Int) != (mp : Int)) = true := by simp; omega
    have HV : Hid (decide (a = b) = false) := by show _ = _; rw [HQ.out, eq_len Lp.out Mp.out o2]; simp
    go_enter Tryz.func10, Tryz.ntmps10
    go_wp2_with fail
    go_ret
    exact ⟨by rw [HV.out]; rfl, HB.out.keep⟩
  subst o2
  by_cases o3 : nc = mc
  case neg =>
    have d : ((nc : Int) == (mc : Int)) = false := by simp; omega
    have d' : ((nc : Int) != (mc : Int)) = true := by simp; omega
    have HV : Hid (decide (a = b) = false) := by show _ = _; rw [HQ.out, eq_len Lc.out Mc.out o3]; simp
    go_enter Tryz.func10, Tryz.ntmps10
    go_wp2_with fail
    go_ret
    exact ⟨by rw [HV.out]; rfl, HB.out.keep⟩
  subst o3
  go_enter Tryz.func10, Tryz.ntmps10
  go_upto_block 0 with fail
  go_cut [] (fun wx => Hid (a.atoms = b.atoms) ∧ Box2 w wx 39 #[.slice Aa na ca, .slice Af nf cf, .slice Ap np cp, .slice Ac nc cc] #[.slice Ba na da, .slice Bf nf df, .slice Bp np dp, .slice Bc nc dc])
  case first =>
    go_wp2_with fail
    clear x0 x1 x2 x3 y0 y1 y2 y3
    go_loopw [5] (fun i wr => ∃ k : Nat, k ≤ na ∧ i = .int .i64 k ∧ Hid (a.atoms.take k = b.atoms.take k) ∧ Box2 w wr 39 #[.slice Aa na ca, .slice Af nf cf, .slice Ap np cp, .slice Ac nc cc] #[.slice Ba na da, .slice Bf nf df, .slice Bp np dp, .slice Bc nc dc]) (fun i _ => na - (intOf i).toNat)
    case atStart => exact ⟨0, Nat.zero_le _, rfl, rfl, HB.out⟩
    case round =>
      obtain ⟨k, hk, rfl, HT, st⟩ := hrel
      have HS := Lib.hid st
      have p1 := st.b1.cell 0
      have p2 := st.b2.cell 0
      clear st HB
      by_cases hlt : k < na
      · obtain ⟨x, hx⟩ := at_of La.out hlt
        obtain ⟨y, hy⟩ := at_of Ma.out hlt
        obtain ⟨b1, off, rfl, hb, hc⟩ := (H1.out.atoms).field strE_len hx (by omega)
        obtain ⟨b2, off2, rfl, hb2, hc2⟩ := (H2.out.atoms).field strE_len hy (by omega)
        have HX := Lib.hid hx
        have HY := Lib.hid hy
        have q0 : wr.cell? ⟨b1, off + k * 1, none⟩ = some (.string x) := (HS.out.keep.cell0 hb).trans (hc 0 _ rfl)
        have r0 : wr.cell? ⟨b2, off2 + k * 1, none⟩ = some (.string y) := (HS.out.keep.cell0 hb2).trans (hc2 0 _ rfl)
        rw [Nat.mul_one] at q0 r0
        clear hx hy hc hc2
        have b0 : (0 : Int) ≤ (k : Int) := Int.natCast_nonneg _
        have b3 : (k : Int) < (na : Int) := by omega
        by_cases n0 : x = y
        · have e0 : (x.toList == y.toList) = true := str_beq n0
          have HT2 := Lib.hid (eq_step HX.out HY.out (n0) HT.out)
          clear n0
          go_wp2_with fail
          refine wp_region_tx (fun W' => W'.cell? ⟨w.heap.size, 0, none⟩ = some (.slice (some ⟨b1, off, none⟩) na ca) ∧ W'.cell? ⟨w.heap.size + 1, 0, none⟩ = some (.slice (some ⟨b2, off2, none⟩) na da) ∧ W'.cell? ⟨b1, off + k, none⟩ = some (.string x) ∧ W'.cell? ⟨b2, off2 + k, none⟩ = some (.string y)) [(0, true), (1, true), (2, true), (3, true), (4, true), (5, true), (6, true), (7, true), (8, true), (9, true), (10, false)] (by kernel_rfl) (by kernel_rfl) (by exact ⟨p1, p2, q0, r0⟩) (fun hHeld => ?_)
          (repeat (first | (refine wpTx_take (v := ?_) rfl (by assumption) ?_ (by rfl) ?_; rotate_left; (focus (intro w' hSw; (try dsimp only at hSw); go_simp; (try with_reducible rfl); done)); simp only [Act.put, List.setIfInBounds_toArray, List.set_cons_zero, List.set_cons_succ]) | (refine wpTx_skip rfl (by assumption) (by rfl) ?_; simp only [Act.put, List.setIfInBounds_toArray, List.set_cons_zero, List.set_cons_succ])))
          refine wpTx_last rfl (fun K hK => ?_)
          go_simp
          refine hK.out _ _ (NoPanic.normal ?_); clear hK K; (try simp only [Act.put, List.setIfInBounds_toArray, List.set_cons_zero, List.set_cons_succ])
          go_wp2_with fail
          go_roundw
          case rel => exact ⟨k + 1, by omega, by go_num, HT2.out, HS.out.go (Keeps.refl _ []).drew⟩
          case measure => simp [intOf]; omega
        · have e0 : (x.toList == y.toList) = false := str_bne n0
          have HV : Hid (decide (a = b) = false) := by show _ = _; rw [HQ.out, eq_no HX.out HY.out n0]; simp
          clear n0
          go_wp2_with fail
          refine wp_region_tx (fun W' => W'.cell? ⟨w.heap.size, 0, none⟩ = some (.slice (some ⟨b1, off, none⟩) na ca) ∧ W'.cell? ⟨w.heap.size + 1, 0, none⟩ = some (.slice (some ⟨b2, off2, none⟩) na da) ∧ W'.cell? ⟨b1, off + k, none⟩ = some (.string x) ∧ W'.cell? ⟨b2, off2 + k, none⟩ = some (.string y)) [(0, true), (1, true), (2, true), (3, true), (4, true), (5, true), (6, true), (7, true), (8, true), (9, true), (10, false)] (by kernel_rfl) (by kernel_rfl) (by exact ⟨p1, p2, q0, r0⟩) (fun hHeld => ?_)
          (repeat (first | (refine wpTx_take (v := ?_) rfl (by assumption) ?_ (by rfl) ?_; rotate_left; (focus (intro w' hSw; (try dsimp only at hSw); go_simp; (try with_reducible rfl); done)); simp only [Act.put, List.setIfInBounds_toArray, List.set_cons_zero, List.set_cons_succ]) | (refine wpTx_skip rfl (by assumption) (by rfl) ?_; simp only [Act.put, List.setIfInBounds_toArray, List.set_cons_zero, List.set_cons_succ])))
          refine wpTx_last rfl (fun K hK => ?_)
          go_simp
          refine hK.out _ _ (NoPanic.normal ?_); clear hK K; (try simp only [Act.put, List.setIfInBounds_toArray, List.set_cons_zero, List.set_cons_succ])
          go_wp2_with fail
          go_ret
          exact ⟨by rw [HV.out]; rfl, HS.out.keep.drew⟩
      · obtain rfl : na = k := by omega
        have HE := Lib.hid (of_decide_eq_true (eq_yes La.out Ma.out HT.out))
        go_wp2_with fail
        go_meet
        exact ⟨HE.out, HS.out⟩
  case rest =>
  obtain ⟨HE0, st⟩ := hcut
  clear HB x0 x1 x2 x3 y0 y1 y2 y3
  have HB := Lib.hid st
  have x0 := HB.out.b1.cell 0
  have y0 := HB.out.b2.cell 0
  have x1 := HB.out.b1.cell 1
  have y1 := HB.out.b2.cell 1
  have x2 := HB.out.b1.cell 2
  have y2 := HB.out.b2.cell 2
  have x3 := HB.out.b1.cell 3
  have y3 := HB.out.b2.cell 3
  clear st
  go_upto_block 2 with fail
  go_cut [] (fun wx => Hid (a.funs = b.funs) ∧ Box2 w wx 39 #[.slice Aa na ca, .slice Af nf cf, .slice Ap np cp, .slice Ac nc cc] #[.slice Ba na da, .slice Bf nf df, .slice Bp np dp, .slice Bc nc dc])
  case first =>
    go_wp2_with fail
    clear x0 x1 x2 x3 y0 y1 y2 y3
    go_loopw [6] (fun i wr => ∃ k : Nat, k ≤ nf ∧ i = .int .i64 k ∧ Hid (a.funs.take k = b.funs.take k) ∧ Box2 w wr 39 #[.slice Aa na ca, .slice Af nf cf, .slice Ap np cp, .slice Ac nc cc] #[.slice Ba na da, .slice Bf nf df, .slice Bp np dp, .slice Bc nc dc]) (fun i _ => nf - (intOf i).toNat)
    case atStart => exact ⟨0, Nat.zero_le _, rfl, rfl, HB.out⟩
    case round =>
      obtain ⟨k, hk, rfl, HT, st⟩ := hrel
      have HS := Lib.hid st
      have p1 := st.b1.cell 1
      have p2 := st.b2.cell 1
      clear st HB
      by_cases hlt : k < nf
      · obtain ⟨x, hx⟩ := at_of Lf.out hlt
        obtain ⟨y, hy⟩ := at_of Mf.out hlt
        obtain ⟨b1, off, rfl, hb, hc⟩ := (H1.out.funs).field funE_len hx (by omega)
        obtain ⟨b2, off2, rfl, hb2, hc2⟩ := (H2.out.funs).field funE_len hy (by omega)
        have HX := Lib.hid hx
        have HY := Lib.hid hy
        have q0 : wr.cell? ⟨b1, off + k * 2, none⟩ = some (.string x.name) := (HS.out.keep.cell0 hb).trans (hc 0 _ rfl)
        have r0 : wr.cell? ⟨b2, off2 + k * 2, none⟩ = some (.string y.name) := (HS.out.keep.cell0 hb2).trans (hc2 0 _ rfl)
        have q1 : wr.cell? ⟨b1, off + k * 2 + 1, none⟩ = some (.int .i64 x.arity) := (HS.out.keep.cell0 hb).trans (hc 1 _ rfl)
        have r1 : wr.cell? ⟨b2, off2 + k * 2 + 1, none⟩ = some (.int .i64 y.arity) := (HS.out.keep.cell0 hb2).trans (hc2 1 _ rfl)
        clear hx hy hc hc2
        have b0 : (0 : Int) ≤ (k : Int) := Int.natCast_nonneg _
        have b3 : (k : Int) < (nf : Int) := by omega
        by_cases n0 : x.name = y.name
        · have e0 : (x.name.toList == y.name.toList) = true := str_beq n0
          by_cases n1 : x.arity = y.arity
          · have e1 : (x.arity == y.arity) = true := by simpa using n1
            have HT2 := Lib.hid (eq_step HX.out HY.out (by cases x; cases y; simp only at n0 n1; subst n0 n1; rfl) HT.out)
            clear n0 n1
            go_wp2_with fail
            refine wp_region_tx (fun W' => W'.cell? ⟨w.heap.size, 1, none⟩ = some (.slice (some ⟨b1, off, none⟩) nf cf) ∧ W'.cell? ⟨w.heap.size + 1, 1, none⟩ = some (.slice (some ⟨b2, off2, none⟩) nf df) ∧ W'.cell? ⟨b1, off + k * 2, none⟩ = some (.string x.name) ∧ W'.cell? ⟨b1, off + k * 2 + 1, none⟩ = some (.int .i64 x.arity) ∧ W'.cell? ⟨b2, off2 + k * 2, none⟩ = some (.string y.name) ∧ W'.cell? ⟨b2, off2 + k * 2 + 1, none⟩ = some (.int .i64 y.arity)) [(0, true), (1, true), (2, true), (3, true), (4, true), (5, true), (6, true), (7, true), (8, true), (9, true), (10, false)] (by kernel_rfl) (by kernel_rfl) (by exact ⟨p1, p2, q0, q1, r0, r1⟩) (fun hHeld => ?_)
            (repeat (first | (refine wpTx_take (v := ?_) rfl (by assumption) ?_ (by rfl) ?_; rotate_left; (focus (intro w' hSw; (try dsimp only at hSw); go_simp; (try with_reducible rfl); done)); simp only [Act.put, List.setIfInBounds_toArray, List.set_cons_zero, List.set_cons_succ]) | (refine wpTx_skip rfl (by assumption) (by rfl) ?_; simp only [Act.put, List.setIfInBounds_toArray, List.set_cons_zero, List.set_cons_succ])))
            refine wpTx_last rfl (fun K hK => ?_)
            go_simp
            refine hK.out _ _ (NoPanic.normal ?_); clear hK K; (try simp only [Act.put, List.setIfInBounds_toArray, List.set_cons_zero, List.set_cons_succ])
            go_wp2_with fail
            go_roundw
            case rel => exact ⟨k + 1, by omega, by go_num, HT2.out, HS.out.go (Keeps.refl _ []).drew⟩
            case measure => simp [intOf]; omega
          · have e1 : (x.arity == y.arity) = false := by simpa using n1
            have HV : Hid (decide (a = b) = false) := by show _ = _; rw [HQ.out, eq_no HX.out HY.out (fun h => n1 (by rw [h]))]; simp
            clear n0 n1
            go_wp2_with fail
            refine wp_region_tx (fun W' => W'.cell? ⟨w.heap.size, 1, none⟩ = some (.slice (some ⟨b1, off, none⟩) nf cf) ∧ W'.cell? ⟨w.heap.size + 1, 1, none⟩ = some (.slice (some ⟨b2, off2, none⟩) nf df) ∧ W'.cell? ⟨b1, off + k * 2, none⟩ = some (.string x.name) ∧ W'.cell? ⟨b1, off + k * 2 + 1, none⟩ = some (.int .i64 x.arity) ∧ W'.cell? ⟨b2, off2 + k * 2, none⟩ = some (.string y.name) ∧ W'.cell? ⟨b2, off2 + k * 2 + 1, none⟩ = some (.int .i64 y.arity)) [(0, true), (1, true), (2, true), (3, true), (4, true), (5, true), (6, true), (7, true), (8, true), (9, true), (10, false)] (by kernel_rfl) (by kernel_rfl) (by exact ⟨p1, p2, q0, q1, r0, r1⟩) (fun hHeld => ?_)
            (repeat (first | (refine wpTx_take (v := ?_) rfl (by assumption) ?_ (by rfl) ?_; rotate_left; (focus (intro w' hSw; (try dsimp only at hSw); go_simp; (try with_reducible rfl); done)); simp only [Act.put, List.setIfInBounds_toArray, List.set_cons_zero, List.set_cons_succ]) | (refine wpTx_skip rfl (by assumption) (by rfl) ?_; simp only [Act.put, List.setIfInBounds_toArray, List.set_cons_zero, List.set_cons_succ])))
            refine wpTx_last rfl (fun K hK => ?_)
            go_simp
            refine hK.out _ _ (NoPanic.normal ?_); clear hK K; (try simp only [Act.put, List.setIfInBounds_toArray, List.set_cons_zero, List.set_cons_succ])
            go_wp2_with fail
            go_ret
            exact ⟨by rw [HV.out]; rfl, HS.out.keep.drew⟩
        · have e0 : (x.name.toList == y.name.toList) = false := str_bne n0
          have HV : Hid (decide (a = b) = false) := by show _ = _; rw [HQ.out, eq_no HX.out HY.out (fun h => n0 (by rw [h]))]; simp
          clear n0
          go_wp2_with fail
          refine wp_region_tx (fun W' => W'.cell? ⟨w.heap.size, 1, none⟩ = some (.slice (some ⟨b1, off, none⟩) nf cf) ∧ W'.cell? ⟨w.heap.size + 1, 1, none⟩ = some (.slice (some ⟨b2, off2, none⟩) nf df) ∧ W'.cell? ⟨b1, off + k * 2, none⟩ = some (.string x.name) ∧ W'.cell? ⟨b1, off + k * 2 + 1, none⟩ = some (.int .i64 x.arity) ∧ W'.cell? ⟨b2, off2 + k * 2, none⟩ = some (.string y.name) ∧ W'.cell? ⟨b2, off2 + k * 2 + 1, none⟩ = some (.int .i64 y.arity)) [(0, true), (1, true), (2, true), (3, true), (4, true), (5, true), (6, true), (7, true), (8, true), (9, true), (10, false)] (by kernel_rfl) (by kernel_rfl) (by exact ⟨p1, p2, q0, q1, r0, r1⟩) (fun hHeld => ?_)
          (repeat (first | (refine wpTx_take (v := ?_) rfl (by assumption) ?_ (by rfl) ?_; rotate_left; (focus (intro w' hSw; (try dsimp only at hSw); go_simp; (try with_reducible rfl); done)); simp only [Act.put, List.setIfInBounds_toArray, List.set_cons_zero, List.set_cons_succ]) | (refine wpTx_skip rfl (by assumption) (by rfl) ?_; simp only [Act.put, List.setIfInBounds_toArray, List.set_cons_zero, List.set_cons_succ])))
          refine wpTx_last rfl (fun K hK => ?_)
          go_simp
          refine hK.out _ _ (NoPanic.normal ?_); clear hK K; (try simp only [Act.put, List.setIfInBounds_toArray, List.set_cons_zero, List.set_cons_succ])
          go_wp2_with fail
          go_ret
          exact ⟨by rw [HV.out]; rfl, HS.out.keep.drew⟩
      · obtain rfl : nf = k := by omega
        have HE := Lib.hid (of_decide_eq_true (eq_yes Lf.out Mf.out HT.out))
        go_wp2_with fail
        go_meet
        exact ⟨HE.out, HS.out⟩
  case rest =>
  obtain ⟨HE1, st⟩ := hcut
  clear HB x0 x1 x2 x3 y0 y1 y2 y3
  have HB := Lib.hid st
  have x0 := HB.out.b1.cell 0
  have y0 := HB.out.b2.cell 0
  have x1 := HB.out.b1.cell 1
  have y1 := HB.out.b2.cell 1
  have x2 := HB.out.b1.cell 2
  have y2 := HB.out.b2.cell 2
  have x3 := HB.out.b1.cell 3
  have y3 := HB.out.b2.cell 3
  clear st
  go_upto_block 4 with fail
  go_cut [] (fun wx => Hid (a.preds = b.preds) ∧ Box2 w wx 39 #[.slice Aa na ca, .slice Af nf cf, .slice Ap np cp, .slice Ac nc cc] #[.slice Ba na da, .slice Bf nf df, .slice Bp np dp, .slice Bc nc dc])
  case first =>
    go_wp2_with fail
    clear x0 x1 x2 x3 y0 y1 y2 y3
    go_loopw [7] (fun i wr => ∃ k : Nat, k ≤ np ∧ i = .int .i64 k ∧ Hid (a.preds.take k = b.preds.take k) ∧ Box2 w wr 39 #[.slice Aa na ca, .slice Af nf cf, .slice Ap np cp, .slice Ac nc cc] #[.slice Ba na da, .slice Bf nf df, .slice Bp np dp, .slice Bc nc dc]) (fun i _ => np - (intOf i).toNat)
    case atStart => exact ⟨0, Nat.zero_le _, rfl, rfl, HB.out⟩
    case round =>
      obtain ⟨k, hk, rfl, HT, st⟩ := hrel
      have HS := Lib.hid st
      have p1 := st.b1.cell 2
      have p2 := st.b2.cell 2
      clear st HB
      by_cases hlt : k < np
      · obtain ⟨x, hx⟩ := at_of Lp.out hlt
        obtain ⟨y, hy⟩ := at_of Mp.out hlt
        obtain ⟨b1, off, rfl, hb, hc⟩ := (H1.out.preds).field predE_len hx (by omega)
        obtain ⟨b2, off2, rfl, hb2, hc2⟩ := (H2.out.preds).field predE_len hy (by omega)
        have HX := Lib.hid hx
        have HY := Lib.hid hy
        have q0 : wr.cell? ⟨b1, off + k * 3, none⟩ = some (.string x.name) := (HS.out.keep.cell0 hb).trans (hc 0 _ rfl)
        have r0 : wr.cell? ⟨b2, off2 + k * 3, none⟩ = some (.string y.name) := (HS.out.keep.cell0 hb2).trans (hc2 0 _ rfl)
        have q1 : wr.cell? ⟨b1, off + k * 3 + 1, none⟩ = some (.int .i64 x.arity) := (HS.out.keep.cell0 hb).trans (hc 1 _ rfl)
        have r1 : wr.cell? ⟨b2, off2 + k * 3 + 1, none⟩ = some (.int .i64 y.arity) := (HS.out.keep.cell0 hb2).trans (hc2 1 _ rfl)
        have q2 : wr.cell? ⟨b1, off + k * 3 + 2, none⟩ = some (.int .i64 x.entry) := (HS.out.keep.cell0 hb).trans (hc 2 _ rfl)
        have r2 : wr.cell? ⟨b2, off2 + k * 3 + 2, none⟩ = some (.int .i64 y.entry) := (HS.out.keep.cell0 hb2).trans (hc2 2 _ rfl)
        clear hx hy hc hc2
        have b0 : (0 : Int) ≤ (k : Int) := Int.natCast_nonneg _
        have b3 : (k : Int) < (np : Int) := by omega
        by_cases n0 : x.name = y.name
        · have e0 : (x.name.toList == y.name.toList) = true := str_beq n0
          by_cases n1 : x.arity = y.arity
          · have e1 : (x.arity == y.arity) = true := by simpa using n1
            by_cases n2 : x.entry = y.entry
            · have e2 : (x.entry == y.entry) = true := by simpa using n2
              have HT2 := Lib.hid (eq_step HX.out HY.out (by cases x; cases y; simp only at n0 n1 n2; subst n0 n1 n2; rfl) HT.out)
              clear n0 n1 n2
              go_wp2_with fail
              refine wp_region_tx (fun W' => W'.cell? ⟨w.heap.size, 2, none⟩ = some (.slice (some ⟨b1, off, none⟩) np cp) ∧ W'.cell? ⟨w.heap.size + 1, 2, none⟩ = some (.slice (some ⟨b2, off2, none⟩) np dp) ∧ W'.cell? ⟨b1, off + k * 3, none⟩ = some (.string x.name) ∧ W'.cell? ⟨b1, off + k * 3 + 1, none⟩ = some (.int .i64 x.arity) ∧ W'.cell? ⟨b1, off + k * 3 + 2, none⟩ = some (.int .i64 x.entry) ∧ W'.cell? ⟨b2, off2 + k * 3, none⟩ = some (.string y.name) ∧ W'.cell? ⟨b2, off2 + k * 3 + 1, none⟩ = some (.int .i64 y.arity) ∧ W'.cell? ⟨b2, off2 + k * 3 + 2, none⟩ = some (.int .i64 y.entry)) [(0, true), (1, true), (2, true), (3, true), (4, true), (5, true), (6, true), (7, true), (8, true), (9, true), (10, false)] (by kernel_rfl) (by kernel_rfl) (by exact ⟨p1, p2, q0, q1, q2, r0, r1, r2⟩) (fun hHeld => ?_)
              (repeat (first | (refine wpTx_take (v := ?_) rfl (by assumption) ?_ (by rfl) ?_; rotate_left; (focus (intro w' hSw; (try dsimp only at hSw); go_simp; (try with_reducible rfl); done)); simp only [Act.put, List.setIfInBounds_toArray, List.set_cons_zero, List.set_cons_succ]) | (refine wpTx_skip rfl (by assumption) (by rfl) ?_; simp only [Act.put, List.setIfInBounds_toArray, List.set_cons_zero, List.set_cons_succ])))
              refine wpTx_last rfl (fun K hK => ?_)
              go_simp
              refine hK.out _ _ (NoPanic.normal ?_); clear hK K; (try simp only [Act.put, List.setIfInBounds_toArray, List.set_cons_zero, List.set_cons_succ])
              go_wp2_with fail
              go_roundw
              case rel => exact ⟨k + 1, by omega, by go_num, HT2.out, HS.out.go (Keeps.refl _ []).drew⟩
              case measure => simp [intOf]; omega
            · have e2 : (x.entry == y.entry) = false := by simpa using n2
              have HV : Hid (decide (a = b) = false) := by show _ = _; rw [HQ.out, eq_no HX.out HY.out (fun h => n2 (by rw [h]))]; simp
              clear n0 n1 n2
              go_wp2_with fail
              refine wp_region_tx (fun W' => W'.cell? ⟨w.heap.size, 2, none⟩ = some (.slice (some ⟨b1, off, none⟩) np cp) ∧ W'.cell? ⟨w.heap.size + 1, 2, none⟩ = some (.slice (some ⟨b2, off2, none⟩) np dp) ∧ W'.cell? ⟨b1, off + k * 3, none⟩ = some (.string x.name) ∧ W'.cell? ⟨b1, off + k * 3 + 1, none⟩ = some (.int .i64 x.arity) ∧ W'.cell? ⟨b1, off + k * 3 + 2, none⟩ = some (.int .i64 x.entry) ∧ W'.cell? ⟨b2, off2 + k * 3, none⟩ = some (.string y.name) ∧ W'.cell? ⟨b2, off2 + k * 3 + 1, none⟩ = some (.int .i64 y.arity) ∧ W'.cell? ⟨b2, off2 + k * 3 + 2, none⟩ = some (.int .i64 y.entry)) [(0, true), (1, true), (2, true), (3, true), (4, true), (5, true), (6, true), (7, true), (8, true), (9, true), (10, false)] (by kernel_rfl) (by kernel_rfl) (by exact ⟨p1, p2, q0, q1, q2, r0, r1, r2⟩) (fun hHeld => ?_)
              (repeat (first | (refine wpTx_take (v := ?_) rfl (by assumption) ?_ (by rfl) ?_; rotate_left; (focus (intro w' hSw; (try dsimp only at hSw); go_simp; (try with_reducible rfl); done)); simp only [Act.put, List.setIfInBounds_toArray, List.set_cons_zero, List.set_cons_succ]) | (refine wpTx_skip rfl (by assumption) (by rfl) ?_; simp only [Act.put, List.setIfInBounds_toArray, List.set_cons_zero, List.set_cons_succ])))
              refine wpTx_last rfl (fun K hK => ?_)
              go_simp
              refine hK.out _ _ (NoPanic.normal ?_); clear hK K; (try simp only [Act.put, List.setIfInBounds_toArray, List.set_cons_zero, List.set_cons_succ])
              go_wp2_with fail
              go_ret
              exact ⟨by rw [HV.out]; rfl, HS.out.keep.drew⟩
          · have e1 : (x.arity == y.arity) = false := by simpa using n1
            have HV : Hid (decide (a = b) = false) := by show _ = _; rw [HQ.out, eq_no HX.out HY.out (fun h => n1 (by rw [h]))]; simp
            clear n0 n1
            go_wp2_with fail
            refine wp_region_tx (fun W' => W'.cell? ⟨w.heap.size, 2, none⟩ = some (.slice (some ⟨b1, off, none⟩) np cp) ∧ W'.cell? ⟨w.heap.size + 1, 2, none⟩ = some (.slice (some ⟨b2, off2, none⟩) np dp) ∧ W'.cell? ⟨b1, off + k * 3, none⟩ = some (.string x.name) ∧ W'.cell? ⟨b1, off + k * 3 + 1, none⟩ = some (.int .i64 x.arity) ∧ W'.cell? ⟨b1, off + k * 3 + 2, none⟩ = some (.int .i64 x.entry) ∧ W'.cell? ⟨b2, off2 + k * 3, none⟩ = some (.string y.name) ∧ W'.cell? ⟨b2, off2 + k * 3 + 1, none⟩ = some (.int .i64 y.arity) ∧ W'.cell? ⟨b2, off2 + k * 3 + 2, none⟩ = some (.int .i64 y.entry)) [(0, true), (1, true), (2, true), (3, true), (4, true), (5, true), (6, true), (7, true), (8, true), (9, true), (10, false)] (by kernel_rfl) (by kernel_rfl) (by exact ⟨p1, p2, q0, q1, q2, r0, r1, r2⟩) (fun hHeld => ?_)
            (repeat (first | (refine wpTx_take (v := ?_) rfl (by assumption) ?_ (by rfl) ?_; rotate_left; (focus (intro w' hSw; (try dsimp only at hSw); go_simp; (try with_reducible rfl); done)); simp only [Act.put, List.setIfInBounds_toArray, List.set_cons_zero, List.set_cons_succ]) | (refine wpTx_skip rfl (by assumption) (by rfl) ?_; simp only [Act.put, List.setIfInBounds_toArray, List.set_cons_zero, List.set_cons_succ])))
            refine wpTx_last rfl (fun K hK => ?_)
            go_simp
            refine hK.out _ _ (NoPanic.normal ?_); clear hK K; (try simp only [Act.put, List.setIfInBounds_toArray, List.set_cons_zero, List.set_cons_succ])
            go_wp2_with fail
            go_ret
            exact ⟨by rw [HV.out]; rfl, HS.out.keep.drew⟩
        · have e0 : (x.name.toList == y.name.toList) = false := str_bne n0
          have HV : Hid (decide (a = b) = false) := by show _ = _; rw [HQ.out, eq_no HX.out HY.out (fun h => n0 (by rw [h]))]; simp
          clear n0
          go_wp2_with fail
          refine wp_region_tx (fun W' => W'.cell? ⟨w.heap.size, 2, none⟩ = some (.slice (some ⟨b1, off, none⟩) np cp) ∧ W'.cell? ⟨w.heap.size + 1, 2, none⟩ = some (.slice (some ⟨b2, off2, none⟩) np dp) ∧ W'.cell? ⟨b1, off + k * 3, none⟩ = some (.string x.name) ∧ W'.cell? ⟨b1, off + k * 3 + 1, none⟩ = some (.int .i64 x.arity) ∧ W'.cell? ⟨b1, off + k * 3 + 2, none⟩ = some (.int .i64 x.entry) ∧ W'.cell? ⟨b2, off2 + k * 3, none⟩ = some (.string y.name) ∧ W'.cell? ⟨b2, off2 + k * 3 + 1, none⟩ = some (.int .i64 y.arity) ∧ W'.cell? ⟨b2, off2 + k * 3 + 2, none⟩ = some (.int .i64 y.entry)) [(0, true), (1, true), (2, true), (3, true), (4, true), (5, true), (6, true), (7, true), (8, true), (9, true), (10, false)] (by kernel_rfl) (by kernel_rfl) (by exact ⟨p1, p2, q0, q1, q2, r0, r1, r2⟩) (fun hHeld => ?_)
          (repeat (first | (refine wpTx_take (v := ?_) rfl (by assumption) ?_ (by rfl) ?_; rotate_left; (focus (intro w' hSw; (try dsimp only at hSw); go_simp; (try with_reducible rfl); done)); simp only [Act.put, List.setIfInBounds_toArray, List.set_cons_zero, List.set_cons_succ]) | (refine wpTx_skip rfl (by assumption) (by rfl) ?_; simp only [Act.put, List.setIfInBounds_toArray, List.set_cons_zero, List.set_cons_succ])))
          refine wpTx_last rfl (fun K hK => ?_)
          go_simp
          refine hK.out _ _ (NoPanic.normal ?_); clear hK K; (try simp only [Act.put, List.setIfInBounds_toArray, List.set_cons_zero, List.set_cons_succ])
          go_wp2_with fail
          go_ret
          exact ⟨by rw [HV.out]; rfl, HS.out.keep.drew⟩
      · obtain rfl : np = k := by omega
        have HE := Lib.hid (of_decide_eq_true (eq_yes Lp.out Mp.out HT.out))
        go_wp2_with fail
        go_meet
        exact ⟨HE.out, HS.out⟩
  case rest =>
  obtain ⟨HE2, st⟩ := hcut
  clear HB x0 x1 x2 x3 y0 y1 y2 y3
  have HB := Lib.hid st
  have x0 := HB.out.b1.cell 0
  have y0 := HB.out.b2.cell 0
  have x1 := HB.out.b1.cell 1
  have y1 := HB.out.b2.cell 1
  have x2 := HB.out.b1.cell 2
  have y2 := HB.out.b2.cell 2
  have x3 := HB.out.b1.cell 3
  have y3 := HB.out.b2.cell 3
  clear st
  go_upto_block 6 with fail
  go_cut [] (fun wx => Hid (a.code = b.code) ∧ Box2 w wx 39 #[.slice Aa na ca, .slice Af nf cf, .slice Ap np cp, .slice Ac nc cc] #[.slice Ba na da, .slice Bf nf df, .slice Bp np dp, .slice Bc nc dc])
  case first =>
    go_wp2_with fail
    clear x0 x1 x2 x3 y0 y1 y2 y3
    go_loopw [8] (fun i wr => ∃ k : Nat, k ≤ nc ∧ i = .int .i64 k ∧ Hid (a.code.take k = b.code.take k) ∧ Box2 w wr 39 #[.slice Aa na ca, .slice Af nf cf, .slice Ap np cp, .slice Ac nc cc] #[.slice Ba na da, .slice Bf nf df, .slice Bp np dp, .slice Bc nc dc]) (fun i _ => nc - (intOf i).toNat)
    case atStart => exact ⟨0, Nat.zero_le _, rfl, rfl, HB.out⟩
    case round =>
      obtain ⟨k, hk, rfl, HT, st⟩ := hrel
      have HS := Lib.hid st
      have p1 := st.b1.cell 3
      have p2 := st.b2.cell 3
      clear st HB
      by_cases hlt : k < nc
      · obtain ⟨x, hx⟩ := at_of Lc.out hlt
        obtain ⟨y, hy⟩ := at_of Mc.out hlt
        obtain ⟨b1, off, rfl, hb, hc⟩ := (H1.out.code).field insE_len hx (by omega)
        obtain ⟨b2, off2, rfl, hb2, hc2⟩ := (H2.out.code).field insE_len hy (by omega)
        have HX := Lib.hid hx
        have HY := Lib.hid hy
        have q0 : wr.cell? ⟨b1, off + k * 5, none⟩ = some (.int .i64 x.op) := (HS.out.keep.cell0 hb).trans (hc 0 _ rfl)
        have r0 : wr.cell? ⟨b2, off2 + k * 5, none⟩ = some (.int .i64 y.op) := (HS.out.keep.cell0 hb2).trans (hc2 0 _ rfl)
        have q1 : wr.cell? ⟨b1, off + k * 5 + 1, none⟩ = some (.int .i64 x.a0) := (HS.out.keep.cell0 hb).trans (hc 1 _ rfl)
        have r1 : wr.cell? ⟨b2, off2 + k * 5 + 1, none⟩ = some (.int .i64 y.a0) := (HS.out.keep.cell0 hb2).trans (hc2 1 _ rfl)
        have q2 : wr.cell? ⟨b1, off + k * 5 + 2, none⟩ = some (.int .i64 x.a1) := (HS.out.keep.cell0 hb).trans (hc 2 _ rfl)
        have r2 : wr.cell? ⟨b2, off2 + k * 5 + 2, none⟩ = some (.int .i64 y.a1) := (HS.out.keep.cell0 hb2).trans (hc2 2 _ rfl)
        have q3 : wr.cell? ⟨b1, off + k * 5 + 3, none⟩ = some (.int .i64 x.a2) := (HS.out.keep.cell0 hb).trans (hc 3 _ rfl)
        have r3 : wr.cell? ⟨b2, off2 + k * 5 + 3, none⟩ = some (.int .i64 y.a2) := (HS.out.keep.cell0 hb2).trans (hc2 3 _ rfl)
        have q4 : wr.cell? ⟨b1, off + k * 5 + 4, none⟩ = some (.int .i64 x.a3) := (HS.out.keep.cell0 hb).trans (hc 4 _ rfl)
        have r4 : wr.cell? ⟨b2, off2 + k * 5 + 4, none⟩ = some (.int .i64 y.a3) := (HS.out.keep.cell0 hb2).trans (hc2 4 _ rfl)
        clear hx hy hc hc2
        have b0 : (0 : Int) ≤ (k : Int) := Int.natCast_nonneg _
        have b3 : (k : Int) < (nc : Int) := by omega
        by_cases n0 : x.op = y.op
        · have e0 : (x.op == y.op) = true := by simpa using n0
          by_cases n1 : x.a0 = y.a0
          · have e1 : (x.a0 == y.a0) = true := by simpa using n1
            by_cases n2 : x.a1 = y.a1
            · have e2 : (x.a1 == y.a1) = true := by simpa using n2
              by_cases n3 : x.a2 = y.a2
              · have e3 : (x.a2 == y.a2) = true := by simpa using n3
                by_cases n4 : x.a3 = y.a3
                · have e4 : (x.a3 == y.a3) = true := by simpa using n4
                  have HT2 := Lib.hid (eq_step HX.out HY.out (by cases x; cases y; simp only at n0 n1 n2 n3 n4; subst n0 n1 n2 n3 n4; rfl) HT.out)
                  clear n0 n1 n2 n3 n4
                  go_wp2_with fail
                  refine wp_region_tx (fun W' => W'.cell? ⟨w.heap.size, 3, none⟩ = some (.slice (some ⟨b1, off, none⟩) nc cc) ∧ W'.cell? ⟨w.heap.size + 1, 3, none⟩ = some (.slice (some ⟨b2, off2, none⟩) nc dc) ∧ W'.cell? ⟨b1, off + k * 5, none⟩ = some (.int .i64 x.op) ∧ W'.cell? ⟨b1, off + k * 5 + 1, none⟩ = some (.int .i64 x.a0) ∧ W'.cell? ⟨b1, off + k * 5 + 2, none⟩ = some (.int .i64 x.a1) ∧ W'.cell? ⟨b1, off + k * 5 + 3, none⟩ = some (.int .i64 x.a2) ∧ W'.cell? ⟨b1, off + k * 5 + 4, none⟩ = some (.int .i64 x.a3) ∧ W'.cell? ⟨b2, off2 + k * 5, none⟩ = some (.int .i64 y.op) ∧ W'.cell? ⟨b2, off2 + k * 5 + 1, none⟩ = some (.int .i64 y.a0) ∧ W'.cell? ⟨b2, off2 + k * 5 + 2, none⟩ = some (.int .i64 y.a1) ∧ W'.cell? ⟨b2, off2 + k * 5 + 3, none⟩ = some (.int .i64 y.a2) ∧ W'.cell? ⟨b2, off2 + k * 5 + 4, none⟩ = some (.int .i64 y.a3)) [(0, true), (1, true), (2, true), (3, true), (4, true), (5, true), (6, true), (7, true), (8, true), (9, true), (10, false)] (by kernel_rfl) (by kernel_rfl) (by exact ⟨p1, p2, q0, q1, q2, q3, q4, r0, r1, r2, r3, r4⟩) (fun hHeld => ?_)
                  (repeat (first | (refine wpTx_take (v := ?_) rfl (by assumption) ?_ (by rfl) ?_; rotate_left; (focus (intro w' hSw; (try dsimp only at hSw); go_simp; (try with_reducible rfl); done)); simp only [Act.put, List.setIfInBounds_toArray, List.set_cons_zero, List.set_cons_succ]) | (refine wpTx_skip rfl (by assumption) (by rfl) ?_; simp only [Act.put, List.setIfInBounds_toArray, List.set_cons_zero, List.set_cons_succ])))
                  refine wpTx_last rfl (fun K hK => ?_)
                  go_simp
                  refine hK.out _ _ (NoPanic.normal ?_); clear hK K; (try simp only [Act.put, List.setIfInBounds_toArray, List.set_cons_zero, List.set_cons_succ])
                  go_wp2_with fail
                  go_roundw
                  case rel => exact ⟨k + 1, by omega, by go_num, HT2.out, HS.out.go (Keeps.refl _ []).drew⟩
                  case measure => simp [intOf]; omega
                · have e4 : (x.a3 == y.a3) = false := by simpa using n4
                  have HV : Hid (decide (a = b) = false) := by show _ = _; rw [HQ.out, eq_no HX.out HY.out (fun h => n4 (by rw [h]))]; simp
                  clear n0 n1 n2 n3 n4
                  go_wp2_with fail
                  refine wp_region_tx (fun W' => W'.cell? ⟨w.heap.size, 3, none⟩ = some (.slice (some ⟨b1, off, none⟩) nc cc) ∧ W'.cell? ⟨w.heap.size + 1, 3, none⟩ = some (.slice (some ⟨b2, off2, none⟩) nc dc) ∧ W'.cell? ⟨b1, off + k * 5, none⟩ = some (.int .i64 x.op) ∧ W'.cell? ⟨b1, off + k * 5 + 1, none⟩ = some (.int .i64 x.a0) ∧ W'.cell? ⟨b1, off + k * 5 + 2, none⟩ = some (.int .i64 x.a1) ∧ W'.cell? ⟨b1, off + k * 5 + 3, none⟩ = some (.int .i64 x.a2) ∧ W'.cell? ⟨b1, off + k * 5 + 4, none⟩ = some (.int .i64 x.a3) ∧ W'.cell? ⟨b2, off2 + k * 5, none⟩ = some (.int .i64 y.op) ∧ W'.cell? ⟨b2, off2 + k * 5 + 1, none⟩ = some (.int .i64 y.a0) ∧ W'.cell? ⟨b2, off2 + k * 5 + 2, none⟩ = some (.int .i64 y.a1) ∧ W'.cell? ⟨b2, off2 + k * 5 + 3, none⟩ = some (.int .i64 y.a2) ∧ W'.cell? ⟨b2, off2 + k * 5 + 4, none⟩ = some (.int .i64 y.a3)) [(0, true), (1, true), (2, true), (3, true), (4, true), (5, true), (6, true), (7, true), (8, true), (9, true), (10, false)] (by kernel_rfl) (by kernel_rfl) (by exact ⟨p1, p2, q0, q1, q2, q3, q4, r0, r1, r2, r3, r4⟩) (fun hHeld => ?_)
                  (repeat (first | (refine wpTx_take (v := ?_) rfl (by assumption) ?_ (by rfl) ?_; rotate_left; (focus (intro w' hSw; (try dsimp only at hSw); go_simp; (try with_reducible rfl); done)); simp only [Act.put, List.setIfInBounds_toArray, List.set_cons_zero, List.set_cons_succ]) | (refine wpTx_skip rfl (by assumption) (by rfl) ?_; simp only [Act.put, List.setIfInBounds_toArray, List.set_cons_zero, List.set_cons_succ])))
                  refine wpTx_last rfl (fun K hK => ?_)
                  go_simp
                  refine hK.out _ _ (NoPanic.normal ?_); clear hK K; (try simp only [Act.put, List.setIfInBounds_toArray, List.set_cons_zero, List.set_cons_succ])
                  go_wp2_with fail
                  go_ret
                  exact ⟨by rw [HV.out]; rfl, HS.out.keep.drew⟩
              · have e3 : (x.a2 == y.a2) = false := by simpa using n3
                have HV : Hid (decide (a = b) = false) := by show _ = _; rw [HQ.out, eq_no HX.out HY.out (fun h => n3 (by rw [h]))]; simp
                clear n0 n1 n2 n3
                go_wp2_with fail
                refine wp_region_tx (fun W' => W'.cell? ⟨w.heap.size, 3, none⟩ = some (.slice (some ⟨b1, off, none⟩) nc cc) ∧ W'.cell? ⟨w.heap.size + 1, 3, none⟩ = some (.slice (some ⟨b2, off2, none⟩) nc dc) ∧ W'.cell? ⟨b1, off + k * 5, none⟩ = some (.int .i64 x.op) ∧ W'.cell? ⟨b1, off + k * 5 + 1, none⟩ = some (.int .i64 x.a0) ∧ W'.cell? ⟨b1, off + k * 5 + 2, none⟩ = some (.int .i64 x.a1) ∧ W'.cell? ⟨b1, off + k * 5 + 3, none⟩ = some (.int .i64 x.a2) ∧ W'.cell? ⟨b1, off + k * 5 + 4, none⟩ = some (.int .i64 x.a3) ∧ W'.cell? ⟨b2, off2 + k * 5, none⟩ = some (.int .i64 y.op) ∧ W'.cell? ⟨b2, off2 + k * 5 + 1, none⟩ = some (.int .i64 y.a0) ∧ W'.cell? ⟨b2, off2 + k * 5 + 2, none⟩ = some (.int .i64 y.a1) ∧ W'.cell? ⟨b2, off2 + k * 5 + 3, none⟩ = some (.int .i64 y.a2) ∧ W'.cell? ⟨b2, off2 + k * 5 + 4, none⟩ = some (.int .i64 y.a3)) [(0, true), (1, true), (2, true), (3, true), (4, true), (5, true), (6, true), (7, true), (8, true), (9, true), (10, false)] (by kernel_rfl) (by kernel_rfl) (by exact ⟨p1, p2, q0, q1, q2, q3, q4, r0, r1, r2, r3, r4⟩) (fun hHeld => ?_)
                (repeat (first | (refine wpTx_take (v := ?_) rfl (by assumption) ?_ (by rfl) ?_; rotate_left; (focus (intro w' hSw; (try dsimp only at hSw); go_simp; (try with_reducible rfl); done)); simp only [Act.put, List.setIfInBounds_toArray, List.set_cons_zero, List.set_cons_succ]) | (refine wpTx_skip rfl (by assumption) (by rfl) ?_; simp only [Act.put, List.setIfInBounds_toArray, List.set_cons_zero, List.set_cons_succ])))
                refine wpTx_last rfl (fun K hK => ?_)
                go_simp
                refine hK.out _ _ (NoPanic.normal ?_); clear hK K; (try simp only [Act.put, List.setIfInBounds_toArray, List.set_cons_zero, List.set_cons_succ])
                go_wp2_with fail
                go_ret
                exact ⟨by rw [HV.out]; rfl, HS.out.keep.drew⟩
            · have e2 : (x.a1 == y.a1) = false := by simpa using n2
              have HV : Hid (decide (a = b) = false) := by show _ = _; rw [HQ.out, eq_no HX.out HY.out (fun h => n2 (by rw [h]))]; simp
              clear n0 n1 n2
              go_wp2_with fail
              refine wp_region_tx (fun W' => W'.cell? ⟨w.heap.size, 3, none⟩ = some (.slice (some ⟨b1, off, none⟩) nc cc) ∧ W'.cell? ⟨w.heap.size + 1, 3, none⟩ = some (.slice (some ⟨b2, off2, none⟩) nc dc) ∧ W'.cell? ⟨b1, off + k * 5, none⟩ = some (.int .i64 x.op) ∧ W'.cell? ⟨b1, off + k * 5 + 1, none⟩ = some (.int .i64 x.a0) ∧ W'.cell? ⟨b1, off + k * 5 + 2, none⟩ = some (.int .i64 x.a1) ∧ W'.cell? ⟨b1, off + k * 5 + 3, none⟩ = some (.int .i64 x.a2) ∧ W'.cell? ⟨b1, off + k * 5 + 4, none⟩ = some (.int .i64 x.a3) ∧ W'.cell? ⟨b2, off2 + k * 5, none⟩ = some (.int .i64 y.op) ∧ W'.cell? ⟨b2, off2 + k * 5 + 1, none⟩ = some (.int .i64 y.a0) ∧ W'.cell? ⟨b2, off2 + k * 5 + 2, none⟩ = some (.int .i64 y.a1) ∧ W'.cell? ⟨b2, off2 + k * 5 + 3, none⟩ = some (.int .i64 y.a2) ∧ W'.cell? ⟨b2, off2 + k * 5 + 4, none⟩ = some (.int .i64 y.a3)) [(0, true), (1, true), (2, true), (3, true), (4, true), (5, true), (6, true), (7, true), (8, true), (9, true), (10, false)] (by kernel_rfl) (by kernel_rfl) (by exact ⟨p1, p2, q0, q1, q2, q3, q4, r0, r1, r2, r3, r4⟩) (fun hHeld => ?_)
              (repeat (first | (refine wpTx_take (v := ?_) rfl (by assumption) ?_ (by rfl) ?_; rotate_left; (focus (intro w' hSw; (try dsimp only at hSw); go_simp; (try with_reducible rfl); done)); simp only [Act.put, List.setIfInBounds_toArray, List.set_cons_zero, List.set_cons_succ]) | (refine wpTx_skip rfl (by assumption) (by rfl) ?_; simp only [Act.put, List.setIfInBounds_toArray, List.set_cons_zero, List.set_cons_succ])))
              refine wpTx_last rfl (fun K hK => ?_)
              go_simp
              refine hK.out _ _ (NoPanic.normal ?_); clear hK K; (try simp only [Act.put, List.setIfInBounds_toArray, List.set_cons_zero, List.set_cons_succ])
              go_wp2_with fail
              go_ret
              exact ⟨by rw [HV.out]; rfl, HS.out.keep.drew⟩
          · have e1 : (x.a0 == y.a0) = false := by simpa using n1
            have HV : Hid (decide (a = b) = false) := by show _ = _; rw [HQ.out, eq_no HX.out HY.out (fun h => n1 (by rw [h]))]; simp
            clear n0 n1
            go_wp2_with fail
            refine wp_region_tx (fun W' => W'.cell? ⟨w.heap.size, 3, none⟩ = some (.slice (some ⟨b1, off, none⟩) nc cc) ∧ W'.cell? ⟨w.heap.size + 1, 3, none⟩ = some (.slice (some ⟨b2, off2, none⟩) nc dc) ∧ W'.cell? ⟨b1, off + k * 5, none⟩ = some (.int .i64 x.op) ∧ W'.cell? ⟨b1, off + k * 5 + 1, none⟩ = some (.int .i64 x.a0) ∧ W'.cell? ⟨b1, off + k * 5 + 2, none⟩ = some (.int .i64 x.a1) ∧ W'.cell? ⟨b1, off + k * 5 + 3, none⟩ = some (.int .i64 x.a2) ∧ W'.cell? ⟨b1, off + k * 5 + 4, none⟩ = some (.int .i64 x.a3) ∧ W'.cell? ⟨b2, off2 + k * 5, none⟩ = some (.int .i64 y.op) ∧ W'.cell? ⟨b2, off2 + k * 5 + 1, none⟩ = some (.int .i64 y.a0) ∧ W'.cell? ⟨b2, off2 + k * 5 + 2, none⟩ = some (.int .i64 y.a1) ∧ W'.cell? ⟨b2, off2 + k * 5 + 3, none⟩ = some (.int .i64 y.a2) ∧ W'.cell? ⟨b2, off2 + k * 5 + 4, none⟩ = some (.int .i64 y.a3)) [(0, true), (1, true), (2, true), (3, true), (4, true), (5, true), (6, true), (7, true), (8, true), (9, true), (10, false)] (by kernel_rfl) (by kernel_rfl) (by exact ⟨p1, p2, q0, q1, q2, q3, q4, r0, r1, r2, r3, r4⟩) (fun hHeld => ?_)
            (repeat (first | (refine wpTx_take (v := ?_) rfl (by assumption) ?_ (by rfl) ?_; rotate_left; (focus (intro w' hSw; (try dsimp only at hSw); go_simp; (try with_reducible rfl); done)); simp only [Act.put, List.setIfInBounds_toArray, List.set_cons_zero, List.set_cons_succ]) | (refine wpTx_skip rfl (by assumption) (by rfl) ?_; simp only [Act.put, List.setIfInBounds_toArray, List.set_cons_zero, List.set_cons_succ])))
            refine wpTx_last rfl (fun K hK => ?_)
            go_simp
            refine hK.out _ _ (NoPanic.normal ?_); clear hK K; (try simp only [Act.put, List.setIfInBounds_toArray, List.set_cons_zero, List.set_cons_succ])
            go_wp2_with fail
            go_ret
            exact ⟨by rw [HV.out]; rfl, HS.out.keep.drew⟩
        · have e0 : (x.op == y.op) = false := by simpa using n0
          have HV : Hid (decide (a = b) = false) := by show _ = _; rw [HQ.out, eq_no HX.out HY.out (fun h => n0 (by rw [h]))]; simp
          clear n0
          go_wp2_with fail
          refine wp_region_tx (fun W' => W'.cell? ⟨w.heap.size, 3, none⟩ = some (.slice (some ⟨b1, off, none⟩) nc cc) ∧ W'.cell? ⟨w.heap.size + 1, 3, none⟩ = some (.slice (some ⟨b2, off2, none⟩) nc dc) ∧ W'.cell? ⟨b1, off + k * 5, none⟩ = some (.int .i64 x.op) ∧ W'.cell? ⟨b1, off + k * 5 + 1, none⟩ = some (.int .i64 x.a0) ∧ W'.cell? ⟨b1, off + k * 5 + 2, none⟩ = some (.int .i64 x.a1) ∧ W'.cell? ⟨b1, off + k * 5 + 3, none⟩ = some (.int .i64 x.a2) ∧ W'.cell? ⟨b1, off + k * 5 + 4, none⟩ = some (.int .i64 x.a3) ∧ W'.cell? ⟨b2, off2 + k * 5, none⟩ = some (.int .i64 y.op) ∧ W'.cell? ⟨b2, off2 + k * 5 + 1, none⟩ = some (.int .i64 y.a0) ∧ W'.cell? ⟨b2, off2 + k * 5 + 2, none⟩ = some (.int .i64 y.a1) ∧ W'.cell? ⟨b2, off2 + k * 5 + 3, none⟩ = some (.int .i64 y.a2) ∧ W'.cell? ⟨b2, off2 + k * 5 + 4, none⟩ = some (.int .i64 y.a3)) [(0, true), (1, true), (2, true), (3, true), (4, true), (5, true), (6, true), (7, true), (8, true), (9, true), (10, false)] (by kernel_rfl) (by kernel_rfl) (by exact ⟨p1, p2, q0, q1, q2, q3, q4, r0, r1, r2, r3, r4⟩) (fun hHeld => ?_)
          (repeat (first | (refine wpTx_take (v := ?_) rfl (by assumption) ?_ (by rfl) ?_; rotate_left; (focus (intro w' hSw; (try dsimp only at hSw); go_simp; (try with_reducible rfl); done)); simp only [Act.put, List.setIfInBounds_toArray, List.set_cons_zero, List.set_cons_succ]) | (refine wpTx_skip rfl (by assumption) (by rfl) ?_; simp only [Act.put, List.setIfInBounds_toArray, List.set_cons_zero, List.set_cons_succ])))
          refine wpTx_last rfl (fun K hK => ?_)
          go_simp
          refine hK.out _ _ (NoPanic.normal ?_); clear hK K; (try simp only [Act.put, List.setIfInBounds_toArray, List.set_cons_zero, List.set_cons_succ])
          go_wp2_with fail
          go_ret
          exact ⟨by rw [HV.out]; rfl, HS.out.keep.drew⟩
      · obtain rfl : nc = k := by omega
        have HE := Lib.hid (of_decide_eq_true (eq_yes Lc.out Mc.out HT.out))
        go_wp2_with fail
        go_meet
        exact ⟨HE.out, HS.out⟩
  case rest =>
  obtain ⟨HE3, st⟩ := hcut
  clear HB x0 x1 x2 x3 y0 y1 y2 y3
  have HB := Lib.hid st
  have x0 := HB.out.b1.cell 0
  have y0 := HB.out.b2.cell 0
  have x1 := HB.out.b1.cell 1
  have y1 := HB.out.b2.cell 1
  have x2 := HB.out.b1.cell 2
  have y2 := HB.out.b2.cell 2
  have x3 := HB.out.b1.cell 3
  have y3 := HB.out.b2.cell 3
  clear st
  have HV : Hid (decide (a = b) = true) := by show _ = _; rw [HQ.out, HE0.out, HE1.out, HE2.out, HE3.out]; simp
  go_wp2_with fail
  go_ret
  exact ⟨by rw [HV.out]; rfl, HB.out.keep⟩
end Go.Proofs.YtpcihhdalofdiaaGreatDoor

/- What arguments that came in give: slices of numbers, slices of slices of numbers. -/
namespace Go.Proofs.YtpcihhdalofdiaaGreatDoor
open Go.ChangeShapes Go.WideShapes Go.ChangeAt Go.RowKit

theorem own : ownKnob Tryz.prog.godebug = none := by kernel_rfl
theorem laidOut : laidOutB Tryz.prog = true := by kernel_rfl

end Go.Proofs.YtpcihhdalofdiaaGreatDoor

/- An object that came in, read off memory. -/
namespace Go.Proofs.YtpcihhdalofdiaaGreatDoor
open Go.Joins Go.ChangeShapes Go.WideShapes Go.ChangeAt Go.RowKit Go.Deep

section
variable {H : Type} {enc : TypeId × Value → H} {w : World} {base : Nat} {sp : Nat → Bool} {held : Bool} {fuel : Nat} {cs : List Value} {y : DataW H × List MemPlace}
theorem str_of (h : DataW.trod enc Tryz.prog w base sp held fuel 9 cs = some y) : ∃ s, cs = strE s ∧ True := by
  obtain ⟨s, h1, _, _⟩ := DataW.trod_string Tryz.underlying9 h
  exact ⟨s, h1, trivial⟩
end

/-- A slice that came in, of whatever elements. -/
theorem list_of {α : Type} {encE : α → List Value} {sz : Nat} (hsz : ∀ x, (encE x).length = sz) (h0 : 0 < sz) (d : α) (good : α → Prop) {t e : TypeId} (ht : Tryz.prog.underlying t = some (.slice e)) (he : Tryz.prog.cellsOf e = sz)
    {H : Type} {enc : TypeId × Value → H} {w : World} {fuel : Nat} {A : Option Addr} {len cap : Nat} {x : DataW H × List MemPlace}
    (hel : ∀ {fuel : Nat} {cs : List Value} {y : DataW H × List MemPlace}, DataW.trod enc Tryz.prog w 0 (fun _ => true) true fuel e cs = some y → ∃ x, cs = encE x ∧ good x)
    (h : DataW.trod enc Tryz.prog w 0 (fun _ => true) true fuel t [.slice A len cap] = some x) :
    ∃ l : List α, l.length = len ∧ Rd w A (l.flatMap encE) ∧ (A = none → cap = 0) ∧ (∀ x ∈ l, good x) ∧ len ≤ cap ∧ cap ≤ maxLen := by
  rcases open_slice ht h with ⟨hcs, _⟩ | ⟨a, len', cap', m, n, D, Pl, hcs, _, hl, hm, hmm, _, hi⟩
  · simp only [List.cons.injEq, Value.slice.injEq, and_true] at hcs
    obtain ⟨rfl, rfl, rfl⟩ := hcs
    exact ⟨[], rfl, Rd.nil, fun _ => rfl, fun x hx => absurd hx (by simp), Nat.le_refl _, Nat.zero_le _⟩
  · simp only [List.cons.injEq, Value.slice.injEq, and_true] at hcs
    obtain ⟨rfl, rfl, rfl⟩ := hcs
    simp only [if_true] at hmm
    subst hmm
    have hall : ∀ i, ∃ o : α, i < len → good o ∧ ∀ j, j < sz → w.cell? ((a.add (i * sz)).add j) = (encE o)[j]? := fun i => by
      by_cases hlt : i < len
      · obtain ⟨cs', hc, ht⟩ := hi i (by omega)
        rw [he] at hc
        obtain ⟨_, _, hat⟩ := World.cells?_some hc
        obtain ⟨o, rfl, hg⟩ := hel ht
        exact ⟨o, fun _ => ⟨hg, hat⟩⟩
      · exact ⟨d, fun h => absurd h hlt⟩
    obtain ⟨f, hf⟩ := Classical.axiomOfChoice hall
    refine ⟨(List.range len).map f, by simp, ?_, (fun h => by cases h), ?_, hl, hm⟩
    · intro k hk
      rw [length_flat hsz, List.length_map, List.length_range] at hk
      have hq : k / sz < len := (Nat.div_lt_iff_lt_mul h0).2 hk
      have hr : k % sz < sz := Nat.mod_lt _ h0
      have hspot : a.spot = none := by
        have h1 := (hf 0 (Nat.lt_of_le_of_lt (Nat.zero_le _) hq)).2 0 h0
        have : ∃ v, w.cell? ((a.add (0 * sz)).add 0) = some v := ⟨_, h1.trans (List.getElem?_eq_getElem (by rw [hsz]; exact h0))⟩
        obtain ⟨v, hv⟩ := this
        have h0 := World.cell?_spot hv
        simpa [Addr.add] using h0
      obtain ⟨bk, off, spot⟩ := a
      simp only at hspot
      subst hspot
      have hcell := (hf (k / sz) hq).2 (k % sz) hr
      have hv : (encE (f (k / sz)))[k % sz]? = some ((encE (f (k / sz)))[k % sz]'(by rw [hsz]; exact hr)) := List.getElem?_eq_getElem (by rw [hsz]; exact hr)
      have hk2 : k / sz * sz + k % sz = k := by rw [Nat.mul_comm]; exact Nat.div_add_mod k sz
      rw [hv] at hcell
      simp only [add_lit] at hcell
      rw [Nat.add_assoc, hk2] at hcell
      refine ⟨bk, off, _, rfl, World.block_lt_of_cell? w _ hcell, hcell, ?_⟩
      have hlen : k / sz < ((List.range len).map f).length := by simpa using hq
      have := getElem?_flat hsz ((List.range len).map f) (k / sz) hlen (k % sz) hr
      rw [hk2] at this
      rw [this]
      simp only [List.getElem_map, List.getElem_range]
      exact hv
    · intro x hx
      obtain ⟨i, hi2, rfl⟩ := List.mem_map.1 hx
      exact (hf i (List.mem_range.1 hi2)).1

end Go.Proofs.YtpcihhdalofdiaaGreatDoor
