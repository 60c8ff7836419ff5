/- The law's To and From. -/
import Derived.Test.YtpcihhdalofdiaaGreatDoorObj
import Derived.Test.YtpcihhdalofdiaaGreatDoorApp
import Derived.Test.YtpcihhdalofdiaaGreatDoorText
import Derived.Deep.Cut
import Derived.Deep.CutRange
import Derived.Deep.CutBlock
import Derived.Deep.DeepCutAuto
import Derived.Deep.DeepMust
namespace Go.Proofs.YtpcihhdalofdiaaGreatDoor
open Go.RowKit

theorem el_string : ElemT Tryz.prog 22 9 1 := elemT_of (b := 16) (z := .string ⟨#[]⟩) Tryz.underlying22 (by kernel_rfl) (by omega) rfl (by omega)
theorem el_pfun : ElemT Tryz.prog 25 77 2 := elemT_of (b := 24) (z := .agg #[.string ⟨#[]⟩, .int .i64 0]) Tryz.underlying25 (by kernel_rfl) (by omega) rfl (by omega)
theorem el_ppred : ElemT Tryz.prog 28 52 3 := elemT_of (b := 32) (z := .agg #[.string ⟨#[]⟩, .int .i64 0, .int .i64 0]) Tryz.underlying28 (by kernel_rfl) (by omega) rfl (by omega)
theorem el_pins : ElemT Tryz.prog 29 79 5 := elemT_of (b := 40) (z := .agg #[.int .i64 0, .int .i64 0, .int .i64 0, .int .i64 0, .int .i64 0]) Tryz.underlying29 (by kernel_rfl) (by omega) rfl (by omega)

set_option maxHeartbeats 400000 in
theorem insTo_any (i : LIns) (w : World) : Calls Tryz.prog 37 #[insV i] w fun e w' => e = .returned (insV i) ∧ Keeps w w' [] := by
  unfold insV
  go_enter Tryz.func37, Tryz.ntmps37
  go_wp2_with fail
  exact bodyPost_ret (v := .agg #[.int .i64 i.op, .int .i64 i.a0, .int .i64 i.a1, .int .i64 i.a2, .int .i64 i.a3]) (by simp [results, Tryz.results37, go_sem]) rfl ⟨rfl, ((Keeps.refl _ _).alloc _).alloc _⟩

/-- What stands in a round of To and From: the argument's box, the object that is made (its four rows), the result's block. tb, tg: the two objects' types; tf, tp, ti: the new elements'. -/
structure ToSt (tb tg tf tp ti : TypeId) (w wr : World) (box rb g : Nat) (args : Array Value) (o : LObj) (A1 A2 A3 A4 : Option Addr) (n1 k2 k3 k4 c1 c2 c3 c4 : Nat) : Prop where
  blk : Blk wr box tb args
  res : Blk wr rb tg #[.slice none 0 0, .slice none 0 0, .slice none 0 0, .slice none 0 0]
  out : Blk wr g tg #[.slice A1 n1 c1, .slice A2 k2 c2, .slice A3 k3 c3, .slice A4 k4 c4]
  r1 : wr.ownsRow w.heap.size 9 1 (.slice A1 n1 c1) n1 (o.atoms.flatMap strE)
  r2 : wr.ownsRow w.heap.size tf 2 (.slice A2 k2 c2) k2 ((o.funs.take k2).flatMap funE)
  r3 : wr.ownsRow w.heap.size tp 3 (.slice A3 k3 c3) k3 ((o.preds.take k3).flatMap predE)
  r4 : wr.ownsRow w.heap.size ti 5 (.slice A4 k4 c4) k4 ((o.code.take k4).flatMap insE)
  keep : Keeps w wr []
  low : w.heap.size ≤ box ∧ w.heap.size ≤ g ∧ w.heap.size ≤ rb ∧ rb ≠ g
/-- The types that differ. -/
structure ToTy (tb tg tf tp ti : TypeId) : Prop where
  bg : tb ≠ tg
  b : tb ≠ 9 ∧ tb ≠ tf ∧ tb ≠ tp ∧ tb ≠ ti
  g : tg ≠ 9 ∧ tg ≠ tf ∧ tg ≠ tp ∧ tg ≠ ti
  s : 9 ≠ tf ∧ 9 ≠ tp ∧ 9 ≠ ti
  e : tf ≠ tp ∧ tf ≠ ti ∧ tp ≠ ti

theorem own_set {w : World} {base n size : Nat} {e t : TypeId} {v : Value} {xs : List Value} {cs : Array Value} (h : w.ownsRow base e size v n xs) {g : Nat} (hb : Blk w g t cs) (hne : t ≠ e) (i : Nat) (u : Value) : (w.setCell ⟨g, i, none⟩ u).ownsRow base e size v n xs := by
  refine ⟨h.1, ?_⟩
  rcases h.2 with h2 | ⟨g2, cap, cur, he, hb2, hg, r⟩
  · exact .inl h2
  · refine .inr ⟨g2, cap, cur, he, hb2, (Below.heap_setCell _ _ _ _ ?_).trans hg, r⟩
    rintro rfl
    unfold Blk at hb
    rw [hb] at hg
    simp at hg
    exact hne hg.2

section
variable {tb tg tf tp ti : TypeId} {w wr : World} {box rb g : Nat} {args : Array Value} {o : LObj} {A1 A2 A3 A4 : Option Addr} {n1 k2 k3 k4 c1 c2 c3 c4 : Nat}
theorem ToSt.keep0 (s : ToSt tb tg tf tp ti w wr box rb g args o A1 A2 A3 A4 n1 k2 k3 k4 c1 c2 c3 c4) {W : World} (k : Keeps wr W []) : ToSt tb tg tf tp ti w W box rb g args o A1 A2 A3 A4 n1 k2 k3 k4 c1 c2 c3 c4 :=
  ⟨s.blk.keep k (by simp), s.res.keep k (by simp), s.out.keep k (by simp), own_keep0 s.r1 k, own_keep0 s.r2 k, own_keep0 s.r3 k, own_keep0 s.r4 k, s.keep.trans k, s.low⟩
theorem ToSt.step2 (ty : ToTy tb tg tf tp ti) (s0 : ToSt tb tg tf tp ti w wr box rb g args o A1 A2 A3 A4 n1 k2 k3 k4 c1 c2 c3 c4) {W W2 : World} (k : Keeps wr W []) {f : LFun} (hf : o.funs[k2]? = some f) {A' : Option Addr} {c' : Nat}
    (hown : W2.ownsRow w.heap.size tf 2 (.slice A' (k2 + 1) c') (k2 + 1) ((o.funs.take k2).flatMap funE ++ funE f)) (hg : W.grownBy W2 (Value.slice A2 k2 c2).ownBlock) :
    ToSt tb tg tf tp ti w (W2.setCell ⟨g, 1, none⟩ (.slice A' (k2 + 1) c')) box rb g args o A1 A' A3 A4 n1 (k2 + 1) k3 k4 c1 c' c3 c4 := by
  have s := s0.keep0 k
  have b := blk_far s.blk s.r2 ty.b.2.1 hg
  have r := blk_far s.res s.r2 ty.g.2.1 hg
  have u := blk_far s.out s.r2 ty.g.2.1 hg
  refine ⟨b.far (fun e => ?_) _, r.far s.low.2.2.2 _, by have := u.set_ 1 (.slice A' (k2 + 1) c'); simpa using this, own_set (own_far s.r1 s.r2 ty.s.1 hg) u ty.g.1 _ _, ?_, own_set (own_far s.r3 s.r2 (Ne.symm ty.e.1) hg) u ty.g.2.2.1 _ _, own_set (own_far s.r4 s.r2 (Ne.symm ty.e.2.1) hg) u ty.g.2.2.2 _ _, (s.keep.app s.r2 (Nat.le_refl _) hg).setCell (.inr s.low.2.1) _, s.low⟩
  · exact s.blk.ne_ s.out ty.bg e
  · rw [flat_snoc hf]
    exact own_set hown u ty.g.2.1 _ _
theorem ToSt.step3 (ty : ToTy tb tg tf tp ti) (s0 : ToSt tb tg tf tp ti w wr box rb g args o A1 A2 A3 A4 n1 k2 k3 k4 c1 c2 c3 c4) {W W2 : World} (k : Keeps wr W []) {f : LPred} (hf : o.preds[k3]? = some f) {A' : Option Addr} {c' : Nat}
    (hown : W2.ownsRow w.heap.size tp 3 (.slice A' (k3 + 1) c') (k3 + 1) ((o.preds.take k3).flatMap predE ++ predE f)) (hg : W.grownBy W2 (Value.slice A3 k3 c3).ownBlock) :
    ToSt tb tg tf tp ti w (W2.setCell ⟨g, 2, none⟩ (.slice A' (k3 + 1) c')) box rb g args o A1 A2 A' A4 n1 k2 (k3 + 1) k4 c1 c2 c' c4 := by
  have s := s0.keep0 k
  have b := blk_far s.blk s.r3 ty.b.2.2.1 hg
  have r := blk_far s.res s.r3 ty.g.2.2.1 hg
  have u := blk_far s.out s.r3 ty.g.2.2.1 hg
  refine ⟨b.far (fun e => ?_) _, r.far s.low.2.2.2 _, by have := u.set_ 2 (.slice A' (k3 + 1) c'); simpa using this, own_set (own_far s.r1 s.r3 ty.s.2.1 hg) u ty.g.1 _ _, own_set (own_far s.r2 s.r3 ty.e.1 hg) u ty.g.2.1 _ _, ?_, own_set (own_far s.r4 s.r3 (Ne.symm ty.e.2.2) hg) u ty.g.2.2.2 _ _, (s.keep.app s.r3 (Nat.le_refl _) hg).setCell (.inr s.low.2.1) _, s.low⟩
  · exact s.blk.ne_ s.out ty.bg e
  · rw [flat_snoc hf]
    exact own_set hown u ty.g.2.2.1 _ _
theorem ToSt.step4 (ty : ToTy tb tg tf tp ti) (s0 : ToSt tb tg tf tp ti w wr box rb g args o A1 A2 A3 A4 n1 k2 k3 k4 c1 c2 c3 c4) {W W2 : World} (k : Keeps wr W []) {f : LIns} (hf : o.code[k4]? = some f) {A' : Option Addr} {c' : Nat}
    (hown : W2.ownsRow w.heap.size ti 5 (.slice A' (k4 + 1) c') (k4 + 1) ((o.code.take k4).flatMap insE ++ insE f)) (hg : W.grownBy W2 (Value.slice A4 k4 c4).ownBlock) :
    ToSt tb tg tf tp ti w (W2.setCell ⟨g, 3, none⟩ (.slice A' (k4 + 1) c')) box rb g args o A1 A2 A3 A' n1 k2 k3 (k4 + 1) c1 c2 c3 c' := by
  have s := s0.keep0 k
  have b := blk_far s.blk s.r4 ty.b.2.2.2 hg
  have r := blk_far s.res s.r4 ty.g.2.2.2 hg
  have u := blk_far s.out s.r4 ty.g.2.2.2 hg
  refine ⟨b.far (fun e => ?_) _, r.far s.low.2.2.2 _, by have := u.set_ 3 (.slice A' (k4 + 1) c'); simpa using this, own_set (own_far s.r1 s.r4 ty.s.2.2 hg) u ty.g.1 _ _, own_set (own_far s.r2 s.r4 ty.e.2.1 hg) u ty.g.2.1 _ _, own_set (own_far s.r3 s.r4 ty.e.2.2 hg) u ty.g.2.2.1 _ _, ?_, (s.keep.app s.r4 (Nat.le_refl _) hg).setCell (.inr s.low.2.1) _, s.low⟩
  · exact s.blk.ne_ s.out ty.bg e
  · rw [flat_snoc hf]
    exact own_set hown u ty.g.2.2.2 _ _
end

/-- What a region's loads see. -/
def Seen4 (W : World) (p1 p2 : Addr) (v1 v2 : Value) (cs : List (Addr × Value)) : Prop := W.cell? p1 = some v1 ∧ W.cell? p2 = some v2 ∧ ∀ x ∈ cs, W.cell? x.1 = some x.2

def ToDone (w : World) (o : LObj) (e : Ending) (w' : World) : Prop :=
  ∃ Aa Af Ap Ac ca cf cp cc, e = .returned (.agg #[.slice Aa o.atoms.length ca, .slice Af o.funs.length cf, .slice Ap o.preds.length cp, .slice Ac o.code.length cc]) ∧ ObIs w' o Aa Af Ap Ac ca cf cp cc ∧ Keeps w w' []
theorem own_zero {w : World} {base n c size : Nat} {e : TypeId} {xs : List Value} (h : w.ownsRow base e size (.slice none n c) n xs) : c = 0 := by
  rcases h.2 with ⟨h2, _⟩ | ⟨g2, cap, cur, he, _⟩
  · injection h2
  · injection he with he; cases he
theorem toDone_mk {tb tg tf tp ti : TypeId} (ty : ToTy tb tg tf tp ti) {w wr : World} {box rb g : Nat} {args : Array Value} {o : LObj} {A1 A2 A3 A4 : Option Addr} {n1 n2 n3 n4 c1 c2 c3 c4 : Nat} (s : ToSt tb tg tf tp ti w wr box rb g args o A1 A2 A3 A4 n1 n2 n3 n4 c1 c2 c3 c4)
    (l1 : o.atoms.length = n1) (l2 : o.funs.length = n2) (l3 : o.preds.length = n3) (l4 : o.code.length = n4) (hb : w.heap.size ≤ rb) {v0 v1 v2 v3 : Value} :
    ToDone w o (.returned (.agg #[.slice A1 n1 c1, .slice A2 n2 c2, .slice A3 n3 c3, .slice A4 n4 c4])) ((((wr.setCell ⟨rb, 0, none⟩ v0).setCell ⟨rb, 1, none⟩ v1).setCell ⟨rb, 2, none⟩ v2).setCell ⟨rb, 3, none⟩ v3) := by
  subst l1 l2 l3 l4
  have b0 := s.res
  have b1 := b0.set_ 0 v0
  have b2 := b1.set_ 1 v1
  have b3 := b2.set_ 2 v2
  have r1 := own_set (own_set (own_set (own_set s.r1 b0 ty.g.1 0 v0) b1 ty.g.1 1 v1) b2 ty.g.1 2 v2) b3 ty.g.1 3 v3
  have r2 := own_set (own_set (own_set (own_set s.r2 b0 ty.g.2.1 0 v0) b1 ty.g.2.1 1 v1) b2 ty.g.2.1 2 v2) b3 ty.g.2.1 3 v3
  have r3 := own_set (own_set (own_set (own_set s.r3 b0 ty.g.2.2.1 0 v0) b1 ty.g.2.2.1 1 v1) b2 ty.g.2.2.1 2 v2) b3 ty.g.2.2.1 3 v3
  have r4 := own_set (own_set (own_set (own_set s.r4 b0 ty.g.2.2.2 0 v0) b1 ty.g.2.2.2 1 v1) b2 ty.g.2.2.2 2 v2) b3 ty.g.2.2.2 3 v3
  rw [List.take_length] at r2 r3 r4
  refine ⟨A1, A2, A3, A4, c1, c2, c3, c4, rfl, ⟨Rd.of_own r1, Rd.of_own r2, Rd.of_own r3, Rd.of_own r4, ?_, ?_, ?_, ?_⟩, ((((s.keep.setCell (.inr hb) _).setCell (.inr hb) _).setCell (.inr hb) _).setCell (.inr hb) _)⟩
  · rintro rfl; exact own_zero r1
  · rintro rfl; exact own_zero r2
  · rintro rfl; exact own_zero r3
  · rintro rfl; exact own_zero r4
theorem ty_to : ToTy 39 31 77 52 79 := ⟨by decide, by decide, by decide, by decide, by decide⟩

set_option maxRecDepth 100000 in
set_option maxHeartbeats 3200000 in
theorem to_any (o : LObj) (Aa Af Ap Ac : Option Addr) (na nf np nc ca cf cp cc : Nat) (w : World) (h : ObIs w o Aa Af Ap Ac ca cf cp cc) (hf : Fits o) (la : o.atoms.length = na) (lf : o.funs.length = nf) (lp : o.preds.length = np) (lc : o.code.length = nc) :
    Calls Tryz.prog 15 #[.agg #[.slice Aa na ca, .slice Af nf cf, .slice Ap np cp, .slice Ac nc cc]] w (ToDone w o) := by
  have H := Lib.hid h
  have ga := hf.atoms
  have gf := hf.funs
  have gp := hf.preds
  have gc := hf.code
  rw [la] at ga
  rw [lf] at gf
  rw [lp] at gp
  rw [lc] at gc
  clear h hf
  have La := Lib.hid la
  have Lf := Lib.hid lf
  have Lp := Lib.hid lp
  have Lc := Lib.hid lc
  clear la lf lp lc
  go_enter Tryz.func15, Tryz.ntmps15
  go_wp2_with (at_builtin; refine wpList_app _ el_string rfl _ _ rfl (w.heap.size + 1 + 1) (some ⟨w.heap.size + 1 + 1, 0, none⟩) 0 0 [] rfl (by rw [← World.size_alloc, ← World.size_alloc]; exact own_empty _ _) Aa na ca (o.atoms.flatMap strE) rfl (((H.out.atoms.alloc _).alloc _).alloc _) (by rw [length_flat strE_len, La.out]) H.out.za (strE_one _) (by omega) (by simp) ?_; intro A1 c1 w1 hown hgrow hat; simp only [Nat.zero_add, List.nil_append] at hown hat)
  have hK : Keeps w w1 [] := (((Keeps.refl w []).alloc _).alloc _).alloc _ |>.grown hgrow (fun q hq => .inr (by simp [Value.ownBlock] at hq; omega))
  have hbx : Blk w1 w.heap.size 39 #[.slice Aa na ca, .slice Af nf cf, .slice Ap np cp, .slice Ac nc cc] := (((Blk.new _ _ _).alloc _).alloc _).grown hgrow (by simp [Value.ownBlock]; omega)
  have hrb : Blk w1 (w.heap.size + 1) 31 #[.slice none 0 0, .slice none 0 0, .slice none 0 0, .slice none 0 0] := ((Blk.newAt _ _ (by simp)).alloc _).grown hgrow (by simp [Value.ownBlock])
  have hsz := hrb.lt
  have st : ToSt 39 31 77 52 79 w (w1.alloc (.cells #[.slice A1 na c1, .slice none 0 0, .slice none 0 0, .slice none 0 0] 31)) w.heap.size (w.heap.size + 1) w1.heap.size #[.slice Aa na ca, .slice Af nf cf, .slice Ap np cp, .slice Ac nc cc] o A1 none none none na 0 0 0 c1 0 0 0 :=
    ⟨hbx.alloc _, hrb.alloc _, Blk.new _ _ _, own_base (hown.alloc _) (by omega), World.ownsRow_nil _ _ _ _, World.ownsRow_nil _ _ _ _, World.ownsRow_nil _ _ _ _, hK.alloc _, by omega⟩
  have hgz := hK.size
  generalize w1.heap.size = g at *
  have HST := Lib.hid st
  clear hown hgrow hat hK hbx hrb st
  go_loopw [4] (fun i wr => ∃ k : Nat, k ≤ nf ∧ i = .int .i64 k ∧ ∃ A2 c2, ToSt 39 31 77 52 79 w wr w.heap.size (w.heap.size + 1) g #[.slice Aa na ca, .slice Af nf cf, .slice Ap np cp, .slice Ac nc cc] o A1 A2 none none na k 0 0 c1 c2 0 0) (fun i _ => nf - (intOf i).toNat)
  case atStart => exact ⟨0, Nat.zero_le _, rfl, none, 0, HST.out⟩
  case round =>
    obtain ⟨k, hk, rfl, A2, c2, st⟩ := hrel
    have HS := Lib.hid st
    have e1 := st.blk.cell 1
    have e2 := st.out.cell 1
    clear st HST
    by_cases hlt : k < nf
    · obtain ⟨f, hx⟩ := at_of Lf.out hlt
      obtain ⟨b, off, rfl, hb, hc⟩ := (H.out.funs).field funE_len hx (by omega)
      have HX := Lib.hid hx
      clear hx
      have HW : Hid (∀ W', Keeps wr W' (ownL (.slice A2 k c2)) → W'.frozen? ⟨g, 1, none⟩ = false ∧ W'.cell? ⟨g, 1, none⟩ = some (.slice A2 k c2) ∧ W'.cell? ⟨w.heap.size, 1, none⟩ = some (.slice (some ⟨b, off, none⟩) nf cf) ∧ W'.cell? ⟨b, off + k * 2, none⟩ = some (.string f.name) ∧ W'.cell? ⟨b, off + k * 2 + 1, none⟩ = some (.int .i64 f.arity)) := fun W' kk =>
        ⟨(HS.out.out.keep kk (own_outT HS.out.r2 HS.out.out (by decide))).frozen 1, (HS.out.out.keep kk (own_outT HS.out.r2 HS.out.out (by decide))).cell 1, (HS.out.blk.keep kk (own_outT HS.out.r2 HS.out.blk (by decide))).cell 1, ((kk.cell (p := ⟨b, off + k * 2, none⟩) (Nat.lt_of_lt_of_le hb HS.out.keep.size) (own_out HS.out.r2 hb)).trans (HS.out.keep.cell0 hb)).trans (hc 0 _ rfl), ((kk.cell (p := ⟨b, off + k * 2 + 1, none⟩) (Nat.lt_of_lt_of_le hb HS.out.keep.size) (own_out HS.out.r2 hb)).trans (HS.out.keep.cell0 hb)).trans (hc 1 _ rfl)⟩
      obtain ⟨q0, q1, q2, q3, q4⟩ := HW.out wr (Keeps.refl _ _)
      clear hc e1 e2
      have b0 : (0 : Int) ≤ (k : Int) := Int.natCast_nonneg _
      have b1 : (k : Int) < (nf : Int) := by omega
      go_wp2_with fail
      refine wp_region_tx (fun W' => W'.frozen? ⟨g, 1, none⟩ = false ∧ W'.cell? ⟨g, 1, none⟩ = some (.slice A2 k c2) ∧ W'.cell? ⟨w.heap.size, 1, none⟩ = some (.slice (some ⟨b, off, none⟩) nf cf) ∧ W'.cell? ⟨b, off + k * 2, none⟩ = some (.string f.name) ∧ W'.cell? ⟨b, off + k * 2 + 1, none⟩ = some (.int .i64 f.arity)) [(0, true), (1, true), (2, true), (3, true), (4, true), (5, true), (6, true), (7, true), (8, true), (9, true), (10, true), (11, true), (12, true), (13, true), (14, true), (15, true), (16, false), (17, false), (18, true), (19, true), (20, false)] (by kernel_rfl) (by kernel_rfl) (HW.out _ ((Keeps.refl _ _).drew)) (fun hHeld => ?_)
      (repeat (first | (refine wpTx_take (v := ?_) rfl (by assumption) ?_ (by rfl) ?_; rotate_left; (focus (intro w' hSw; (try dsimp only at hSw); go_simp; (try with_reducible rfl); done)); simp only [Act.put, List.setIfInBounds_toArray, List.set_cons_zero, List.set_cons_succ]) | (refine wpTx_skip rfl (by assumption) (by rfl) ?_; simp only [Act.put, List.setIfInBounds_toArray, List.set_cons_zero, List.set_cons_succ])))
      refine wpTx_go rfl (fun K hK => ?_)
      go_simp
      refine hK.out _ _ ?_ ?_
      · exact HW.out _ ((((Keeps.refl _ []).alloc _).drew).to_ _)
      (clear hHeld; intro hHeld; clear hK K; (try simp only [Act.put, List.setIfInBounds_toArray, List.set_cons_zero, List.set_cons_succ]))
      refine wpTx_go rfl (fun K hK => ?_)
      refine step_app _ el_pfun (by rfl) _ _ (by rfl) w.heap.size A2 k c2 ((o.funs.take k).flatMap funE) (by rfl) (own_keep0 HS.out.r2 (((Keeps.refl _ []).alloc _).drew)) (some ⟨wr.heap.size, 0, none⟩) 1 1 (funE f) (by rfl) ((Rd.one wr _ (funE f)).drew) rfl (by simp) (by simp [funE, Value.oneCell']) (by omega) (by simp; have := HS.out.keep.size; omega) ?_
      intro A' c' w2 hown hgrow hat
      refine hK.out _ _ ?_ ?_
      · exact HW.out _ ((((Keeps.refl _ []).alloc _).drew).rest (Keeps.ofGrown hgrow))
      (clear hHeld; intro hHeld; clear hK K; (try simp only [Act.put, List.setIfInBounds_toArray, List.set_cons_zero, List.set_cons_succ]))
      (repeat (first | (refine wpTx_take (v := ?_) rfl (by assumption) ?_ (by rfl) ?_; rotate_left; (focus (intro w' hSw; (try dsimp only at hSw); go_simp; (try with_reducible rfl); done)); simp only [Act.put, List.setIfInBounds_toArray, List.set_cons_zero, List.set_cons_succ]) | (refine wpTx_skip rfl (by assumption) (by rfl) ?_; simp only [Act.put, List.setIfInBounds_toArray, List.set_cons_zero, List.set_cons_succ])))
      refine wpTx_last rfl (fun K hK => ?_)
      go_simp
      refine hK.out _ _ (NoPanic.normal ?_); clear hK K; (try simp only [Act.put, List.setIfInBounds_toArray, List.set_cons_zero, List.set_cons_succ])
      go_wp2_with fail
      go_roundw
      case rel => exact ⟨k + 1, by omega, by go_num, A', c', HS.out.step2 ty_to (((Keeps.refl _ []).alloc _).drew) HX.out hown hgrow⟩
      case measure => simp [intOf]; omega
    · obtain rfl : nf = k := by omega
      clear hlt hk
      go_wp2_with fail
      go_loopw [5] (fun i wr => ∃ k : Nat, k ≤ np ∧ i = .int .i64 k ∧ ∃ A3 c3, ToSt 39 31 77 52 79 w wr w.heap.size (w.heap.size + 1) g #[.slice Aa na ca, .slice Af nf cf, .slice Ap np cp, .slice Ac nc cc] o A1 A2 A3 none na nf k 0 c1 c2 c3 0) (fun i _ => np - (intOf i).toNat)
      case atStart => exact ⟨0, Nat.zero_le _, rfl, none, 0, HS.out⟩
      case round =>
        obtain ⟨k, hk, rfl, A3, c3, st⟩ := hrel
        clear HS e1 e2
        have HS := Lib.hid st
        have e1 := st.blk.cell 2
        have e2 := st.out.cell 2
        clear st
        by_cases hlt : k < np
        · obtain ⟨f, hx⟩ := at_of Lp.out hlt
          obtain ⟨b, off, rfl, hb, hc⟩ := (H.out.preds).field predE_len hx (by omega)
          have HX := Lib.hid hx
          clear hx
          have HW : Hid (∀ W', Keeps wr W' (ownL (.slice A3 k c3)) → W'.frozen? ⟨g, 2, none⟩ = false ∧ W'.cell? ⟨g, 2, none⟩ = some (.slice A3 k c3) ∧ W'.cell? ⟨w.heap.size, 2, none⟩ = some (.slice (some ⟨b, off, none⟩) np cp) ∧ W'.cell? ⟨b, off + k * 3, none⟩ = some (.string f.name) ∧ W'.cell? ⟨b, off + k * 3 + 1, none⟩ = some (.int .i64 f.arity) ∧ W'.cell? ⟨b, off + k * 3 + 2, none⟩ = some (.int .i64 f.entry)) := fun W' kk =>
            ⟨(HS.out.out.keep kk (own_outT HS.out.r3 HS.out.out (by decide))).frozen 2, (HS.out.out.keep kk (own_outT HS.out.r3 HS.out.out (by decide))).cell 2, (HS.out.blk.keep kk (own_outT HS.out.r3 HS.out.blk (by decide))).cell 2, ((kk.cell (p := ⟨b, off + k * 3, none⟩) (Nat.lt_of_lt_of_le hb HS.out.keep.size) (own_out HS.out.r3 hb)).trans (HS.out.keep.cell0 hb)).trans (hc 0 _ rfl), ((kk.cell (p := ⟨b, off + k * 3 + 1, none⟩) (Nat.lt_of_lt_of_le hb HS.out.keep.size) (own_out HS.out.r3 hb)).trans (HS.out.keep.cell0 hb)).trans (hc 1 _ rfl), ((kk.cell (p := ⟨b, off + k * 3 + 2, none⟩) (Nat.lt_of_lt_of_le hb HS.out.keep.size) (own_out HS.out.r3 hb)).trans (HS.out.keep.cell0 hb)).trans (hc 2 _ rfl)⟩
          obtain ⟨q0, q1, q2, q3, q4, q5⟩ := HW.out wr (Keeps.refl _ _)
          clear hc e1 e2
          have b0 : (0 : Int) ≤ (k : Int) := Int.natCast_nonneg _
          have b1 : (k : Int) < (np : Int) := by omega
          go_wp2_with fail
          refine wp_region_tx (fun W' => W'.frozen? ⟨g, 2, none⟩ = false ∧ W'.cell? ⟨g, 2, none⟩ = some (.slice A3 k c3) ∧ W'.cell? ⟨w.heap.size, 2, none⟩ = some (.slice (some ⟨b, off, none⟩) np cp) ∧ W'.cell? ⟨b, off + k * 3, none⟩ = some (.string f.name) ∧ W'.cell? ⟨b, off + k * 3 + 1, none⟩ = some (.int .i64 f.arity) ∧ W'.cell? ⟨b, off + k * 3 + 2, none⟩ = some (.int .i64 f.entry)) [(0, true), (1, true), (2, true), (3, true), (4, true), (5, true), (6, true), (7, true), (8, true), (9, true), (10, true), (11, true), (12, true), (13, true), (14, true), (15, true), (16, true), (17, true), (18, true), (19, true), (20, true), (21, false), (22, false), (23, true), (24, false)] (by kernel_rfl) (by kernel_rfl) (HW.out _ ((Keeps.refl _ _).drew)) (fun hHeld => ?_)
          (repeat (first | (refine wpTx_take (v := ?_) rfl (by assumption) ?_ (by rfl) ?_; rotate_left; (focus (intro w' hSw; (try dsimp only at hSw); go_simp; (try with_reducible rfl); done)); simp only [Act.put, List.setIfInBounds_toArray, List.set_cons_zero, List.set_cons_succ]) | (refine wpTx_skip rfl (by assumption) (by rfl) ?_; simp only [Act.put, List.setIfInBounds_toArray, List.set_cons_zero, List.set_cons_succ])))
          refine wpTx_go rfl (fun K hK => ?_)
          go_simp
          refine hK.out _ _ ?_ ?_
          · exact HW.out _ ((((Keeps.refl _ []).alloc _).drew).to_ _)
          (clear hHeld; intro hHeld; clear hK K; (try simp only [Act.put, List.setIfInBounds_toArray, List.set_cons_zero, List.set_cons_succ]))
          refine wpTx_go rfl (fun K hK => ?_)
          refine step_app _ el_ppred (by rfl) _ _ (by rfl) w.heap.size A3 k c3 ((o.preds.take k).flatMap predE) (by rfl) (own_keep0 HS.out.r3 (((Keeps.refl _ []).alloc _).drew)) (some ⟨wr.heap.size, 0, none⟩) 1 1 (predE f) (by rfl) ((Rd.one wr _ (predE f)).drew) rfl (by simp) (by simp [predE, Value.oneCell']) (by omega) (by simp; have := HS.out.keep.size; omega) ?_
          intro A' c' w2 hown hgrow hat
          refine hK.out _ _ ?_ ?_
          · exact HW.out _ ((((Keeps.refl _ []).alloc _).drew).rest (Keeps.ofGrown hgrow))
          (clear hHeld; intro hHeld; clear hK K; (try simp only [Act.put, List.setIfInBounds_toArray, List.set_cons_zero, List.set_cons_succ]))
          (repeat (first | (refine wpTx_take (v := ?_) rfl (by assumption) ?_ (by rfl) ?_; rotate_left; (focus (intro w' hSw; (try dsimp only at hSw); go_simp; (try with_reducible rfl); done)); simp only [Act.put, List.setIfInBounds_toArray, List.set_cons_zero, List.set_cons_succ]) | (refine wpTx_skip rfl (by assumption) (by rfl) ?_; simp only [Act.put, List.setIfInBounds_toArray, List.set_cons_zero, List.set_cons_succ])))
          refine wpTx_last rfl (fun K hK => ?_)
          go_simp
          refine hK.out _ _ (NoPanic.normal ?_); clear hK K; (try simp only [Act.put, List.setIfInBounds_toArray, List.set_cons_zero, List.set_cons_succ])
          go_wp2_with fail
          go_roundw
          case rel => exact ⟨k + 1, by omega, by go_num, A', c', HS.out.step3 ty_to (((Keeps.refl _ []).alloc _).drew) HX.out hown hgrow⟩
          case measure => simp [intOf]; omega
        · obtain rfl : np = k := by omega
          clear hlt hk
          go_wp2_with fail
          go_loopw [6] (fun i wr => ∃ k : Nat, k ≤ nc ∧ i = .int .i64 k ∧ ∃ A4 c4, ToSt 39 31 77 52 79 w wr w.heap.size (w.heap.size + 1) g #[.slice Aa na ca, .slice Af nf cf, .slice Ap np cp, .slice Ac nc cc] o A1 A2 A3 A4 na nf np k c1 c2 c3 c4) (fun i _ => nc - (intOf i).toNat)
          case atStart => exact ⟨0, Nat.zero_le _, rfl, none, 0, HS.out⟩
          case round =>
            obtain ⟨k, hk, rfl, A4, c4, st⟩ := hrel
            clear HS e1 e2
            have HS := Lib.hid st
            have e1 := st.blk.cell 3
            have e2 := st.out.cell 3
            by_cases hlt : k < nc
            · clear st
              obtain ⟨f, hx⟩ := at_of Lc.out hlt
              obtain ⟨b, off, rfl, hb, hc⟩ := (H.out.code).field insE_len hx (by omega)
              have HX := Lib.hid hx
              clear hx
              have HW : Hid (∀ W', Keeps wr W' (ownL (.slice A4 k c4)) → W'.frozen? ⟨g, 3, none⟩ = false ∧ W'.cell? ⟨g, 3, none⟩ = some (.slice A4 k c4) ∧ W'.cell? ⟨w.heap.size, 3, none⟩ = some (.slice (some ⟨b, off, none⟩) nc cc) ∧ W'.cell? ⟨b, off + k * 5, none⟩ = some (.int .i64 f.op) ∧ W'.cell? ⟨b, off + k * 5 + 1, none⟩ = some (.int .i64 f.a0) ∧ W'.cell? ⟨b, off + k * 5 + 2, none⟩ = some (.int .i64 f.a1) ∧ W'.cell? ⟨b, off + k * 5 + 3, none⟩ = some (.int .i64 f.a2) ∧ W'.cell? ⟨b, off + k * 5 + 4, none⟩ = some (.int .i64 f.a3)) := fun W' kk =>
                have kc : ∀ j v, (insE f)[j]? = some v → W'.cell? ⟨b, off + k * 5 + j, none⟩ = some v := fun j v hj => ((kk.cell (p := ⟨b, off + k * 5 + j, none⟩) (Nat.lt_of_lt_of_le hb HS.out.keep.size) (own_out HS.out.r4 hb)).trans (HS.out.keep.cell0 hb)).trans (hc j v hj)
                ⟨(HS.out.out.keep kk (own_outT HS.out.r4 HS.out.out (by decide))).frozen 3, (HS.out.out.keep kk (own_outT HS.out.r4 HS.out.out (by decide))).cell 3, (HS.out.blk.keep kk (own_outT HS.out.r4 HS.out.blk (by decide))).cell 3, kc 0 _ rfl, kc 1 _ rfl, kc 2 _ rfl, kc 3 _ rfl, kc 4 _ rfl⟩
              obtain ⟨q0, q1, q2, q3, q4, q5, q6, q7⟩ := HW.out wr (Keeps.refl _ _)
              clear hc e1 e2
              have b0 : (0 : Int) ≤ (k : Int) := Int.natCast_nonneg _
              have b1 : (k : Int) < (nc : Int) := by omega
              go_wp2_with fail
              refine wp_region_tx (fun W' => W'.frozen? ⟨g, 3, none⟩ = false ∧ W'.cell? ⟨g, 3, none⟩ = some (.slice A4 k c4) ∧ W'.cell? ⟨w.heap.size, 3, none⟩ = some (.slice (some ⟨b, off, none⟩) nc cc) ∧ W'.cell? ⟨b, off + k * 5, none⟩ = some (.int .i64 f.op) ∧ W'.cell? ⟨b, off + k * 5 + 1, none⟩ = some (.int .i64 f.a0) ∧ W'.cell? ⟨b, off + k * 5 + 2, none⟩ = some (.int .i64 f.a1) ∧ W'.cell? ⟨b, off + k * 5 + 3, none⟩ = some (.int .i64 f.a2) ∧ W'.cell? ⟨b, off + k * 5 + 4, none⟩ = some (.int .i64 f.a3)) [(0, true), (1, true), (2, true), (3, true), (4, true), (5, true), (6, true), (7, false), (8, false), (9, false), (10, true), (11, false)] (by kernel_rfl) (by kernel_rfl) (HW.out _ ((Keeps.refl _ _).drew)) (fun hHeld => ?_)
              (repeat (first | (refine wpTx_take (v := ?_) rfl (by assumption) ?_ (by rfl) ?_; rotate_left; (focus (intro w' hSw; (try dsimp only at hSw); go_simp; (try with_reducible rfl); done)); simp only [Act.put, List.setIfInBounds_toArray, List.set_cons_zero, List.set_cons_succ]) | (refine wpTx_skip rfl (by assumption) (by rfl) ?_; simp only [Act.put, List.setIfInBounds_toArray, List.set_cons_zero, List.set_cons_succ])))
              refine wpTx_go rfl (fun K hK => ?_)
              go_simp
              refine (insTo_any f _).mono ?_
              rintro e w3 ⟨rfl, k3⟩
              refine hK.out _ _ ?_ ?_
              · exact HW.out _ (((Keeps.refl _ []).drew.trans k3).to_ _)
              (clear hHeld; intro hHeld; clear hK K; (try simp only [Act.put, List.setIfInBounds_toArray, List.set_cons_zero, List.set_cons_succ]))
              refine wpTx_go rfl (fun K hK => ?_)
              go_simp
              refine hK.out _ _ ?_ ?_
              · exact HW.out _ ((((Keeps.refl _ []).drew.trans k3).alloc _).to_ _)
              (clear hHeld; intro hHeld; clear hK K; (try simp only [Act.put, List.setIfInBounds_toArray, List.set_cons_zero, List.set_cons_succ]))
              refine wpTx_go rfl (fun K hK => ?_)
              refine step_app _ el_pins (by rfl) _ _ (by rfl) w.heap.size A4 k c4 ((o.code.take k).flatMap insE) (by rfl) (own_keep0 HS.out.r4 (((Keeps.refl _ []).drew.trans k3).alloc _)) (some ⟨w3.heap.size, 0, none⟩) 1 1 (insE f) (by rfl) (Rd.one w3 _ (insE f)) rfl (by simp) (by simp [insE, Value.oneCell']) (by omega) (by simp; have := HS.out.keep.size; have := k3.size; simp at this; omega) ?_
              intro A' c' w2 hown hgrow hat
              refine hK.out _ _ ?_ ?_
              · exact HW.out _ (((Keeps.refl _ []).drew.trans k3).alloc _ |>.rest (Keeps.ofGrown hgrow))
              (clear hHeld; intro hHeld; clear hK K; (try simp only [Act.put, List.setIfInBounds_toArray, List.set_cons_zero, List.set_cons_succ]))
              (repeat (first | (refine wpTx_take (v := ?_) rfl (by assumption) ?_ (by rfl) ?_; rotate_left; (focus (intro w' hSw; (try dsimp only at hSw); go_simp; (try with_reducible rfl); done)); simp only [Act.put, List.setIfInBounds_toArray, List.set_cons_zero, List.set_cons_succ]) | (refine wpTx_skip rfl (by assumption) (by rfl) ?_; simp only [Act.put, List.setIfInBounds_toArray, List.set_cons_zero, List.set_cons_succ])))
              refine wpTx_last rfl (fun K hK => ?_)
              go_simp
              refine hK.out _ _ (NoPanic.normal ?_); clear hK K; (try simp only [Act.put, List.setIfInBounds_toArray, List.set_cons_zero, List.set_cons_succ])
              go_wp2_with fail
              go_roundw
              case rel => exact ⟨k + 1, by omega, by go_num, A', c', HS.out.step4 ty_to (((Keeps.refl _ []).drew.trans k3).alloc _) HX.out hown hgrow⟩
              case measure => simp [intOf]; omega
            · obtain rfl : nc = k := by omega
              clear hlt hk
              have d0 := st.out.cell 0
              have d1 := st.out.cell 1
              have d2 := st.out.cell 2
              have d3 := st.out.cell 3
              have r0 := st.res.cell 0
              have r1 := st.res.cell 1
              have r2 := st.res.cell 2
              have r3 := st.res.cell 3
              have f0 := st.res.frozen 0
              have f1 := st.res.frozen 1
              have f2 := st.res.frozen 2
              have f3 := st.res.frozen 3
              clear st
              have HD := Lib.hid (show ToDone w o (.returned (.agg #[.slice A1 na c1, .slice A2 nf c2, .slice A3 np c3, .slice A4 nc c4])) ((((wr.setCell ⟨w.heap.size + 1, 0, none⟩ (.slice A1 na c1)).setCell ⟨w.heap.size + 1, 1, none⟩ (.slice A2 nf c2)).setCell ⟨w.heap.size + 1, 2, none⟩ (.slice A3 np c3)).setCell ⟨w.heap.size + 1, 3, none⟩ (.slice A4 nc c4)) from toDone_mk ty_to HS.out La.out Lf.out Lp.out Lc.out (by omega))
              go_wp2_with fail
              exact bodyPost_ret (v := .agg #[.slice A1 na c1, .slice A2 nf c2, .slice A3 np c3, .slice A4 nc c4]) (by simp [results, Tryz.results15, go_sem, *]) rfl HD.out
end Go.Proofs.YtpcihhdalofdiaaGreatDoor
