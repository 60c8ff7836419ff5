/- What stands in a round of Fix. Printed by gen_fix.py. -/
import Derived.Test.YtdcjiohbnnipdaaFixLaw
import Derived.Test.YtdcjiohbnnipdaaObjFrom
import Derived.Test.YtdcjiohbnnipdaaObjArgs
import Derived.Laws.OwnMore
namespace Go.Proofs.Ytdcjiohbnnipdaa
open Go.RowKit
attribute [local irreducible] kindsOf nameOf bigB checkE

/-- The argument's box, the result's block, the letters, the object that is made: its block, its names, its rows. -/
structure FxSt (w wr : World) (cs : Array Value) (A3 A4 : Option Addr) (n3 n4 c3 c4 : Nat) (ps : List LPred) (is : List LIns) : Prop where
  box : Blk wr (w.heap.size) 38 cs
  res : Blk wr (w.heap.size + 1) 38 #[.slice none 0 0, .slice none 0 0, .slice none 0 0, .slice none 0 0]
  letr : Blk wr (w.heap.size + 1 + 1) 9 #[.string ⟨#[97]⟩, .string ⟨#[98]⟩, .string ⟨#[99]⟩, .string ⟨#[100]⟩]
  ats : Blk wr (w.heap.size + 1 + 1 + 1) 9 #[.string ⟨#[97]⟩, .string ⟨#[98]⟩, .string ⟨#[110, 105, 108]⟩]
  fus : Blk wr (w.heap.size + 1 + 1 + 1 + 1) 105 #[.string ⟨#[102]⟩, .int .i64 1, .string ⟨#[103]⟩, .int .i64 2]
  out : Blk wr (w.heap.size + 1 + 1 + 1 + 1 + 1) 38 #[.slice (some ⟨w.heap.size + 1 + 1 + 1, 0, none⟩) 3 3, .slice (some ⟨w.heap.size + 1 + 1 + 1 + 1, 0, none⟩) 2 2, .slice A3 n3 c3, .slice A4 n4 c4]
  r3 : wr.ownsRow w.heap.size 107 3 (.slice A3 n3 c3) n3 (ps.flatMap predE)
  r4 : wr.ownsRow w.heap.size 110 5 (.slice A4 n4 c4) n4 (is.flatMap insE)
  keep : Keeps w wr []
theorem FxSt.go {w wr : World} {cs : Array Value} {A3 A4 : Option Addr} {n3 n4 c3 c4 : Nat} {ps : List LPred} {is : List LIns} (h : FxSt w wr cs A3 A4 n3 n4 c3 c4 ps is) {W : World} (k : Keeps wr W []) : FxSt w W cs A3 A4 n3 n4 c3 c4 ps is :=
  ⟨h.box.keep k (by simp), h.res.keep k (by simp), h.letr.keep k (by simp), h.ats.keep k (by simp), h.fus.keep k (by simp), h.out.keep k (by simp), own_keep0 h.r3 k, own_keep0 h.r4 k, h.keep.trans k⟩
/-- .. behind a call that leaves all but newer blocks that are no rows of these. -/
theorem FxSt.past {w wr : World} {cs : Array Value} {A3 A4 : Option Addr} {n3 n4 c3 c4 : Nat} {ps : List LPred} {is : List LIns} (h : FxSt w wr cs A3 A4 n3 n4 c3 c4 ps is) {W : World} {S : List Nat} (k : Keeps wr W S) (hS : ∀ q, q ∈ S → w.heap.size + 1 + 1 + 1 + 1 + 1 < q ∧ q ∉ ownL (.slice A3 n3 c3) ∧ q ∉ ownL (.slice A4 n4 c4)) : FxSt w W cs A3 A4 n3 n4 c3 c4 ps is := by
  have off : ∀ b, b ≤ w.heap.size + 1 + 1 + 1 + 1 + 1 → b ∉ S := fun b hb hm => by have := (hS b hm).1; omega
  have ownS : ∀ {e : TypeId} {sz n c : Nat} {A : Option Addr} {xs : List Value}, (∀ q, q ∈ S → q ∉ ownL (.slice A n c)) → wr.ownsRow w.heap.size e sz (.slice A n c) n xs → W.ownsRow w.heap.size e sz (.slice A n c) n xs := fun hq ho => by
    refine ⟨ho.1, ?_⟩
    rcases ho.2 with h2 | ⟨g, cap, cur, he, hb, hg, r⟩
    · exact .inl h2
    · refine .inr ⟨g, cap, cur, he, hb, (k.block g (Array.getElem?_eq_some_iff.1 hg).1 (fun hm => hq g hm (by rw [he]; simp [ownL, Value.ownBlock]))).trans hg, r⟩
  exact ⟨h.box.keep k (off _ (by omega)), h.res.keep k (off _ (by omega)), h.letr.keep k (off _ (by omega)), h.ats.keep k (off _ (by omega)), h.fus.keep k (off _ (by omega)), h.out.keep k (off _ (by omega)),
    ownS (fun q hq => (hS q hq).2.1) h.r3, ownS (fun q hq => (hS q hq).2.2) h.r4, h.keep.past k (fun q hq => .inr (by have := (hS q hq).1; omega))⟩
theorem FxSt.see3 {w wr : World} {cs : Array Value} {A3 A4 : Option Addr} {n3 n4 c3 c4 : Nat} {ps : List LPred} {is : List LIns} (h : FxSt w wr cs A3 A4 n3 n4 c3 c4 ps is) {W' : World} (kk : Keeps wr W' (ownL (.slice A3 n3 c3))) : W'.frozen? ⟨w.heap.size + 1 + 1 + 1 + 1 + 1, 2, none⟩ = false ∧ W'.cell? ⟨w.heap.size + 1 + 1 + 1 + 1 + 1, 2, none⟩ = some (.slice A3 n3 c3) :=
  ⟨(h.out.keep kk (own_outT h.r3 h.out (by decide))).frozen 2, (h.out.keep kk (own_outT h.r3 h.out (by decide))).cell 2⟩
theorem FxSt.step3 {w wr : World} {cs : Array Value} {A3 A4 : Option Addr} {n3 n4 c3 c4 : Nat} {ps : List LPred} {is : List LIns} (s0 : FxSt w wr cs A3 A4 n3 n4 c3 c4 ps is) {W W2 : World} (k : Keeps wr W []) {x : LPred} {A' : Option Addr} {c' : Nat}
    (hown : W2.ownsRow w.heap.size 107 3 (.slice A' (n3 + 1) c') (n3 + 1) (ps.flatMap predE ++ predE x)) (hg : W.grownBy W2 (Value.slice A3 n3 c3).ownBlock) : FxSt w (W2.setCell ⟨w.heap.size + 1 + 1 + 1 + 1 + 1, 2, none⟩ (.slice A' (n3 + 1) c')) cs A' A4 (n3 + 1) n4 c' c4 (ps ++ [x]) is := by
  have s := s0.go k
  have u0 := blk_far s.box s.r3 (by decide) hg
  have u1 := blk_far s.res s.r3 (by decide) hg
  have u2 := blk_far s.letr s.r3 (by decide) hg
  have u3 := blk_far s.ats s.r3 (by decide) hg
  have u4 := blk_far s.fus s.r3 (by decide) hg
  have u5 := blk_far s.out s.r3 (by decide) hg
  have ro := own_set (own_far s.r4 s.r3 (by decide) hg) u5 (by decide) 2 (.slice A' (n3 + 1) c')
  have rn := own_set hown u5 (by decide) 2 (.slice A' (n3 + 1) c')
  have kg : Keeps w W2 [] := s.keep.app s.r3 (Nat.le_refl _) hg
  have hrn : (W2.setCell ⟨w.heap.size + 1 + 1 + 1 + 1 + 1, 2, none⟩ (.slice A' (n3 + 1) c')).ownsRow w.heap.size 107 3 (.slice A' (n3 + 1) c') (n3 + 1) ((ps ++ [x]).flatMap predE) := by
    rw [List.flatMap_append, List.flatMap_singleton]
    exact rn
  exact ⟨u0.far (by simp; omega) _, u1.far (by simp) _, u2.far (by simp) _, u3.far (by simp) _, u4.far (by simp) _, by have := u5.set_ 2 (.slice A' (n3 + 1) c'); simpa using this, hrn, ro, kg.setCell (.inr (by simp; omega)) _⟩
theorem FxSt.see4 {w wr : World} {cs : Array Value} {A3 A4 : Option Addr} {n3 n4 c3 c4 : Nat} {ps : List LPred} {is : List LIns} (h : FxSt w wr cs A3 A4 n3 n4 c3 c4 ps is) {W' : World} (kk : Keeps wr W' (ownL (.slice A4 n4 c4))) : W'.frozen? ⟨w.heap.size + 1 + 1 + 1 + 1 + 1, 3, none⟩ = false ∧ W'.cell? ⟨w.heap.size + 1 + 1 + 1 + 1 + 1, 3, none⟩ = some (.slice A4 n4 c4) :=
  ⟨(h.out.keep kk (own_outT h.r4 h.out (by decide))).frozen 3, (h.out.keep kk (own_outT h.r4 h.out (by decide))).cell 3⟩
theorem FxSt.step4 {w wr : World} {cs : Array Value} {A3 A4 : Option Addr} {n3 n4 c3 c4 : Nat} {ps : List LPred} {is : List LIns} (s0 : FxSt w wr cs A3 A4 n3 n4 c3 c4 ps is) {W W2 : World} (k : Keeps wr W []) {x : LIns} {A' : Option Addr} {c' : Nat}
    (hown : W2.ownsRow w.heap.size 110 5 (.slice A' (n4 + 1) c') (n4 + 1) (is.flatMap insE ++ insE x)) (hg : W.grownBy W2 (Value.slice A4 n4 c4).ownBlock) : FxSt w (W2.setCell ⟨w.heap.size + 1 + 1 + 1 + 1 + 1, 3, none⟩ (.slice A' (n4 + 1) c')) cs A3 A' n3 (n4 + 1) c3 c' ps (is ++ [x]) := by
  have s := s0.go k
  have u0 := blk_far s.box s.r4 (by decide) hg
  have u1 := blk_far s.res s.r4 (by decide) hg
  have u2 := blk_far s.letr s.r4 (by decide) hg
  have u3 := blk_far s.ats s.r4 (by decide) hg
  have u4 := blk_far s.fus s.r4 (by decide) hg
  have u5 := blk_far s.out s.r4 (by decide) hg
  have ro := own_set (own_far s.r3 s.r4 (by decide) hg) u5 (by decide) 3 (.slice A' (n4 + 1) c')
  have rn := own_set hown u5 (by decide) 3 (.slice A' (n4 + 1) c')
  have kg : Keeps w W2 [] := s.keep.app s.r4 (Nat.le_refl _) hg
  have hrn : (W2.setCell ⟨w.heap.size + 1 + 1 + 1 + 1 + 1, 3, none⟩ (.slice A' (n4 + 1) c')).ownsRow w.heap.size 110 5 (.slice A' (n4 + 1) c') (n4 + 1) ((is ++ [x]).flatMap insE) := by
    rw [List.flatMap_append, List.flatMap_singleton]
    exact rn
  exact ⟨u0.far (by simp; omega) _, u1.far (by simp) _, u2.far (by simp) _, u3.far (by simp) _, u4.far (by simp) _, by have := u5.set_ 3 (.slice A' (n4 + 1) c'); simpa using this, ro, hrn, kg.setCell (.inr (by simp; omega)) _⟩
theorem ins_set : ∀ (l : List LIns) (k : Nat) (x : LIns), k < l.length → (((((l.flatMap insE).set (k * 5) (.int .i64 x.op)).set (k * 5 + 1) (.int .i64 x.a0)).set (k * 5 + 2) (.int .i64 x.a1)).set (k * 5 + 3) (.int .i64 x.a2)).set (k * 5 + 4) (.int .i64 x.a3) = (l.set k x).flatMap insE
  | [], k, x, h => absurd h (by simp)
  | y :: l, 0, x, _ => by
    simp only [List.flatMap_cons, insE, List.set_cons_zero, List.cons_append, List.nil_append, Nat.zero_mul, Nat.zero_add, List.set_cons_succ]
  | y :: l, k + 1, x, h => by
    have ih := ins_set l k x (by simpa using h)
    rw [List.set_cons_succ, List.flatMap_cons, List.flatMap_cons, ← ih]
    have hl : (insE y).length = 5 := rfl
    have hs : ∀ (a b : List Value) (j : Nat) (v : Value), a.length = 5 → (a ++ b).set (j + 5) v = a ++ b.set j v := fun a b j v ha => by
      rw [List.set_append_right _ _ (by omega), ha]
      congr 1
    rw [show (k + 1) * 5 = k * 5 + 5 by omega, show k * 5 + 5 + 1 = (k * 5 + 1) + 5 by omega, show k * 5 + 5 + 2 = (k * 5 + 2) + 5 by omega, show k * 5 + 5 + 3 = (k * 5 + 3) + 5 by omega, show k * 5 + 5 + 4 = (k * 5 + 4) + 5 by omega,
      hs _ _ _ _ hl, hs _ _ _ _ hl, hs _ _ _ _ hl, hs _ _ _ _ hl, hs _ _ _ _ hl]
/-- An instruction is laid into its place. -/
theorem FxSt.lay {w wr : World} {cs : Array Value} {A3 A4 : Option Addr} {n3 n4 c3 c4 : Nat} {ps : List LPred} {is : List LIns} (s : FxSt w wr cs A3 A4 n3 n4 c3 c4 ps is) {g k : Nat} (hA : A4 = some ⟨g, 0, none⟩) (hk : k < n4) (hl : is.length = n4) (x : LIns) :
    FxSt w (((((wr.setCell ⟨g, k * 5, none⟩ (.int .i64 x.op)).setCell ⟨g, k * 5 + 1, none⟩ (.int .i64 x.a0)).setCell ⟨g, k * 5 + 2, none⟩ (.int .i64 x.a1)).setCell ⟨g, k * 5 + 3, none⟩ (.int .i64 x.a2)).setCell ⟨g, k * 5 + 4, none⟩ (.int .i64 x.a3)) cs A3 A4 n3 n4 c3 c4 ps (is.set k x) := by
  subst hA
  have one : ∀ {W : World} {xs : List Value} (j : Nat) (u : Value), Blk W (w.heap.size) 38 cs ∧ Blk W (w.heap.size + 1) 38 #[.slice none 0 0, .slice none 0 0, .slice none 0 0, .slice none 0 0] ∧ Blk W (w.heap.size + 1 + 1) 9 #[.string ⟨#[97]⟩, .string ⟨#[98]⟩, .string ⟨#[99]⟩, .string ⟨#[100]⟩] ∧ Blk W (w.heap.size + 1 + 1 + 1) 9 #[.string ⟨#[97]⟩, .string ⟨#[98]⟩, .string ⟨#[110, 105, 108]⟩] ∧ Blk W (w.heap.size + 1 + 1 + 1 + 1) 105 #[.string ⟨#[102]⟩, .int .i64 1, .string ⟨#[103]⟩, .int .i64 2] ∧
      Blk W (w.heap.size + 1 + 1 + 1 + 1 + 1) 38 #[.slice (some ⟨w.heap.size + 1 + 1 + 1, 0, none⟩) 3 3, .slice (some ⟨w.heap.size + 1 + 1 + 1 + 1, 0, none⟩) 2 2, .slice A3 n3 c3, .slice (some ⟨g, 0, none⟩) n4 c4] ∧ W.ownsRow w.heap.size 107 3 (.slice A3 n3 c3) n3 (ps.flatMap predE) ∧ W.ownsRow w.heap.size 110 5 (.slice (some ⟨g, 0, none⟩) n4 c4) n4 xs ∧ Keeps w W [] →
      (fun (W : World) (xs : List Value) => Blk W (w.heap.size) 38 cs ∧ Blk W (w.heap.size + 1) 38 #[.slice none 0 0, .slice none 0 0, .slice none 0 0, .slice none 0 0] ∧ Blk W (w.heap.size + 1 + 1) 9 #[.string ⟨#[97]⟩, .string ⟨#[98]⟩, .string ⟨#[99]⟩, .string ⟨#[100]⟩] ∧ Blk W (w.heap.size + 1 + 1 + 1) 9 #[.string ⟨#[97]⟩, .string ⟨#[98]⟩, .string ⟨#[110, 105, 108]⟩] ∧ Blk W (w.heap.size + 1 + 1 + 1 + 1) 105 #[.string ⟨#[102]⟩, .int .i64 1, .string ⟨#[103]⟩, .int .i64 2] ∧
      Blk W (w.heap.size + 1 + 1 + 1 + 1 + 1) 38 #[.slice (some ⟨w.heap.size + 1 + 1 + 1, 0, none⟩) 3 3, .slice (some ⟨w.heap.size + 1 + 1 + 1 + 1, 0, none⟩) 2 2, .slice A3 n3 c3, .slice (some ⟨g, 0, none⟩) n4 c4] ∧ W.ownsRow w.heap.size 107 3 (.slice A3 n3 c3) n3 (ps.flatMap predE) ∧ W.ownsRow w.heap.size 110 5 (.slice (some ⟨g, 0, none⟩) n4 c4) n4 xs ∧ Keeps w W []) (W.setCell ⟨g, j, none⟩ u) (xs.set j u) := by
    rintro W xs j u ⟨a0, a1, a2, a3, a4, a5, a6, a7, a8⟩
    obtain ⟨b7, hg⟩ := a7.stored j u
    have hb : w.heap.size ≤ g := (a7.lt g rfl).1
    exact ⟨blk_far a0 a7 (by decide) hg, blk_far a1 a7 (by decide) hg, blk_far a2 a7 (by decide) hg, blk_far a3 a7 (by decide) hg, blk_far a4 a7 (by decide) hg, blk_far a5 a7 (by decide) hg, own_far a6 a7 (by decide) hg, b7, a8.setCell (.inr hb) _⟩
  have h5 := one (k * 5 + 4) (.int .i64 x.a3) (one (k * 5 + 3) (.int .i64 x.a2) (one (k * 5 + 2) (.int .i64 x.a1) (one (k * 5 + 1) (.int .i64 x.a0) (one (k * 5) (.int .i64 x.op) ⟨s.box, s.res, s.letr, s.ats, s.fus, s.out, s.r3, s.r4, s.keep⟩))))
  have he : (((((is.flatMap insE).set (k * 5) (.int .i64 x.op)).set (k * 5 + 1) (.int .i64 x.a0)).set (k * 5 + 2) (.int .i64 x.a1)).set (k * 5 + 3) (.int .i64 x.a2)).set (k * 5 + 4) (.int .i64 x.a3) = (is.set k x).flatMap insE := ins_set is k x (by omega)
  obtain ⟨a0, a1, a2, a3, a4, a5, a6, a7, a8⟩ := h5
  rw [he] at a7
  exact ⟨a0, a1, a2, a3, a4, a5, a6, a7, a8⟩
def FixDone (w : World) (e : Ending) (w' : World) : Prop :=
  ∃ f : LObj, checkE f = 0 ∧ Fits f ∧ ∃ Aa Af Ap Ac ca cf cp cc, e = .returned (.agg #[.slice Aa f.atoms.length ca, .slice Af f.funs.length cf, .slice Ap f.preds.length cp, .slice Ac f.code.length cc]) ∧ ObIs w' f Aa Af Ap Ac ca cf cp cc ∧
    (∀ a, Aa = some a ∨ Af = some a ∨ Ap = some a ∨ Ac = some a → w.heap.size ≤ a.block) ∧ Keeps w w' []
theorem set_take_all {α : Type} {p : α → Prop} {l : List α} {k : Nat} {x : α} (h : ∀ y ∈ l.take k, p y) (hx : p x) : ∀ y ∈ (l.set k x).take (k + 1), p y := by
  intro y hy
  obtain ⟨i, hi, rfl⟩ := List.mem_iff_getElem.1 hy
  rw [List.length_take, List.length_set] at hi
  rw [List.getElem_take, List.getElem_set]
  split
  · exact hx
  · exact h _ (List.mem_iff_getElem.2 ⟨i, by rw [List.length_take]; omega, List.getElem_take⟩)
theorem insG_of {P n : Nat} {op : Int} {l : List Int} {m : Nat} (h : 0 ≤ op ∧ op < 27) (hm : (kindsOf op).length = m) (hl : l.length = m) (hA : ∀ t, t < m → argG P n op t (l.getD t 0)) : insG P n (insOf op l) := by
  refine ⟨by have : (insOf op l).op = op := rfl; rw [this]; simp only [opIn, Bool.and_eq_true, decide_eq_true_eq]; omega, fun t ht => ?_⟩
  rw [insOf_arg _ _ ht]
  show argG P n op t _
  by_cases htm : t < m
  · exact hA t htm
  · unfold argG
    rw [List.getElem?_eq_none (by omega)]
    rw [List.getD_eq_getElem?_getD, List.getElem?_eq_none (by omega)]
    rfl
end Go.Proofs.Ytdcjiohbnnipdaa
