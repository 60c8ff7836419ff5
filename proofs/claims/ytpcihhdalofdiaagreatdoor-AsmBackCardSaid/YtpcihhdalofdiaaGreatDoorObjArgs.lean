/- An object that came in, read off memory. -/
import Derived.Test.YtpcihhdalofdiaaGreatDoorObj
import Derived.Test.YtpcihhdalofdiaaGreatDoorLift
import Derived.Lib.SmallJoins
import Derived.Deep.Slices
import Derived.Deep.Fields
namespace Go.Proofs.YtpcihhdalofdiaaGreatDoor
open Go.Joins Go.ChangeShapes Go.WideShapes Go.ChangeAt Go.RowKit Go.Deep

def In64 (x : Int) : Prop := -9223372036854775808 ≤ x ∧ x ≤ 9223372036854775807
def goodF (f : LFun) : Prop := In64 f.arity
def goodP (p : LPred) : Prop := In64 p.arity ∧ In64 p.entry
def goodI (i : LIns) : Prop := In64 i.op ∧ In64 i.a0 ∧ In64 i.a1 ∧ In64 i.a2 ∧ In64 i.a3

theorem len2 {α : Type} {l : List α} (h : l.length = 2) : ∃ c0 c1, l = [c0, c1] := by
  match l, h with
  | [c0, c1], _ => exact ⟨c0, c1, rfl⟩
theorem len3 {α : Type} {l : List α} (h : l.length = 3) : ∃ c0 c1 c2, l = [c0, c1, c2] := by
  match l, h with
  | [c0, c1, c2], _ => exact ⟨c0, c1, c2, rfl⟩
theorem len4 {α : Type} {l : List α} (h : l.length = 4) : ∃ c0 c1 c2 c3, l = [c0, c1, c2, c3] := by
  match l, h with
  | [c0, c1, c2, c3], _ => exact ⟨c0, c1, c2, c3, rfl⟩
theorem len5 {α : Type} {l : List α} (h : l.length = 5) : ∃ c0 c1 c2 c3 c4, l = [c0, c1, c2, c3, c4] := by
  match l, h with
  | [c0, c1, c2, c3, c4], _ => exact ⟨c0, c1, c2, c3, c4, rfl⟩

section
variable {H : Type} {enc : TypeId × Value → H} {w : World} {base : Nat} {sp : Nat → Bool} {held : Bool} {fuel : Nat} {cs : List Value} {y : DataW H × List MemPlace}
theorem str_of (h : DataW.trod enc Tryz.prog w base sp held fuel 9 cs = some y) : ∃ s, cs = strE s ∧ True := by
  obtain ⟨s, h1, _, _⟩ := DataW.trod_string Tryz.underlying9 h
  exact ⟨s, h1, trivial⟩
theorem fun_of (h : DataW.trod enc Tryz.prog w base sp held fuel 76 cs = some y) : ∃ f, cs = funE f ∧ goodF f := by
  obtain ⟨y0, y1, n, _, hl, h0, h1⟩ := trod_struct2 Tryz.underlying76 h
  have e : Tryz.prog.cellsOf 76 = 2 := by kernel_rfl
  have e0 : Tryz.prog.cellsOf 9 = 1 := by kernel_rfl
  have e1 : Tryz.prog.cellsOf 3 = 1 := by kernel_rfl
  replace hl := hl.trans e
  obtain ⟨c0, c1, rfl⟩ := len2 hl
  simp only [e0, e1, List.drop, List.take] at h0 h1
  obtain ⟨x0, q0, _⟩ := DataW.trod_string Tryz.underlying9 h0
  obtain ⟨x1, q1, _, z1⟩ := DataW.trod_int Tryz.underlying3 h1
  simp only [List.cons.injEq, and_true] at q0 q1
  subst q0 q1
  exact ⟨⟨x0, x1⟩, rfl, wf_i64 z1⟩
theorem pred_of (h : DataW.trod enc Tryz.prog w base sp held fuel 74 cs = some y) : ∃ f, cs = predE f ∧ goodP f := by
  obtain ⟨y0, y1, y2, n, _, hl, h0, h1, h2⟩ := trod_struct3 Tryz.underlying74 h
  have e : Tryz.prog.cellsOf 74 = 3 := by kernel_rfl
  have e0 : Tryz.prog.cellsOf 9 = 1 := by kernel_rfl
  have e1 : Tryz.prog.cellsOf 3 = 1 := by kernel_rfl
  replace hl := hl.trans e
  obtain ⟨c0, c1, c2, rfl⟩ := len3 hl
  simp only [e0, e1, List.drop, List.take] at h0 h1 h2
  obtain ⟨x0, q0, _⟩ := DataW.trod_string Tryz.underlying9 h0
  obtain ⟨x1, q1, _, z1⟩ := DataW.trod_int Tryz.underlying3 h1
  obtain ⟨x2, q2, _, z2⟩ := DataW.trod_int Tryz.underlying3 h2
  simp only [List.cons.injEq, and_true] at q0 q1 q2
  subst q0 q1 q2
  exact ⟨⟨x0, x1, x2⟩, rfl, wf_i64 z1, wf_i64 z2⟩
theorem four_of (h : DataW.trod enc Tryz.prog w base sp held fuel 70 cs = some y) : ∃ a b c d : Int, cs = [.int .i64 a, .int .i64 b, .int .i64 c, .int .i64 d] ∧ In64 a ∧ In64 b ∧ In64 c ∧ In64 d := by
  obtain ⟨xs, m, _, _, hl, hx, hi⟩ := DataW.trod_array Tryz.underlying70 h
  have e : Tryz.prog.cellsOf 70 = 4 := by kernel_rfl
  have e1 : Tryz.prog.cellsOf 3 = 1 := by kernel_rfl
  replace hl := hl.trans e
  obtain ⟨c0, c1, c2, c3, rfl⟩ := len4 hl
  obtain ⟨y0, y1, y2, y3, rfl⟩ := len4 hx
  have h0 := hi 0 (by omega)
  have h1 := hi 1 (by omega)
  have h2 := hi 2 (by omega)
  have h3 := hi 3 (by omega)
  simp only [e1, Nat.mul_one, List.drop, List.take] at h0 h1 h2 h3
  obtain ⟨x0, q0, _, z0⟩ := DataW.trod_int Tryz.underlying3 h0
  obtain ⟨x1, q1, _, z1⟩ := DataW.trod_int Tryz.underlying3 h1
  obtain ⟨x2, q2, _, z2⟩ := DataW.trod_int Tryz.underlying3 h2
  obtain ⟨x3, q3, _, z3⟩ := DataW.trod_int Tryz.underlying3 h3
  simp only [List.cons.injEq, and_true] at q0 q1 q2 q3
  subst q0 q1 q2 q3
  exact ⟨x0, x1, x2, x3, rfl, wf_i64 z0, wf_i64 z1, wf_i64 z2, wf_i64 z3⟩
theorem ins_of (h : DataW.trod enc Tryz.prog w base sp held fuel 72 cs = some y) : ∃ f, cs = insE f ∧ goodI f := by
  obtain ⟨y0, y1, n, _, hl, h0, h1⟩ := trod_struct2 Tryz.underlying72 h
  have e : Tryz.prog.cellsOf 72 = 5 := by kernel_rfl
  have e0 : Tryz.prog.cellsOf 3 = 1 := by kernel_rfl
  have e1 : Tryz.prog.cellsOf 70 = 4 := by kernel_rfl
  replace hl := hl.trans e
  obtain ⟨c0, c1, c2, c3, c4, rfl⟩ := len5 hl
  simp only [e0, e1, List.drop, List.take] at h0 h1
  obtain ⟨x0, q0, _, z0⟩ := DataW.trod_int Tryz.underlying3 h0
  obtain ⟨a, b, c, d, q1, g⟩ := four_of h1
  simp only [List.cons.injEq, and_true] at q0 q1
  obtain ⟨rfl, rfl, rfl, rfl⟩ := q1
  subst q0
  exact ⟨⟨x0, a, b, c, d⟩, rfl, wf_i64 z0, g⟩
end

/-- A slice that came in, of whatever elements. -/
theorem list_of {α : Type} {encE : α → List Value} {sz : Nat} (hsz : ∀ x, (encE x).length = sz) (h0 : 0 < sz) (d : α) (good : α → Prop) {t e : TypeId} (ht : Tryz.prog.underlying t = some (.slice e)) (he : Tryz.prog.cellsOf e = sz)
    {H : Type} {enc : TypeId × Value → H} {w : World} {fuel : Nat} {A : Option Addr} {len cap : Nat} {x : DataW H × List MemPlace}
    (hel : ∀ {fuel : Nat} {cs : List Value} {y : DataW H × List MemPlace}, DataW.trod enc Tryz.prog w 0 (fun _ => true) true fuel e cs = some y → ∃ x, cs = encE x ∧ good x)
    (h : DataW.trod enc Tryz.prog w 0 (fun _ => true) true fuel t [.slice A len cap] = some x) :
    ∃ l : List α, l.length = len ∧ Rd w A (l.flatMap encE) ∧ (A = none → cap = 0) ∧ (∀ x ∈ l, good x) ∧ len ≤ cap ∧ cap ≤ maxLen := by
  rcases open_slice ht h with ⟨hcs, _⟩ | ⟨a, len', cap', m, n, D, Pl, hcs, _, hl, hm, hmm, _, hi⟩
  · simp only [List.cons.injEq, Value.slice.injEq, and_true] at hcs
    obtain ⟨rfl, rfl, rfl⟩ := hcs
    exact ⟨[], rfl, Rd.nil, fun _ => rfl, fun x hx => absurd hx (by simp), Nat.le_refl _, Nat.zero_le _⟩
  · simp only [List.cons.injEq, Value.slice.injEq, and_true] at hcs
    obtain ⟨rfl, rfl, rfl⟩ := hcs
    simp only [if_true] at hmm
    subst hmm
    have hall : ∀ i, ∃ o : α, i < len → good o ∧ ∀ j, j < sz → w.cell? ((a.add (i * sz)).add j) = (encE o)[j]? := fun i => by
      by_cases hlt : i < len
      · obtain ⟨cs', hc, ht⟩ := hi i (by omega)
        rw [he] at hc
        obtain ⟨_, _, hat⟩ := World.cells?_some hc
        obtain ⟨o, rfl, hg⟩ := hel ht
        exact ⟨o, fun _ => ⟨hg, hat⟩⟩
      · exact ⟨d, fun h => absurd h hlt⟩
    obtain ⟨f, hf⟩ := Classical.axiomOfChoice hall
    refine ⟨(List.range len).map f, by simp, ?_, (fun h => by cases h), ?_, hl, hm⟩
    · intro k hk
      rw [length_flat hsz, List.length_map, List.length_range] at hk
      have hq : k / sz < len := (Nat.div_lt_iff_lt_mul h0).2 hk
      have hr : k % sz < sz := Nat.mod_lt _ h0
      have hspot : a.spot = none := by
        have h1 := (hf 0 (Nat.lt_of_le_of_lt (Nat.zero_le _) hq)).2 0 h0
        have : ∃ v, w.cell? ((a.add (0 * sz)).add 0) = some v := ⟨_, h1.trans (List.getElem?_eq_getElem (by rw [hsz]; exact h0))⟩
        obtain ⟨v, hv⟩ := this
        have h0 := World.cell?_spot hv
        simpa [Addr.add] using h0
      obtain ⟨bk, off, spot⟩ := a
      simp only at hspot
      subst hspot
      have hcell := (hf (k / sz) hq).2 (k % sz) hr
      have hv : (encE (f (k / sz)))[k % sz]? = some ((encE (f (k / sz)))[k % sz]'(by rw [hsz]; exact hr)) := List.getElem?_eq_getElem (by rw [hsz]; exact hr)
      have hk2 : k / sz * sz + k % sz = k := by rw [Nat.mul_comm]; exact Nat.div_add_mod k sz
      rw [hv] at hcell
      simp only [add_lit] at hcell
      rw [Nat.add_assoc, hk2] at hcell
      refine ⟨bk, off, _, rfl, World.block_lt_of_cell? w _ hcell, hcell, ?_⟩
      have hlen : k / sz < ((List.range len).map f).length := by simpa using hq
      have := getElem?_flat hsz ((List.range len).map f) (k / sz) hlen (k % sz) hr
      rw [hk2] at this
      rw [this]
      simp only [List.getElem_map, List.getElem_range]
      exact hv
    · intro x hx
      obtain ⟨i, hi2, rfl⟩ := List.mem_map.1 hx
      exact (hf i (List.mem_range.1 hi2)).1

structure GoodO (o : LObj) : Prop where
  funs : ∀ f ∈ o.funs, goodF f
  preds : ∀ f ∈ o.preds, goodP f
  code : ∀ f ∈ o.code, goodI f
set_option maxRecDepth 100000 in
theorem obj_of {H : Type} {enc : TypeId × Value → H} {w : World} {v : Value} {d : DataW H} {p : List MemPlace} {r : Reach} {b0 : Nat} (hv : Value.okWide Tryz.prog w r b0 39 v)
    (h : DataW.Trod enc Tryz.prog w 0 (fun _ => true) true 39 v d p) :
    ∃ (o : LObj) (Aa Af Ap Ac : Option Addr) (ca cf cp cc : Nat), v = .agg #[.slice Aa o.atoms.length ca, .slice Af o.funs.length cf, .slice Ap o.preds.length cp, .slice Ac o.code.length cc] ∧ ObIs w o Aa Af Ap Ac ca cf cp cc ∧ GoodO o := by
  obtain ⟨v0, v1, v2, v3, y0, y1, y2, y3, n, rfl, _, _, h0, h1, h2, h3⟩ := open_agg4 Tryz.underlying39 (by kernel_rfl) (by kernel_rfl) hv h
  obtain ⟨Aa, la, ca, q0⟩ := slice_form Tryz.underlying22 h0
  obtain ⟨Af, lf, cf, q1⟩ := slice_form Tryz.underlying35 h1
  obtain ⟨Ap, lp, cp, q2⟩ := slice_form Tryz.underlying36 h2
  obtain ⟨Ac, lc, cc, q3⟩ := slice_form Tryz.underlying37 h3
  simp only [List.cons.injEq, and_true] at q0 q1 q2 q3
  subst q0 q1 q2 q3
  obtain ⟨ats, r0, d0, z0, _, _, _⟩ := list_of strE_len (by omega) ⟨#[]⟩ (fun _ => True) Tryz.underlying22 (by kernel_rfl) str_of h0
  obtain ⟨fs, r1, d1, z1, g1, _, _⟩ := list_of funE_len (by omega) ⟨⟨#[]⟩, 0⟩ goodF Tryz.underlying35 (by kernel_rfl) fun_of h1
  obtain ⟨ps, r2, d2, z2, g2, _, _⟩ := list_of predE_len (by omega) ⟨⟨#[]⟩, 0, 0⟩ goodP Tryz.underlying36 (by kernel_rfl) pred_of h2
  obtain ⟨cs, r3, d3, z3, g3, _, _⟩ := list_of insE_len (by omega) ⟨0, 0, 0, 0, 0⟩ goodI Tryz.underlying37 (by kernel_rfl) ins_of h3
  subst r0 r1 r2 r3
  exact ⟨⟨ats, fs, ps, cs⟩, Aa, Af, Ap, Ac, ca, cf, cp, cc, rfl, ⟨d0, d1, d2, d3, z0, z1, z2, z3⟩, g1, g2, g3⟩
end Go.Proofs.YtpcihhdalofdiaaGreatDoor
