/- Words for memory: a slice that reads as a list of cells, wherever it lies below a block. No program in sight. -/
import Derived.Test.YtnonfmaehfmigaaDoorRows
import Derived.WalkKit
import Derived.WalkSpells
import Derived.WalkLawsBesides
import Derived.Deep.LoopGhost
import Derived.Deep.AppendLies
import Derived.Maps.AppendAt
import Derived.Lib.Hide
import Derived.Lib.SlBytesConst
import Derived.Outline
import Derived.Handy
import Derived.Laws.AppendOwnNone
import Derived.Deep.RegionLaw
import Derived.Deep.RegionHeld3
import Derived.Deep.DrawnRows
import Derived.Lib.ConvBytes
import Derived.Laws.Strings
import Derived.BigRegion
import Derived.BigQuiet
import Derived.Deep.QuietTactic
import Derived.RegionTactic
namespace Go.Proofs.YtnonfmaehfmigaaDoor
open Go.RowKit

theorem block_of_add (a : Addr) (n : Nat) : (a.add n).block = a.block := by unfold Addr.add; split <;> rfl

/-- The slice's cells, from its address on, below block B. -/
def Row (w : World) (B : Nat) (A : Option Addr) (vs : List Value) : Prop :=
  ∀ k, k < vs.length → ∃ b off v, A = some ⟨b, off, none⟩ ∧ b < B ∧ w.cell? ⟨b, off + k, none⟩ = some v ∧ vs[k]? = some v

theorem Row.nil {w : World} {B : Nat} {A : Option Addr} : Row w B A [] := fun k h => absurd h (by simp)
theorem Row.keep {w w' : World} {B : Nat} {A : Option Addr} {vs : List Value} (h : Row w B A vs) (hk : ∀ p : Addr, p.block < B → w'.cell? p = w.cell? p) : Row w' B A vs := by
  intro k hk'
  obtain ⟨b, off, v, e, hb, hc, hv⟩ := h k hk'
  exact ⟨b, off, v, e, hb, (hk _ hb).trans hc, hv⟩
theorem Row.below {w w' : World} {B : Nat} {A : Option Addr} {vs : List Value} (h : Row w B A vs) (hb : Below B w w') : Row w' B A vs := h.keep fun _ hp => hb.cell hp
theorem Row.more {w : World} {B B' : Nat} {A : Option Addr} {vs : List Value} (h : Row w B A vs) (hB : B ≤ B') : Row w B' A vs := by
  intro k hk'
  obtain ⟨b, off, v, e, hb, hc, hv⟩ := h k hk'
  exact ⟨b, off, v, e, by omega, hc, hv⟩
theorem Row.take {w : World} {B : Nat} {A : Option Addr} {vs : List Value} (h : Row w B A vs) (n : Nat) : Row w B A (vs.take n) := by
  intro k hk
  rw [List.length_take] at hk
  obtain ⟨b, off, v, e, hb, hc, hv⟩ := h k (by omega)
  exact ⟨b, off, v, e, hb, hc, by rw [List.getElem?_take, if_pos (by omega)]; exact hv⟩
theorem Row.alloc {w : World} {B : Nat} {A : Option Addr} {vs : List Value} (h : Row w B A vs) (hB : B ≤ w.heap.size) (o : Obj) : Row (w.alloc o) B A vs :=
  h.keep fun p hp => World.cell?_alloc_lt w o p (by omega)
theorem Row.drew {w : World} {B : Nat} {A : Option Addr} {vs : List Value} (h : Row w B A vs) : Row w.drew B A vs := h
theorem Row.setCell {w : World} {B : Nat} {A : Option Addr} {vs : List Value} (h : Row w B A vs) {p : Addr} (hB : B ≤ p.block) (u : Value) : Row (w.setCell p u) B A vs :=
  h.keep fun q hq => World.cell?_setCell_other w p q u (fun e => by subst e; omega)

/-- The same, of numbers of one kind. -/
def Nums (K : IntKind) (w : World) (B : Nat) (A : Option Addr) (l : List Int) : Prop :=
  ∀ k, k < l.length → ∃ b off x, A = some ⟨b, off, none⟩ ∧ b < B ∧ w.cell? ⟨b, off + k, none⟩ = some (.int K x) ∧ l[k]? = some x
theorem Nums.nil {K : IntKind} {w : World} {B : Nat} {A : Option Addr} : Nums K w B A [] := fun k h => absurd h (by simp)
theorem Nums.keep {K : IntKind} {w w' : World} {B : Nat} {A : Option Addr} {l : List Int} (h : Nums K w B A l) (hk : ∀ p : Addr, p.block < B → w'.cell? p = w.cell? p) : Nums K w' B A l := by
  intro k hk'
  obtain ⟨b, off, v, e, hb, hc, hv⟩ := h k hk'
  exact ⟨b, off, v, e, hb, (hk _ hb).trans hc, hv⟩
theorem Nums.below {K : IntKind} {w w' : World} {B : Nat} {A : Option Addr} {l : List Int} (h : Nums K w B A l) (hb : Below B w w') : Nums K w' B A l := h.keep fun _ hp => hb.cell hp
theorem Nums.more {K : IntKind} {w : World} {B B' : Nat} {A : Option Addr} {l : List Int} (h : Nums K w B A l) (hB : B ≤ B') : Nums K w B' A l := by
  intro k hk'
  obtain ⟨b, off, v, e, hb, hc, hv⟩ := h k hk'
  exact ⟨b, off, v, e, by omega, hc, hv⟩
theorem Nums.of_own {K : IntKind} {w : World} {base : Nat} {e : TypeId} {n : Nat} {v : Value} {l : List Int} (h : w.ownsRow base e 1 v n (l.map (Value.int K))) :
    ∃ A c, v = .slice A n c ∧ l.length = n ∧ Nums K w w.heap.size A l := by
  have hlen : l.length = n := by simpa using h.1
  rcases Nat.eq_zero_or_pos n with h0 | h0
  · subst h0
    have hl : l = [] := List.eq_nil_of_length_eq_zero hlen
    subst hl
    rcases h.2 with ⟨rfl, _⟩ | ⟨g, cap, cur, rfl, _⟩
    · exact ⟨_, _, rfl, rfl, Nums.nil⟩
    · exact ⟨_, _, rfl, rfl, Nums.nil⟩
  · obtain ⟨g, cap, hv, _, hlt⟩ := h.form h0
    refine ⟨some ⟨g, 0, none⟩, cap, hv, hlen, fun k hk => ?_⟩
    have hc := h.cells (g := g) (by rw [hv]; rfl) k (.int K l[k]) (by simp [hk])
    have hadd : (⟨g, 0, none⟩ : Addr).add k = ⟨g, 0 + k, none⟩ := by unfold Addr.add; split <;> simp_all
    rw [hadd] at hc
    exact ⟨g, 0, l[k], rfl, hlt, hc, List.getElem?_eq_getElem hk⟩

theorem cell_lit (w : World) {C : Array Value} (t : TypeId) (fr : Nat × Nat) {j : Nat} {v : Value} (h : C[j]? = some v) : (w.alloc (.cells C t fr)).cell? ⟨w.heap.size, j, none⟩ = some v :=
  (World.cell?_alloc_mark w C t fr j).trans h
/-- A literal of the call's own. -/
theorem Nums.lit {K : IntKind} (w : World) {C : Array Value} (t : TypeId) (fr : Nat × Nat) (l : List Int) (h : C = (l.map (Value.int K)).toArray) :
    Nums K (w.alloc (.cells C t fr)) (w.heap.size + 1) (some ⟨w.heap.size, 0, none⟩) l := by
  intro k hk
  refine ⟨w.heap.size, 0, l[k], rfl, by omega, ?_, List.getElem?_eq_getElem hk⟩
  rw [Nat.zero_add]
  exact cell_lit w t fr (by subst h; simp [hk])
theorem Nums.alloc {K : IntKind} {w : World} {B : Nat} {A : Option Addr} {l : List Int} (h : Nums K w B A l) (hB : B ≤ w.heap.size) (o : Obj) : Nums K (w.alloc o) B A l :=
  h.keep fun p hp => World.cell?_alloc_lt w o p (by omega)
theorem Nums.drew {K : IntKind} {w : World} {B : Nat} {A : Option Addr} {l : List Int} (h : Nums K w B A l) : Nums K w.drew B A l := h
theorem Nums.setCell {K : IntKind} {w : World} {B : Nat} {A : Option Addr} {l : List Int} (h : Nums K w B A l) {p : Addr} (hB : B ≤ p.block) (u : Value) : Nums K (w.setCell p u) B A l :=
  h.keep fun q hq => World.cell?_setCell_other w p q u (fun e => by subst e; omega)

theorem getElem?_snoc_take {α : Type} {l : List α} {k : Nat} {x : α} (h : l[k]? = some x) : l.take (k + 1) = l.take k ++ [x] := by
  obtain ⟨hk, rfl⟩ := List.getElem?_eq_some_iff.1 h
  exact List.take_succ_eq_append_getElem hk

end Go.Proofs.YtnonfmaehfmigaaDoor

/- append onto a row of the call's own, the source nil, empty or not, wherever it lies. Over any program. -/
namespace Go.Proofs.YtnonfmaehfmigaaDoor
open Go.RowKit

theorem add_lit (b off k : Nat) : (⟨b, off, none⟩ : Addr).add k = ⟨b, off + k, none⟩ := by unfold Addr.add; split <;> simp_all

/-- What a row of the call's own looks like. -/
theorem own_form {w : World} {base : Nat} {e : TypeId} {size n : Nat} {v : Value} {xs : List Value} (h : w.ownsRow base e size v n xs) : ∃ A c, v = .slice A n c := by
  rcases h.2 with ⟨rfl, rfl⟩ | ⟨g, cap, cur, rfl, _⟩
  · exact ⟨_, _, rfl⟩
  · exact ⟨_, _, rfl⟩
theorem Row.of_own {w : World} {base : Nat} {e : TypeId} {size n c : Nat} {A : Option Addr} {xs : List Value} (h : w.ownsRow base e size (.slice A n c) n xs) : Row w w.heap.size A xs := by
  intro k hk
  have hn : 0 < n := by
    rcases Nat.eq_zero_or_pos n with h0 | h0
    · subst h0
      have := h.1
      simp at this
      subst this
      simp at hk
    · exact h0
  obtain ⟨g, cap, hv, _, hlt⟩ := h.form hn
  have hA : A = some ⟨g, 0, none⟩ := by injection hv
  subst hA
  have hc := h.cells (g := g) rfl k xs[k] (List.getElem?_eq_getElem hk)
  rw [add_lit] at hc
  exact ⟨g, 0, xs[k], rfl, hlt, hc, List.getElem?_eq_getElem hk⟩
theorem Row.toNums {K : IntKind} {w : World} {B : Nat} {A : Option Addr} {l : List Int} (h : Row w B A (l.map (Value.int K))) : Nums K w B A l := by
  intro k hk
  obtain ⟨b, off, v, e, hb, hc, hv⟩ := h k (by simpa using hk)
  rw [List.getElem?_map, List.getElem?_eq_getElem hk] at hv
  simp at hv
  subst hv
  exact ⟨b, off, l[k], e, hb, hc, List.getElem?_eq_getElem hk⟩
theorem Nums.toRow {K : IntKind} {w : World} {B : Nat} {A : Option Addr} {l : List Int} (h : Nums K w B A l) : Row w B A (l.map (Value.int K)) := by
  intro k hk
  obtain ⟨b, off, x, e, hb, hc, hx⟩ := h k (by simpa using hk)
  exact ⟨b, off, .int K x, e, hb, hc, by rw [List.getElem?_map, hx]; rfl⟩

section
variable {P : Program} (w : World)

theorem run_append_row (base : Nat) (t ty e : TypeId) (i : TypeInfo) (z : Value) (size bytes : Nat) (ht : P.underlying t = some (.slice e)) (hi : P.info? e = some i) (hz : i.zero = some z)
    (hsize : i.size = size) (hby : i.bytes = bytes) (hzs : z.cells.size = size) (hsz : 0 < size)
    (A0 : Option Addr) (n c0 : Nat) (xs : List Value) (hown : w.ownsRow base e size (.slice A0 n c0) n xs)
    (B : Nat) (A : Option Addr) (m c : Nat) (news : List Value) (hr : Row w B A news) (hl : news.length = m * size) (hc0 : A = none → c = 0) (h1 : ∀ u ∈ news, u.oneCell' = true)
    (h63 : n + m ≤ maxLen) (hbytes : (n + m) * bytes ≤ 140737488355328) (hbase : base ≤ w.heap.size) :
    ∃ A' c' w', (Builtin.append_ #[t, t] ty #[.slice A0 n c0, .slice A m c]).run P w = .ok (.slice A' (n + m) c') w' ∧ w'.ownsRow base e size (.slice A' (n + m) c') (n + m) (xs ++ news) ∧
      w.grownBy w' (Value.slice A0 n c0).ownBlock ∧ ((Value.slice A' (n + m) c').ownBlock = (Value.slice A0 n c0).ownBlock ∨ (Value.slice A' (n + m) c').ownBlock = some w.heap.size) := by
  rcases A with _ | ad
  · have hn : news = [] := by
      rcases news with _ | ⟨x, r⟩
      · rfl
      · obtain ⟨_, _, _, h, _⟩ := hr 0 (by simp)
        cases h
    subst hn
    have hm : m = 0 := by
      rcases Nat.eq_zero_or_pos m with h0 | h0
      · exact h0
      · have := Nat.mul_pos h0 hsz
        simp at hl
        omega
    subst hm
    obtain rfl := hc0 rfl
    exact ⟨A0, c0, w, run_append_owned_none (P := P) w base t ty e i size ht hi _ n xs hown, by simpa using hown, World.grownBy.refl w _, .inl rfl⟩
  · have hcells : ∀ j u, news[j]? = some u → w.cell? (ad.add j) = some u := by
      intro j u hu
      have hj := (List.getElem?_eq_some_iff.1 hu).1
      obtain ⟨b, off, v, h, _, hc, hv⟩ := hr j hj
      injection h with h
      subst h
      rw [add_lit, hc]
      rw [hu] at hv
      exact hv.symm
    obtain ⟨v', w', hrun, h2, h3, _, h5⟩ := run_append_own_at (P := P) w base t ty e i z size bytes ht hi hz hsize hby hzs hsz _ n xs hown ad m c news hl hcells h1 h63 hbytes hbase
    obtain ⟨A', c', rfl⟩ := own_form h2
    exact ⟨A', c', w', hrun, h2, h3, h5⟩

theorem wp_append_row {o : Oper} {a : Act} {K : Act → World → Prop} {Q : Exit → Act → World → Prop} (s x : Operand) (t : TypeId)
    (ho : o.op = .call { callee := .builtin .append, args := #[s, x], argTypes := #[t, t] })
    (base : Nat) (e : TypeId) (i : TypeInfo) (z : Value) (size bytes : Nat) (ht : P.underlying t = some (.slice e)) (hi : P.info? e = some i) (hz : i.zero = some z)
    (hsize : i.size = size) (hby : i.bytes = bytes) (hzs : z.cells.size = size) (hsz : 0 < size)
    (A0 : Option Addr) (n c0 : Nat) (xs : List Value) (hs : a.eval s = .slice A0 n c0) (hown : w.ownsRow base e size (.slice A0 n c0) n xs)
    (B : Nat) (A : Option Addr) (m c : Nat) (news : List Value) (hx : a.eval x = .slice A m c) (hr : Row w B A news) (hl : news.length = m * size) (hc0 : A = none → c = 0) (h1 : ∀ u ∈ news, u.oneCell' = true)
    (h63 : n + m ≤ maxLen) (hbytes : (n + m) * bytes ≤ 140737488355328) (hbase : base ≤ w.heap.size)
    (h : ∀ A' c' w', w'.ownsRow base e size (.slice A' (n + m) c') (n + m) (xs ++ news) → w.grownBy w' (Value.slice A0 n c0).ownBlock →
      ((Value.slice A' (n + m) c').ownBlock = (Value.slice A0 n c0).ownBlock ∨ (Value.slice A' (n + m) c').ownBlock = some w.heap.size) → K (a.put o.dst (.slice A' (n + m) c')) w') : o.wp P a w K Q := by
  obtain ⟨A', c', w', hrun, h2, h3, h4⟩ := run_append_row (P := P) w base t o.type e i z size bytes ht hi hz hsize hby hzs hsz A0 n c0 xs hown B A m c news hr hl hc0 h1 h63 hbytes hbase
  unfold Oper.wp execOp
  simp only [ho, resolve, invoke, builtin, Sem.run_bind, Sem.run_pure, Result.andThen_ok, List.map_toArray, List.map_cons, List.map_nil, hs, hx, hrun]
  exact h A' c' w' h2 h3 h4

theorem wpList_append_row {ops : Array Oper} {rest : List Oper} {o : Oper} {a : Act} {Q : Exit → Act → World → Prop} (hgd : o.guard = none) (s x : Operand) (t : TypeId)
    (ho : o.op = .call { callee := .builtin .append, args := #[s, x], argTypes := #[t, t] })
    (base : Nat) (e : TypeId) (i : TypeInfo) (z : Value) (size bytes : Nat) (ht : P.underlying t = some (.slice e)) (hi : P.info? e = some i) (hz : i.zero = some z)
    (hsize : i.size = size) (hby : i.bytes = bytes) (hzs : z.cells.size = size) (hsz : 0 < size)
    (A0 : Option Addr) (n c0 : Nat) (xs : List Value) (hs : a.eval s = .slice A0 n c0) (hown : w.ownsRow base e size (.slice A0 n c0) n xs)
    (B : Nat) (A : Option Addr) (m c : Nat) (news : List Value) (hx : a.eval x = .slice A m c) (hr : Row w B A news) (hl : news.length = m * size) (hc0 : A = none → c = 0) (h1 : ∀ u ∈ news, u.oneCell' = true)
    (h63 : n + m ≤ maxLen) (hbytes : (n + m) * bytes ≤ 140737488355328) (hbase : base ≤ w.heap.size)
    (h : ∀ A' c' w', w'.ownsRow base e size (.slice A' (n + m) c') (n + m) (xs ++ news) → w.grownBy w' (Value.slice A0 n c0).ownBlock →
      ((Value.slice A' (n + m) c').ownBlock = (Value.slice A0 n c0).ownBlock ∨ (Value.slice A' (n + m) c').ownBlock = some w.heap.size) → wpList P ops Q rest (a.put o.dst (.slice A' (n + m) c')) w') :
    wpList P ops Q (o :: rest) a w :=
  wpList_plain hgd fun _ hK => wp_append_row w s x t ho base e i z size bytes ht hi hz hsize hby hzs hsz A0 n c0 xs hs hown B A m c news hx hr hl hc0 h1 h63 hbytes hbase fun A' c' w' h2 h3 h4 => hK _ _ (h A' c' w' h2 h3 h4)

theorem step_append_row {ops : Array Oper} {o : Oper} {a : Act} {K : Act → World → Prop} {Q : Exit → Act → World → Prop} {E : Prop} (hgd : o.guard = none) (s x : Operand) (t : TypeId)
    (ho : o.op = .call { callee := .builtin .append, args := #[s, x], argTypes := #[t, t] })
    (base : Nat) (e : TypeId) (i : TypeInfo) (z : Value) (size bytes : Nat) (ht : P.underlying t = some (.slice e)) (hi : P.info? e = some i) (hz : i.zero = some z)
    (hsize : i.size = size) (hby : i.bytes = bytes) (hzs : z.cells.size = size) (hsz : 0 < size)
    (A0 : Option Addr) (n c0 : Nat) (xs : List Value) (hs : a.eval s = .slice A0 n c0) (hown : w.ownsRow base e size (.slice A0 n c0) n xs)
    (B : Nat) (A : Option Addr) (m c : Nat) (news : List Value) (hx : a.eval x = .slice A m c) (hr : Row w B A news) (hl : news.length = m * size) (hc0 : A = none → c = 0) (h1 : ∀ u ∈ news, u.oneCell' = true)
    (h63 : n + m ≤ maxLen) (hbytes : (n + m) * bytes ≤ 140737488355328) (hbase : base ≤ w.heap.size)
    (h : ∀ A' c' w', w'.ownsRow base e size (.slice A' (n + m) c') (n + m) (xs ++ news) → w.grownBy w' (Value.slice A0 n c0).ownBlock →
      ((Value.slice A' (n + m) c').ownBlock = (Value.slice A0 n c0).ownBlock ∨ (Value.slice A' (n + m) c').ownBlock = some w.heap.size) → K (a.put o.dst (.slice A' (n + m) c')) w') :
    if Region.wanted o (yielded ops a.tmps) = true then Oper.wp P o a w K Q else E := by
  have hw : Region.wanted o (yielded ops a.tmps) = true := by simp [Region.wanted, hgd]
  rw [if_pos hw]
  exact wp_append_row w s x t ho base e i z size bytes ht hi hz hsize hby hzs hsz A0 n c0 xs hs hown B A m c news hx hr hl hc0 h1 h63 hbytes hbase h
end

theorem step_append_fits {P : Program} (w : World) {ops : Array Oper} {o : Oper} {a : Act} {K : Act → World → Prop} {Q : Exit → Act → World → Prop} {E : Prop} (hgd : o.guard = none) (s x : Operand) (t : TypeId)
    (ho : o.op = .call { callee := .builtin .append, args := #[s, x], argTypes := #[t, t] })
    (base : Nat) (e : TypeId) (i : TypeInfo) (size : Nat) (ht : P.underlying t = some (.slice e)) (hi : P.info? e = some i) (hsize : i.size = size)
    (g n cap : Nat) (xs : List Value) (hs : a.eval s = .slice (some ⟨g, 0, none⟩) n cap) (hown : w.ownsRow base e size (.slice (some ⟨g, 0, none⟩) n cap) n xs)
    (ad : Addr) (m c : Nat) (news : List Value) (hx : a.eval x = .slice (some ad) m c) (hl : news.length = m * size) (hnews : ∀ j u, news[j]? = some u → w.cell? (ad.add j) = some u) (h1 : ∀ u ∈ news, u.oneCell' = true)
    (hroom : n + m ≤ cap)
    (h : ∀ w', w'.ownsRow base e size (.slice (some ⟨g, 0, none⟩) (n + m) cap) (n + m) (xs ++ news) → w.grownBy w' (some g) → K (a.put o.dst (.slice (some ⟨g, 0, none⟩) (n + m) cap)) w') :
    if Region.wanted o (yielded ops a.tmps) = true then Oper.wp P o a w K Q else E := by
  have hw : Region.wanted o (yielded ops a.tmps) = true := by simp [Region.wanted, hgd]
  rw [if_pos hw]
  obtain ⟨w', hrun, h2, h3⟩ := run_append_fits (P := P) w base t o.type e i size ht hi hsize g n cap xs hown ad m c news hl hnews h1 hroom
  unfold Oper.wp execOp
  simp only [ho, resolve, invoke, builtin, Sem.run_bind, Sem.run_pure, Result.andThen_ok, List.map_toArray, List.map_cons, List.map_nil, hs, hx, hrun]
  exact h w' h2 h3

theorem oneCell_ints (K : IntKind) (l : List Int) : ∀ u ∈ l.map (Value.int K), u.oneCell' = true := by
  intro u hu
  obtain ⟨x, _, rfl⟩ := List.mem_map.1 hu
  rfl

end Go.Proofs.YtnonfmaehfmigaaDoor

/- The world but for some blocks: 'Keeps w w' S': every block that was there and is not among S is as it was. -/
namespace Go.Proofs.YtnonfmaehfmigaaDoor
open Go.RowKit

structure Keeps (w w' : World) (S : List Nat) : Prop where
  os : w'.os = w.os
  tape : w'.tape = w.tape
  output : w'.output = w.output
  size : w.heap.size ≤ w'.heap.size
  block : ∀ k, k < w.heap.size → k ∉ S → w'.heap[k]? = w.heap[k]?

theorem Keeps.refl (w : World) (S : List Nat) : Keeps w w S := ⟨rfl, rfl, rfl, Nat.le_refl _, fun _ _ _ => rfl⟩
theorem Keeps.trans {a b c : World} {S : List Nat} (h : Keeps a b S) (k : Keeps b c S) : Keeps a c S :=
  ⟨k.os.trans h.os, k.tape.trans h.tape, k.output.trans h.output, Nat.le_trans h.size k.size, fun i hi hn => (k.block i (Nat.lt_of_lt_of_le hi h.size) hn).trans (h.block i hi hn)⟩
theorem Keeps.more {a b : World} {S T : List Nat} (h : Keeps a b S) (hs : ∀ k, k < a.heap.size → k ∈ S → k ∈ T) : Keeps a b T :=
  ⟨h.os, h.tape, h.output, h.size, fun i hi hn => h.block i hi (fun hm => hn (hs i hi hm))⟩
theorem Keeps.drew {a w : World} {S : List Nat} (h : Keeps a w S) : Keeps a w.drew S := ⟨h.os, h.tape, h.output, h.size, h.block⟩
theorem Keeps.drewN {a w : World} {S : List Nat} (h : Keeps a w S) (n : Nat) : Keeps a (w.drewN n) S := ⟨h.os, h.tape, h.output, h.size, h.block⟩
theorem Keeps.alloc {a w : World} {S : List Nat} (h : Keeps a w S) (o : Obj) : Keeps a (w.alloc o) S :=
  h.trans ⟨rfl, rfl, rfl, by simp, fun k hk _ => Below.heap_alloc _ _ _ hk⟩
theorem Keeps.setCell {a w : World} {S : List Nat} (h : Keeps a w S) {p : Addr} (hp : p.block ∈ S ∨ a.heap.size ≤ p.block) (u : Value) : Keeps a (w.setCell p u) S :=
  ⟨h.os, h.tape, h.output, by simpa [World.setCell] using h.size, fun i hi hn => (Below.heap_setCell _ _ _ _ (fun e => by
    subst e
    rcases hp with hp | hp
    · exact hn hp
    · omega)).trans (h.block i hi hn)⟩
theorem Keeps.grown {a w w' : World} {S : List Nat} {row : Option Nat} (h : Keeps a w S) (hg : w.grownBy w' row) (hr : ∀ k, row = some k → k ∈ S ∨ a.heap.size ≤ k) : Keeps a w' S :=
  ⟨hg.os.trans h.os, hg.tape.trans h.tape, hg.output.trans h.output, Nat.le_trans h.size hg.size, fun i hi hn => (hg.block i (Nat.lt_of_lt_of_le hi h.size) (fun e => by
    rcases hr i e.symm with h' | h'
    · exact hn h'
    · omega)).trans (h.block i hi hn)⟩
theorem Keeps.of_below {a w : World} (h : Below a.heap.size a w) (S : List Nat) : Keeps a w S := ⟨h.os, h.tape, h.output, h.size, fun i hi _ => h.block i hi⟩
theorem Keeps.below {B : Nat} {a b w : World} {S : List Nat} (hb : Below B a b) (h : Keeps b w S) (hS : ∀ k, k ∈ S → B ≤ k) (hB : B ≤ b.heap.size) : Below B a w :=
  ⟨h.os.trans hb.os, h.tape.trans hb.tape, h.output.trans hb.output, Nat.le_trans hb.size h.size, fun i hi => (h.block i (by omega) (fun hm => by have := hS i hm; omega)).trans (hb.block i hi)⟩
theorem Keeps.cell {a w : World} {S : List Nat} (h : Keeps a w S) {p : Addr} (hp : p.block < a.heap.size) (hn : p.block ∉ S) : w.cell? p = a.cell? p := World.cell?_of_block (h.block _ hp hn)
theorem Keeps.frozen {a w : World} {S : List Nat} (h : Keeps a w S) {p : Addr} (hp : p.block < a.heap.size) (hn : p.block ∉ S) : w.frozen? p = a.frozen? p := World.frozen?_of_block (h.block _ hp hn)

/-- A block that is known whole. -/
def Blk (w : World) (g : Nat) (t : TypeId) (cs : Array Value) : Prop := w.heap[g]? = some (.cells cs t (0, 0))
theorem Blk.lt {w : World} {g : Nat} {t : TypeId} {cs : Array Value} (h : Blk w g t cs) : g < w.heap.size := (Array.getElem?_eq_some_iff.1 h).1
theorem Blk.cell {w : World} {g : Nat} {t : TypeId} {cs : Array Value} (h : Blk w g t cs) (i : Nat) : w.cell? ⟨g, i, none⟩ = cs[i]? := cell_of_row w g i cs t (0, 0) h
theorem Blk.frozen {w : World} {g : Nat} {t : TypeId} {cs : Array Value} (h : Blk w g t cs) (i : Nat) : w.frozen? ⟨g, i, none⟩ = false := frozen_of_row w g i cs t h
theorem Blk.new (w : World) (t : TypeId) (cs : Array Value) : Blk (w.alloc (.cells cs t)) w.heap.size t cs := heap_alloc_new w _
theorem Blk.drew {w : World} {g : Nat} {t : TypeId} {cs : Array Value} (h : Blk w g t cs) : Blk w.drew g t cs := h
theorem Blk.drewN {w : World} {g : Nat} {t : TypeId} {cs : Array Value} (h : Blk w g t cs) (n : Nat) : Blk (w.drewN n) g t cs := h
theorem Blk.keep {w w' : World} {S : List Nat} {g : Nat} {t : TypeId} {cs : Array Value} (h : Blk w g t cs) (k : Keeps w w' S) (hn : g ∉ S) : Blk w' g t cs := (k.block g h.lt hn).trans h
theorem Blk.alloc {w : World} {g : Nat} {t : TypeId} {cs : Array Value} (h : Blk w g t cs) (o : Obj) : Blk (w.alloc o) g t cs := (Below.heap_alloc w o g h.lt).trans h
theorem Blk.set_ {w : World} {g : Nat} {t : TypeId} {cs : Array Value} (h : Blk w g t cs) (i : Nat) (u : Value) : Blk (w.setCell ⟨g, i, none⟩ u) g t (cs.setIfInBounds i u) := heap_setCell_same w g i cs t u h
theorem Blk.far {w : World} {g : Nat} {t : TypeId} {cs : Array Value} (h : Blk w g t cs) {p : Addr} (hp : g ≠ p.block) (u : Value) : Blk (w.setCell p u) g t cs := (Below.heap_setCell w p u g hp).trans h
theorem Blk.grown {w w' : World} {row : Option Nat} {g : Nat} {t : TypeId} {cs : Array Value} (h : Blk w g t cs) (hb : w.grownBy w' row) (hg : some g ≠ row) : Blk w' g t cs := (hb.block g h.lt hg).trans h
theorem own_keep {w w' : World} {S : List Nat} {base : Nat} {e : TypeId} {size n c h : Nat} {xs : List Value} (ho : w.ownsRow base e size (.slice (some ⟨h, 0, none⟩) n c) n xs) (k : Keeps w w' S) (hn : h ∉ S) :
    w'.ownsRow base e size (.slice (some ⟨h, 0, none⟩) n c) n xs := by
  refine ⟨ho.1, ?_⟩
  rcases ho.2 with ⟨h', _⟩ | ⟨g, cap, cur, he, hb, hg, r⟩
  · simp at h'
  · have e := he
    simp only [Value.slice.injEq, Option.some.injEq, Addr.mk.injEq, and_true, true_and] at e
    obtain ⟨rfl, rfl⟩ := e
    exact .inr ⟨h, c, cur, he, hb, (k.block h (Array.getElem?_eq_some_iff.1 hg).1 hn).trans hg, r⟩
theorem own_block {w : World} {base : Nat} {e : TypeId} {size n c h : Nat} {xs : List Value} (ho : w.ownsRow base e size (.slice (some ⟨h, 0, none⟩) n c) n xs) : ∃ cur, Blk w h e cur ∧ cur.size = c * size ∧ cur.toList.take (n * size) = xs ∧ n ≤ c ∧ base ≤ h := by
  rcases ho.2 with ⟨h', _⟩ | ⟨g, cap, cur, he, hb, hg, hnc, hcm, hcs, ht⟩
  · simp at h'
  · simp only [Value.slice.injEq, Option.some.injEq, Addr.mk.injEq, and_true, true_and] at he
    obtain ⟨rfl, rfl⟩ := he
    exact ⟨cur, hg, hcs, ht, hnc, hb⟩
theorem Blk.ne_ {w : World} {g g' : Nat} {t t' : TypeId} {cs cs' : Array Value} (h : Blk w g t cs) (h' : Blk w g' t' cs') (hne : t ≠ t') : g ≠ g' := by
  rintro rfl
  unfold Blk at h h'
  rw [h] at h'
  injection h' with h'
  injection h' with _ ht
  exact hne ht
/-- No longer than it was. -/
theorem own_cut {w : World} {base : Nat} {e : TypeId} {n c h : Nat} {xs : List Value} (ho : w.ownsRow base e 1 (.slice (some ⟨h, 0, none⟩) n c) n xs) (m : Nat) (hm : m ≤ n) :
    w.ownsRow base e 1 (.slice (some ⟨h, 0, none⟩) m c) m (xs.take m) := by
  have hl := ho.1
  refine ⟨by rw [List.length_take]; omega, ?_⟩
  rcases ho.2 with ⟨h', _⟩ | ⟨g, cap, cur, he, hb, hg, hnc, hcm, hcs, ht⟩
  · simp at h'
  · simp only [Value.slice.injEq, Option.some.injEq, Addr.mk.injEq, and_true, true_and] at he
    obtain ⟨rfl, rfl⟩ := he
    refine .inr ⟨h, c, cur, rfl, hb, hg, by omega, hcm, hcs, ?_⟩
    rw [← ht, List.take_take]
    congr 1
    omega
end Go.Proofs.YtnonfmaehfmigaaDoor

/- Data as rows of cells: a slice whose cells are those of a list's elements, one behind the other. No function in sight. -/
namespace Go.Proofs.YtnonfmaehfmigaaDoor
open Go.RowKit

/-- The cells that a slice value shows, wherever they lie. -/
def Rd (w : World) (A : Option Addr) (vs : List Value) : Prop := Row w w.heap.size A vs
theorem Rd.row {w : World} {A : Option Addr} {vs : List Value} (h : Rd w A vs) : Row w w.heap.size A vs := h
theorem Rd.nil {w : World} {A : Option Addr} : Rd w A [] := Row.nil
theorem Rd.keep {w w' : World} {A : Option Addr} {vs : List Value} (h : Rd w A vs) (k : Keeps w w' []) : Rd w' A vs := by
  intro i hi
  obtain ⟨b, off, v, e, hb, hc, hv⟩ := h i hi
  exact ⟨b, off, v, e, Nat.lt_of_lt_of_le hb k.size, (k.cell (p := ⟨b, off + i, none⟩) hb (by simp)).trans hc, hv⟩
theorem Rd.drew {w : World} {A : Option Addr} {vs : List Value} (h : Rd w A vs) : Rd w.drew A vs := h
theorem Rd.alloc {w : World} {A : Option Addr} {vs : List Value} (h : Rd w A vs) (o : Obj) : Rd (w.alloc o) A vs := h.keep ((Keeps.refl w []).alloc o)
theorem Rd.of_own {w : World} {base : Nat} {e : TypeId} {size n c : Nat} {A : Option Addr} {xs : List Value} (h : w.ownsRow base e size (.slice A n c) n xs) : Rd w A xs := Row.of_own h
theorem Rd.take {w : World} {A : Option Addr} {vs : List Value} (h : Rd w A vs) (n : Nat) : Rd w A (vs.take n) := Row.take h n
theorem Rd.of_blk {w : World} {g : Nat} {t : TypeId} {cs : Array Value} (h : Blk w g t cs) : Rd w (some ⟨g, 0, none⟩) cs.toList := by
  intro k hk
  have hcell := h.cell k
  have hk' : k < cs.size := by simpa using hk
  refine ⟨g, 0, cs[k], rfl, h.lt, ?_, ?_⟩
  · rw [Nat.zero_add, hcell]; exact Array.getElem?_eq_getElem hk'
  · rw [Array.getElem?_toList]; exact Array.getElem?_eq_getElem hk'

theorem Blk.newAt {w : World} {n : Nat} (t : TypeId) (cs : Array Value) (h : n = w.heap.size) : Blk (w.alloc (.cells cs t)) n t cs := by
  subst h
  exact Blk.new w t cs
theorem getElem?_flat {α : Type} {enc : α → List Value} {sz : Nat} (hsz : ∀ x, (enc x).length = sz) : ∀ (l : List α) (k : Nat) (hk : k < l.length) (j : Nat), j < sz → (l.flatMap enc)[k * sz + j]? = (enc l[k])[j]?
  | [], k, hk, j, _ => absurd hk (by simp)
  | x :: l, 0, _, j, hj => by
    rw [List.flatMap_cons, Nat.zero_mul, Nat.zero_add, List.getElem?_append_left (by rw [hsz]; exact hj)]
    rfl
  | x :: l, k + 1, hk, j, hj => by
    have hlt : k < l.length := by simpa using hk
    rw [List.flatMap_cons, List.getElem?_append_right (by rw [hsz, Nat.succ_mul]; omega), hsz, show (k + 1) * sz + j - sz = k * sz + j from by rw [Nat.succ_mul]; omega, getElem?_flat hsz l k hlt j hj]
    rfl
theorem length_flat {α : Type} {enc : α → List Value} {sz : Nat} (hsz : ∀ x, (enc x).length = sz) : ∀ l : List α, (l.flatMap enc).length = l.length * sz
  | [] => by simp
  | x :: l => by rw [List.flatMap_cons, List.length_append, hsz, length_flat hsz l, List.length_cons, Nat.succ_mul]; omega
theorem flat_snoc {α : Type} {enc : α → List Value} {l : List α} {k : Nat} {x : α} (h : l[k]? = some x) : (l.take (k + 1)).flatMap enc = (l.take k).flatMap enc ++ enc x := by
  rw [List.take_add_one, h, List.flatMap_append]
  simp
/-- The cells of the element in a place. -/
theorem Rd.field {α : Type} {enc : α → List Value} {sz : Nat} (hsz : ∀ x, (enc x).length = sz) {w : World} {A : Option Addr} {l : List α} (h : Rd w A (l.flatMap enc)) {k : Nat} {x : α} (hx : l[k]? = some x) (h0 : 0 < sz) :
    ∃ b off, A = some ⟨b, off, none⟩ ∧ b < w.heap.size ∧ ∀ j v, (enc x)[j]? = some v → w.cell? ⟨b, off + k * sz + j, none⟩ = some v := by
  have hk : k < l.length := (List.getElem?_eq_some_iff.1 hx).1
  have hxe : l[k] = x := (List.getElem?_eq_some_iff.1 hx).2
  have hle : k * sz + sz ≤ l.length * sz := by have := Nat.mul_le_mul_right sz (show k + 1 ≤ l.length from hk); rw [Nat.succ_mul] at this; exact this
  obtain ⟨b, off, v, e, hb, _, _⟩ := h (k * sz) (by rw [length_flat hsz]; omega)
  refine ⟨b, off, e, hb, fun j v hj => ?_⟩
  have hjs : j < sz := by rw [← hsz x]; exact (List.getElem?_eq_some_iff.1 hj).1
  obtain ⟨b', off', v', e', _, hc, hv⟩ := h (k * sz + j) (by rw [length_flat hsz]; omega)
  rw [e] at e'
  injection e' with e'
  injection e' with e1 e2
  subst e1 e2
  rw [getElem?_flat hsz l k hk j hjs, hxe, hj] at hv
  injection hv with hv
  subst hv
  rw [Nat.add_assoc]
  exact hc
theorem Rd.some_of {w : World} {A : Option Addr} {vs : List Value} (h : Rd w A vs) (h0 : 0 < vs.length) : ∃ b off, A = some ⟨b, off, none⟩ ∧ b < w.heap.size := by
  obtain ⟨b, off, _, e, hb, _⟩ := h 0 h0
  exact ⟨b, off, e, hb⟩
theorem at_of {α : Type} {l : List α} {k n : Nat} (hl : l.length = n) (hk : k < n) : ∃ x, l[k]? = some x := ⟨l[k]'(by omega), List.getElem?_eq_getElem (by omega)⟩
theorem Keeps.nil_of {w w' : World} (h : Below w.heap.size w w') : Keeps w w' [] := Keeps.of_below h []
theorem Keeps.toBelow {w w' : World} (k : Keeps w w' []) : Below w.heap.size w w' := ⟨k.os, k.tape, k.output, k.size, fun i hi => k.block i hi (by simp)⟩
theorem Keeps.cell0 {w w' : World} (k : Keeps w w' []) {b off : Nat} (hb : b < w.heap.size) : w'.cell? ⟨b, off, none⟩ = w.cell? ⟨b, off, none⟩ := k.cell (p := ⟨b, off, none⟩) hb (by simp)
theorem Keeps.to_ {w w' : World} (k : Keeps w w' []) (S : List Nat) : Keeps w w' S := k.more (by simp)
theorem own_keep0 {w w' : World} {base : Nat} {e : TypeId} {size n c : Nat} {A : Option Addr} {xs : List Value} (ho : w.ownsRow base e size (.slice A n c) n xs) (k : Keeps w w' []) : w'.ownsRow base e size (.slice A n c) n xs := by
  refine ⟨ho.1, ?_⟩
  rcases ho.2 with h | ⟨g, cap, cur, he, hb, hg, r⟩
  · exact .inl h
  · exact .inr ⟨g, cap, cur, he, hb, (k.block g (Array.getElem?_eq_some_iff.1 hg).1 (by simp)).trans hg, r⟩
/-- A row of the call's own, behind a call that leaves all but some other blocks. -/
theorem own_keepS {w w' : World} {S : List Nat} {base : Nat} {e : TypeId} {size n c : Nat} {A : Option Addr} {xs : List Value} (ho : w.ownsRow base e size (.slice A n c) n xs) (k : Keeps w w' S) (hS : ∀ g, g ∈ S → g < base) : w'.ownsRow base e size (.slice A n c) n xs := by
  refine ⟨ho.1, ?_⟩
  rcases ho.2 with h | ⟨g, cap, cur, he, hb, hg, r⟩
  · exact .inl h
  · exact .inr ⟨g, cap, cur, he, hb, (k.block g (Array.getElem?_eq_some_iff.1 hg).1 (fun hm => by have := hS g hm; omega)).trans hg, r⟩
end Go.Proofs.YtnonfmaehfmigaaDoor

/- append onto a row of the call's own, with an element type's facts in one word. Over any program. -/
namespace Go.Proofs.YtnonfmaehfmigaaDoor
open Go.RowKit

/-- What is known of a slice type T and its elements' type E: so many cells an element, so many bytes. -/
structure ElemT (P : Program) (T E : TypeId) (sz : Nat) : Prop where
  sl : P.underlying T = some (.slice E)
  ex : ∃ (i : TypeInfo) (z : Value), P.info? E = some i ∧ i.zero = some z ∧ i.size = sz ∧ i.bytes ≤ 128 ∧ z.cells.size = sz
  pos : 0 < sz
theorem elemT_of {P : Program} {T E : TypeId} {sz b : Nat} {z : Value} (hT : P.underlying T = some (.slice E)) (h : (P.info? E).map (fun i => (i.zero, i.size, i.bytes)) = some (some z, sz, b)) (hb : b ≤ 128) (hz : z.cells.size = sz) (hp : 0 < sz) : ElemT P T E sz := by
  obtain ⟨i, hi, h1, h2, h3⟩ := info_parts h
  exact ⟨hT, ⟨i, z, hi, h1, h2, by omega, hz⟩, hp⟩
theorem bytes_few {n b : Nat} (hb : b ≤ 128) (hn : n ≤ 549755813888) : n * b ≤ 140737488355328 := by
  have h1 := Nat.mul_le_mul hn hb
  omega

section
variable {P : Program} (w : World) {T E : TypeId} {sz : Nat}
theorem wpList_app (el : ElemT P T E sz) {ops : Array Oper} {rest : List Oper} {o : Oper} {a : Act} {Q : Exit → Act → World → Prop} (hgd : o.guard = none) (s x : Operand)
    (ho : o.op = .call { callee := .builtin .append, args := #[s, x], argTypes := #[T, T] })
    (base : Nat) (A0 : Option Addr) (n c0 : Nat) (xs : List Value) (hs : a.eval s = .slice A0 n c0) (hown : w.ownsRow base E sz (.slice A0 n c0) n xs)
    (A : Option Addr) (m c : Nat) (news : List Value) (hx : a.eval x = .slice A m c) (hr : Rd w A news) (hl : news.length = m * sz) (hc0 : A = none → c = 0) (h1 : ∀ u ∈ news, u.oneCell' = true)
    (hnm : n + m ≤ 549755813888) (hbase : base ≤ w.heap.size)
    (h : ∀ A' c' w', w'.ownsRow base E sz (.slice A' (n + m) c') (n + m) (xs ++ news) → w.grownBy w' (Value.slice A0 n c0).ownBlock →
      ((Value.slice A' (n + m) c').ownBlock = (Value.slice A0 n c0).ownBlock ∨ (Value.slice A' (n + m) c').ownBlock = some w.heap.size) → wpList P ops Q rest (a.put o.dst (.slice A' (n + m) c')) w') :
    wpList P ops Q (o :: rest) a w := by
  obtain ⟨i, z, hi, hz, hsz, hb, hzs⟩ := el.ex
  exact wpList_append_row w hgd s x T ho base E i z sz i.bytes el.sl hi hz hsz rfl hzs el.pos A0 n c0 xs hs hown w.heap.size A m c news hx hr hl hc0 h1 (by unfold maxLen; omega) (bytes_few hb hnm) hbase h

theorem step_app (el : ElemT P T E sz) {ops : Array Oper} {o : Oper} {a : Act} {K : Act → World → Prop} {Q : Exit → Act → World → Prop} {F : Prop} (hgd : o.guard = none) (s x : Operand)
    (ho : o.op = .call { callee := .builtin .append, args := #[s, x], argTypes := #[T, T] })
    (base : Nat) (A0 : Option Addr) (n c0 : Nat) (xs : List Value) (hs : a.eval s = .slice A0 n c0) (hown : w.ownsRow base E sz (.slice A0 n c0) n xs)
    (A : Option Addr) (m c : Nat) (news : List Value) (hx : a.eval x = .slice A m c) (hr : Rd w A news) (hl : news.length = m * sz) (hc0 : A = none → c = 0) (h1 : ∀ u ∈ news, u.oneCell' = true)
    (hnm : n + m ≤ 549755813888) (hbase : base ≤ w.heap.size)
    (h : ∀ A' c' w', w'.ownsRow base E sz (.slice A' (n + m) c') (n + m) (xs ++ news) → w.grownBy w' (Value.slice A0 n c0).ownBlock →
      ((Value.slice A' (n + m) c').ownBlock = (Value.slice A0 n c0).ownBlock ∨ (Value.slice A' (n + m) c').ownBlock = some w.heap.size) → K (a.put o.dst (.slice A' (n + m) c')) w') :
    if Region.wanted o (yielded ops a.tmps) = true then Oper.wp P o a w K Q else F := by
  obtain ⟨i, z, hi, hz, hsz, hb, hzs⟩ := el.ex
  exact step_append_row w hgd s x T ho base E i z sz i.bytes el.sl hi hz hsz rfl hzs el.pos A0 n c0 xs hs hown w.heap.size A m c news hx hr hl hc0 h1 (by unfold maxLen; omega) (bytes_few hb hnm) hbase h
end
/-- A new block of one element's cells, to be appended. -/
theorem Rd.one (w : World) (t : TypeId) (cs : List Value) : Rd (w.alloc (.cells cs.toArray t)) (some ⟨w.heap.size, 0, none⟩) cs := by
  have h := Rd.of_blk (Blk.new w t cs.toArray)
  simpa using h
/-- An empty literal. -/
theorem own_empty (w : World) (t : TypeId) : (w.alloc (.cells #[] t)).ownsRow w.heap.size t 1 (.slice (some ⟨w.heap.size, 0, none⟩) 0 0) 0 [] := World.ownsRow_made _ #[] 0 (Nat.le_refl _) (Nat.zero_le _) rfl
theorem own_base {w : World} {base base' : Nat} {e : TypeId} {size n : Nat} {v : Value} {xs : List Value} (h : w.ownsRow base e size v n xs) (hb : base' ≤ base) : w.ownsRow base' e size v n xs := by
  refine ⟨h.1, ?_⟩
  rcases h.2 with h2 | ⟨g, cap, cur, he, hb2, r⟩
  · exact .inl h2
  · exact .inr ⟨g, cap, cur, he, by omega, r⟩
/-- Rows of other elements lie in other blocks. -/
theorem own_far {w w' : World} {base base' : Nat} {e e' : TypeId} {size size' n n' : Nat} {v v' : Value} {xs xs' : List Value} (h : w.ownsRow base e size v n xs) (h' : w.ownsRow base' e' size' v' n' xs') (hne : e ≠ e') (hg : w.grownBy w' v'.ownBlock) : w'.ownsRow base e size v n xs := by
  refine h.kept hg ?_
  rcases h.2 with ⟨rfl, _⟩ | ⟨g1, cap, cur, rfl, _, hb, _⟩
  · exact .inl rfl
  · right
    rcases h'.2 with ⟨rfl, _⟩ | ⟨g2, cap2, cur2, rfl, _, hb2, _⟩
    · simp [Value.ownBlock]
    · simp only [Value.ownBlock]
      intro he
      simp at he
      subst he
      rw [hb] at hb2
      simp at hb2
      exact hne hb2.2
theorem blk_far {w w' : World} {base' g : Nat} {e e' : TypeId} {size' n' : Nat} {cs : Array Value} {v' : Value} {xs' : List Value} (h : Blk w g e cs) (h' : w.ownsRow base' e' size' v' n' xs') (hne : e ≠ e') (hg : w.grownBy w' v'.ownBlock) : Blk w' g e cs := by
  refine h.grown hg ?_
  rcases h'.2 with ⟨rfl, _⟩ | ⟨g2, cap2, cur2, rfl, _, hb2, _⟩
  · simp [Value.ownBlock]
  · simp only [Value.ownBlock]
    intro he
    simp at he
    subst he
    unfold Blk at h
    rw [h] at hb2
    simp at hb2
    exact hne hb2.2
theorem Keeps.app {a w w' : World} {S : List Nat} {base n size : Nat} {e : TypeId} {v : Value} {xs : List Value} (k : Keeps a w S) (h : w.ownsRow base e size v n xs) (hb : a.heap.size ≤ base) (hg : w.grownBy w' v.ownBlock) : Keeps a w' S :=
  k.grown hg (fun q hq => .inr (Nat.le_trans hb (h.lt q hq).1))
/-- The blocks that a row's growing may touch. -/
def ownL (v : Value) : List Nat := v.ownBlock.toList
theorem Keeps.ofGrown {w w' : World} {v : Value} (hg : w.grownBy w' v.ownBlock) : Keeps w w' (ownL v) :=
  ⟨hg.os, hg.tape, hg.output, hg.size, fun k hk hn => hg.block k hk (fun e => hn (by unfold ownL; rw [← e]; simp))⟩
theorem Keeps.rest {a w w' : World} {S : List Nat} (k : Keeps a w []) (h : Keeps w w' S) : Keeps a w' S := (k.to_ S).trans h
theorem own_out {w : World} {base n size : Nat} {e : TypeId} {v : Value} {xs : List Value} (h : w.ownsRow base e size v n xs) {b : Nat} (hb : b < base) : b ∉ ownL v := by
  unfold ownL
  intro hm
  simp at hm
  have := (h.lt b hm).1
  omega
theorem own_outT {w : World} {base n size : Nat} {e t : TypeId} {v : Value} {xs : List Value} {cs : Array Value} (h : w.ownsRow base e size v n xs) {b : Nat} (hb : Blk w b t cs) (hne : t ≠ e) : b ∉ ownL v := by
  unfold ownL
  intro hm
  simp at hm
  rcases h.2 with ⟨rfl, _⟩ | ⟨g2, cap2, cur2, rfl, _, hb2, _⟩
  · simp [Value.ownBlock] at hm
  · simp only [Value.ownBlock] at hm
    simp at hm
    subst hm
    unfold Blk at hb
    rw [hb] at hb2
    simp at hb2
    exact hne hb2.2
end Go.Proofs.YtnonfmaehfmigaaDoor

/- Terms as trees in memory. No function in sight. -/
namespace Go.Proofs.YtnonfmaehfmigaaDoor
open Go.RowKit

/-- A term, as both packages have it. -/
inductive Tm where
  | mk (k n : Int) (s : ByteArray) (l : List Tm)
namespace Tm
def k : Tm → Int | .mk k _ _ _ => k
def n : Tm → Int | .mk _ n _ _ => n
def s : Tm → ByteArray | .mk _ _ s _ => s
def l : Tm → List Tm | .mk _ _ _ l => l
end Tm
mutual
theorem Tm.ind_ {P : Tm → Prop} (h : ∀ k n s l, (∀ a ∈ l, P a) → P (.mk k n s l)) : ∀ t, P t
  | .mk k n s l => h k n s l (Tm.indL h l)
theorem Tm.indL {P : Tm → Prop} (h : ∀ k n s l, (∀ a ∈ l, P a) → P (.mk k n s l)) : ∀ l : List Tm, ∀ a ∈ l, P a
  | [] => fun _ ha => absurd ha (by simp)
  | x :: l => fun a ha => (List.mem_cons.1 ha).elim (fun e => e ▸ Tm.ind_ h x) (Tm.indL h l a)
end
/-- What a term's four cells hold. -/
structure TV where
  k : Int
  n : Int
  s : ByteArray
  A : Option Addr
  len : Nat
  c : Nat
def tvE (x : TV) : List Value := [.int .i64 x.k, .int .i64 x.n, .string x.s, .slice x.A x.len x.c]
def tvV (x : TV) : Value := .agg #[.int .i64 x.k, .int .i64 x.n, .string x.s, .slice x.A x.len x.c]
theorem tvE_len (x : TV) : (tvE x).length = 4 := rfl
theorem tvE_one (l : List TV) : ∀ u ∈ l.flatMap tvE, u.oneCell' = true := by
  intro u hu
  obtain ⟨x, _, hx⟩ := List.mem_flatMap.1 hu
  simp only [tvE, List.mem_cons, List.not_mem_nil, or_false] at hx
  rcases hx with rfl | rfl | rfl | rfl <;> rfl
/-- A tree in memory, whose parts lie in blocks of the kind S. -/
inductive Tr (w : World) (S : Nat → Prop) : Tm → TV → Prop
  | mk (k n : Int) (s : ByteArray) (l : List Tm) (A : Option Addr) (c : Nat) (vs : List TV) (hl : vs.length = l.length) (hR : Rd w A (vs.flatMap tvE)) (hS : ∀ b off, A = some ⟨b, off, none⟩ → l ≠ [] → S b) (hc : A = none → c = 0) (hz : s.size ≤ 9223372036854775807 ∧ l.length ≤ 9223372036854775807)
      (hk : ∀ (j : Nat) t v, l[j]? = some t → vs[j]? = some v → Tr w S t v) : Tr w S (.mk k n s l) ⟨k, n, s, A, l.length, c⟩
/-- A row of trees. -/
structure Trs (w : World) (S : Nat → Prop) (l : List Tm) (vs : List TV) : Prop where
  len : vs.length = l.length
  at_ : ∀ (j : Nat) t v, l[j]? = some t → vs[j]? = some v → Tr w S t v
theorem Tr.inv {w : World} {S : Nat → Prop} {t : Tm} {v : TV} (h : Tr w S t v) :
    v.k = t.k ∧ v.n = t.n ∧ v.s = t.s ∧ v.len = t.l.length ∧ (v.A = none → v.c = 0) ∧ ∃ vs, Trs w S t.l vs ∧ Rd w v.A (vs.flatMap tvE) ∧ (∀ b off, v.A = some ⟨b, off, none⟩ → t.l ≠ [] → S b) := by
  cases h with
  | mk k n s l A c vs hl hR hS hc hz hk => exact ⟨rfl, rfl, rfl, rfl, hc, vs, ⟨hl, hk⟩, hR, hS⟩
theorem Tr.mono {w : World} {S S' : Nat → Prop} (hS : ∀ b, S b → S' b) {t : Tm} {v : TV} (h : Tr w S t v) : Tr w S' t v := by
  induction h with
  | mk k n s l A c vs hl hR h1 hc hz hk ih => exact .mk k n s l A c vs hl hR (fun b off e hne => hS b (h1 b off e hne)) hc hz ih
theorem Rd.keepL {w w' : World} {A : Option Addr} {vs : List Value} {L : List Nat} (h : Rd w A vs) (k : Keeps w w' L) (hL : ∀ b off, A = some ⟨b, off, none⟩ → vs ≠ [] → b ∉ L) : Rd w' A vs := by
  intro i hi
  obtain ⟨b, off, v, e, hb, hc, hv⟩ := h i hi
  exact ⟨b, off, v, e, Nat.lt_of_lt_of_le hb k.size, (k.cell (p := ⟨b, off + i, none⟩) hb (hL b off e (fun h0 => by subst h0; simp at hi))).trans hc, hv⟩
theorem flat_ne {l : List Tm} {vs : List TV} (hl : vs.length = l.length) (h : vs.flatMap tvE ≠ []) : l ≠ [] := by
  rintro rfl
  have : vs = [] := List.length_eq_zero_iff.1 (by simpa using hl)
  subst this
  exact h rfl
theorem Tr.keepL {w w' : World} {S : Nat → Prop} {L : List Nat} (k : Keeps w w' L) (hL : ∀ b ∈ L, ¬ S b) {t : Tm} {v : TV} (h : Tr w S t v) : Tr w' S t v := by
  induction h with
  | mk k' n s l A c vs hl hR hS hc hz hk ih => exact .mk k' n s l A c vs hl (hR.keepL k (fun b off e hne hm => hL b hm (hS b off e (flat_ne hl hne)))) hS hc hz ih
theorem Tr.keep {w w' : World} {S : Nat → Prop} {t : Tm} {v : TV} (h : Tr w S t v) (k : Keeps w w' []) : Tr w' S t v := h.keepL k (by simp)
/-- The blocks of a tree are there. -/
theorem Tr.here {w : World} {S : Nat → Prop} {t : Tm} {v : TV} (h : Tr w S t v) : Tr w (fun b => S b ∧ b < w.heap.size) t v := by
  induction h with
  | mk k n s l A c vs hl hR hS hc hz hk ih =>
    refine .mk k n s l A c vs hl hR (fun b off e hne => ⟨hS b off e hne, ?_⟩) hc hz ih
    have hv : 0 < (vs.flatMap tvE).length := by
      rw [length_flat tvE_len, hl]
      have := List.length_pos_iff.2 hne
      omega
    obtain ⟨b', off', _, e', hb, _⟩ := hR 0 hv
    rw [e] at e'
    injection e' with e'
    injection e' with e1
    subst e1
    exact hb
theorem Trs.keepL {w w' : World} {S : Nat → Prop} {L : List Nat} (k : Keeps w w' L) (hL : ∀ b ∈ L, ¬ S b) {l : List Tm} {vs : List TV} (h : Trs w S l vs) : Trs w' S l vs := ⟨h.len, fun j t v a b => (h.at_ j t v a b).keepL k hL⟩
theorem Trs.keep {w w' : World} {S : Nat → Prop} {l : List Tm} {vs : List TV} (h : Trs w S l vs) (k : Keeps w w' []) : Trs w' S l vs := h.keepL k (by simp)
theorem Trs.mono {w : World} {S S' : Nat → Prop} (hS : ∀ b, S b → S' b) {l : List Tm} {vs : List TV} (h : Trs w S l vs) : Trs w S' l vs := ⟨h.len, fun j t v a b => (h.at_ j t v a b).mono hS⟩
theorem Trs.here {w : World} {S : Nat → Prop} {l : List Tm} {vs : List TV} (h : Trs w S l vs) : Trs w (fun b => S b ∧ b < w.heap.size) l vs := ⟨h.len, fun j t v a b => (h.at_ j t v a b).here⟩
theorem Trs.nil {w : World} {S : Nat → Prop} : Trs w S [] [] := ⟨rfl, fun j t v h => by simp at h⟩
theorem Trs.snoc {w : World} {S : Nat → Prop} {l : List Tm} {vs : List TV} (h : Trs w S l vs) {t : Tm} {v : TV} (ht : Tr w S t v) : Trs w S (l ++ [t]) (vs ++ [v]) := by
  refine ⟨by simp [h.len], fun j t' v' h1 h2 => ?_⟩
  by_cases hj : j < l.length
  · rw [List.getElem?_append_left hj] at h1
    rw [List.getElem?_append_left (by rw [h.len]; exact hj)] at h2
    exact h.at_ j t' v' h1 h2
  · rw [List.getElem?_append_right (by omega)] at h1
    rw [List.getElem?_append_right (by rw [h.len]; omega), h.len] at h2
    cases hj' : j - l.length with
    | zero =>
      rw [hj'] at h1 h2
      simp at h1 h2
      subst h1 h2
      exact ht
    | succ q =>
      rw [hj'] at h1
      simp at h1
/-- The element in a place, with its cells. -/
theorem Trs.get {w : World} {S : Nat → Prop} {l : List Tm} {vs : List TV} (h : Trs w S l vs) {A : Option Addr} (hR : Rd w A (vs.flatMap tvE)) {j : Nat} {t : Tm} (hj : l[j]? = some t) :
    ∃ v b off, vs[j]? = some v ∧ Tr w S t v ∧ A = some ⟨b, off, none⟩ ∧ b < w.heap.size ∧ w.cell? ⟨b, off + j * 4, none⟩ = some (.int .i64 v.k) ∧ w.cell? ⟨b, off + j * 4 + 1, none⟩ = some (.int .i64 v.n) ∧ w.cell? ⟨b, off + j * 4 + 2, none⟩ = some (.string v.s) ∧ w.cell? ⟨b, off + j * 4 + 3, none⟩ = some (.slice v.A v.len v.c) := by
  have hlt : j < vs.length := by rw [h.len]; exact (List.getElem?_eq_some_iff.1 hj).1
  have hv : vs[j]? = some vs[j] := List.getElem?_eq_getElem hlt
  obtain ⟨b, off, e, hb, hf⟩ := hR.field tvE_len hv (by omega)
  exact ⟨vs[j], b, off, hv, h.at_ j t _ hj hv, e, hb, hf 0 _ rfl, hf 1 _ rfl, hf 2 _ rfl, hf 3 _ rfl⟩
end Go.Proofs.YtnonfmaehfmigaaDoor

/- Strings as bytes; []byte(s); the first place of what is so. Over any program. -/
namespace Go.Proofs.YtnonfmaehfmigaaDoor
open Go.RowKit

def bytesOf (s : ByteArray) : List Int := s.data.toList.map fun c => (c.toNat : Int)
theorem bytesOf_len (s : ByteArray) : (bytesOf s).length = s.size := by simp [bytesOf]
theorem bytesOf_byte (s : ByteArray) : ∀ x ∈ bytesOf s, 0 ≤ x ∧ x < 256 := by
  intro x hx
  obtain ⟨c, _, rfl⟩ := List.mem_map.1 hx
  have := c.toNat_lt
  omega
theorem bytesOf_at (s : ByteArray) (k : Nat) (hk : k < s.size) : (bytesOf s)[k]? = some (s[k].toNat : Int) := by
  rw [bytesOf, List.getElem?_map, List.getElem?_eq_getElem (by simpa using hk)]
  rfl
theorem bytesOf_inj {a b : ByteArray} (h : bytesOf a = bytesOf b) : a = b := by
  obtain ⟨⟨a⟩⟩ := a
  obtain ⟨⟨b⟩⟩ := b
  unfold bytesOf at h
  simp only at h
  congr 2
  refine (List.map_inj_right (f := fun c : UInt8 => (c.toNat : Int)) ?_).1 h
  intro x y hxy
  exact UInt8.toNat_inj.1 (by omega)
theorem strEmpty (s : ByteArray) (h : s.size = 0) : s.toList.isEmpty = true := by
  rw [ByteArray.toList_eq, List.isEmpty_iff]
  exact List.eq_nil_of_length_eq_zero (show s.data.toList.length = 0 from h)
theorem strFull (s : ByteArray) (h : s.size ≠ 0) : s.toList.isEmpty = false := by
  cases hs : s.toList.isEmpty with
  | false => rfl
  | true =>
    rw [ByteArray.toList_eq, List.isEmpty_iff] at hs
    exact absurd (show s.size = 0 from congrArg List.length hs) h
theorem strNil (s : ByteArray) (h : s.size = 0) : s = ⟨#[]⟩ := by
  obtain ⟨⟨l⟩⟩ := s
  cases l with
  | nil => rfl
  | cons a l => simp [ByteArray.size] at h

/-- '[]byte(s)': a new row that holds the string's bytes. -/
theorem conv_bytes {P : Program} (w : World) (src dst e : TypeId) (s : ByteArray) (hs : P.underlying src = some .string) (hd : P.underlying dst = some (.slice e)) (he : P.underlying e = some (.int .u8)) :
    ∃ c w1, (convert src dst (.string s)).run P w = .ok (.slice (some ⟨w.heap.size, 0, none⟩) s.size c) w1 ∧ Nums .u8 w1 w1.heap.size (some ⟨w.heap.size, 0, none⟩) (bytesOf s) ∧ Keeps w w1 [] := by
  refine ⟨_, _, Lib.run_convert_string_bytes w src dst e s hs hd he, ?_, ?_⟩
  · intro k hk
    rw [bytesOf_len] at hk
    refine ⟨w.heap.size, 0, (s[k].toNat : Int), rfl, by rw [Lib.bytesWorld_size]; omega, ?_, bytesOf_at s k hk⟩
    rw [Nat.zero_add, Lib.bytesWorld_cell w e s k hk]
    congr 3
    rw [List.getD_eq_getElem?_getD, List.getElem?_eq_getElem (by simpa using hk)]
    rfl
  · refine ⟨?_, ?_, ?_, by rw [Lib.bytesWorld_size]; omega, fun k hk _ => Lib.bytesWorld_at_old w e s k hk⟩
    · simp only [Lib.bytesWorld, World.freeze]; split <;> rfl
    · simp only [Lib.bytesWorld, World.freeze]; split <;> rfl
    · simp only [Lib.bytesWorld, World.freeze]; split <;> rfl

/-- The first place of what is so; -1: none. -/
def findI {α : Type} (p : α → Bool) (l : List α) : Int := if l.any p then (l.findIdx p : Int) else -1
theorem findI_none {α : Type} {p : α → Bool} {l : List α} (h : ∀ x ∈ l, p x = false) : findI p l = -1 := by
  rw [findI, if_neg]
  simp only [List.any_eq_true, not_exists, not_and, Bool.not_eq_true]
  exact h
theorem findI_some {α : Type} {p : α → Bool} {l : List α} {k : Nat} {x : α} (hx : l[k]? = some x) (hp : p x = true) (hb : ∀ y ∈ l.take k, p y = false) : findI p l = k := by
  have hk := (List.getElem?_eq_some_iff.1 hx).1
  have hxe := (List.getElem?_eq_some_iff.1 hx).2
  rw [findI, if_pos (List.any_eq_true.2 ⟨x, List.mem_of_getElem? hx, hp⟩)]
  congr 1
  rw [List.findIdx_eq hk]
  refine ⟨by rw [hxe]; exact hp, fun j hj => ?_⟩
  have := hb (l[j]'(by omega)) (List.mem_iff_getElem?.2 ⟨j, by rw [List.getElem?_take, if_pos hj]; exact List.getElem?_eq_getElem (by omega)⟩)
  simpa using this
theorem findI_nonneg {α : Type} (p : α → Bool) (l : List α) : decide (0 ≤ findI p l) = l.any p := by
  unfold findI
  cases h : l.any p <;> simp
theorem take_snoc_all {α : Type} {p : α → Bool} {l : List α} {k : Nat} {x : α} (hx : l[k]? = some x) (hp : p x = false) (hb : ∀ y ∈ l.take k, p y = false) : ∀ y ∈ l.take (k + 1), p y = false := by
  intro y hy
  rw [List.take_add_one, hx] at hy
  simp at hy
  rcases hy with hy | rfl
  · exact hb y hy
  · exact hp
theorem not_any {α : Type} {p : α → Bool} {l : List α} (h : ∀ x ∈ l, p x = false) : l.any p = false := by
  rw [List.any_eq_false]
  intro x hx
  rw [h x hx]
  simp
theorem any_at {α : Type} {p : α → Bool} {l : List α} {k : Nat} {x : α} (hx : l[k]? = some x) (hp : p x = true) : l.any p = true := List.any_eq_true.2 ⟨x, List.mem_of_getElem? hx, hp⟩
end Go.Proofs.YtnonfmaehfmigaaDoor

/- Names: the program's and the document's look at them. -/
namespace Go.Proofs.YtnonfmaehfmigaaDoor
open Go.RowKit

def isSmall (c : Int) : Bool := decide (97 ≤ c) && decide (c ≤ 122)
def isDigit (c : Int) : Bool := decide (48 ≤ c) && decide (c ≤ 57)
def nameOk (s : ByteArray) : Bool := decide (1 ≤ s.size) && decide (s.size ≤ 32) && isSmall ((bytesOf s).getD 0 0) && (bytesOf s).all fun c => isSmall c || isDigit c

set_option maxHeartbeats 400000 in
theorem small_any (c : Int) (w : World) : Calls Tryd.prog 84 #[.int .u8 c] w fun e w' => e = .returned (.bool (isSmall c)) ∧ w = w' := by
  have HR : Hid (isSmall c = (decide (97 ≤ c) && decide (c ≤ 122))) := rfl
  cases d1 : decide (97 ≤ c) <;> cases d2 : decide (c ≤ 122) <;>
  (rw [d1, d2] at HR
   go_enter Tryd.func84, Tryd.ntmps84
   go_wp2_with fail
   go_ret
   exact ⟨by rw [HR.out]; rfl, rfl⟩)
set_option maxHeartbeats 400000 in
theorem digit_any (c : Int) (w : World) : Calls Tryd.prog 87 #[.int .u8 c] w fun e w' => e = .returned (.bool (isDigit c)) ∧ w = w' := by
  have HR : Hid (isDigit c = (decide (48 ≤ c) && decide (c ≤ 57))) := rfl
  cases d1 : decide (48 ≤ c) <;> cases d2 : decide (c ≤ 57) <;>
  (rw [d1, d2] at HR
   go_enter Tryd.func87, Tryd.ntmps87
   go_wp2_with fail
   go_ret
   exact ⟨by rw [HR.out]; rfl, rfl⟩)
/-- What may not stand in a name. -/
def odd1 (c : Int) : Bool := !isSmall c && !isDigit c
set_option maxHeartbeats 400000 in
theorem odd_any (c : Int) (w : World) : Calls Tryd.prog 86 #[.int .u8 c] w fun e w' => e = .returned (.bool (odd1 c)) ∧ w = w' := by
  have HR : Hid (odd1 c = (!isSmall c && !isDigit c)) := rfl
  cases d1 : isSmall c with
  | true =>
    rw [d1] at HR
    have hc := small_any c
    rw [d1] at hc
    have HC := Lib.hid hc
    clear hc
    go_enter Tryd.func86, Tryd.ntmps86
    go_wp2_with (go_at_call 84; refine (HC.out _).mono ?_; rintro e w' ⟨rfl, rfl⟩)
    go_ret
    exact ⟨by rw [HR.out]; rfl, rfl⟩
  | false =>
    rw [d1] at HR
    have hc := small_any c
    rw [d1] at hc
    have HC := Lib.hid hc
    clear hc
    cases d2 : isDigit c
    all_goals
      rw [d2] at HR
      have hd := digit_any c
      rw [d2] at hd
      have HD := Lib.hid hd
      clear hd
      go_enter Tryd.func86, Tryd.ntmps86
      go_wp2_with (first | (go_at_call 84; refine (HC.out _).mono ?_; rintro e w' ⟨rfl, rfl⟩) | (go_at_call 87; refine (HD.out _).mono ?_; rintro e w' ⟨rfl, rfl⟩))
      go_ret
      exact ⟨by rw [HR.out]; rfl, rfl⟩

set_option maxHeartbeats 400000 in
theorem indexBytes_any (A : Option Addr) (n c : Nat) (l : List Int) (w : World) (hl : l.length = n) (hn : n ≤ 65536) (hA : Nums .u8 w w.heap.size A l) :
    Calls Tryd.prog 94 #[.slice A n c, .func (.func 86) #[] #[]] w fun e w' => e = .returned (.int .i64 (findI odd1 l)) ∧ w = w' := by
  have HL := Lib.hid hl
  have HA := Lib.hid hA
  clear hl hA
  go_enter Tryd.func94, Tryd.ntmps94
  go_wp2_with fail
  go_loop [8] (fun i => ∃ k : Nat, k ≤ n ∧ i = .int .i64 k ∧ Hid (∀ y ∈ l.take k, odd1 y = false)) (fun i => n - (intOf i).toNat)
  case atStart => exact ⟨0, Nat.zero_le _, rfl, fun y hy => by simp at hy⟩
  case round =>
    obtain ⟨k, hk, rfl, HB⟩ := hrel
    by_cases hlt : k < n
    · obtain ⟨b, off, x, rfl, _, hc, hx⟩ := HA.out k (by rw [HL.out]; exact hlt)
      have HX := Lib.hid hx
      clear hx
      cases hp : odd1 x with
      | true =>
        have HI : Hid (findI odd1 l = (k : Int)) := findI_some HX.out hp HB.out
        go_wp2_with (go_at_call 86; refine (odd_any x _).mono ?_; rintro e w' ⟨rfl, rfl⟩)
        go_ret
        exact ⟨by rw [HI.out]; rfl, rfl⟩
      | false =>
        have HB2 : Hid (∀ y ∈ l.take (k + 1), odd1 y = false) := take_snoc_all HX.out hp HB.out
        go_wp2_with (go_at_call 86; refine (odd_any x _).mono ?_; rintro e w' ⟨rfl, rfl⟩)
        go_round
        case rel => exact ⟨k + 1, by omega, by go_num, HB2⟩
        case measure => simp [intOf]; omega
    · obtain rfl : n = k := by omega
      have HI : Hid (findI odd1 l = -1) := findI_none (by have := HB.out; rwa [List.take_of_length_le (by rw [HL.out]; omega)] at this)
      go_wp2_with fail
      go_ret
      exact ⟨by rw [HI.out]; rfl, rfl⟩
set_option maxHeartbeats 400000 in
theorem containsBytes_any (A : Option Addr) (n c : Nat) (l : List Int) (w : World) (hl : l.length = n) (hn : n ≤ 65536) (hA : Nums .u8 w w.heap.size A l) :
    Calls Tryd.prog 85 #[.slice A n c, .func (.func 86) #[] #[]] w fun e w' => e = .returned (.bool (l.any odd1)) ∧ w = w' := by
  have HF := Lib.hid (findI_nonneg odd1 l)
  have HC := Lib.hid (indexBytes_any A n c l w hl hn hA)
  clear hl hA hn
  generalize findI odd1 l = f at *
  go_enter Tryd.func85, Tryd.ntmps85
  go_wp2_with (go_at_call 94; refine HC.out.mono ?_; rintro e w' ⟨rfl, rfl⟩)
  go_ret
  exact ⟨by rw [← HF.out]; rfl, rfl⟩

theorem nameOk_none {s : ByteArray} (h : s.size = 0) : nameOk s = false := by simp [nameOk, h]
theorem nameOk_long {s : ByteArray} (h : 32 < s.size) : nameOk s = false := by
  have : ¬ s.size ≤ 32 := by omega
  simp [nameOk, this]
theorem bytesOf_first (s : ByteArray) (h : 0 < s.size) : (bytesOf s).getD 0 0 = (s[0].toNat : Int) := by
  rw [List.getD_eq_getElem?_getD, bytesOf_at s 0 h]
  rfl
theorem nameOk_first {s : ByteArray} (h : 0 < s.size) (h2 : isSmall (s[0].toNat : Int) = false) : nameOk s = false := by
  rw [nameOk, bytesOf_first s h, h2]
  simp
theorem nameOk_rest {s : ByteArray} (h : 0 < s.size) (h1 : ¬ 32 < s.size) (h2 : isSmall (s[0].toNat : Int) = true) : nameOk s = !(bytesOf s).any odd1 := by
  rw [nameOk, bytesOf_first s h, h2]
  have a1 : 1 ≤ s.size := h
  have a2 : s.size ≤ 32 := by omega
  simp only [a1, a2, decide_true, Bool.true_and, Bool.and_true]
  rw [List.all_eq_not_any_not]
  congr 2
  funext c
  simp [odd1]
set_option maxHeartbeats 400000 in
theorem name_any (s : ByteArray) (w : World) : Calls Tryd.prog 70 #[.string s] w fun e w' => e = .returned (.bool (nameOk s)) ∧ Keeps w w' [] := by
  by_cases h0 : s.size = 0
  · have h1 := strEmpty s h0
    have HN := Lib.hid (nameOk_none h0)
    clear h0
    go_enter Tryd.func70, Tryd.ntmps70
    go_wp2_with fail
    go_ret
    exact ⟨by rw [HN.out]; rfl, Keeps.refl _ _⟩
  · have h1 := strFull s h0
    by_cases h2 : 32 < s.size
    · have d2 : decide ((32 : Int) < s.size) = true := by simp; omega
      have HN := Lib.hid (nameOk_long h2)
      go_enter Tryd.func70, Tryd.ntmps70
      go_wp2_with fail
      go_ret
      exact ⟨by rw [HN.out]; rfl, Keeps.refl _ _⟩
    · have d2 : decide ((32 : Int) < s.size) = false := by simp; omega
      have h3 : 0 < s.size := by omega
      clear h0
      obtain ⟨c, w1, hrun, hN, hK⟩ := conv_bytes (P := Tryd.prog) w 9 129 5 s Tryd.underlying9 Tryd.underlying129 Tryd.underlying5
      have HNum := Lib.hid hN
      have HK := Lib.hid hK
      clear hN hK
      have hsm := small_any (s[0].toNat : Int)
      cases d3 : isSmall (s[0].toNat : Int)
      · have HN := Lib.hid (nameOk_first h3 d3)
        rw [d3] at hsm
        have HS := Lib.hid hsm
        clear hsm
        go_enter Tryd.func70, Tryd.ntmps70
        go_wp2_with (go_at_call 84; refine (HS.out _).mono ?_; rintro e w' ⟨rfl, rfl⟩)
        go_ret
        exact ⟨by rw [HN.out]; rfl, Keeps.refl _ _⟩
      · have HN := Lib.hid (nameOk_rest h3 h2 d3)
        rw [d3] at hsm
        have HS := Lib.hid hsm
        clear hsm
        have HC := Lib.hid (containsBytes_any (some ⟨w.heap.size, 0, none⟩) s.size c (bytesOf s) w1 (bytesOf_len s) (by omega) HNum.out)
        generalize (bytesOf s).any odd1 = q at *
        go_enter Tryd.func70, Tryd.ntmps70
        go_wp2_with (first | (go_at_call 84; refine (HS.out _).mono ?_; rintro e w' ⟨rfl, rfl⟩) | (go_at_call 85; refine HC.out.mono ?_; rintro e w' ⟨rfl, rfl⟩))
        go_ret
        exact ⟨by rw [HN.out]; rfl, HK.out⟩

theorem odd1_mid {c : Int} (h : 97 ≤ c ∧ c ≤ 122 ∨ 48 ≤ c ∧ c ≤ 57) : odd1 c = false := by
  rcases h with ⟨h, h'⟩ | ⟨h, h'⟩ <;> simp [odd1, isSmall, isDigit, h, h']
theorem odd1_out {c : Int} (h : c < 48 ∨ (57 < c ∧ c < 97) ∨ 122 < c) : odd1 c = true := by
  simp only [odd1, isSmall, isDigit, Bool.and_eq_true, Bool.not_eq_true', Bool.and_eq_false_iff, decide_eq_false_iff_not]
  omega
theorem small_out {c : Int} (h : c < 97 ∨ 122 < c) : isSmall c = false := by
  simp only [isSmall, Bool.and_eq_false_iff, decide_eq_false_iff_not]
  omega
theorem small_in {c : Int} (h : 97 ≤ c ∧ c ≤ 122) : isSmall c = true := by simp [isSmall, h]
set_option maxRecDepth 100000 in
set_option maxHeartbeats 800000 in
theorem refName_any (s : ByteArray) (w : World) : Calls Tryd.prog 79 #[.string s] w fun e w' => e = .returned (.bool (nameOk s)) ∧ w = w' := by
  by_cases h0 : s.size = 0
  · have d1 : decide ((s.size : Int) < 1) = true := by simp; omega
    have HN := Lib.hid (nameOk_none h0)
    clear h0
    go_enter Tryd.func79, Tryd.ntmps79
    go_wp2_with fail
    go_ret
    exact ⟨by rw [HN.out]; rfl, rfl⟩
  · have d1 : decide ((s.size : Int) < 1) = false := by simp; omega
    by_cases h2 : 32 < s.size
    · have d2 : decide ((32 : Int) < s.size) = true := by simp; omega
      have HN := Lib.hid (nameOk_long h2)
      go_enter Tryd.func79, Tryd.ntmps79
      go_wp2_with fail
      go_ret
      exact ⟨by rw [HN.out]; rfl, rfl⟩
    · have d2 : decide ((32 : Int) < s.size) = false := by simp; omega
      have h3 : 0 < s.size := by omega
      clear h0
      by_cases e1 : (s[0].toNat : Int) < 97
      · have HN := Lib.hid (nameOk_first h3 (small_out (.inl e1)))
        have d3 : decide ((s[0].toNat : Int) < 97) = true := by simpa using e1
        clear e1
        go_enter Tryd.func79, Tryd.ntmps79
        go_wp2_with fail
        go_ret
        exact ⟨by rw [HN.out]; rfl, rfl⟩
      · have d3 : decide ((s[0].toNat : Int) < 97) = false := by simpa using e1
        by_cases e2 : 122 < (s[0].toNat : Int)
        · have HN := Lib.hid (nameOk_first h3 (small_out (.inr e2)))
          have d4 : decide ((122 : Int) < (s[0].toNat : Int)) = true := by simpa using e2
          clear e1 e2
          go_enter Tryd.func79, Tryd.ntmps79
          go_wp2_with fail
          go_ret
          exact ⟨by rw [HN.out]; rfl, rfl⟩
        · have d4 : decide ((122 : Int) < (s[0].toNat : Int)) = false := by simpa using e2
          have HN := Lib.hid (nameOk_rest h3 h2 (small_in ⟨by omega, by omega⟩))
          clear e1 e2
          go_enter Tryd.func79, Tryd.ntmps79
          go_wp2_with fail
          go_loop [3] (fun i => ∃ k : Nat, k ≤ s.size ∧ i = .int .i64 k ∧ Hid (∀ y ∈ (bytesOf s).take k, odd1 y = false)) (fun i => s.size - (intOf i).toNat)
          case atStart => exact ⟨0, Nat.zero_le _, rfl, fun y hy => by simp at hy⟩
          case round =>
            obtain ⟨k, hk, rfl, HB⟩ := hrel
            clear d3 d4
            by_cases hlt : k < s.size
            · have HX := Lib.hid (bytesOf_at s k hlt)
              rcases (by omega : (s[k].toNat : Int) < 48 ∨ (57 < (s[k].toNat : Int) ∧ (s[k].toNat : Int) < 97) ∨ 122 < (s[k].toNat : Int) ∨ (97 ≤ (s[k].toNat : Int) ∧ (s[k].toNat : Int) ≤ 122) ∨ (48 ≤ (s[k].toNat : Int) ∧ (s[k].toNat : Int) ≤ 57)) with q | q | q | q | q
              · have HI : Hid (nameOk s = false) := by show _ = _; rw [HN.out, any_at HX.out (odd1_out (.inl q))]; rfl
                have a1 : decide ((s[k].toNat : Int) < 97) = true := by simp; omega
                have a3 : decide ((s[k].toNat : Int) < 48) = true := by simp; omega
                clear q
                go_wp2_with fail
                go_ret
                exact ⟨by rw [HI.out]; rfl, rfl⟩
              · have HI : Hid (nameOk s = false) := by show _ = _; rw [HN.out, any_at HX.out (odd1_out (.inr (.inl q)))]; rfl
                have a1 : decide ((s[k].toNat : Int) < 97) = true := by simp; omega
                have a3 : decide ((s[k].toNat : Int) < 48) = false := by simp; omega
                have a4 : decide ((57 : Int) < (s[k].toNat : Int)) = true := by simp; omega
                clear q
                go_wp2_with fail
                go_ret
                exact ⟨by rw [HI.out]; rfl, rfl⟩
              · have HI : Hid (nameOk s = false) := by show _ = _; rw [HN.out, any_at HX.out (odd1_out (.inr (.inr q)))]; rfl
                have a1 : decide ((s[k].toNat : Int) < 97) = false := by simp; omega
                have a2 : decide ((122 : Int) < (s[k].toNat : Int)) = true := by simp; omega
                have a3 : decide ((s[k].toNat : Int) < 48) = false := by simp; omega
                have a4 : decide ((57 : Int) < (s[k].toNat : Int)) = true := by simp; omega
                clear q
                go_wp2_with fail
                go_ret
                exact ⟨by rw [HI.out]; rfl, rfl⟩
              · have HB2 : Hid (∀ y ∈ (bytesOf s).take (k + 1), odd1 y = false) := take_snoc_all HX.out (odd1_mid (.inl q)) HB.out
                have a1 : decide ((s[k].toNat : Int) < 97) = false := by simp; omega
                have a2 : decide ((122 : Int) < (s[k].toNat : Int)) = false := by simp; omega
                clear q
                go_wp2_with fail
                go_round
                case rel => exact ⟨k + 1, by omega, by go_num, HB2⟩
                case measure => simp [intOf]; omega
              · have HB2 : Hid (∀ y ∈ (bytesOf s).take (k + 1), odd1 y = false) := take_snoc_all HX.out (odd1_mid (.inr q)) HB.out
                have a1 : decide ((s[k].toNat : Int) < 97) = true := by simp; omega
                have a3 : decide ((s[k].toNat : Int) < 48) = false := by simp; omega
                have a4 : decide ((57 : Int) < (s[k].toNat : Int)) = false := by simp; omega
                clear q
                go_wp2_with fail
                go_round
                case rel => exact ⟨k + 1, by omega, by go_num, HB2⟩
                case measure => simp [intOf]; omega
            · have HI : Hid (nameOk s = true) := by
                show _ = _
                have := HB.out
                rw [List.take_of_length_le (by rw [bytesOf_len]; omega)] at this
                rw [HN.out, not_any this]
                rfl
              go_wp2_with fail
              go_ret
              exact ⟨by rw [HI.out]; rfl, rfl⟩
end Go.Proofs.YtnonfmaehfmigaaDoor
