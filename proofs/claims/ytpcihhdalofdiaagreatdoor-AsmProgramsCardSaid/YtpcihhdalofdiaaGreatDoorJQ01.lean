/- Words for memory: a slice that reads as a list of cells, wherever it lies below a block. No program in sight. -/
import Derived.Test.YtpcihhdalofdiaaGreatDoorRows
import Derived.WalkKit
import Derived.WalkSpells
import Derived.WalkLawsBesides
import Derived.Deep.LoopGhost
import Derived.Deep.AppendLies
import Derived.Maps.AppendAt
import Derived.Lib.Hide
import Derived.Lib.SlBytesConst
import Derived.Outline
import Derived.Handy
import Derived.Laws.AppendOwnNone
import Derived.Deep.RegionLaw
import Derived.Deep.RegionHeld3
import Derived.Deep.DrawnRows
import Derived.OrdersHeld
import Derived.StillTail
import Derived.Lib.ConvBytes
import Derived.Laws.Strings
import Derived.Lib.ItoaNum
import Derived.Lib.AtoiAll
import Derived.Lib.AtoiAllCases
import Derived.Lib.SlTrimSet
import Derived.BigRegion
import Derived.BigQuiet
import Derived.Deep.QuietTactic
import Derived.RegionTactic
import Derived.Lib.ItoaLen
namespace Go.Proofs.YtpcihhdalofdiaaGreatDoor
open Go.RowKit

/-- The slice's cells, from its address on, below block B. -/
def Row (w : World) (B : Nat) (A : Option Addr) (vs : List Value) : Prop :=
  ∀ k, k < vs.length → ∃ b off v, A = some ⟨b, off, none⟩ ∧ b < B ∧ w.cell? ⟨b, off + k, none⟩ = some v ∧ vs[k]? = some v

theorem Row.nil {w : World} {B : Nat} {A : Option Addr} : Row w B A [] := fun k h => absurd h (by simp)
/-- The same, of numbers of one kind. -/
def Nums (K : IntKind) (w : World) (B : Nat) (A : Option Addr) (l : List Int) : Prop :=
  ∀ k, k < l.length → ∃ b off x, A = some ⟨b, off, none⟩ ∧ b < B ∧ w.cell? ⟨b, off + k, none⟩ = some (.int K x) ∧ l[k]? = some x
theorem Nums.nil {K : IntKind} {w : World} {B : Nat} {A : Option Addr} : Nums K w B A [] := fun k h => absurd h (by simp)
theorem Nums.keep {K : IntKind} {w w' : World} {B : Nat} {A : Option Addr} {l : List Int} (h : Nums K w B A l) (hk : ∀ p : Addr, p.block < B → w'.cell? p = w.cell? p) : Nums K w' B A l := by
  intro k hk'
  obtain ⟨b, off, v, e, hb, hc, hv⟩ := h k hk'
  exact ⟨b, off, v, e, hb, (hk _ hb).trans hc, hv⟩
theorem Nums.alloc {K : IntKind} {w : World} {B : Nat} {A : Option Addr} {l : List Int} (h : Nums K w B A l) (hB : B ≤ w.heap.size) (o : Obj) : Nums K (w.alloc o) B A l :=
  h.keep fun p hp => World.cell?_alloc_lt w o p (by omega)
end Go.Proofs.YtpcihhdalofdiaaGreatDoor

/- append onto a row of the call's own, the source nil, empty or not, wherever it lies. Over any program. -/
namespace Go.Proofs.YtpcihhdalofdiaaGreatDoor
open Go.RowKit

theorem add_lit (b off k : Nat) : (⟨b, off, none⟩ : Addr).add k = ⟨b, off + k, none⟩ := by unfold Addr.add; split <;> simp_all

/-- What a row of the call's own looks like. -/
theorem own_form {w : World} {base : Nat} {e : TypeId} {size n : Nat} {v : Value} {xs : List Value} (h : w.ownsRow base e size v n xs) : ∃ A c, v = .slice A n c := by
  rcases h.2 with ⟨rfl, rfl⟩ | ⟨g, cap, cur, rfl, _⟩
  · exact ⟨_, _, rfl⟩
  · exact ⟨_, _, rfl⟩
theorem Row.of_own {w : World} {base : Nat} {e : TypeId} {size n c : Nat} {A : Option Addr} {xs : List Value} (h : w.ownsRow base e size (.slice A n c) n xs) : Row w w.heap.size A xs := by
  intro k hk
  have hn : 0 < n := by
    rcases Nat.eq_zero_or_pos n with h0 | h0
    · subst h0
      have := h.1
      simp at this
      subst this
      simp at hk
    · exact h0
  obtain ⟨g, cap, hv, _, hlt⟩ := h.form hn
  have hA : A = some ⟨g, 0, none⟩ := by injection hv
  subst hA
  have hc := h.cells (g := g) rfl k xs[k] (List.getElem?_eq_getElem hk)
  rw [add_lit] at hc
  exact ⟨g, 0, xs[k], rfl, hlt, hc, List.getElem?_eq_getElem hk⟩
theorem Row.toNums {K : IntKind} {w : World} {B : Nat} {A : Option Addr} {l : List Int} (h : Row w B A (l.map (Value.int K))) : Nums K w B A l := by
  intro k hk
  obtain ⟨b, off, v, e, hb, hc, hv⟩ := h k (by simpa using hk)
  rw [List.getElem?_map, List.getElem?_eq_getElem hk] at hv
  simp at hv
  subst hv
  exact ⟨b, off, l[k], e, hb, hc, List.getElem?_eq_getElem hk⟩
theorem Nums.toRow {K : IntKind} {w : World} {B : Nat} {A : Option Addr} {l : List Int} (h : Nums K w B A l) : Row w B A (l.map (Value.int K)) := by
  intro k hk
  obtain ⟨b, off, x, e, hb, hc, hx⟩ := h k (by simpa using hk)
  exact ⟨b, off, .int K x, e, hb, hc, by rw [List.getElem?_map, hx]; rfl⟩

section
variable {P : Program} (w : World)

theorem run_append_row (base : Nat) (t ty e : TypeId) (i : TypeInfo) (z : Value) (size bytes : Nat) (ht : P.underlying t = some (.slice e)) (hi : P.info? e = some i) (hz : i.zero = some z)
    (hsize : i.size = size) (hby : i.bytes = bytes) (hzs : z.cells.size = size) (hsz : 0 < size)
    (A0 : Option Addr) (n c0 : Nat) (xs : List Value) (hown : w.ownsRow base e size (.slice A0 n c0) n xs)
    (B : Nat) (A : Option Addr) (m c : Nat) (news : List Value) (hr : Row w B A news) (hl : news.length = m * size) (hc0 : A = none → c = 0) (h1 : ∀ u ∈ news, u.oneCell' = true)
    (h63 : n + m ≤ maxLen) (hbytes : (n + m) * bytes ≤ 140737488355328) (hbase : base ≤ w.heap.size) :
    ∃ A' c' w', (Builtin.append_ #[t, t] ty #[.slice A0 n c0, .slice A m c]).run P w = .ok (.slice A' (n + m) c') w' ∧ w'.ownsRow base e size (.slice A' (n + m) c') (n + m) (xs ++ news) ∧
      w.grownBy w' (Value.slice A0 n c0).ownBlock ∧ ((Value.slice A' (n + m) c').ownBlock = (Value.slice A0 n c0).ownBlock ∨ (Value.slice A' (n + m) c').ownBlock = some w.heap.size) := by
  rcases A with _ | ad
  · have hn : news = [] := by
      rcases news with _ | ⟨x, r⟩
      · rfl
      · obtain ⟨_, _, _, h, _⟩ := hr 0 (by simp)
        cases h
    subst hn
    have hm : m = 0 := by
      rcases Nat.eq_zero_or_pos m with h0 | h0
      · exact h0
      · have := Nat.mul_pos h0 hsz
        simp at hl
        omega
    subst hm
    obtain rfl := hc0 rfl
    exact ⟨A0, c0, w, run_append_owned_none (P := P) w base t ty e i size ht hi _ n xs hown, by simpa using hown, World.grownBy.refl w _, .inl rfl⟩
  · have hcells : ∀ j u, news[j]? = some u → w.cell? (ad.add j) = some u := by
      intro j u hu
      have hj := (List.getElem?_eq_some_iff.1 hu).1
      obtain ⟨b, off, v, h, _, hc, hv⟩ := hr j hj
      injection h with h
      subst h
      rw [add_lit, hc]
      rw [hu] at hv
      exact hv.symm
    obtain ⟨v', w', hrun, h2, h3, _, h5⟩ := run_append_own_at (P := P) w base t ty e i z size bytes ht hi hz hsize hby hzs hsz _ n xs hown ad m c news hl hcells h1 h63 hbytes hbase
    obtain ⟨A', c', rfl⟩ := own_form h2
    exact ⟨A', c', w', hrun, h2, h3, h5⟩

theorem wp_append_row {o : Oper} {a : Act} {K : Act → World → Prop} {Q : Exit → Act → World → Prop} (s x : Operand) (t : TypeId)
    (ho : o.op = .call { callee := .builtin .append, args := #[s, x], argTypes := #[t, t] })
    (base : Nat) (e : TypeId) (i : TypeInfo) (z : Value) (size bytes : Nat) (ht : P.underlying t = some (.slice e)) (hi : P.info? e = some i) (hz : i.zero = some z)
    (hsize : i.size = size) (hby : i.bytes = bytes) (hzs : z.cells.size = size) (hsz : 0 < size)
    (A0 : Option Addr) (n c0 : Nat) (xs : List Value) (hs : a.eval s = .slice A0 n c0) (hown : w.ownsRow base e size (.slice A0 n c0) n xs)
    (B : Nat) (A : Option Addr) (m c : Nat) (news : List Value) (hx : a.eval x = .slice A m c) (hr : Row w B A news) (hl : news.length = m * size) (hc0 : A = none → c = 0) (h1 : ∀ u ∈ news, u.oneCell' = true)
    (h63 : n + m ≤ maxLen) (hbytes : (n + m) * bytes ≤ 140737488355328) (hbase : base ≤ w.heap.size)
    (h : ∀ A' c' w', w'.ownsRow base e size (.slice A' (n + m) c') (n + m) (xs ++ news) → w.grownBy w' (Value.slice A0 n c0).ownBlock →
      ((Value.slice A' (n + m) c').ownBlock = (Value.slice A0 n c0).ownBlock ∨ (Value.slice A' (n + m) c').ownBlock = some w.heap.size) → K (a.put o.dst (.slice A' (n + m) c')) w') : o.wp P a w K Q := by
  obtain ⟨A', c', w', hrun, h2, h3, h4⟩ := run_append_row (P := P) w base t o.type e i z size bytes ht hi hz hsize hby hzs hsz A0 n c0 xs hown B A m c news hr hl hc0 h1 h63 hbytes hbase
  unfold Oper.wp execOp
  simp only [ho, resolve, invoke, builtin, Sem.run_bind, Sem.run_pure, Result.andThen_ok, List.map_toArray, List.map_cons, List.map_nil, hs, hx, hrun]
  exact h A' c' w' h2 h3 h4

theorem wpList_append_row {ops : Array Oper} {rest : List Oper} {o : Oper} {a : Act} {Q : Exit → Act → World → Prop} (hgd : o.guard = none) (s x : Operand) (t : TypeId)
    (ho : o.op = .call { callee := .builtin .append, args := #[s, x], argTypes := #[t, t] })
    (base : Nat) (e : TypeId) (i : TypeInfo) (z : Value) (size bytes : Nat) (ht : P.underlying t = some (.slice e)) (hi : P.info? e = some i) (hz : i.zero = some z)
    (hsize : i.size = size) (hby : i.bytes = bytes) (hzs : z.cells.size = size) (hsz : 0 < size)
    (A0 : Option Addr) (n c0 : Nat) (xs : List Value) (hs : a.eval s = .slice A0 n c0) (hown : w.ownsRow base e size (.slice A0 n c0) n xs)
    (B : Nat) (A : Option Addr) (m c : Nat) (news : List Value) (hx : a.eval x = .slice A m c) (hr : Row w B A news) (hl : news.length = m * size) (hc0 : A = none → c = 0) (h1 : ∀ u ∈ news, u.oneCell' = true)
    (h63 : n + m ≤ maxLen) (hbytes : (n + m) * bytes ≤ 140737488355328) (hbase : base ≤ w.heap.size)
    (h : ∀ A' c' w', w'.ownsRow base e size (.slice A' (n + m) c') (n + m) (xs ++ news) → w.grownBy w' (Value.slice A0 n c0).ownBlock →
      ((Value.slice A' (n + m) c').ownBlock = (Value.slice A0 n c0).ownBlock ∨ (Value.slice A' (n + m) c').ownBlock = some w.heap.size) → wpList P ops Q rest (a.put o.dst (.slice A' (n + m) c')) w') :
    wpList P ops Q (o :: rest) a w :=
  wpList_plain hgd fun _ hK => wp_append_row w s x t ho base e i z size bytes ht hi hz hsize hby hzs hsz A0 n c0 xs hs hown B A m c news hx hr hl hc0 h1 h63 hbytes hbase fun A' c' w' h2 h3 h4 => hK _ _ (h A' c' w' h2 h3 h4)

theorem step_append_row {ops : Array Oper} {o : Oper} {a : Act} {K : Act → World → Prop} {Q : Exit → Act → World → Prop} {E : Prop} (hgd : o.guard = none) (s x : Operand) (t : TypeId)
    (ho : o.op = .call { callee := .builtin .append, args := #[s, x], argTypes := #[t, t] })
    (base : Nat) (e : TypeId) (i : TypeInfo) (z : Value) (size bytes : Nat) (ht : P.underlying t = some (.slice e)) (hi : P.info? e = some i) (hz : i.zero = some z)
    (hsize : i.size = size) (hby : i.bytes = bytes) (hzs : z.cells.size = size) (hsz : 0 < size)
    (A0 : Option Addr) (n c0 : Nat) (xs : List Value) (hs : a.eval s = .slice A0 n c0) (hown : w.ownsRow base e size (.slice A0 n c0) n xs)
    (B : Nat) (A : Option Addr) (m c : Nat) (news : List Value) (hx : a.eval x = .slice A m c) (hr : Row w B A news) (hl : news.length = m * size) (hc0 : A = none → c = 0) (h1 : ∀ u ∈ news, u.oneCell' = true)
    (h63 : n + m ≤ maxLen) (hbytes : (n + m) * bytes ≤ 140737488355328) (hbase : base ≤ w.heap.size)
    (h : ∀ A' c' w', w'.ownsRow base e size (.slice A' (n + m) c') (n + m) (xs ++ news) → w.grownBy w' (Value.slice A0 n c0).ownBlock →
      ((Value.slice A' (n + m) c').ownBlock = (Value.slice A0 n c0).ownBlock ∨ (Value.slice A' (n + m) c').ownBlock = some w.heap.size) → K (a.put o.dst (.slice A' (n + m) c')) w') :
    if Region.wanted o (yielded ops a.tmps) = true then Oper.wp P o a w K Q else E := by
  have hw : Region.wanted o (yielded ops a.tmps) = true := by simp [Region.wanted, hgd]
  rw [if_pos hw]
  exact wp_append_row w s x t ho base e i z size bytes ht hi hz hsize hby hzs hsz A0 n c0 xs hs hown B A m c news hx hr hl hc0 h1 h63 hbytes hbase h
end

theorem oneCell_ints (K : IntKind) (l : List Int) : ∀ u ∈ l.map (Value.int K), u.oneCell' = true := by
  intro u hu
  obtain ⟨x, _, rfl⟩ := List.mem_map.1 hu
  rfl

end Go.Proofs.YtpcihhdalofdiaaGreatDoor

/- The world but for some blocks: 'Keeps w w' S': every block that was there and is not among S is as it was. -/
namespace Go.Proofs.YtpcihhdalofdiaaGreatDoor
open Go.RowKit

structure Keeps (w w' : World) (S : List Nat) : Prop where
  os : w'.os = w.os
  tape : w'.tape = w.tape
  output : w'.output = w.output
  size : w.heap.size ≤ w'.heap.size
  block : ∀ k, k < w.heap.size → k ∉ S → w'.heap[k]? = w.heap[k]?

theorem Keeps.refl (w : World) (S : List Nat) : Keeps w w S := ⟨rfl, rfl, rfl, Nat.le_refl _, fun _ _ _ => rfl⟩
theorem Keeps.trans {a b c : World} {S : List Nat} (h : Keeps a b S) (k : Keeps b c S) : Keeps a c S :=
  ⟨k.os.trans h.os, k.tape.trans h.tape, k.output.trans h.output, Nat.le_trans h.size k.size, fun i hi hn => (k.block i (Nat.lt_of_lt_of_le hi h.size) hn).trans (h.block i hi hn)⟩
theorem Keeps.more {a b : World} {S T : List Nat} (h : Keeps a b S) (hs : ∀ k, k < a.heap.size → k ∈ S → k ∈ T) : Keeps a b T :=
  ⟨h.os, h.tape, h.output, h.size, fun i hi hn => h.block i hi (fun hm => hn (hs i hi hm))⟩
theorem Keeps.drew {a w : World} {S : List Nat} (h : Keeps a w S) : Keeps a w.drew S := ⟨h.os, h.tape, h.output, h.size, h.block⟩
theorem Keeps.drewN {a w : World} {S : List Nat} (h : Keeps a w S) (n : Nat) : Keeps a (w.drewN n) S := ⟨h.os, h.tape, h.output, h.size, h.block⟩
theorem Keeps.alloc {a w : World} {S : List Nat} (h : Keeps a w S) (o : Obj) : Keeps a (w.alloc o) S :=
  h.trans ⟨rfl, rfl, rfl, by simp, fun k hk _ => Below.heap_alloc _ _ _ hk⟩
theorem Keeps.setCell {a w : World} {S : List Nat} (h : Keeps a w S) {p : Addr} (hp : p.block ∈ S ∨ a.heap.size ≤ p.block) (u : Value) : Keeps a (w.setCell p u) S :=
  ⟨h.os, h.tape, h.output, by simpa [World.setCell] using h.size, fun i hi hn => (Below.heap_setCell _ _ _ _ (fun e => by
    subst e
    rcases hp with hp | hp
    · exact hn hp
    · omega)).trans (h.block i hi hn)⟩
theorem Keeps.grown {a w w' : World} {S : List Nat} {row : Option Nat} (h : Keeps a w S) (hg : w.grownBy w' row) (hr : ∀ k, row = some k → k ∈ S ∨ a.heap.size ≤ k) : Keeps a w' S :=
  ⟨hg.os.trans h.os, hg.tape.trans h.tape, hg.output.trans h.output, Nat.le_trans h.size hg.size, fun i hi hn => (hg.block i (Nat.lt_of_lt_of_le hi h.size) (fun e => by
    rcases hr i e.symm with h' | h'
    · exact hn h'
    · omega)).trans (h.block i hi hn)⟩
theorem Keeps.of_below {a w : World} (h : Below a.heap.size a w) (S : List Nat) : Keeps a w S := ⟨h.os, h.tape, h.output, h.size, fun i hi _ => h.block i hi⟩
theorem Keeps.below {B : Nat} {a b w : World} {S : List Nat} (hb : Below B a b) (h : Keeps b w S) (hS : ∀ k, k ∈ S → B ≤ k) (hB : B ≤ b.heap.size) : Below B a w :=
  ⟨h.os.trans hb.os, h.tape.trans hb.tape, h.output.trans hb.output, Nat.le_trans hb.size h.size, fun i hi => (h.block i (by omega) (fun hm => by have := hS i hm; omega)).trans (hb.block i hi)⟩
theorem Keeps.cell {a w : World} {S : List Nat} (h : Keeps a w S) {p : Addr} (hp : p.block < a.heap.size) (hn : p.block ∉ S) : w.cell? p = a.cell? p := World.cell?_of_block (h.block _ hp hn)
theorem Keeps.frozen {a w : World} {S : List Nat} (h : Keeps a w S) {p : Addr} (hp : p.block < a.heap.size) (hn : p.block ∉ S) : w.frozen? p = a.frozen? p := World.frozen?_of_block (h.block _ hp hn)

/-- A block that is known whole. -/
def Blk (w : World) (g : Nat) (t : TypeId) (cs : Array Value) : Prop := w.heap[g]? = some (.cells cs t (0, 0))
theorem Blk.lt {w : World} {g : Nat} {t : TypeId} {cs : Array Value} (h : Blk w g t cs) : g < w.heap.size := (Array.getElem?_eq_some_iff.1 h).1
theorem Blk.cell {w : World} {g : Nat} {t : TypeId} {cs : Array Value} (h : Blk w g t cs) (i : Nat) : w.cell? ⟨g, i, none⟩ = cs[i]? := cell_of_row w g i cs t (0, 0) h
theorem Blk.frozen {w : World} {g : Nat} {t : TypeId} {cs : Array Value} (h : Blk w g t cs) (i : Nat) : w.frozen? ⟨g, i, none⟩ = false := frozen_of_row w g i cs t h
theorem Blk.new (w : World) (t : TypeId) (cs : Array Value) : Blk (w.alloc (.cells cs t)) w.heap.size t cs := heap_alloc_new w _
theorem Blk.drew {w : World} {g : Nat} {t : TypeId} {cs : Array Value} (h : Blk w g t cs) : Blk w.drew g t cs := h
theorem Blk.keep {w w' : World} {S : List Nat} {g : Nat} {t : TypeId} {cs : Array Value} (h : Blk w g t cs) (k : Keeps w w' S) (hn : g ∉ S) : Blk w' g t cs := (k.block g h.lt hn).trans h
theorem Blk.alloc {w : World} {g : Nat} {t : TypeId} {cs : Array Value} (h : Blk w g t cs) (o : Obj) : Blk (w.alloc o) g t cs := (Below.heap_alloc w o g h.lt).trans h
theorem Blk.set_ {w : World} {g : Nat} {t : TypeId} {cs : Array Value} (h : Blk w g t cs) (i : Nat) (u : Value) : Blk (w.setCell ⟨g, i, none⟩ u) g t (cs.setIfInBounds i u) := heap_setCell_same w g i cs t u h
theorem Blk.far {w : World} {g : Nat} {t : TypeId} {cs : Array Value} (h : Blk w g t cs) {p : Addr} (hp : g ≠ p.block) (u : Value) : Blk (w.setCell p u) g t cs := (Below.heap_setCell w p u g hp).trans h
theorem Blk.grown {w w' : World} {row : Option Nat} {g : Nat} {t : TypeId} {cs : Array Value} (h : Blk w g t cs) (hb : w.grownBy w' row) (hg : some g ≠ row) : Blk w' g t cs := (hb.block g h.lt hg).trans h
theorem own_block {w : World} {base : Nat} {e : TypeId} {size n c h : Nat} {xs : List Value} (ho : w.ownsRow base e size (.slice (some ⟨h, 0, none⟩) n c) n xs) : ∃ cur, Blk w h e cur ∧ cur.size = c * size ∧ cur.toList.take (n * size) = xs ∧ n ≤ c ∧ base ≤ h := by
  rcases ho.2 with ⟨h', _⟩ | ⟨g, cap, cur, he, hb, hg, hnc, hcm, hcs, ht⟩
  · simp at h'
  · simp only [Value.slice.injEq, Option.some.injEq, Addr.mk.injEq, and_true, true_and] at he
    obtain ⟨rfl, rfl⟩ := he
    exact ⟨cur, hg, hcs, ht, hnc, hb⟩
theorem Blk.ne_ {w : World} {g g' : Nat} {t t' : TypeId} {cs cs' : Array Value} (h : Blk w g t cs) (h' : Blk w g' t' cs') (hne : t ≠ t') : g ≠ g' := by
  rintro rfl
  unfold Blk at h h'
  rw [h] at h'
  injection h' with h'
  injection h' with _ ht
  exact hne ht
end Go.Proofs.YtpcihhdalofdiaaGreatDoor

/- Layer 6's instructions: the table of all. Printed by gen_op.py. -/
namespace Go.Proofs.YtpcihhdalofdiaaGreatDoor
open Go.RowKit

def opNames : List ByteArray := [⟨#[102, 97, 105, 108]⟩, ⟨#[103, 101, 116, 118, 97, 114]⟩, ⟨#[103, 101, 116, 118, 97, 108]⟩, ⟨#[103, 101, 116, 99, 111, 110]⟩, ⟨#[103, 101, 116, 115, 116, 114]⟩, ⟨#[103, 101, 116, 108, 105, 115]⟩, ⟨#[117, 110, 105, 118, 97, 114]⟩, ⟨#[117, 110, 105, 118, 97, 108]⟩, ⟨#[117, 110, 105, 99, 111, 110]⟩, ⟨#[117, 110, 105, 118, 111, 105, 100]⟩, ⟨#[112, 117, 116, 118, 97, 114]⟩, ⟨#[112, 117, 116, 118, 97, 108]⟩, ⟨#[112, 117, 116, 99, 111, 110]⟩, ⟨#[112, 117, 116, 115, 116, 114]⟩, ⟨#[112, 117, 116, 108, 105, 115]⟩, ⟨#[97, 108, 108, 111, 99, 97, 116, 101]⟩, ⟨#[100, 101, 97, 108, 108, 111, 99, 97, 116, 101]⟩, ⟨#[99, 97, 108, 108]⟩, ⟨#[101, 120, 101, 99, 117, 116, 101]⟩, ⟨#[112, 114, 111, 99, 101, 101, 100]⟩, ⟨#[116, 114, 121]⟩, ⟨#[114, 101, 116, 114, 121]⟩, ⟨#[116, 114, 117, 115, 116]⟩, ⟨#[110, 101, 99, 107, 99, 117, 116]⟩, ⟨#[103, 101, 116, 108, 101, 118, 101, 108]⟩, ⟨#[99, 117, 116]⟩, ⟨#[115, 119, 105, 116, 99, 104]⟩]
def opLists : List (List Int) := [[], [1, 2], [1, 2], [3, 2], [4, 2], [2], [1], [1], [3], [5], [1, 2], [1, 2], [3, 2], [4, 2], [2], [6], [], [7], [7], [], [8], [8], [], [], [9], [9], [8, 8, 8, 8]]
def opName (k : Nat) : ByteArray := opNames.getD k ⟨#[]⟩
def opList (k : Nat) : List Int := opLists.getD k []

theorem Blk.atNew {w : World} {n : Nat} (t : TypeId) (cs : Array Value) (h : n = w.heap.size) : Blk (w.alloc (.cells cs t)) n t cs := by
  subst h
  exact Blk.new w t cs
theorem Nums.of_blk {K : IntKind} {w : World} {g : Nat} {t : TypeId} {cs : Array Value} (l : List Int) (h : Blk w g t cs) (hc : cs = (l.map (Value.int K)).toArray) : Nums K w w.heap.size (some ⟨g, 0, none⟩) l := by
  intro k hk
  have hcell := h.cell k
  rw [hc] at hcell
  simp only [List.getElem?_toArray, List.getElem?_map, List.getElem?_eq_getElem hk, Option.map_some] at hcell
  exact ⟨g, 0, l[k], rfl, h.lt, by rw [Nat.zero_add]; exact hcell, List.getElem?_eq_getElem hk⟩

/-- The table, laid anew. -/
def RowsMade (w : World) (e : Ending) (w' : World) : Prop :=
  ∃ b, e = .returned (.slice (some ⟨b, 0, none⟩) 27 27) ∧ Keeps w w' [] ∧ w.heap.size ≤ b ∧ ∀ k, k < 27 → ∃ A, w'.cell? ⟨b, k * 2, none⟩ = some (.string (opName k)) ∧ w'.cell? ⟨b, k * 2 + 1, none⟩ = some (.slice A (opList k).length (opList k).length) ∧
    Nums .i64 w' w'.heap.size A (opList k)

theorem rowsMade_mk {w W' : World} {e : Ending} (n : Nat) (hn : n = w.heap.size) (k0 : Keeps w W' [])
    (b0 : Blk W' (n + 0) 3 #[.int .i64 1, .int .i64 2])
    (b1 : Blk W' (n + 1) 3 #[.int .i64 3, .int .i64 2])
    (b2 : Blk W' (n + 2) 3 #[.int .i64 4, .int .i64 2])
    (b3 : Blk W' (n + 3) 3 #[.int .i64 2])
    (b4 : Blk W' (n + 4) 3 #[.int .i64 1])
    (b5 : Blk W' (n + 5) 3 #[.int .i64 1])
    (b6 : Blk W' (n + 6) 3 #[.int .i64 3])
    (b7 : Blk W' (n + 7) 3 #[.int .i64 5])
    (b8 : Blk W' (n + 8) 3 #[.int .i64 2])
    (b9 : Blk W' (n + 9) 3 #[.int .i64 6])
    (b10 : Blk W' (n + 10) 3 #[.int .i64 7])
    (b11 : Blk W' (n + 11) 3 #[.int .i64 7])
    (b12 : Blk W' (n + 12) 3 #[.int .i64 8])
    (b13 : Blk W' (n + 13) 3 #[.int .i64 8])
    (b14 : Blk W' (n + 14) 3 #[.int .i64 9])
    (b15 : Blk W' (n + 15) 3 #[.int .i64 9])
    (b16 : Blk W' (n + 16) 3 #[.int .i64 8, .int .i64 8, .int .i64 8, .int .i64 8])
    (bt : Blk W' (n + 17) 140 #[.string ⟨#[102, 97, 105, 108]⟩, .slice none 0 0, .string ⟨#[103, 101, 116, 118, 97, 114]⟩, .slice (some ⟨n + 0, 0, none⟩) 2 2, .string ⟨#[103, 101, 116, 118, 97, 108]⟩, .slice (some ⟨n + 0, 0, none⟩) 2 2, .string ⟨#[103, 101, 116, 99, 111, 110]⟩, .slice (some ⟨n + 1, 0, none⟩) 2 2, .string ⟨#[103, 101, 116, 115, 116, 114]⟩, .slice (some ⟨n + 2, 0, none⟩) 2 2, .string ⟨#[103, 101, 116, 108, 105, 115]⟩, .slice (some ⟨n + 3, 0, none⟩) 1 1, .string ⟨#[117, 110, 105, 118, 97, 114]⟩, .slice (some ⟨n + 4, 0, none⟩) 1 1, .string ⟨#[117, 110, 105, 118, 97, 108]⟩, .slice (some ⟨n + 5, 0, none⟩) 1 1, .string ⟨#[117, 110, 105, 99, 111, 110]⟩, .slice (some ⟨n + 6, 0, none⟩) 1 1, .string ⟨#[117, 110, 105, 118, 111, 105, 100]⟩, .slice (some ⟨n + 7, 0, none⟩) 1 1, .string ⟨#[112, 117, 116, 118, 97, 114]⟩, .slice (some ⟨n + 0, 0, none⟩) 2 2, .string ⟨#[112, 117, 116, 118, 97, 108]⟩, .slice (some ⟨n + 0, 0, none⟩) 2 2, .string ⟨#[112, 117, 116, 99, 111, 110]⟩, .slice (some ⟨n + 1, 0, none⟩) 2 2, .string ⟨#[112, 117, 116, 115, 116, 114]⟩, .slice (some ⟨n + 2, 0, none⟩) 2 2, .string ⟨#[112, 117, 116, 108, 105, 115]⟩, .slice (some ⟨n + 8, 0, none⟩) 1 1, .string ⟨#[97, 108, 108, 111, 99, 97, 116, 101]⟩, .slice (some ⟨n + 9, 0, none⟩) 1 1, .string ⟨#[100, 101, 97, 108, 108, 111, 99, 97, 116, 101]⟩, .slice none 0 0, .string ⟨#[99, 97, 108, 108]⟩, .slice (some ⟨n + 10, 0, none⟩) 1 1, .string ⟨#[101, 120, 101, 99, 117, 116, 101]⟩, .slice (some ⟨n + 11, 0, none⟩) 1 1, .string ⟨#[112, 114, 111, 99, 101, 101, 100]⟩, .slice none 0 0, .string ⟨#[116, 114, 121]⟩, .slice (some ⟨n + 12, 0, none⟩) 1 1, .string ⟨#[114, 101, 116, 114, 121]⟩, .slice (some ⟨n + 13, 0, none⟩) 1 1, .string ⟨#[116, 114, 117, 115, 116]⟩, .slice none 0 0, .string ⟨#[110, 101, 99, 107, 99, 117, 116]⟩, .slice none 0 0, .string ⟨#[103, 101, 116, 108, 101, 118, 101, 108]⟩, .slice (some ⟨n + 14, 0, none⟩) 1 1, .string ⟨#[99, 117, 116]⟩, .slice (some ⟨n + 15, 0, none⟩) 1 1, .string ⟨#[115, 119, 105, 116, 99, 104]⟩, .slice (some ⟨n + 16, 0, none⟩) 4 4])
    (he : e = .returned (.slice (some ⟨n + 17, 0, none⟩) 27 27)) : RowsMade w e W' := by
  subst hn he
  refine ⟨w.heap.size + 17, rfl, k0, by omega, fun k hk => ?_⟩
  match k, hk with
  | 0, _ => exact ⟨none, (bt.cell 0).trans rfl, (bt.cell 1).trans rfl, Nums.nil⟩
  | 1, _ => exact ⟨_, (bt.cell 2).trans rfl, (bt.cell 3).trans rfl, Nums.of_blk [1, 2] b0 rfl⟩
  | 2, _ => exact ⟨_, (bt.cell 4).trans rfl, (bt.cell 5).trans rfl, Nums.of_blk [1, 2] b0 rfl⟩
  | 3, _ => exact ⟨_, (bt.cell 6).trans rfl, (bt.cell 7).trans rfl, Nums.of_blk [3, 2] b1 rfl⟩
  | 4, _ => exact ⟨_, (bt.cell 8).trans rfl, (bt.cell 9).trans rfl, Nums.of_blk [4, 2] b2 rfl⟩
  | 5, _ => exact ⟨_, (bt.cell 10).trans rfl, (bt.cell 11).trans rfl, Nums.of_blk [2] b3 rfl⟩
  | 6, _ => exact ⟨_, (bt.cell 12).trans rfl, (bt.cell 13).trans rfl, Nums.of_blk [1] b4 rfl⟩
  | 7, _ => exact ⟨_, (bt.cell 14).trans rfl, (bt.cell 15).trans rfl, Nums.of_blk [1] b5 rfl⟩
  | 8, _ => exact ⟨_, (bt.cell 16).trans rfl, (bt.cell 17).trans rfl, Nums.of_blk [3] b6 rfl⟩
  | 9, _ => exact ⟨_, (bt.cell 18).trans rfl, (bt.cell 19).trans rfl, Nums.of_blk [5] b7 rfl⟩
  | 10, _ => exact ⟨_, (bt.cell 20).trans rfl, (bt.cell 21).trans rfl, Nums.of_blk [1, 2] b0 rfl⟩
  | 11, _ => exact ⟨_, (bt.cell 22).trans rfl, (bt.cell 23).trans rfl, Nums.of_blk [1, 2] b0 rfl⟩
  | 12, _ => exact ⟨_, (bt.cell 24).trans rfl, (bt.cell 25).trans rfl, Nums.of_blk [3, 2] b1 rfl⟩
  | 13, _ => exact ⟨_, (bt.cell 26).trans rfl, (bt.cell 27).trans rfl, Nums.of_blk [4, 2] b2 rfl⟩
  | 14, _ => exact ⟨_, (bt.cell 28).trans rfl, (bt.cell 29).trans rfl, Nums.of_blk [2] b8 rfl⟩
  | 15, _ => exact ⟨_, (bt.cell 30).trans rfl, (bt.cell 31).trans rfl, Nums.of_blk [6] b9 rfl⟩
  | 16, _ => exact ⟨none, (bt.cell 32).trans rfl, (bt.cell 33).trans rfl, Nums.nil⟩
  | 17, _ => exact ⟨_, (bt.cell 34).trans rfl, (bt.cell 35).trans rfl, Nums.of_blk [7] b10 rfl⟩
  | 18, _ => exact ⟨_, (bt.cell 36).trans rfl, (bt.cell 37).trans rfl, Nums.of_blk [7] b11 rfl⟩
  | 19, _ => exact ⟨none, (bt.cell 38).trans rfl, (bt.cell 39).trans rfl, Nums.nil⟩
  | 20, _ => exact ⟨_, (bt.cell 40).trans rfl, (bt.cell 41).trans rfl, Nums.of_blk [8] b12 rfl⟩
  | 21, _ => exact ⟨_, (bt.cell 42).trans rfl, (bt.cell 43).trans rfl, Nums.of_blk [8] b13 rfl⟩
  | 22, _ => exact ⟨none, (bt.cell 44).trans rfl, (bt.cell 45).trans rfl, Nums.nil⟩
  | 23, _ => exact ⟨none, (bt.cell 46).trans rfl, (bt.cell 47).trans rfl, Nums.nil⟩
  | 24, _ => exact ⟨_, (bt.cell 48).trans rfl, (bt.cell 49).trans rfl, Nums.of_blk [9] b14 rfl⟩
  | 25, _ => exact ⟨_, (bt.cell 50).trans rfl, (bt.cell 51).trans rfl, Nums.of_blk [9] b15 rfl⟩
  | 26, _ => exact ⟨_, (bt.cell 52).trans rfl, (bt.cell 53).trans rfl, Nums.of_blk [8, 8, 8, 8] b16 rfl⟩
  | k + 27, h => exact absurd h (by omega)

set_option maxRecDepth 100000 in
set_option maxHeartbeats 3200000 in
theorem rows_any (w : World) : Calls Tryz.prog 111 #[] w (RowsMade w) := by
  go_enter Tryz.func111, Tryz.ntmps111
  go_wp2_with fail
  go_ret
  refine rowsMade_mk w.heap.size rfl ?_ ?_ ?_ ?_ ?_ ?_ ?_ ?_ ?_ ?_ ?_ ?_ ?_ ?_ ?_ ?_ ?_ ?_ ?_ rfl
  · repeat (first | exact Keeps.refl _ _ | apply Keeps.alloc)
  · iterate 17 apply Blk.alloc
    exact Blk.atNew _ _ rfl
  · iterate 16 apply Blk.alloc
    exact Blk.atNew _ _ (by simp only [World.size_alloc])
  · iterate 15 apply Blk.alloc
    exact Blk.atNew _ _ (by simp only [World.size_alloc])
  · iterate 14 apply Blk.alloc
    exact Blk.atNew _ _ (by simp only [World.size_alloc])
  · iterate 13 apply Blk.alloc
    exact Blk.atNew _ _ (by simp only [World.size_alloc])
  · iterate 12 apply Blk.alloc
    exact Blk.atNew _ _ (by simp only [World.size_alloc])
  · iterate 11 apply Blk.alloc
    exact Blk.atNew _ _ (by simp only [World.size_alloc])
  · iterate 10 apply Blk.alloc
    exact Blk.atNew _ _ (by simp only [World.size_alloc])
  · iterate 9 apply Blk.alloc
    exact Blk.atNew _ _ (by simp only [World.size_alloc])
  · iterate 8 apply Blk.alloc
    exact Blk.atNew _ _ (by simp only [World.size_alloc])
  · iterate 7 apply Blk.alloc
    exact Blk.atNew _ _ (by simp only [World.size_alloc])
  · iterate 6 apply Blk.alloc
    exact Blk.atNew _ _ (by simp only [World.size_alloc])
  · iterate 5 apply Blk.alloc
    exact Blk.atNew _ _ (by simp only [World.size_alloc])
  · iterate 4 apply Blk.alloc
    exact Blk.atNew _ _ (by simp only [World.size_alloc])
  · iterate 3 apply Blk.alloc
    exact Blk.atNew _ _ (by simp only [World.size_alloc])
  · iterate 2 apply Blk.alloc
    exact Blk.atNew _ _ (by simp only [World.size_alloc])
  · iterate 1 apply Blk.alloc
    exact Blk.atNew _ _ (by simp only [World.size_alloc])
  · exact Blk.atNew _ _ (by simp only [World.size_alloc])
end Go.Proofs.YtpcihhdalofdiaaGreatDoor

/- Layer 6: rowOf, Name, Operands. -/
namespace Go.Proofs.YtpcihhdalofdiaaGreatDoor
open Go.RowKit

def nameOf (op : Int) : ByteArray := if 0 ≤ op ∧ op ≤ 26 then opName op.toNat else ⟨#[]⟩
def kindsOf (op : Int) : List Int := if 0 ≤ op ∧ op ≤ 26 then opList op.toNat else []
/-- The row of an instruction's number, as a value: its name, its operands' kinds (laid somewhere). -/
def RowOf (w : World) (op : Int) (e : Ending) (w' : World) : Prop :=
  Keeps w w' [] ∧ ∃ A, e = .returned (.agg #[.string (nameOf op), .slice A (kindsOf op).length (kindsOf op).length]) ∧ Nums .i64 w' w'.heap.size A (kindsOf op)
theorem nameOf_of {op : Int} {k : Nat} (h : op = k) (hk : k < 27) : nameOf op = opName k := by
  subst h
  rw [nameOf, if_pos (by omega)]
  rfl
theorem kindsOf_of {op : Int} {k : Nat} (h : op = k) (hk : k < 27) : kindsOf op = opList k := by
  subst h
  rw [kindsOf, if_pos (by omega)]
  rfl
theorem rowOf_none {w : World} {op : Int} (h : op < 0 ∨ 26 < op) : RowOf w op (.returned (.agg #[.string ⟨#[]⟩, .slice none 0 0])) (w.alloc (.cells #[.string ⟨#[]⟩, .slice none 0 0] 140)) := by
  have hn : nameOf op = ⟨#[]⟩ := if_neg (by omega)
  have hk : kindsOf op = [] := if_neg (by omega)
  refine ⟨(Keeps.refl w []).alloc _, none, ?_, ?_⟩
  · rw [hn, hk]
    rfl
  · rw [hk]
    exact Nums.nil
theorem Nums.farRow {K : IntKind} {w : World} {B n : Nat} {t : TypeId} {cs : Array Value} {A : Option Addr} {l : List Int} (h : Nums K w B A l) (hb : Blk w n t cs) (hno : ∀ (i : Nat) (x : Int), cs[i]? ≠ some (Value.int K x)) (i : Nat) (u : Value) : Nums K (w.setCell ⟨n, i, none⟩ u) B A l := by
  intro k hk
  obtain ⟨b, off, x, rfl, hlt, hc, hx⟩ := h k hk
  refine ⟨b, off, x, rfl, hlt, ?_, hx⟩
  by_cases hbn : b = n
  · subst hbn
    exact absurd ((hb.cell (off + k)).symm.trans hc) (hno _ _)
  · exact (World.cell?_setCell_other w _ _ _ (fun e => hbn (by injection e with e1 _ _; exact e1.symm))).trans hc
theorem rowNoInt : ∀ (i : Nat) (x : Int), (#[Value.string ⟨#[]⟩, .slice none 0 0])[i]? ≠ some (.int .i64 x) := by
  intro i x
  match i with
  | 0 => simp
  | 1 => simp
  | i + 2 => simp
theorem rowNoInt2 {s : ByteArray} : ∀ (i : Nat) (x : Int), ((#[Value.string ⟨#[]⟩, .slice none 0 0]).setIfInBounds 0 (.string s))[i]? ≠ some (.int .i64 x) := by
  intro i x
  match i with
  | 0 => simp
  | 1 => simp
  | i + 2 => simp
set_option maxHeartbeats 800000 in
theorem rowOf_any (op : Int) (w : World) : Calls Tryz.prog 92 #[.int .i64 op] w (RowOf w op) := by
  by_cases h0 : op < 0
  · have d0 : decide (op < 0) = true := by simpa using h0
    have HQ := Lib.hid (rowOf_none (w := w) (.inl h0))
    clear h0
    go_enter Tryz.func92, Tryz.ntmps92
    go_wp2_with fail
    exact bodyPost_ret (v := .agg #[.string ⟨#[]⟩, .slice none 0 0]) (by simp [results, Tryz.results92, go_sem]) rfl HQ.out
  · have d0 : decide (op < 0) = false := by simpa using h0
    by_cases h1 : 26 < op
    · have d1 : decide (26 < op) = true := by simpa using h1
      have HQ := Lib.hid (rowOf_none (w := w) (.inr h1))
      clear h0 h1
      go_enter Tryz.func92, Tryz.ntmps92
      go_wp2_with fail
      exact bodyPost_ret (v := .agg #[.string ⟨#[]⟩, .slice none 0 0]) (by simp [results, Tryz.results92, go_sem]) rfl HQ.out
    · have d1 : decide (26 < op) = false := by simpa using h1
      obtain ⟨k, rfl⟩ := Int.eq_ofNat_of_zero_le (show 0 ≤ op by omega)
      have hk : k < 27 := by omega
      have HN : Hid (nameOf (k : Int) = opName k) := nameOf_of rfl hk
      have HK : Hid (kindsOf (k : Int) = opList k) := kindsOf_of rfl hk
      clear h0 h1
      go_enter Tryz.func92, Tryz.ntmps92
      go_wp2_with fail
      refine (rows_any _).mono ?_
      rintro e w2 ⟨b, rfl, kk, hb, hrows⟩
      obtain ⟨A, c0, c1, hN⟩ := hrows k hk
      have HNu := Lib.hid hN
      have HKe := Lib.hid kk
      rw [World.size_alloc] at hb
      have hb0 : Blk w2 w.heap.size 140 #[.string ⟨#[]⟩, .slice none 0 0] := (Blk.new w _ _).keep kk (by simp)
      have r0 := hb0.cell 0
      have r1 := hb0.cell 1
      have f0 := hb0.frozen 0
      have f1 := hb0.frozen 1
      have HB := Lib.hid hb0
      clear hrows hN kk hb0
      go_wp2_with fail
      have q0 : (w2.setCell ⟨w.heap.size, 0, none⟩ (.string (opName k))).cell? ⟨w.heap.size, 0, none⟩ = some (.string (opName k)) := ((HB.out.set_ 0 (.string (opName k))).cell 0).trans rfl
      have q1 : ((w2.setCell ⟨w.heap.size, 0, none⟩ (.string (opName k))).setCell ⟨w.heap.size, 1, none⟩ (.slice A (opList k).length (opList k).length)).cell? ⟨w.heap.size, 1, none⟩ = some (.slice A (opList k).length (opList k).length) := (((HB.out.set_ 0 (.string (opName k))).set_ 1 (.slice A (opList k).length (opList k).length)).cell 1).trans rfl
      refine bodyPost_ret (v := .agg #[.string (opName k), .slice A (opList k).length (opList k).length]) (by simp [results, Tryz.results92, go_sem, q0, q1]) rfl ⟨?_, A, by rw [HN.out, HK.out], ?_⟩
      · exact ((((Keeps.refl w []).alloc _).trans HKe.out).setCell (.inr (Nat.le_refl _)) _).setCell (.inr (Nat.le_refl _)) _
      · rw [HK.out]
        have n1 := HNu.out.farRow HB.out rowNoInt 0 (.string (opName k))
        have n2 := n1.farRow (HB.out.set_ 0 (.string (opName k))) rowNoInt2 1 (.slice A (opList k).length (opList k).length)
        simpa [World.setCell] using n2
end Go.Proofs.YtpcihhdalofdiaaGreatDoor

/- Layer 6: Name, Operands (a copy of the row's), the document's Operands. -/
namespace Go.Proofs.YtpcihhdalofdiaaGreatDoor
open Go.RowKit

theorem kinds_few (op : Int) : (kindsOf op).length ≤ 4 := by
  unfold kindsOf
  split
  · rename_i h
    obtain ⟨k, rfl⟩ := Int.eq_ofNat_of_zero_le h.1
    have hk : k < 27 := by omega
    have : ∀ k, k < 27 → (opList k).length ≤ 4 := by decide
    exact this k hk
  · simp
attribute [local irreducible] nameOf kindsOf opName opList

theorem row_field0 (s : ByteArray) (A : Option Addr) (n c : Nat) (w : World) : (Instr.field 140 (.agg #[.string s, .slice A n c]) 0).run Tryz.prog w = .ok (.string s) w := by kernel_rfl
theorem row_field1 (s : ByteArray) (A : Option Addr) (n c : Nat) (w : World) : (Instr.field 140 (.agg #[.string s, .slice A n c]) 1).run Tryz.prog w = .ok (.slice A n c) w := by kernel_rfl
def Named6 (w : World) (op : Int) (e : Ending) (w' : World) : Prop := e = .returned (.string (nameOf op)) ∧ Keeps w w' []
set_option maxRecDepth 20000 in
set_option maxHeartbeats 400000 in
theorem name6_any (op : Int) (w : World) : Calls Tryz.prog 60 #[.int .i64 op] w (Named6 w op) := by
  go_enter Tryz.func60, Tryz.ntmps60
  go_wp2_with fail
  refine (rowOf_any op _).mono ?_
  rintro e w1 ⟨kk, A, rfl, hN⟩
  have q0 := row_field0 (nameOf op) A (kindsOf op).length (kindsOf op).length
  have q1 := row_field1 (nameOf op) A (kindsOf op).length (kindsOf op).length
  go_wp2_with fail
  go_ret
  exact ⟨rfl, kk⟩

/-- An instruction's operands' kinds, read somewhere. -/
def Kinds (w : World) (op : Int) (e : Ending) (w' : World) : Prop :=
  ∃ A c, e = .returned (.slice A (kindsOf op).length c) ∧ Nums .i64 w' w'.heap.size A (kindsOf op) ∧ Keeps w w' []

theorem info_int : (Tryz.prog.info? 3).map (fun i => (i.zero, i.size, i.bytes)) = some (some (.int .i64 0), 1, 8) := by kernel_rfl
set_option maxRecDepth 20000 in
set_option maxHeartbeats 400000 in
theorem cloneInts_any (A : Option Addr) (n c : Nat) (l : List Int) (w : World) (hl : l.length = n) (hn : n ≤ 65536) (hA : Nums .i64 w w.heap.size A l) :
    Calls Tryz.prog 94 #[.slice A n c] w fun e w' => ∃ A' c', e = .returned (.slice A' n c') ∧ Nums .i64 w' w'.heap.size A' l ∧ Keeps w w' [] := by
  cases A with
  | none =>
    have h0 : l = [] := by
      cases l with
      | nil => rfl
      | cons x t =>
        obtain ⟨b, off, v, e, _⟩ := hA 0 (by simp)
        cases e
    subst h0
    simp only [List.length_nil] at hl
    subst hl
    clear hA hn
    go_enter Tryz.func94, Tryz.ntmps94
    have hne := Lib.run_eql_slice_nil (P := Tryz.prog)
    go_wp2_with fail
    go_ret
    exact ⟨none, 0, rfl, Nums.nil, Keeps.refl _ _⟩
  | some A =>
  obtain ⟨i0, hi, hz0, hz1, hz2⟩ := info_parts info_int
  have HL := Lib.hid hl
  have HA := Lib.hid hA
  have hne := Lib.run_eql_slice_nil (P := Tryz.prog)
  clear hl hA
  go_enter Tryz.func94, Tryz.ntmps94
  go_wp2_with (at_builtin; refine wpList_append_row _ rfl (.tmp 5) (.tmp 6) _ rfl w.heap.size 3 i0 _ 1 8 Tryz.underlying93 hi hz0 hz1 hz2 rfl (by omega) (some ⟨w.heap.size, 0, none⟩) 0 0 [] rfl (World.ownsRow_made _ #[] 0 (Nat.le_refl _) (Nat.zero_le _) rfl) w.heap.size (some A) n c (l.map (Value.int .i64)) rfl (HA.out.alloc (Nat.le_refl _) _).toRow (by rw [List.length_map, HL.out, Nat.mul_one]) (fun hh => by cases hh) (oneCell_ints _ _) (by simp only [maxLen]; omega) (by omega) (by simp) ?_; intro A' c' w1 hown hgrow hat)
  go_ret
  refine ⟨A', c', by simp, ?_, ((Keeps.refl w []).alloc _).grown hgrow (fun k hk => .inr (by simp [Value.ownBlock] at hk; omega))⟩
  have := (Row.of_own (by simpa using hown)).toNums (l := l) (K := .i64)
  exact this
set_option maxRecDepth 20000 in
set_option maxHeartbeats 400000 in
theorem kinds_any (op : Int) (w : World) : Calls Tryz.prog 62 #[.int .i64 op] w (Kinds w op) := by
  have hf := kinds_few op
  go_enter Tryz.func62, Tryz.ntmps62
  go_wp2_with fail
  refine (rowOf_any op _).mono ?_
  rintro e w1 ⟨kk, A, rfl, hN⟩
  have q0 := row_field0 (nameOf op) A (kindsOf op).length (kindsOf op).length
  have q1 := row_field1 (nameOf op) A (kindsOf op).length (kindsOf op).length
  have HN := Lib.hid hN
  clear hN
  go_wp2_with fail
  refine (cloneInts_any A _ _ _ _ rfl (by omega) HN.out).mono ?_
  rintro e w2 ⟨A', c', rfl, hN2, k2⟩
  go_wp2_with fail
  go_ret
  exact ⟨A', c', rfl, hN2, kk.trans k2⟩
end Go.Proofs.YtpcihhdalofdiaaGreatDoor

/- Layer 6: the document's Operands. Printed by gen_opc.py. -/
namespace Go.Proofs.YtpcihhdalofdiaaGreatDoor
open Go.RowKit
theorem kinds_at (k : Nat) (hk : k < 27) {l : List Int} (h : opList k = l) : kindsOf (k : Int) = l := (kindsOf_of rfl hk).trans h

set_option maxHeartbeats 400000 in
theorem refKinds0 (w : World) : Calls Tryz.prog 40 #[.int .i64 0] w (Kinds w 0) := by
  have HK : Hid (kindsOf 0 = []) := kinds_at 0 (by omega) rfl
  go_enter Tryz.func40, Tryz.ntmps40
  go_wp2_with fail
  go_ret
  refine ⟨none, 0, by rw [HK.out]; rfl, ?_, Keeps.refl w []⟩
  rw [HK.out]
  exact Nums.nil
set_option maxHeartbeats 400000 in
theorem refKinds1 (w : World) : Calls Tryz.prog 40 #[.int .i64 1] w (Kinds w 1) := by
  have HK : Hid (kindsOf 1 = [1, 2]) := kinds_at 1 (by omega) rfl
  go_enter Tryz.func40, Tryz.ntmps40
  go_wp2_with fail
  go_ret
  refine ⟨some ⟨w.heap.size, 0, none⟩, 2, by rw [HK.out]; rfl, ?_, (Keeps.refl w []).alloc _⟩
  rw [HK.out]
  exact Nums.of_blk [1, 2] (Blk.new _ _ _) rfl
set_option maxHeartbeats 400000 in
theorem refKinds2 (w : World) : Calls Tryz.prog 40 #[.int .i64 2] w (Kinds w 2) := by
  have HK : Hid (kindsOf 2 = [1, 2]) := kinds_at 2 (by omega) rfl
  go_enter Tryz.func40, Tryz.ntmps40
  go_wp2_with fail
  go_ret
  refine ⟨some ⟨w.heap.size, 0, none⟩, 2, by rw [HK.out]; rfl, ?_, (Keeps.refl w []).alloc _⟩
  rw [HK.out]
  exact Nums.of_blk [1, 2] (Blk.new _ _ _) rfl
set_option maxHeartbeats 400000 in
theorem refKinds3 (w : World) : Calls Tryz.prog 40 #[.int .i64 3] w (Kinds w 3) := by
  have HK : Hid (kindsOf 3 = [3, 2]) := kinds_at 3 (by omega) rfl
  go_enter Tryz.func40, Tryz.ntmps40
  go_wp2_with fail
  go_ret
  refine ⟨some ⟨w.heap.size, 0, none⟩, 2, by rw [HK.out]; rfl, ?_, (Keeps.refl w []).alloc _⟩
  rw [HK.out]
  exact Nums.of_blk [3, 2] (Blk.new _ _ _) rfl
set_option maxHeartbeats 400000 in
theorem refKinds4 (w : World) : Calls Tryz.prog 40 #[.int .i64 4] w (Kinds w 4) := by
  have HK : Hid (kindsOf 4 = [4, 2]) := kinds_at 4 (by omega) rfl
  go_enter Tryz.func40, Tryz.ntmps40
  go_wp2_with fail
  go_ret
  refine ⟨some ⟨w.heap.size, 0, none⟩, 2, by rw [HK.out]; rfl, ?_, (Keeps.refl w []).alloc _⟩
  rw [HK.out]
  exact Nums.of_blk [4, 2] (Blk.new _ _ _) rfl
set_option maxHeartbeats 400000 in
theorem refKinds5 (w : World) : Calls Tryz.prog 40 #[.int .i64 5] w (Kinds w 5) := by
  have HK : Hid (kindsOf 5 = [2]) := kinds_at 5 (by omega) rfl
  go_enter Tryz.func40, Tryz.ntmps40
  go_wp2_with fail
  go_ret
  refine ⟨some ⟨w.heap.size, 0, none⟩, 1, by rw [HK.out]; rfl, ?_, (Keeps.refl w []).alloc _⟩
  rw [HK.out]
  exact Nums.of_blk [2] (Blk.new _ _ _) rfl
set_option maxHeartbeats 400000 in
theorem refKinds6 (w : World) : Calls Tryz.prog 40 #[.int .i64 6] w (Kinds w 6) := by
  have HK : Hid (kindsOf 6 = [1]) := kinds_at 6 (by omega) rfl
  go_enter Tryz.func40, Tryz.ntmps40
  go_wp2_with fail
  go_ret
  refine ⟨some ⟨w.heap.size, 0, none⟩, 1, by rw [HK.out]; rfl, ?_, (Keeps.refl w []).alloc _⟩
  rw [HK.out]
  exact Nums.of_blk [1] (Blk.new _ _ _) rfl
set_option maxHeartbeats 400000 in
theorem refKinds7 (w : World) : Calls Tryz.prog 40 #[.int .i64 7] w (Kinds w 7) := by
  have HK : Hid (kindsOf 7 = [1]) := kinds_at 7 (by omega) rfl
  go_enter Tryz.func40, Tryz.ntmps40
  go_wp2_with fail
  go_ret
  refine ⟨some ⟨w.heap.size, 0, none⟩, 1, by rw [HK.out]; rfl, ?_, (Keeps.refl w []).alloc _⟩
  rw [HK.out]
  exact Nums.of_blk [1] (Blk.new _ _ _) rfl
set_option maxHeartbeats 400000 in
theorem refKinds8 (w : World) : Calls Tryz.prog 40 #[.int .i64 8] w (Kinds w 8) := by
  have HK : Hid (kindsOf 8 = [3]) := kinds_at 8 (by omega) rfl
  go_enter Tryz.func40, Tryz.ntmps40
  go_wp2_with fail
  go_ret
  refine ⟨some ⟨w.heap.size, 0, none⟩, 1, by rw [HK.out]; rfl, ?_, (Keeps.refl w []).alloc _⟩
  rw [HK.out]
  exact Nums.of_blk [3] (Blk.new _ _ _) rfl
set_option maxHeartbeats 400000 in
theorem refKinds9 (w : World) : Calls Tryz.prog 40 #[.int .i64 9] w (Kinds w 9) := by
  have HK : Hid (kindsOf 9 = [5]) := kinds_at 9 (by omega) rfl
  go_enter Tryz.func40, Tryz.ntmps40
  go_wp2_with fail
  go_ret
  refine ⟨some ⟨w.heap.size, 0, none⟩, 1, by rw [HK.out]; rfl, ?_, (Keeps.refl w []).alloc _⟩
  rw [HK.out]
  exact Nums.of_blk [5] (Blk.new _ _ _) rfl
set_option maxHeartbeats 400000 in
theorem refKinds10 (w : World) : Calls Tryz.prog 40 #[.int .i64 10] w (Kinds w 10) := by
  have HK : Hid (kindsOf 10 = [1, 2]) := kinds_at 10 (by omega) rfl
  go_enter Tryz.func40, Tryz.ntmps40
  go_wp2_with fail
  go_ret
  refine ⟨some ⟨w.heap.size, 0, none⟩, 2, by rw [HK.out]; rfl, ?_, (Keeps.refl w []).alloc _⟩
  rw [HK.out]
  exact Nums.of_blk [1, 2] (Blk.new _ _ _) rfl
set_option maxHeartbeats 400000 in
theorem refKinds11 (w : World) : Calls Tryz.prog 40 #[.int .i64 11] w (Kinds w 11) := by
  have HK : Hid (kindsOf 11 = [1, 2]) := kinds_at 11 (by omega) rfl
  go_enter Tryz.func40, Tryz.ntmps40
  go_wp2_with fail
  go_ret
  refine ⟨some ⟨w.heap.size, 0, none⟩, 2, by rw [HK.out]; rfl, ?_, (Keeps.refl w []).alloc _⟩
  rw [HK.out]
  exact Nums.of_blk [1, 2] (Blk.new _ _ _) rfl
set_option maxHeartbeats 400000 in
theorem refKinds12 (w : World) : Calls Tryz.prog 40 #[.int .i64 12] w (Kinds w 12) := by
  have HK : Hid (kindsOf 12 = [3, 2]) := kinds_at 12 (by omega) rfl
  go_enter Tryz.func40, Tryz.ntmps40
  go_wp2_with fail
  go_ret
  refine ⟨some ⟨w.heap.size, 0, none⟩, 2, by rw [HK.out]; rfl, ?_, (Keeps.refl w []).alloc _⟩
  rw [HK.out]
  exact Nums.of_blk [3, 2] (Blk.new _ _ _) rfl
set_option maxHeartbeats 400000 in
theorem refKinds13 (w : World) : Calls Tryz.prog 40 #[.int .i64 13] w (Kinds w 13) := by
  have HK : Hid (kindsOf 13 = [4, 2]) := kinds_at 13 (by omega) rfl
  go_enter Tryz.func40, Tryz.ntmps40
  go_wp2_with fail
  go_ret
  refine ⟨some ⟨w.heap.size, 0, none⟩, 2, by rw [HK.out]; rfl, ?_, (Keeps.refl w []).alloc _⟩
  rw [HK.out]
  exact Nums.of_blk [4, 2] (Blk.new _ _ _) rfl
set_option maxHeartbeats 400000 in
theorem refKinds14 (w : World) : Calls Tryz.prog 40 #[.int .i64 14] w (Kinds w 14) := by
  have HK : Hid (kindsOf 14 = [2]) := kinds_at 14 (by omega) rfl
  go_enter Tryz.func40, Tryz.ntmps40
  go_wp2_with fail
  go_ret
  refine ⟨some ⟨w.heap.size, 0, none⟩, 1, by rw [HK.out]; rfl, ?_, (Keeps.refl w []).alloc _⟩
  rw [HK.out]
  exact Nums.of_blk [2] (Blk.new _ _ _) rfl
set_option maxHeartbeats 400000 in
theorem refKinds15 (w : World) : Calls Tryz.prog 40 #[.int .i64 15] w (Kinds w 15) := by
  have HK : Hid (kindsOf 15 = [6]) := kinds_at 15 (by omega) rfl
  go_enter Tryz.func40, Tryz.ntmps40
  go_wp2_with fail
  go_ret
  refine ⟨some ⟨w.heap.size, 0, none⟩, 1, by rw [HK.out]; rfl, ?_, (Keeps.refl w []).alloc _⟩
  rw [HK.out]
  exact Nums.of_blk [6] (Blk.new _ _ _) rfl
set_option maxHeartbeats 400000 in
theorem refKinds16 (w : World) : Calls Tryz.prog 40 #[.int .i64 16] w (Kinds w 16) := by
  have HK : Hid (kindsOf 16 = []) := kinds_at 16 (by omega) rfl
  go_enter Tryz.func40, Tryz.ntmps40
  go_wp2_with fail
  go_ret
  refine ⟨none, 0, by rw [HK.out]; rfl, ?_, Keeps.refl w []⟩
  rw [HK.out]
  exact Nums.nil
set_option maxHeartbeats 400000 in
theorem refKinds17 (w : World) : Calls Tryz.prog 40 #[.int .i64 17] w (Kinds w 17) := by
  have HK : Hid (kindsOf 17 = [7]) := kinds_at 17 (by omega) rfl
  go_enter Tryz.func40, Tryz.ntmps40
  go_wp2_with fail
  go_ret
  refine ⟨some ⟨w.heap.size, 0, none⟩, 1, by rw [HK.out]; rfl, ?_, (Keeps.refl w []).alloc _⟩
  rw [HK.out]
  exact Nums.of_blk [7] (Blk.new _ _ _) rfl
set_option maxHeartbeats 400000 in
theorem refKinds18 (w : World) : Calls Tryz.prog 40 #[.int .i64 18] w (Kinds w 18) := by
  have HK : Hid (kindsOf 18 = [7]) := kinds_at 18 (by omega) rfl
  go_enter Tryz.func40, Tryz.ntmps40
  go_wp2_with fail
  go_ret
  refine ⟨some ⟨w.heap.size, 0, none⟩, 1, by rw [HK.out]; rfl, ?_, (Keeps.refl w []).alloc _⟩
  rw [HK.out]
  exact Nums.of_blk [7] (Blk.new _ _ _) rfl
set_option maxHeartbeats 400000 in
theorem refKinds19 (w : World) : Calls Tryz.prog 40 #[.int .i64 19] w (Kinds w 19) := by
  have HK : Hid (kindsOf 19 = []) := kinds_at 19 (by omega) rfl
  go_enter Tryz.func40, Tryz.ntmps40
  go_wp2_with fail
  go_ret
  refine ⟨none, 0, by rw [HK.out]; rfl, ?_, Keeps.refl w []⟩
  rw [HK.out]
  exact Nums.nil
set_option maxHeartbeats 400000 in
theorem refKinds20 (w : World) : Calls Tryz.prog 40 #[.int .i64 20] w (Kinds w 20) := by
  have HK : Hid (kindsOf 20 = [8]) := kinds_at 20 (by omega) rfl
  go_enter Tryz.func40, Tryz.ntmps40
  go_wp2_with fail
  go_ret
  refine ⟨some ⟨w.heap.size, 0, none⟩, 1, by rw [HK.out]; rfl, ?_, (Keeps.refl w []).alloc _⟩
  rw [HK.out]
  exact Nums.of_blk [8] (Blk.new _ _ _) rfl
set_option maxHeartbeats 400000 in
theorem refKinds21 (w : World) : Calls Tryz.prog 40 #[.int .i64 21] w (Kinds w 21) := by
  have HK : Hid (kindsOf 21 = [8]) := kinds_at 21 (by omega) rfl
  go_enter Tryz.func40, Tryz.ntmps40
  go_wp2_with fail
  go_ret
  refine ⟨some ⟨w.heap.size, 0, none⟩, 1, by rw [HK.out]; rfl, ?_, (Keeps.refl w []).alloc _⟩
  rw [HK.out]
  exact Nums.of_blk [8] (Blk.new _ _ _) rfl
set_option maxHeartbeats 400000 in
theorem refKinds22 (w : World) : Calls Tryz.prog 40 #[.int .i64 22] w (Kinds w 22) := by
  have HK : Hid (kindsOf 22 = []) := kinds_at 22 (by omega) rfl
  go_enter Tryz.func40, Tryz.ntmps40
  go_wp2_with fail
  go_ret
  refine ⟨none, 0, by rw [HK.out]; rfl, ?_, Keeps.refl w []⟩
  rw [HK.out]
  exact Nums.nil
set_option maxHeartbeats 400000 in
theorem refKinds23 (w : World) : Calls Tryz.prog 40 #[.int .i64 23] w (Kinds w 23) := by
  have HK : Hid (kindsOf 23 = []) := kinds_at 23 (by omega) rfl
  go_enter Tryz.func40, Tryz.ntmps40
  go_wp2_with fail
  go_ret
  refine ⟨none, 0, by rw [HK.out]; rfl, ?_, Keeps.refl w []⟩
  rw [HK.out]
  exact Nums.nil
set_option maxHeartbeats 400000 in
theorem refKinds24 (w : World) : Calls Tryz.prog 40 #[.int .i64 24] w (Kinds w 24) := by
  have HK : Hid (kindsOf 24 = [9]) := kinds_at 24 (by omega) rfl
  go_enter Tryz.func40, Tryz.ntmps40
  go_wp2_with fail
  go_ret
  refine ⟨some ⟨w.heap.size, 0, none⟩, 1, by rw [HK.out]; rfl, ?_, (Keeps.refl w []).alloc _⟩
  rw [HK.out]
  exact Nums.of_blk [9] (Blk.new _ _ _) rfl
set_option maxHeartbeats 400000 in
theorem refKinds25 (w : World) : Calls Tryz.prog 40 #[.int .i64 25] w (Kinds w 25) := by
  have HK : Hid (kindsOf 25 = [9]) := kinds_at 25 (by omega) rfl
  go_enter Tryz.func40, Tryz.ntmps40
  go_wp2_with fail
  go_ret
  refine ⟨some ⟨w.heap.size, 0, none⟩, 1, by rw [HK.out]; rfl, ?_, (Keeps.refl w []).alloc _⟩
  rw [HK.out]
  exact Nums.of_blk [9] (Blk.new _ _ _) rfl
set_option maxHeartbeats 400000 in
theorem refKinds26 (w : World) : Calls Tryz.prog 40 #[.int .i64 26] w (Kinds w 26) := by
  have HK : Hid (kindsOf 26 = [8, 8, 8, 8]) := kinds_at 26 (by omega) rfl
  go_enter Tryz.func40, Tryz.ntmps40
  go_wp2_with fail
  go_ret
  refine ⟨some ⟨w.heap.size, 0, none⟩, 4, by rw [HK.out]; rfl, ?_, (Keeps.refl w []).alloc _⟩
  rw [HK.out]
  exact Nums.of_blk [8, 8, 8, 8] (Blk.new _ _ _) rfl
set_option maxHeartbeats 800000 in
theorem refKinds_none (op : Int) (h : op < 0 ∨ 26 < op) (w : World) : Calls Tryz.prog 40 #[.int .i64 op] w (Kinds w op) := by
  have HK : Hid (kindsOf op = []) := if_neg (by omega)
  have h1 : (op == 1) = false := by simp; omega
  have h2 : (op == 2) = false := by simp; omega
  have h3 : (op == 3) = false := by simp; omega
  have h4 : (op == 4) = false := by simp; omega
  have h5 : (op == 5) = false := by simp; omega
  have h6 : (op == 6) = false := by simp; omega
  have h7 : (op == 7) = false := by simp; omega
  have h8 : (op == 8) = false := by simp; omega
  have h9 : (op == 9) = false := by simp; omega
  have h10 : (op == 10) = false := by simp; omega
  have h11 : (op == 11) = false := by simp; omega
  have h12 : (op == 12) = false := by simp; omega
  have h13 : (op == 13) = false := by simp; omega
  have h14 : (op == 14) = false := by simp; omega
  have h15 : (op == 15) = false := by simp; omega
  have h17 : (op == 17) = false := by simp; omega
  have h18 : (op == 18) = false := by simp; omega
  have h20 : (op == 20) = false := by simp; omega
  have h21 : (op == 21) = false := by simp; omega
  have h24 : (op == 24) = false := by simp; omega
  have h25 : (op == 25) = false := by simp; omega
  have h26 : (op == 26) = false := by simp; omega
  clear h
  go_enter Tryz.func40, Tryz.ntmps40
  go_wp2_with fail
  go_ret
  refine ⟨none, 0, by rw [HK.out]; rfl, ?_, Keeps.refl w []⟩
  rw [HK.out]
  exact Nums.nil
theorem refKinds_any (op : Int) (w : World) : Calls Tryz.prog 40 #[.int .i64 op] w (Kinds w op) := by
  by_cases h : op < 0 ∨ 26 < op
  · exact refKinds_none op h w
  · obtain ⟨k, rfl⟩ := Int.eq_ofNat_of_zero_le (show 0 ≤ op by omega)
    match k, (show k < 27 by omega) with
    | 0, _ => exact refKinds0 w
    | 1, _ => exact refKinds1 w
    | 2, _ => exact refKinds2 w
    | 3, _ => exact refKinds3 w
    | 4, _ => exact refKinds4 w
    | 5, _ => exact refKinds5 w
    | 6, _ => exact refKinds6 w
    | 7, _ => exact refKinds7 w
    | 8, _ => exact refKinds8 w
    | 9, _ => exact refKinds9 w
    | 10, _ => exact refKinds10 w
    | 11, _ => exact refKinds11 w
    | 12, _ => exact refKinds12 w
    | 13, _ => exact refKinds13 w
    | 14, _ => exact refKinds14 w
    | 15, _ => exact refKinds15 w
    | 16, _ => exact refKinds16 w
    | 17, _ => exact refKinds17 w
    | 18, _ => exact refKinds18 w
    | 19, _ => exact refKinds19 w
    | 20, _ => exact refKinds20 w
    | 21, _ => exact refKinds21 w
    | 22, _ => exact refKinds22 w
    | 23, _ => exact refKinds23 w
    | 24, _ => exact refKinds24 w
    | 25, _ => exact refKinds25 w
    | 26, _ => exact refKinds26 w
    | k + 27, h => exact absurd h (by omega)
end Go.Proofs.YtpcihhdalofdiaaGreatDoor

/- Layer 6: may an operand be? The program's and the document's. -/
namespace Go.Proofs.YtpcihhdalofdiaaGreatDoor
open Go.RowKit

def mosts : List Int := [0, 31, 15, 255, 255, 8, 16, 63, 1023, 15]
def mostOf (k : Nat) : Int := mosts.getD k 0
def leastOf6 (k : Nat) : Int := if k = 5 then 1 else 0
def mayOk (op : Int) (k : Nat) (n : Int) : Bool := (decide (leastOf6 k ≤ n) && decide (n ≤ mostOf k)) || ((op == 26) && (n == 65535))

theorem mostOf_lit (k : Nat) (hk : k < 10) (w : World) (t : TypeId) : (w.alloc (.cells #[.int .i64 0, .int .i64 31, .int .i64 15, .int .i64 255, .int .i64 255, .int .i64 8, .int .i64 16, .int .i64 63, .int .i64 1023, .int .i64 15] t)).cell? ⟨w.heap.size, k, none⟩ = some (.int .i64 (mostOf k)) := by
  refine ((Blk.new w _ _).cell k).trans ?_
  match k, hk with
  | 0, _ => rfl
  | 1, _ => rfl
  | 2, _ => rfl
  | 3, _ => rfl
  | 4, _ => rfl
  | 5, _ => rfl
  | 6, _ => rfl
  | 7, _ => rfl
  | 8, _ => rfl
  | 9, _ => rfl
  | k + 10, h => exact absurd h (by omega)
theorem natInt (k m : Nat) : (k == m) = ((k : Int) == (m : Int)) := by
  by_cases h : k = m
  · subst h; simp
  · have h2 : ¬ (k : Int) = m := by omega
    rw [beq_eq_false_iff_ne.2 h, beq_eq_false_iff_ne.2 h2]
theorem and3 (a b c : Bool) : a = false ∨ (a = true ∧ b = false) ∨ (a = true ∧ b = true ∧ c = false) ∨ (a = true ∧ b = true ∧ c = true) := by cases a <;> cases b <;> cases c <;> simp
theorem and4 (a b c d : Bool) : a = false ∨ (a = true ∧ b = false) ∨ (a = true ∧ b = true ∧ c = false) ∨ (a = true ∧ b = true ∧ c = true ∧ d = false) ∨ (a = true ∧ b = true ∧ c = true ∧ d = true) := by cases a <;> cases b <;> cases c <;> cases d <;> simp
def MayTold (w : World) (b : Bool) (e : Ending) (w' : World) : Prop := e = .returned (.bool b) ∧ Keeps w w' []

set_option maxHeartbeats 1600000 in
theorem may_any (op : Int) (k : Nat) (n : Int) (hk : k < 10) (w : World) : Calls Tryz.prog 93 #[.int .i64 op, .int .i64 k, .int .i64 n] w (MayTold w (mayOk op k n)) := by
  have hc := mostOf_lit k hk w 174
  have hM : ∃ M, mostOf k = M := ⟨_, rfl⟩
  obtain ⟨M, hM⟩ := hM
  rw [hM] at hc
  obtain ⟨L, hL⟩ : ∃ L, leastOf6 k = L := ⟨_, rfl⟩
  have HS : Hid (mayOk op k n = ((decide (L ≤ n) && decide (n ≤ M)) || ((op == 26) && (n == 65535)))) := by show _ = _; rw [mayOk, hM, hL]
  have hL2 : ((k : Int) == 5) = true ∧ L = 1 ∨ ((k : Int) == 5) = false ∧ L = 0 := by
    by_cases h5 : k = 5
    · exact .inl ⟨by simp; omega, by rw [← hL, leastOf6, if_pos h5]⟩
    · exact .inr ⟨by simp; omega, by rw [← hL, leastOf6, if_neg h5]⟩
  clear hM hL
  rcases hL2 with ⟨h5, rfl⟩ | ⟨h5, rfl⟩
  · cases b3 : (op == 26) <;> cases b4 : (n == 65535) <;> cases b1 : decide ((1 : Int) ≤ n) <;> cases b2 : decide (n ≤ M) <;>
    (rw [b1, b2, b3, b4] at HS
     go_enter Tryz.func93, Tryz.ntmps93
     go_wp2_with fail
     go_ret
     exact ⟨by rw [HS.out]; rfl, ((Keeps.refl w []).alloc _)⟩)
  · cases b3 : (op == 26) <;> cases b4 : (n == 65535) <;> cases b1 : decide ((0 : Int) ≤ n) <;> cases b2 : decide (n ≤ M) <;>
    (rw [b1, b2, b3, b4] at HS
     go_enter Tryz.func93, Tryz.ntmps93
     go_wp2_with fail
     go_ret
     exact ⟨by rw [HS.out]; rfl, ((Keeps.refl w []).alloc _)⟩)

/-- The document says it so. -/
def mayRef (op : Int) (k : Nat) (n : Int) : Bool := ((k == 8) && (op == 26) && (n == 65535)) || (decide (0 ≤ n) && decide (n ≤ mostOf k) && !((k == 5) && (n == 0)))
set_option maxHeartbeats 1600000 in
theorem refMay_any (op : Int) (k : Nat) (n : Int) (hk : k < 10) (w : World) : Calls Tryz.prog 100 #[.int .i64 op, .int .i64 k, .int .i64 n] w (MayTold w (mayRef op k n)) := by
  have hc := mostOf_lit k hk w 3
  have hM : ∃ M, mostOf k = M := ⟨_, rfl⟩
  obtain ⟨M, hM⟩ := hM
  rw [hM] at hc
  have e1 : (k == 8) = ((k : Int) == 8) := natInt k 8
  have e2 : (k == 5) = ((k : Int) == 5) := natInt k 5
  have HS : Hid (mayRef op k n = ((((k : Int) == 8) && (op == 26) && (n == 65535)) || (decide (0 ≤ n) && decide (n ≤ M) && !(((k : Int) == 5) && (n == 0))))) := by show _ = _; rw [mayRef, hM, e1, e2]
  have d1 : decide ((k : Int) < 10) = true := by simp; omega
  clear hM e1 e2
  have HW : Hid (∀ b, ((((k : Int) == 8) && (op == 26) && (n == 65535)) || (decide (0 ≤ n) && decide (n ≤ M) && !(((k : Int) == 5) && (n == 0)))) = b → mayRef op k n = b) := fun b h => HS.out.trans h
  clear HS
  rcases and3 ((k : Int) == 8) (op == 26) (n == 65535) with b8 | ⟨b8, b3⟩ | ⟨b8, b3, b4⟩ | ⟨b8, b3, b4⟩
  iterate 3
    rcases and4 (decide ((0 : Int) ≤ n)) (decide (n ≤ M)) ((k : Int) == 5) (n == 0) with b1 | ⟨b1, b2⟩ | ⟨b1, b2, b5⟩ | ⟨b1, b2, b5, b6⟩ | ⟨b1, b2, b5, b6⟩
    iterate 5
      have HB : Hid (mayRef op k n = _) := HW.out _ (by simp only [*]; rfl)
      go_enter Tryz.func100, Tryz.ntmps100
      go_wp2_with fail
      go_ret
      exact ⟨by rw [HB.out]; rfl, (Keeps.refl w []).alloc _⟩
  have HB : Hid (mayRef op k n = true) := HW.out _ (by simp only [*]; rfl)
  go_enter Tryz.func100, Tryz.ntmps100
  go_wp2_with fail
  go_ret
  exact ⟨by rw [HB.out]; rfl, Keeps.refl w []⟩
end Go.Proofs.YtpcihhdalofdiaaGreatDoor

/- Data as rows of cells: a slice whose cells are those of a list's elements, one behind the other. No function in sight. -/
namespace Go.Proofs.YtpcihhdalofdiaaGreatDoor
open Go.RowKit

/-- The cells that a slice value shows, wherever they lie. -/
def Rd (w : World) (A : Option Addr) (vs : List Value) : Prop := Row w w.heap.size A vs
theorem Rd.nil {w : World} {A : Option Addr} : Rd w A [] := Row.nil
theorem Rd.keep {w w' : World} {A : Option Addr} {vs : List Value} (h : Rd w A vs) (k : Keeps w w' []) : Rd w' A vs := by
  intro i hi
  obtain ⟨b, off, v, e, hb, hc, hv⟩ := h i hi
  exact ⟨b, off, v, e, Nat.lt_of_lt_of_le hb k.size, (k.cell (p := ⟨b, off + i, none⟩) hb (by simp)).trans hc, hv⟩
theorem Rd.drew {w : World} {A : Option Addr} {vs : List Value} (h : Rd w A vs) : Rd w.drew A vs := h
theorem Rd.alloc {w : World} {A : Option Addr} {vs : List Value} (h : Rd w A vs) (o : Obj) : Rd (w.alloc o) A vs := h.keep ((Keeps.refl w []).alloc o)
theorem Rd.of_own {w : World} {base : Nat} {e : TypeId} {size n c : Nat} {A : Option Addr} {xs : List Value} (h : w.ownsRow base e size (.slice A n c) n xs) : Rd w A xs := Row.of_own h
theorem Rd.of_blk {w : World} {g : Nat} {t : TypeId} {cs : Array Value} (h : Blk w g t cs) : Rd w (some ⟨g, 0, none⟩) cs.toList := by
  intro k hk
  have hcell := h.cell k
  have hk' : k < cs.size := by simpa using hk
  refine ⟨g, 0, cs[k], rfl, h.lt, ?_, ?_⟩
  · rw [Nat.zero_add, hcell]; exact Array.getElem?_eq_getElem hk'
  · rw [Array.getElem?_toList]; exact Array.getElem?_eq_getElem hk'

theorem Blk.newAt {w : World} {n : Nat} (t : TypeId) (cs : Array Value) (h : n = w.heap.size) : Blk (w.alloc (.cells cs t)) n t cs := by
  subst h
  exact Blk.new w t cs
theorem getElem?_flat {α : Type} {enc : α → List Value} {sz : Nat} (hsz : ∀ x, (enc x).length = sz) : ∀ (l : List α) (k : Nat) (hk : k < l.length) (j : Nat), j < sz → (l.flatMap enc)[k * sz + j]? = (enc l[k])[j]?
  | [], k, hk, j, _ => absurd hk (by simp)
  | x :: l, 0, _, j, hj => by
    rw [List.flatMap_cons, Nat.zero_mul, Nat.zero_add, List.getElem?_append_left (by rw [hsz]; exact hj)]
    rfl
  | x :: l, k + 1, hk, j, hj => by
    have hlt : k < l.length := by simpa using hk
    rw [List.flatMap_cons, List.getElem?_append_right (by rw [hsz, Nat.succ_mul]; omega), hsz, show (k + 1) * sz + j - sz = k * sz + j from by rw [Nat.succ_mul]; omega, getElem?_flat hsz l k hlt j hj]
    rfl
theorem length_flat {α : Type} {enc : α → List Value} {sz : Nat} (hsz : ∀ x, (enc x).length = sz) : ∀ l : List α, (l.flatMap enc).length = l.length * sz
  | [] => by simp
  | x :: l => by rw [List.flatMap_cons, List.length_append, hsz, length_flat hsz l, List.length_cons, Nat.succ_mul]; omega
theorem flat_snoc {α : Type} {enc : α → List Value} {l : List α} {k : Nat} {x : α} (h : l[k]? = some x) : (l.take (k + 1)).flatMap enc = (l.take k).flatMap enc ++ enc x := by
  rw [List.take_add_one, h, List.flatMap_append]
  simp
/-- The cells of the element in a place. -/
theorem Rd.field {α : Type} {enc : α → List Value} {sz : Nat} (hsz : ∀ x, (enc x).length = sz) {w : World} {A : Option Addr} {l : List α} (h : Rd w A (l.flatMap enc)) {k : Nat} {x : α} (hx : l[k]? = some x) (h0 : 0 < sz) :
    ∃ b off, A = some ⟨b, off, none⟩ ∧ b < w.heap.size ∧ ∀ j v, (enc x)[j]? = some v → w.cell? ⟨b, off + k * sz + j, none⟩ = some v := by
  have hk : k < l.length := (List.getElem?_eq_some_iff.1 hx).1
  have hxe : l[k] = x := (List.getElem?_eq_some_iff.1 hx).2
  have hle : k * sz + sz ≤ l.length * sz := by have := Nat.mul_le_mul_right sz (show k + 1 ≤ l.length from hk); rw [Nat.succ_mul] at this; exact this
  obtain ⟨b, off, v, e, hb, _, _⟩ := h (k * sz) (by rw [length_flat hsz]; omega)
  refine ⟨b, off, e, hb, fun j v hj => ?_⟩
  have hjs : j < sz := by rw [← hsz x]; exact (List.getElem?_eq_some_iff.1 hj).1
  obtain ⟨b', off', v', e', _, hc, hv⟩ := h (k * sz + j) (by rw [length_flat hsz]; omega)
  rw [e] at e'
  injection e' with e'
  injection e' with e1 e2
  subst e1 e2
  rw [getElem?_flat hsz l k hk j hjs, hxe, hj] at hv
  injection hv with hv
  subst hv
  rw [Nat.add_assoc]
  exact hc
theorem at_of {α : Type} {l : List α} {k n : Nat} (hl : l.length = n) (hk : k < n) : ∃ x, l[k]? = some x := ⟨l[k]'(by omega), List.getElem?_eq_getElem (by omega)⟩
theorem Keeps.nil_of {w w' : World} (h : Below w.heap.size w w') : Keeps w w' [] := Keeps.of_below h []
theorem Keeps.toBelow {w w' : World} (k : Keeps w w' []) : Below w.heap.size w w' := ⟨k.os, k.tape, k.output, k.size, fun i hi => k.block i hi (by simp)⟩
theorem Keeps.cell0 {w w' : World} (k : Keeps w w' []) {b off : Nat} (hb : b < w.heap.size) : w'.cell? ⟨b, off, none⟩ = w.cell? ⟨b, off, none⟩ := k.cell (p := ⟨b, off, none⟩) hb (by simp)
theorem Keeps.to_ {w w' : World} (k : Keeps w w' []) (S : List Nat) : Keeps w w' S := k.more (by simp)
theorem own_keep0 {w w' : World} {base : Nat} {e : TypeId} {size n c : Nat} {A : Option Addr} {xs : List Value} (ho : w.ownsRow base e size (.slice A n c) n xs) (k : Keeps w w' []) : w'.ownsRow base e size (.slice A n c) n xs := by
  refine ⟨ho.1, ?_⟩
  rcases ho.2 with h | ⟨g, cap, cur, he, hb, hg, r⟩
  · exact .inl h
  · exact .inr ⟨g, cap, cur, he, hb, (k.block g (Array.getElem?_eq_some_iff.1 hg).1 (by simp)).trans hg, r⟩
end Go.Proofs.YtpcihhdalofdiaaGreatDoor

/- Objects as plain data, and how they lie in memory. -/
namespace Go.Proofs.YtpcihhdalofdiaaGreatDoor
open Go.RowKit

structure LFun where
  name : ByteArray
  arity : Int
deriving DecidableEq
structure LPred where
  name : ByteArray
  arity : Int
  entry : Int
deriving DecidableEq
structure LIns where
  op : Int
  a0 : Int
  a1 : Int
  a2 : Int
  a3 : Int
deriving DecidableEq
structure LObj where
  atoms : List ByteArray
  funs : List LFun
  preds : List LPred
  code : List LIns
deriving DecidableEq

def strE (s : ByteArray) : List Value := [.string s]
def funE (f : LFun) : List Value := [.string f.name, .int .i64 f.arity]
def predE (p : LPred) : List Value := [.string p.name, .int .i64 p.arity, .int .i64 p.entry]
def insE (i : LIns) : List Value := [.int .i64 i.op, .int .i64 i.a0, .int .i64 i.a1, .int .i64 i.a2, .int .i64 i.a3]
theorem strE_len (s : ByteArray) : (strE s).length = 1 := rfl
theorem funE_len (f : LFun) : (funE f).length = 2 := rfl
theorem predE_len (p : LPred) : (predE p).length = 3 := rfl
theorem insE_len (i : LIns) : (insE i).length = 5 := rfl
/-- An instruction as a value. -/
def insV (i : LIns) : Value := .agg #[.int .i64 i.op, .int .i64 i.a0, .int .i64 i.a1, .int .i64 i.a2, .int .i64 i.a3]

theorem strE_one (l : List ByteArray) : ∀ u ∈ l.flatMap strE, u.oneCell' = true := by
  intro u hu
  obtain ⟨s, _, h⟩ := List.mem_flatMap.1 hu
  simp only [strE, List.mem_singleton] at h
  subst h
  rfl

/-- The four slices of an object show its tables. -/
structure ObIs (w : World) (o : LObj) (Aa Af Ap Ac : Option Addr) (ca cf cp cc : Nat) : Prop where
  atoms : Rd w Aa (o.atoms.flatMap strE)
  funs : Rd w Af (o.funs.flatMap funE)
  preds : Rd w Ap (o.preds.flatMap predE)
  code : Rd w Ac (o.code.flatMap insE)
  za : Aa = none → ca = 0
  zf : Af = none → cf = 0
  zp : Ap = none → cp = 0
  zc : Ac = none → cc = 0
theorem ObIs.keep {w w' : World} {o : LObj} {Aa Af Ap Ac : Option Addr} {ca cf cp cc : Nat} (h : ObIs w o Aa Af Ap Ac ca cf cp cc) (k : Keeps w w' []) : ObIs w' o Aa Af Ap Ac ca cf cp cc :=
  ⟨h.atoms.keep k, h.funs.keep k, h.preds.keep k, h.code.keep k, h.za, h.zf, h.zp, h.zc⟩
/-- No more than can be looked at. -/
structure Fits (o : LObj) : Prop where
  atoms : o.atoms.length ≤ 65536
  funs : o.funs.length ≤ 65536
  preds : o.preds.length ≤ 65536
  code : o.code.length ≤ 65536
end Go.Proofs.YtpcihhdalofdiaaGreatDoor

/- A region that draws its order, walked in one order: what reads is taken first under a condition S on the world; what writes comes up alone; behind the last operation S isn't asked. Over any program. -/
namespace Go.Proofs.YtpcihhdalofdiaaGreatDoor
open Go

section
variable {P : Program} {ops : Array Oper} {Q : Exit → Act → World → Prop} {md : Region.Mode} {S : World → Prop}

/-- Whatever order is picked: S holds behind every operation but number n. -/
def wpAnyE (P : Program) (md : Region.Mode) (ops : Array Oper) (Q : Exit → Act → World → Prop) (S : World → Prop) (n : Nat) : Nat → Array Bool → Act → World → Prop
  | 0, listed, a, w => Region.ready md ops listed = [] ∧ Q .normal a w
  | fuel + 1, listed, a, w =>
    (Region.ready md ops listed = [] → Q .normal a w) ∧
    ∀ i ∈ Region.ready md ops listed, wpOp P ops Q i (fun a' w' => (i ≠ n → S w') ∧ wpAnyE P md ops Q S n fuel (listed.setIfInBounds i true) a' w') a w

theorem wpAny_of_E {n : Nat} : ∀ (fuel : Nat) (listed : Array Bool) (a : Act) (w : World), wpAnyE P md ops Q S n fuel listed a w → wpAny P md ops Q fuel listed a w
  | 0, _, _, _, h => h
  | fuel + 1, _, _, _, h => ⟨h.1, fun i hi => wpOp_mono (fun a' w' h' => wpAny_of_E fuel _ a' w' h'.2) (h.2 i hi)⟩

theorem wpAnyE_first {n i : Nat} {oi : Oper} {v : Value} (hi : ops[i]? = some oi) (hsel : ∀ (j : Nat) (o : Oper) cs b, ops[j]? = some o → o.op ≠ .select cs b)
    (hQ : ∀ c a w, Q (.panic c) (a.put oi.dst v) w → Q (.panic c) a w) (hs : Region.sinkB md ops n = true) (hc : Region.chainB md ops n = true) (hn : n < ops.size) (hin : i < n) :
    ∀ (fuel : Nat) (listed : Array Bool) (a : Act) (w : World), HeadInv md ops n listed →
      (∀ j oj, ops[j]? = some oj → j ≠ i → listed.getD j true = false → (∀ e ∈ oj.after, Region.binds md e = true → e.on ≠ i) → oi.apart ops oj = true) →
      i ∈ Region.ready md ops listed → YieldsIf P ops S oi v a → S w →
      wpAnyE P md ops Q S n fuel (listed.setIfInBounds i true) (a.put oi.dst v) w → wpAnyE P md ops Q S n (fuel + 1) listed a w := by
  intro fuel
  induction fuel with
  | zero =>
    intro listed a w _ _ hr hy hS H
    refine ⟨fun h => (by rw [h] at hr; cases hr), fun j hj => ?_⟩
    by_cases hji : j = i
    · subst hji; exact hy.wpOp hi hS ⟨fun _ => hS, H⟩
    · have := ready_mono hj hji
      rw [H.1] at this
      cases this
  | succ fuel ih =>
    intro listed a w inv hfree hr hy hS H
    have hun := (mem_ready.1 hr).1
    refine ⟨fun h => (by rw [h] at hr; cases hr), fun j hj => ?_⟩
    by_cases hji : j = i
    · subst hji; exact hy.wpOp hi hS ⟨fun _ => hS, H⟩
    · have hjn : j < n := by
        rcases Nat.lt_or_ge j n with h | h
        · exact h
        · exact absurd hj (tail_waits hs hc hn inv _ i rfl hin hun j h)
      have h1 := H.2 j (ready_mono hj hji)
      obtain ⟨hjun, oj, hoj, hall⟩ := mem_ready.1 hj
      have hnot : ∀ e ∈ oj.after, Region.binds md e = true → e.on ≠ i := fun e he hb heq => by
        have h1 := hall e he hb
        rw [heq, getD_both hun] at h1
        cases h1
      have h2 := wpOp_putIf hoj (hfree j oj hoj hji hjun hnot) (fun cs b => hsel i oi cs b hi) (fun cs b => hsel j oj cs b hoj) hQ hy h1
      have hfree' : ∀ k ok, ops[k]? = some ok → k ≠ i → (listed.setIfInBounds j true).getD k true = false →
          (∀ e ∈ ok.after, Region.binds md e = true → e.on ≠ i) → oi.apart ops ok = true := fun k ok hk hki hun hno => by
        refine hfree k ok hk hki ?_ hno
        by_cases hjk : j = k
        · subst hjk; exact hjun
        · rw [getD_set_ne true hjk] at hun; exact hun
      refine wpOp_mono (fun a' w' h3 => ⟨h3.2.1, ih (listed.setIfInBounds j true) a' w' (inv.set hj hjn) hfree' (ready_mono hr (Ne.symm hji)) h3.1 (h3.2.1 (by omega)) ?_⟩) h2
      rw [Array.setIfInBounds_comm _ _ hji]
      exact h3.2.2

/-- The k-th of a list of operations. -/
def nthO : List Oper → Nat → Option Oper
  | [], _ => none
  | o :: _, 0 => some o
  | _ :: l, k + 1 => nthO l k
theorem nthO_eq : ∀ (l : List Oper) (k : Nat), l.toArray[k]? = nthO l k
  | [], k => by simp [nthO]
  | o :: l, 0 => by simp [nthO]
  | o :: l, k + 1 => by have := nthO_eq l k; simp only [List.getElem?_toArray, List.getElem?_cons_succ, nthO] at this ⊢; exact this

/-- The walk in the order of a schedule: (k, true): number k is taken first; (k, false): it comes up alone. -/
def wpTx (P : Program) (l : List Oper) (Q : Exit → Act → World → Prop) (S : World → Prop) : List (Nat × Bool) → Act → World → Prop
  | [], a, w => Q .normal a w
  | (k, true) :: r, a, w => ∃ o v, nthO l k = some o ∧ YieldsIf P l.toArray S o v a ∧ S w ∧ wpTx P l Q S r (a.put o.dst v) w
  | (k, false) :: r, a, w => wpOp P l.toArray Q k (fun a' w' => (r ≠ [] → S w') ∧ wpTx P l Q S r a' w') a w

def txB (md : Region.Mode) (ops : Array Oper) (n : Nat) : List (Nat × Bool) → Array Bool → Bool
  | [], listed => (Region.ready md ops listed).isEmpty
  | (k, true) :: r, listed => decide (k < n) && (Region.ready md ops listed).contains k && Region.free md ops listed k && txB md ops n r (listed.setIfInBounds k true)
  | (k, false) :: r, listed => decide (Region.ready md ops listed = [k]) && (if k < n then !r.isEmpty else (k == n && r.isEmpty)) && txB md ops n r (listed.setIfInBounds k true)
def txAllB (md : Region.Mode) (l : List Oper) (sched : List (Nat × Bool)) : Bool :=
  Region.noSelect l.toArray && decide (0 < l.length) && Region.sinkB md l.toArray (l.length - 1) && Region.chainB md l.toArray (l.length - 1) && decide (sched.length = l.length) && txB md l.toArray (l.length - 1) sched (Array.replicate l.length false)

theorem wpAnyE_of_tx {l : List Oper} {n : Nat} (hsel : Region.noSelect l.toArray = true) (hQ : ∀ c a d v w, Q (.panic c) (Act.put a d v) w → Q (.panic c) a w) (hs : Region.sinkB md l.toArray n = true) (hc : Region.chainB md l.toArray n = true) (hn : l.toArray.size = n + 1) :
    ∀ (r : List (Nat × Bool)) (listed : Array Bool) (a : Act) (w : World), HeadInv md l.toArray n listed ∨ r = [] → txB md l.toArray n r listed = true → wpTx P l Q S r a w → wpAnyE P md l.toArray Q S n r.length listed a w
  | [], listed, a, w, _, hB, h => ⟨by simpa [txB] using hB, h⟩
  | (k, true) :: r, listed, a, w, hinv, hB, h => by
    have inv : HeadInv md l.toArray n listed := by rcases hinv with h | h; exact h; cases h
    simp only [txB, Bool.and_eq_true, decide_eq_true_eq] at hB
    obtain ⟨⟨⟨hk, hr⟩, hf⟩, hB'⟩ := hB
    obtain ⟨o, v, ho, hy, hS, h'⟩ := h
    have h0 : l.toArray[k]? = some o := (nthO_eq l k).trans ho
    have hr' : k ∈ Region.ready md l.toArray listed := by simpa using hr
    exact wpAnyE_first h0 (Region.noSelect_spec hsel) (fun c a w => hQ c a _ _ w) hs hc (by omega) hk r.length listed a w inv (Region.free_spec h0 hf) hr' hy hS
      (wpAnyE_of_tx hsel hQ hs hc hn r _ _ _ (.inl (inv.set hr' hk)) hB' h')
  | (k, false) :: r, listed, a, w, hinv, hB, h => by
    have inv : HeadInv md l.toArray n listed := by rcases hinv with h | h; exact h; cases h
    simp only [txB, Bool.and_eq_true, decide_eq_true_eq] at hB
    obtain ⟨⟨hr, hlast⟩, hB'⟩ := hB
    refine ⟨fun h1 => (by rw [hr] at h1; cases h1), fun i hi => ?_⟩
    have hik : i = k := by rw [hr] at hi; simpa using hi
    subst hik
    have h1 : i ≠ n → r ≠ [] := fun hne hr0 => by
      subst hr0
      split at hlast
      · simp at hlast
      · simp at hlast; exact hne hlast
    have h2 : HeadInv md l.toArray n (listed.setIfInBounds i true) ∨ r = [] := by
      split at hlast
      · rename_i hkn; exact .inl (inv.set hi hkn)
      · simp at hlast; exact .inr hlast.2
    exact wpOp_mono (fun a' w' h' => ⟨fun hne => h'.1 (h1 hne), wpAnyE_of_tx hsel hQ hs hc hn r _ a' w' h2 hB' h'.2⟩) h

theorem wp_region_tx {id : Nat} {l : List Oper} {a : Act} {w : World} (S : World → Prop) (sched : List (Nat × Bool)) (hm : P.follows .mixedOrders = true) (hB : txAllB .any l sched = true)
    (hS : S w.drew) (h : S w.drew → wpTx P l (NoPanic Q) S sched a w.drew) : (Code.region id l.toArray true).wp P Q a w := by
  refine wp_region_noPanic ?_
  have hQ : ∀ c a d v w, NoPanic Q (.panic c) (Act.put a d v) w → NoPanic Q (.panic c) a w := fun _ _ _ _ _ h => h
  simp only [txAllB, Bool.and_eq_true, decide_eq_true_eq] at hB
  obtain ⟨⟨⟨⟨⟨hsel, hl⟩, hs⟩, hc⟩, hlen⟩, hB⟩ := hB
  have hn : l.toArray.size = (l.length - 1) + 1 := by simp; omega
  have inv0 : HeadInv .any l.toArray (l.length - 1) (Array.replicate l.length false) :=
    ⟨by simp, fun j oj _ hl => (by rw [getD_replicate_false] at hl; cases hl), fun t _ ht => getD_in (by simpa using ht) (getD_replicate_false _ _)⟩
  have H := wpAnyE_of_tx hsel hQ hs hc hn sched _ a w.drew (.inl inv0) hB (h hS)
  rw [hlen] at H
  refine wp_region_any hm (wpAny_of_E (S := S) (n := l.length - 1) _ _ _ _ ?_)
  rw [show l.toArray.size = l.length by simp]
  exact H

theorem wpTx_take {l : List Oper} {k : Nat} {r : List (Nat × Bool)} {o : Oper} {v : Value} {a : Act} {w : World} (ho : nthO l k = some o) (hS : S w)
    (hy : ∀ w, S w → (execOp a.eval o).run P w = .ok (.value v) w) (hw : Region.wanted o (yielded l.toArray a.tmps) = true) (h : wpTx P l Q S r (a.put o.dst v) w) : wpTx P l Q S ((k, true) :: r) a w :=
  ⟨o, v, ho, .inl ⟨hw, hy⟩, hS, h⟩
theorem wpTx_skip {l : List Oper} {k : Nat} {r : List (Nat × Bool)} {o : Oper} {a : Act} {w : World} (ho : nthO l k = some o) (hS : S w)
    (hw : Region.wanted o (yielded l.toArray a.tmps) = false) (h : wpTx P l Q S r (a.put o.dst undef) w) : wpTx P l Q S ((k, true) :: r) a w :=
  ⟨o, undef, ho, .inr ⟨hw, rfl⟩, hS, h⟩
theorem wpTx_go {l : List Oper} {k : Nat} {x : Nat × Bool} {r : List (Nat × Bool)} {o : Oper} {a : Act} {w : World} (ho : nthO l k = some o)
    (h : ∀ K : Act → World → Prop, Shut (∀ a w, S w → (S w → wpTx P l Q S (x :: r) a w) → K a w) → if Region.wanted o (yielded l.toArray a.tmps) = true then Oper.wp P o a w K Q else K (a.put o.dst undef) w) : wpTx P l Q S ((k, false) :: x :: r) a w :=
  wpOp_step ((nthO_eq l k).trans ho) (fun K hK => h K (fun a w hS hW => hK a w ⟨fun _ => hS, hW hS⟩))
theorem wpTx_last {l : List Oper} {k : Nat} {o : Oper} {a : Act} {w : World} (ho : nthO l k = some o)
    (h : ∀ K : Act → World → Prop, Shut (∀ a w, Q .normal a w → K a w) → if Region.wanted o (yielded l.toArray a.tmps) = true then Oper.wp P o a w K Q else K (a.put o.dst undef) w) : wpTx P l Q S [(k, false)] a w :=
  wpOp_step ((nthO_eq l k).trans ho) (fun K hK => h K (fun a w hq => hK a w ⟨fun h => absurd rfl h, hq⟩))
end
end Go.Proofs.YtpcihhdalofdiaaGreatDoor

/- Strings as bytes; []byte(s); the first place of what is so. Over any program. -/
namespace Go.Proofs.YtpcihhdalofdiaaGreatDoor
open Go.RowKit

def bytesOf (s : ByteArray) : List Int := s.data.toList.map fun c => (c.toNat : Int)
theorem bytesOf_len (s : ByteArray) : (bytesOf s).length = s.size := by simp [bytesOf]
theorem bytesOf_at (s : ByteArray) (k : Nat) (hk : k < s.size) : (bytesOf s)[k]? = some (s[k].toNat : Int) := by
  rw [bytesOf, List.getElem?_map, List.getElem?_eq_getElem (by simpa using hk)]
  rfl
theorem strEmpty (s : ByteArray) (h : s.size = 0) : s.toList.isEmpty = true := by
  rw [ByteArray.toList_eq, List.isEmpty_iff]
  exact List.eq_nil_of_length_eq_zero (show s.data.toList.length = 0 from h)
theorem strFull (s : ByteArray) (h : s.size ≠ 0) : s.toList.isEmpty = false := by
  cases hs : s.toList.isEmpty with
  | false => rfl
  | true =>
    rw [ByteArray.toList_eq, List.isEmpty_iff] at hs
    exact absurd (show s.size = 0 from congrArg List.length hs) h
/-- '[]byte(s)': a new row that holds the string's bytes. -/
theorem conv_bytes {P : Program} (w : World) (src dst e : TypeId) (s : ByteArray) (hs : P.underlying src = some .string) (hd : P.underlying dst = some (.slice e)) (he : P.underlying e = some (.int .u8)) :
    ∃ c w1, (convert src dst (.string s)).run P w = .ok (.slice (some ⟨w.heap.size, 0, none⟩) s.size c) w1 ∧ Nums .u8 w1 w1.heap.size (some ⟨w.heap.size, 0, none⟩) (bytesOf s) ∧ Keeps w w1 [] := by
  refine ⟨_, _, Lib.run_convert_string_bytes w src dst e s hs hd he, ?_, ?_⟩
  · intro k hk
    rw [bytesOf_len] at hk
    refine ⟨w.heap.size, 0, (s[k].toNat : Int), rfl, by rw [Lib.bytesWorld_size]; omega, ?_, bytesOf_at s k hk⟩
    rw [Nat.zero_add, Lib.bytesWorld_cell w e s k hk]
    congr 3
    rw [List.getD_eq_getElem?_getD, List.getElem?_eq_getElem (by simpa using hk)]
    rfl
  · refine ⟨?_, ?_, ?_, by rw [Lib.bytesWorld_size]; omega, fun k hk _ => Lib.bytesWorld_at_old w e s k hk⟩
    · simp only [Lib.bytesWorld, World.freeze]; split <;> rfl
    · simp only [Lib.bytesWorld, World.freeze]; split <;> rfl
    · simp only [Lib.bytesWorld, World.freeze]; split <;> rfl

/-- The first place of what is so; -1: none. -/
def findI {α : Type} (p : α → Bool) (l : List α) : Int := if l.any p then (l.findIdx p : Int) else -1
theorem findI_none {α : Type} {p : α → Bool} {l : List α} (h : ∀ x ∈ l, p x = false) : findI p l = -1 := by
  rw [findI, if_neg]
  simp only [List.any_eq_true, not_exists, not_and, Bool.not_eq_true]
  exact h
theorem findI_some {α : Type} {p : α → Bool} {l : List α} {k : Nat} {x : α} (hx : l[k]? = some x) (hp : p x = true) (hb : ∀ y ∈ l.take k, p y = false) : findI p l = k := by
  have hk := (List.getElem?_eq_some_iff.1 hx).1
  have hxe := (List.getElem?_eq_some_iff.1 hx).2
  rw [findI, if_pos (List.any_eq_true.2 ⟨x, List.mem_of_getElem? hx, hp⟩)]
  congr 1
  rw [List.findIdx_eq hk]
  refine ⟨by rw [hxe]; exact hp, fun j hj => ?_⟩
  have := hb (l[j]'(by omega)) (List.mem_iff_getElem?.2 ⟨j, by rw [List.getElem?_take, if_pos hj]; exact List.getElem?_eq_getElem (by omega)⟩)
  simpa using this
theorem findI_nonneg {α : Type} (p : α → Bool) (l : List α) : decide (0 ≤ findI p l) = l.any p := by
  unfold findI
  cases h : l.any p <;> simp
theorem take_snoc_all {α : Type} {p : α → Bool} {l : List α} {k : Nat} {x : α} (hx : l[k]? = some x) (hp : p x = false) (hb : ∀ y ∈ l.take k, p y = false) : ∀ y ∈ l.take (k + 1), p y = false := by
  intro y hy
  rw [List.take_add_one, hx] at hy
  simp at hy
  rcases hy with hy | rfl
  · exact hb y hy
  · exact hp
theorem not_any {α : Type} {p : α → Bool} {l : List α} (h : ∀ x ∈ l, p x = false) : l.any p = false := by
  rw [List.any_eq_false]
  intro x hx
  rw [h x hx]
  simp
theorem any_at {α : Type} {p : α → Bool} {l : List α} {k : Nat} {x : α} (hx : l[k]? = some x) (hp : p x = true) : l.any p = true := List.any_eq_true.2 ⟨x, List.mem_of_getElem? hx, hp⟩
end Go.Proofs.YtpcihhdalofdiaaGreatDoor

/- Layer 6: Right, the program's and the document's. -/
namespace Go.Proofs.YtpcihhdalofdiaaGreatDoor
open Go.RowKit

def LIns.arg (i : LIns) : Nat → Int
  | 0 => i.a0
  | 1 => i.a1
  | 2 => i.a2
  | 3 => i.a3
  | _ => 0
def argOk (i : LIns) (k : Nat) : Bool := match (kindsOf i.op)[k]? with
  | some x => mayOk i.op x.toNat (i.arg k)
  | none => i.arg k == 0
def opIn (op : Int) : Bool := decide (0 ≤ op) && decide (op ≤ 26)
def insOk (i : LIns) : Bool := opIn i.op && (List.range 4).all (argOk i)

theorem kinds_mem (op : Int) : ∀ x ∈ kindsOf op, 1 ≤ x ∧ x < 10 := by
  unfold kindsOf
  split
  · rename_i h
    obtain ⟨k, rfl⟩ := Int.eq_ofNat_of_zero_le h.1
    have hk : k < 27 := by omega
    have : ∀ k, k < 27 → ∀ x ∈ opList k, 1 ≤ x ∧ x < 10 := by decide
    exact this k hk
  · simp
theorem kinds_lab (op : Int) (h : op = 26) : ∀ x ∈ kindsOf op, x = 8 := by
  subst h
  decide
theorem nameOf_in {op : Int} (h : opIn op = true) : (nameOf op).toList.isEmpty = false := by
  simp only [opIn, Bool.and_eq_true, decide_eq_true_eq] at h
  obtain ⟨k, rfl⟩ := Int.eq_ofNat_of_zero_le h.1
  have hk : k < 27 := by omega
  rw [nameOf_of rfl hk]
  have : ∀ k, k < 27 → (opName k).size ≠ 0 := by decide
  exact strFull _ (this k hk)
theorem nameOf_out {op : Int} (h : opIn op = false) : (nameOf op).toList.isEmpty = true := by
  have hn : ¬ (0 ≤ op ∧ op ≤ 26) := by
    intro hh
    simp [opIn, hh] at h
  rw [nameOf, if_neg hn]
  exact strEmpty _ rfl
theorem mayRef_eq (op : Int) (k : Nat) (n : Int) (hk : k < 10) (h : op = 26 → k = 8) : mayRef op k n = mayOk op k n := by
  unfold mayRef mayOk leastOf6
  by_cases ho : op = 26
  · have := h ho
    subst this ho
    simp only [beq_self_eq_true, Bool.true_and, Nat.reduceEqDiff, if_false, Nat.reduceBEq, Bool.false_and, Bool.not_false, Bool.and_true]
    exact Bool.or_comm _ _
  · have h1 : (op == 26) = false := by simpa using ho
    simp only [h1, Bool.and_false, Bool.false_and, Bool.false_or, Bool.or_false]
    by_cases h5 : k = 5
    · subst h5
      simp only [beq_self_eq_true, Bool.true_and, if_true]
      rw [Bool.eq_iff_iff]
      simp only [Bool.and_eq_true, decide_eq_true_eq, Bool.not_eq_true', beq_eq_false_iff_ne, ne_eq]
      omega
    · have h2 : (k == 5) = false := by simpa using h5
      simp [h2, h5]
theorem all4_step {p : Nat → Bool} {k : Nat} (h : ∀ j, j < k → p j = true) (hk : p k = true) : ∀ j, j < k + 1 → p j = true := by
  intro j hj
  by_cases hjk : j = k
  · subst hjk; exact hk
  · exact h j (by omega)
theorem insOk_yes {i : LIns} (h0 : opIn i.op = true) (h : ∀ j, j < 4 → argOk i j = true) : insOk i = true := by
  simp only [insOk, h0, Bool.true_and, List.all_eq_true, List.mem_range]
  exact h
theorem insOk_no {i : LIns} {k : Nat} (hk : k < 4) (h : argOk i k = false) : insOk i = false := by
  rw [insOk, Bool.and_eq_false_iff]
  right
  rw [List.all_eq_false]
  exact ⟨k, List.mem_range.2 hk, by rw [h]; simp⟩
theorem insOk_out {i : LIns} (h0 : opIn i.op = false) : insOk i = false := by simp [insOk, h0]
theorem ins_index0 (i : LIns) (w : World) : (Instr.index 70 (.agg #[.int .i64 i.a0, .int .i64 i.a1, .int .i64 i.a2, .int .i64 i.a3]) (.int .i64 0)).run Tryz.prog w = .ok (.int .i64 i.a0) w := by kernel_rfl
theorem ins_index1 (i : LIns) (w : World) : (Instr.index 70 (.agg #[.int .i64 i.a0, .int .i64 i.a1, .int .i64 i.a2, .int .i64 i.a3]) (.int .i64 1)).run Tryz.prog w = .ok (.int .i64 i.a1) w := by kernel_rfl
theorem ins_index2 (i : LIns) (w : World) : (Instr.index 70 (.agg #[.int .i64 i.a0, .int .i64 i.a1, .int .i64 i.a2, .int .i64 i.a3]) (.int .i64 2)).run Tryz.prog w = .ok (.int .i64 i.a2) w := by kernel_rfl
theorem ins_index3 (i : LIns) (w : World) : (Instr.index 70 (.agg #[.int .i64 i.a0, .int .i64 i.a1, .int .i64 i.a2, .int .i64 i.a3]) (.int .i64 3)).run Tryz.prog w = .ok (.int .i64 i.a3) w := by kernel_rfl
theorem ins_index (i : LIns) (k : Nat) (hk : k < 4) (w : World) (t : TypeId) (ht : t = 70) : (Instr.index t (.agg #[.int .i64 i.a0, .int .i64 i.a1, .int .i64 i.a2, .int .i64 i.a3]) (.int .i64 (k : Int))).run Tryz.prog w = .ok (.int .i64 (i.arg k)) w := by
  subst ht
  match k, hk with
  | 0, _ => exact ins_index0 i w
  | 1, _ => exact ins_index1 i w
  | 2, _ => exact ins_index2 i w
  | 3, _ => exact ins_index3 i w

set_option maxRecDepth 100000 in
set_option maxHeartbeats 1600000 in
theorem right6_any (i : LIns) (w : World) : Calls Tryz.prog 61 #[insV i] w fun e w' => e = .returned (.bool (insOk i)) ∧ Keeps w w' [] := by
  unfold insV
  cases h0 : opIn i.op with
  | false =>
    have hne := nameOf_out h0
    have HI := Lib.hid (insOk_out h0)
    go_enter Tryz.func61, Tryz.ntmps61
    go_wp2_with fail
    refine (name6_any i.op _).mono ?_
    rintro e w1 ⟨rfl, k1⟩
    go_wp2_with fail
    go_ret
    exact ⟨by rw [HI.out]; rfl, ((Keeps.refl _ []).alloc _).trans k1⟩
  | true =>
    have hne := nameOf_in h0
    have H0 := Lib.hid h0
    have ix := fun k hk w => ins_index i k hk w _ rfl
    have IX := Lib.hid ix
    clear h0 ix
    go_enter Tryz.func61, Tryz.ntmps61
    go_wp2_with fail
    refine (name6_any i.op _).mono ?_
    rintro e w1 ⟨rfl, k1⟩
    have b1 : Blk w1 w.heap.size 79 #[.int .i64 i.op, .int .i64 i.a0, .int .i64 i.a1, .int .i64 i.a2, .int .i64 i.a3] := (Blk.new _ _ _).keep k1 (by simp)
    have c0 := b1.cell 0
    go_wp2_with fail
    refine (kinds_any i.op _).mono ?_
    rintro e w2 ⟨A, c, rfl, hN, k2⟩
    have b2 := b1.keep k2 (by simp)
    have hK := ((Keeps.refl w []).alloc _ |>.trans k1).trans k2
    have HB := Lib.hid b2
    have HN := Lib.hid hN
    have HK := Lib.hid hK
    have hfew := kinds_few i.op
    clear c0 b1 k1 k2 hN hK
    have c0 := b2.cell 0
    have c1 := b2.cell 1
    have c2 := b2.cell 2
    have c3 := b2.cell 3
    have c4 := b2.cell 4
    clear b2
    obtain ⟨m, hm⟩ : ∃ m, (kindsOf i.op).length = m := ⟨_, rfl⟩
    rw [hm] at hfew ⊢
    have HM := Lib.hid hm
    clear hm
    go_wp2_with fail
    clear c0 c1 c2 c3 c4
    go_loopw [15] (fun v wr => ∃ k : Nat, k ≤ 4 ∧ v = .int .i64 k ∧ Hid (∀ j, j < k → argOk i j = true) ∧ Keeps w2 wr []) (fun v _ => 4 - (intOf v).toNat)
    case atStart => exact ⟨0, by omega, rfl, fun j hj => absurd hj (by omega), Keeps.refl _ _⟩
    case round =>
      obtain ⟨k, hk, rfl, HA, kr⟩ := hrel
      have HR := Lib.hid kr
      clear kr
      by_cases hlt : k < 4
      · have hix := IX.out k hlt
        have q0 := (HB.out.keep HR.out (by simp)).cell 0
        by_cases hkm : k < m
        · obtain ⟨b, off, x, rfl, hb, hc, hx⟩ := HN.out k (by rw [HM.out]; exact hkm)
          have hx1 := kinds_mem i.op x (List.mem_of_getElem? hx)
          obtain ⟨q, rfl⟩ := Int.eq_ofNat_of_zero_le (show 0 ≤ x by omega)
          have q1 := (HR.out.cell0 hb).trans hc
          have HArg : Hid (argOk i k = mayOk i.op q (i.arg k)) := by show _ = _; simp [argOk, hx]
          clear hx hc
          have d1 : decide (k < m) = true := by simpa using hkm
          have d2 : decide (m ≤ k) = false := by simp; omega
          have b0 : (0 : Int) ≤ (k : Int) := Int.natCast_nonneg _
          have b1 : (k : Int) < (m : Int) := by omega
          have hcall := may_any i.op q (i.arg k) (by omega)
          go_wp2_with fail
          cases hv : mayOk i.op q (i.arg k)
          all_goals
            rw [hv] at HArg hcall
            have HC := Lib.hid hcall
            clear hcall
            refine wp_region_tx (fun W' => W'.cell? ⟨w.heap.size, 0, none⟩ = some (.int .i64 i.op) ∧ W'.cell? ⟨b, off + k, none⟩ = some (.int .i64 q)) [(0, true), (1, true), (2, true), (3, true), (4, true), (5, true), (6, true), (7, true), (8, true), (9, true), (10, true), (11, true), (12, false), (13, true), (14, true), (15, true), (16, true), (17, true), (18, true), (19, true), (20, true), (21, true), (22, true), (23, true), (24, false)] (by kernel_rfl) (by kernel_rfl) (by exact ⟨q0, q1⟩) (fun hHeld => ?_)
            (repeat (first | (refine wpTx_take (v := ?_) rfl (by assumption) ?_ (by rfl) ?_; rotate_left; (focus (intro w' hSw; (try dsimp only at hSw); go_simp; (try with_reducible rfl); done)); simp only [Act.put, List.setIfInBounds_toArray, List.set_cons_zero, List.set_cons_succ]) | (refine wpTx_skip rfl (by assumption) (by rfl) ?_; simp only [Act.put, List.setIfInBounds_toArray, List.set_cons_zero, List.set_cons_succ])))
            refine wpTx_go rfl (fun K hK => ?_)
            go_simp
            refine (HC.out _).mono ?_
            rintro e w3 ⟨rfl, k3⟩
            refine hK.out _ _ ?_ ?_
            · exact ⟨(((Keeps.refl _ []).drew.trans k3).cell0 (by have := HB.out.lt; have := HR.out.size; simp; omega)).trans q0, (((Keeps.refl _ []).drew.trans k3).cell0 (by have := HR.out.size; omega)).trans q1⟩
            (clear hHeld; intro hHeld; clear hK K; (try simp only [Act.put, List.setIfInBounds_toArray, List.set_cons_zero, List.set_cons_succ]))
            (repeat (first | (refine wpTx_take (v := ?_) rfl (by assumption) ?_ (by rfl) ?_; rotate_left; (focus (intro w' hSw; (try dsimp only at hSw); go_simp; (try with_reducible rfl); done)); simp only [Act.put, List.setIfInBounds_toArray, List.set_cons_zero, List.set_cons_succ]) | (refine wpTx_skip rfl (by assumption) (by rfl) ?_; simp only [Act.put, List.setIfInBounds_toArray, List.set_cons_zero, List.set_cons_succ])))
            refine wpTx_last rfl (fun K hK => ?_)
            go_simp
            refine hK.out _ _ (NoPanic.normal ?_); clear hK K; (try simp only [Act.put, List.setIfInBounds_toArray, List.set_cons_zero, List.set_cons_succ])
          · have HI := Lib.hid (insOk_no hlt HArg.out)
            go_wp2_with fail
            go_ret
            exact ⟨by rw [HI.out]; rfl, HK.out.trans (HR.out.trans ((Keeps.refl _ []).drew.trans k3))⟩
          · have HA2 := Lib.hid (all4_step HA.out HArg.out)
            go_wp2_with fail
            go_roundw
            case rel => exact ⟨k + 1, by omega, by go_num, HA2.out, HR.out.trans ((Keeps.refl _ []).drew.trans k3)⟩
            case measure => simp [intOf]; omega
        · have d1 : decide (k < m) = false := by simpa using hkm
          have d2 : decide (m ≤ k) = true := by simp; omega
          have HArg : Hid (argOk i k = (i.arg k == 0)) := by
            show _ = _
            rw [argOk, List.getElem?_eq_none (by rw [HM.out]; omega)]
          by_cases hz : i.arg k = 0
          · have z1 : (i.arg k == 0) = true := by simpa using hz
            have z2 : (i.arg k != 0) = false := by simpa using hz
            have HA2 := Lib.hid (all4_step HA.out (HArg.out.trans z1))
            clear hz
            go_wp2_with fail
            refine wp_region_tx (fun _ => True) [(0, true), (1, true), (2, true), (3, true), (4, true), (5, true), (6, true), (7, true), (8, true), (9, true), (10, true), (11, true), (12, false), (13, true), (14, true), (15, true), (16, true), (17, true), (18, true), (19, true), (20, true), (21, true), (22, true), (23, true), (24, false)] (by kernel_rfl) (by kernel_rfl) trivial (fun hHeld => ?_)
            (repeat (first | (refine wpTx_take (v := ?_) rfl (by assumption) ?_ (by rfl) ?_; rotate_left; (focus (intro w' hSw; (try dsimp only at hSw); go_simp; (try with_reducible rfl); done)); simp only [Act.put, List.setIfInBounds_toArray, List.set_cons_zero, List.set_cons_succ]) | (refine wpTx_skip rfl (by assumption) (by rfl) ?_; simp only [Act.put, List.setIfInBounds_toArray, List.set_cons_zero, List.set_cons_succ])))
            refine wpTx_go rfl (fun K hK => ?_)
            go_simp
            refine hK.out _ _ ?_ ?_
            · trivial
            (clear hHeld; intro hHeld; clear hK K; (try simp only [Act.put, List.setIfInBounds_toArray, List.set_cons_zero, List.set_cons_succ]))
            (repeat (first | (refine wpTx_take (v := ?_) rfl (by assumption) ?_ (by rfl) ?_; rotate_left; (focus (intro w' hSw; (try dsimp only at hSw); go_simp; (try with_reducible rfl); done)); simp only [Act.put, List.setIfInBounds_toArray, List.set_cons_zero, List.set_cons_succ]) | (refine wpTx_skip rfl (by assumption) (by rfl) ?_; simp only [Act.put, List.setIfInBounds_toArray, List.set_cons_zero, List.set_cons_succ])))
            refine wpTx_last rfl (fun K hK => ?_)
            go_simp
            refine hK.out _ _ (NoPanic.normal ?_); clear hK K; (try simp only [Act.put, List.setIfInBounds_toArray, List.set_cons_zero, List.set_cons_succ])
            go_wp2_with fail
            go_roundw
            case rel => exact ⟨k + 1, by omega, by go_num, HA2.out, HR.out.drew⟩
            case measure => simp [intOf]; omega
          · have z1 : (i.arg k == 0) = false := by simpa using hz
            have z2 : (i.arg k != 0) = true := by simpa using hz
            have HI := Lib.hid (insOk_no hlt (HArg.out.trans z1))
            clear hz
            go_wp2_with fail
            refine wp_region_tx (fun _ => True) [(0, true), (1, true), (2, true), (3, true), (4, true), (5, true), (6, true), (7, true), (8, true), (9, true), (10, true), (11, true), (12, false), (13, true), (14, true), (15, true), (16, true), (17, true), (18, true), (19, true), (20, true), (21, true), (22, true), (23, true), (24, false)] (by kernel_rfl) (by kernel_rfl) trivial (fun hHeld => ?_)
            (repeat (first | (refine wpTx_take (v := ?_) rfl (by assumption) ?_ (by rfl) ?_; rotate_left; (focus (intro w' hSw; (try dsimp only at hSw); go_simp; (try with_reducible rfl); done)); simp only [Act.put, List.setIfInBounds_toArray, List.set_cons_zero, List.set_cons_succ]) | (refine wpTx_skip rfl (by assumption) (by rfl) ?_; simp only [Act.put, List.setIfInBounds_toArray, List.set_cons_zero, List.set_cons_succ])))
            refine wpTx_go rfl (fun K hK => ?_)
            go_simp
            refine hK.out _ _ ?_ ?_
            · trivial
            (clear hHeld; intro hHeld; clear hK K; (try simp only [Act.put, List.setIfInBounds_toArray, List.set_cons_zero, List.set_cons_succ]))
            (repeat (first | (refine wpTx_take (v := ?_) rfl (by assumption) ?_ (by rfl) ?_; rotate_left; (focus (intro w' hSw; (try dsimp only at hSw); go_simp; (try with_reducible rfl); done)); simp only [Act.put, List.setIfInBounds_toArray, List.set_cons_zero, List.set_cons_succ]) | (refine wpTx_skip rfl (by assumption) (by rfl) ?_; simp only [Act.put, List.setIfInBounds_toArray, List.set_cons_zero, List.set_cons_succ])))
            refine wpTx_last rfl (fun K hK => ?_)
            go_simp
            refine hK.out _ _ (NoPanic.normal ?_); clear hK K; (try simp only [Act.put, List.setIfInBounds_toArray, List.set_cons_zero, List.set_cons_succ])
            go_wp2_with fail
            go_ret
            exact ⟨by rw [HI.out]; rfl, HK.out.trans HR.out.drew⟩
      · obtain rfl : k = 4 := by omega
        have HI := Lib.hid (insOk_yes H0.out HA.out)
        go_wp2_with fail
        go_ret
        exact ⟨by rw [HI.out]; rfl, HK.out.trans HR.out⟩

theorem ins_cell {w : World} {g : Nat} {t : TypeId} {i : LIns} (h : Blk w g t #[.int .i64 i.op, .int .i64 i.a0, .int .i64 i.a1, .int .i64 i.a2, .int .i64 i.a3]) (k : Nat) (hk : k < 4) : w.cell? ⟨g, 1 + k, none⟩ = some (.int .i64 (i.arg k)) := by
  refine (h.cell (1 + k)).trans ?_
  match k, hk with
  | 0, _ => rfl
  | 1, _ => rfl
  | 2, _ => rfl
  | 3, _ => rfl
set_option maxRecDepth 100000 in
set_option maxHeartbeats 1600000 in
theorem refRight6_any (i : LIns) (w : World) : Calls Tryz.prog 69 #[insV i] w fun e w' => e = .returned (.bool (insOk i)) ∧ Keeps w w' [] := by
  unfold insV
  cases h0 : opIn i.op with
  | false =>
    have HI := Lib.hid (insOk_out h0)
    by_cases hlo : i.op < 0
    · have d1 : decide (i.op < 0) = true := by simpa using hlo
      clear h0 hlo
      go_enter Tryz.func69, Tryz.ntmps69
      go_wp2_with fail
      go_ret
      exact ⟨by rw [HI.out]; rfl, (Keeps.refl _ []).alloc _⟩
    · have d1 : decide (i.op < 0) = false := by simpa using hlo
      have d2 : decide (26 < i.op) = true := by
        simp only [opIn, Bool.and_eq_false_iff, decide_eq_false_iff_not] at h0
        simp only [decide_eq_true_eq]
        omega
      clear h0 hlo
      go_enter Tryz.func69, Tryz.ntmps69
      go_wp2_with fail
      go_ret
      exact ⟨by rw [HI.out]; rfl, (Keeps.refl _ []).alloc _⟩
  | true =>
    have H0 := Lib.hid h0
    have d1 : decide (i.op < 0) = false := by
      simp only [opIn, Bool.and_eq_true, decide_eq_true_eq] at h0
      simp only [decide_eq_false_iff_not]
      omega
    have d2 : decide (26 < i.op) = false := by
      simp only [opIn, Bool.and_eq_true, decide_eq_true_eq] at h0
      simp only [decide_eq_false_iff_not]
      omega
    clear h0
    go_enter Tryz.func69, Tryz.ntmps69
    go_wp2_with fail
    refine (refKinds_any i.op _).mono ?_
    rintro e w2 ⟨A, c, rfl, hN, k2⟩
    have b2 : Blk w2 w.heap.size 72 #[.int .i64 i.op, .int .i64 i.a0, .int .i64 i.a1, .int .i64 i.a2, .int .i64 i.a3] := (Blk.new _ _ _).keep k2 (by simp)
    have hK := (Keeps.refl w []).alloc _ |>.trans k2
    have HB := Lib.hid b2
    have HN := Lib.hid hN
    have HK := Lib.hid hK
    have hfew := kinds_few i.op
    clear b2 k2 hN hK
    obtain ⟨m, hm⟩ : ∃ m, (kindsOf i.op).length = m := ⟨_, rfl⟩
    rw [hm] at hfew ⊢
    have HM := Lib.hid hm
    clear hm
    go_wp2_with fail
    go_loopw [4] (fun v wr => ∃ k : Nat, k ≤ 4 ∧ v = .int .i64 k ∧ Hid (∀ j, j < k → argOk i j = true) ∧ Keeps w2 wr []) (fun v _ => 4 - (intOf v).toNat)
    case atStart => exact ⟨0, by omega, rfl, fun j hj => absurd hj (by omega), Keeps.refl _ _⟩
    case round =>
      obtain ⟨k, hk, rfl, HA, kr⟩ := hrel
      have HR := Lib.hid kr
      clear kr
      by_cases hlt : k < 4
      · have q0 := (HB.out.keep HR.out (by simp)).cell 0
        have q2 := ins_cell (HB.out.keep HR.out (by simp)) k hlt
        have b0 : (0 : Int) ≤ (k : Int) := Int.natCast_nonneg _
        have b4 : (k : Int) < 4 := by omega
        by_cases hkm : k < m
        · obtain ⟨b, off, x, rfl, hb, hc, hx⟩ := HN.out k (by rw [HM.out]; exact hkm)
          have hx1 := kinds_mem i.op x (List.mem_of_getElem? hx)
          obtain ⟨q, rfl⟩ := Int.eq_ofNat_of_zero_le (show 0 ≤ x by omega)
          have q1 := (HR.out.cell0 hb).trans hc
          have hcall := refMay_any i.op q (i.arg k) (by omega)
          rw [mayRef_eq i.op q (i.arg k) (by omega) (fun h => by have := kinds_lab i.op h q (List.mem_of_getElem? hx); omega)] at hcall
          have HArg : Hid (argOk i k = mayOk i.op q (i.arg k)) := by show _ = _; simp [argOk, hx]
          clear hx hc
          have d1 : decide (k < m) = true := by simpa using hkm
          have d2 : decide (m ≤ k) = false := by simp; omega
          have b1 : (k : Int) < (m : Int) := by omega
          cases hv : mayOk i.op q (i.arg k)
          all_goals
            rw [hv] at HArg hcall
            have HC := Lib.hid hcall
            clear hcall
            go_wp2_with fail
            refine wp_region_tx (fun W' => W'.cell? ⟨w.heap.size, 0, none⟩ = some (.int .i64 i.op) ∧ W'.cell? ⟨w.heap.size, 1 + k, none⟩ = some (.int .i64 (i.arg k)) ∧ W'.cell? ⟨b, off + k, none⟩ = some (.int .i64 q)) [(0, true), (1, true), (2, true), (3, true), (4, true), (5, true), (6, true), (7, true), (8, true), (9, true), (10, true), (11, true), (12, true), (13, true), (14, true), (15, false), (16, true), (17, true), (18, true), (19, true), (20, true), (21, true), (22, true), (23, true), (24, true), (25, true), (26, true), (27, true), (28, true), (29, true), (30, false)] (by kernel_rfl) (by kernel_rfl) (by exact ⟨q0, q2, q1⟩) (fun hHeld => ?_)
            (repeat (first | (refine wpTx_take (v := ?_) rfl (by assumption) ?_ (by rfl) ?_; rotate_left; (focus (intro w' hSw; (try dsimp only at hSw); go_simp; (try with_reducible rfl); done)); simp only [Act.put, List.setIfInBounds_toArray, List.set_cons_zero, List.set_cons_succ]) | (refine wpTx_skip rfl (by assumption) (by rfl) ?_; simp only [Act.put, List.setIfInBounds_toArray, List.set_cons_zero, List.set_cons_succ])))
            refine wpTx_go rfl (fun K hK => ?_)
            go_simp
            refine (HC.out _).mono ?_
            rintro e w3 ⟨rfl, k3⟩
            refine hK.out _ _ ?_ ?_
            · have hlt2 : w.heap.size < wr.drew.heap.size := by have := HB.out.lt; have := HR.out.size; simp; omega
              exact ⟨(((Keeps.refl _ []).drew.trans k3).cell0 hlt2).trans q0, (((Keeps.refl _ []).drew.trans k3).cell0 hlt2).trans q2, (((Keeps.refl _ []).drew.trans k3).cell0 (by have := HR.out.size; omega)).trans q1⟩
            (clear hHeld; intro hHeld; clear hK K; (try simp only [Act.put, List.setIfInBounds_toArray, List.set_cons_zero, List.set_cons_succ]))
            (repeat (first | (refine wpTx_take (v := ?_) rfl (by assumption) ?_ (by rfl) ?_; rotate_left; (focus (intro w' hSw; (try dsimp only at hSw); go_simp; (try with_reducible rfl); done)); simp only [Act.put, List.setIfInBounds_toArray, List.set_cons_zero, List.set_cons_succ]) | (refine wpTx_skip rfl (by assumption) (by rfl) ?_; simp only [Act.put, List.setIfInBounds_toArray, List.set_cons_zero, List.set_cons_succ])))
            refine wpTx_last rfl (fun K hK => ?_)
            go_simp
            refine hK.out _ _ (NoPanic.normal ?_); clear hK K; (try simp only [Act.put, List.setIfInBounds_toArray, List.set_cons_zero, List.set_cons_succ])
          · have HI := Lib.hid (insOk_no hlt HArg.out)
            go_wp2_with fail
            go_ret
            exact ⟨by rw [HI.out]; rfl, HK.out.trans (HR.out.trans ((Keeps.refl _ []).drew.trans k3))⟩
          · have HA2 := Lib.hid (all4_step HA.out HArg.out)
            go_wp2_with fail
            go_roundw
            case rel => exact ⟨k + 1, by omega, by go_num, HA2.out, HR.out.trans ((Keeps.refl _ []).drew.trans k3)⟩
            case measure => simp [intOf]; omega
        · have d1 : decide (k < m) = false := by simpa using hkm
          have d2 : decide (m ≤ k) = true := by simp; omega
          have HArg : Hid (argOk i k = (i.arg k == 0)) := by
            show _ = _
            rw [argOk, List.getElem?_eq_none (by rw [HM.out]; omega)]
          cases z1 : (i.arg k == 0)
          all_goals
            rw [z1] at HArg
            have z2 : (i.arg k != 0) = !(i.arg k == 0) := rfl
            rw [z1] at z2
            simp only [Bool.not_true, Bool.not_false] at z2
            go_wp2_with fail
            refine wp_region_tx (fun W' => W'.cell? ⟨w.heap.size, 1 + k, none⟩ = some (.int .i64 (i.arg k))) [(0, true), (1, true), (2, true), (3, true), (4, true), (5, true), (6, true), (7, true), (8, true), (9, true), (10, true), (11, true), (12, true), (13, true), (14, true), (15, false), (16, true), (17, true), (18, true), (19, true), (20, true), (21, true), (22, true), (23, true), (24, true), (25, true), (26, true), (27, true), (28, true), (29, true), (30, false)] (by kernel_rfl) (by kernel_rfl) (by exact q2) (fun hHeld => ?_)
            (repeat (first | (refine wpTx_take (v := ?_) rfl (by assumption) ?_ (by rfl) ?_; rotate_left; (focus (intro w' hSw; (try dsimp only at hSw); go_simp; (try with_reducible rfl); done)); simp only [Act.put, List.setIfInBounds_toArray, List.set_cons_zero, List.set_cons_succ]) | (refine wpTx_skip rfl (by assumption) (by rfl) ?_; simp only [Act.put, List.setIfInBounds_toArray, List.set_cons_zero, List.set_cons_succ])))
            refine wpTx_go rfl (fun K hK => ?_)
            go_simp
            refine hK.out _ _ ?_ ?_
            · exact q2
            (clear hHeld; intro hHeld; clear hK K; (try simp only [Act.put, List.setIfInBounds_toArray, List.set_cons_zero, List.set_cons_succ]))
            (repeat (first | (refine wpTx_take (v := ?_) rfl (by assumption) ?_ (by rfl) ?_; rotate_left; (focus (intro w' hSw; (try dsimp only at hSw); go_simp; (try with_reducible rfl); done)); simp only [Act.put, List.setIfInBounds_toArray, List.set_cons_zero, List.set_cons_succ]) | (refine wpTx_skip rfl (by assumption) (by rfl) ?_; simp only [Act.put, List.setIfInBounds_toArray, List.set_cons_zero, List.set_cons_succ])))
            refine wpTx_last rfl (fun K hK => ?_)
            go_simp
            refine hK.out _ _ (NoPanic.normal ?_); clear hK K; (try simp only [Act.put, List.setIfInBounds_toArray, List.set_cons_zero, List.set_cons_succ])
          · have HI := Lib.hid (insOk_no hlt HArg.out)
            go_wp2_with fail
            go_ret
            exact ⟨by rw [HI.out]; rfl, HK.out.trans HR.out.drew⟩
          · have HA2 := Lib.hid (all4_step HA.out HArg.out)
            go_wp2_with fail
            go_roundw
            case rel => exact ⟨k + 1, by omega, by go_num, HA2.out, HR.out.drew⟩
            case measure => simp [intOf]; omega
      · obtain rfl : k = 4 := by omega
        have HI := Lib.hid (insOk_yes H0.out HA.out)
        go_wp2_with fail
        go_ret
        exact ⟨by rw [HI.out]; rfl, HK.out.trans HR.out⟩
end Go.Proofs.YtpcihhdalofdiaaGreatDoor

/- Instructions as texts: the plain law. -/
namespace Go.Proofs.YtpcihhdalofdiaaGreatDoor
open Go.RowKit

abbrev Txt := List UInt8
/-- An operand in words. -/
def opTxt (k n : Nat) : Txt :=
  if k = 1 ∧ 16 ≤ n then 89 :: Lib.decDigits (n - 16) else if k = 1 ∨ k = 2 then 88 :: Lib.decDigits n else if k = 9 then 89 :: Lib.decDigits n else if n = 65535 then [45] else Lib.decDigits n
def nameT (op : Int) : Txt := (nameOf op).data.toList
def wordsOf (i : LIns) : List Txt := nameT i.op :: (List.range (kindsOf i.op).length).map fun j => opTxt ((kindsOf i.op).getD j 0).toNat (i.arg j).toNat
def joinT : List Txt → Txt
  | [] => []
  | [x] => x
  | x :: y :: l => x ++ 32 :: joinT (y :: l)
def insTxt (i : LIns) : Txt := if insOk i then joinT (wordsOf i) else []
/-- What stands between blanks. -/
def splitT : Txt → List Txt
  | [] => [[]]
  | c :: l => if c = 32 then [] :: splitT l else match splitT l with
    | [] => [[c]]
    | w :: r => (c :: w) :: r
theorem splitT_ne : ∀ l : Txt, splitT l ≠ []
  | [] => by simp [splitT]
  | c :: l => by
    rw [splitT]
    split
    · simp
    · split <;> simp
theorem splitT_word (w t : Txt) (h : 32 ∉ w) : splitT (w ++ 32 :: t) = w :: splitT t := by
  induction w with
  | nil => rw [List.nil_append, splitT, if_pos rfl]
  | cons c w ih =>
    have hc : c ≠ 32 := fun e => h (by simp [e])
    have hw : 32 ∉ w := fun e => h (by simp [e])
    rw [List.cons_append, splitT, if_neg hc, ih hw]
theorem splitT_last (w : Txt) (h : 32 ∉ w) : splitT w = [w] := by
  induction w with
  | nil => rfl
  | cons c w ih =>
    have hc : c ≠ 32 := fun e => h (by simp [e])
    have hw : 32 ∉ w := fun e => h (by simp [e])
    rw [splitT, if_neg hc, ih hw]
theorem split_join : ∀ ws : List Txt, ws ≠ [] → (∀ w ∈ ws, 32 ∉ w) → splitT (joinT ws) = ws
  | [], h, _ => absurd rfl h
  | [x], _, h => by rw [joinT]; exact splitT_last x (h x (by simp))
  | x :: y :: l, _, h => by
    rw [joinT, splitT_word _ _ (h x (by simp)), split_join (y :: l) (by simp) (fun w hw => h w (by simp [hw]))]
/-- A digit's byte. -/
def isDig (c : UInt8) : Bool := decide (48 ≤ c.toNat) && decide (c.toNat ≤ 57)
theorem dig_of {i : Nat} (h : i < 10) : (UInt8.ofNat (48 + i)).toNat = 48 + i := by rw [UInt8.toNat_ofNat']; omega
theorem digits_dig (n : Nat) : ∀ c ∈ Lib.decDigits n, isDig c = true := by
  induction n using Nat.strongRecOn with
  | _ n ih =>
    intro c hc
    by_cases h : n < 10
    · rw [Lib.decDigits_one h] at hc
      simp only [List.mem_singleton] at hc
      subst hc
      simp [isDig]
      omega
    · rw [Lib.decDigits, dif_neg h] at hc
      rcases List.mem_append.1 hc with hc | hc
      · exact ih (n / 10) (by omega) c hc
      · simp only [List.mem_singleton] at hc
        subst hc
        have : n % 10 < 10 := by omega
        simp [isDig]
        omega
theorem digits_ne (n : Nat) : Lib.decDigits n ≠ [] := by
  rw [Lib.decDigits]
  split
  · simp
  · simp
/-- The number that digits spell. -/
def valT (l : Txt) : Nat := l.foldl (fun n c => 10 * n + (c.toNat - 48)) 0
theorem valT_snoc (l : Txt) (c : UInt8) : valT (l ++ [c]) = 10 * valT l + (c.toNat - 48) := by simp [valT]
theorem valT_digits (n : Nat) : valT (Lib.decDigits n) = n := by
  induction n using Nat.strongRecOn with
  | _ n ih =>
    by_cases h : n < 10
    · rw [Lib.decDigits_one h]
      show 10 * 0 + ((UInt8.ofNat (48 + n)).toNat - 48) = n
      rw [dig_of h]
      omega
    · have hm : n % 10 < 10 := by omega
      rw [Lib.decDigits, dif_neg h, valT_snoc, ih (n / 10) (by omega), dig_of hm]
      omega
theorem parse_from (l : Txt) : ∀ acc : Nat, (∀ c ∈ l, isDig c = true) → l.foldl (fun n c => 10 * n + (c.toNat - 48)) acc < 9223372036854775808 → Lib.parseUint10 acc l = .ok (l.foldl (fun n c => 10 * n + (c.toNat - 48)) acc) := by
  induction l with
  | nil => intro acc _ _; rfl
  | cons c l ih =>
    intro acc hd hb
    have hc := hd c (by simp)
    simp only [isDig, Bool.and_eq_true, decide_eq_true_eq] at hc
    have hle : ∀ (l : Txt) (a : Nat), a ≤ l.foldl (fun n c => 10 * n + (c.toNat - 48)) a := fun l => by
      induction l with
      | nil => intro a; exact Nat.le_refl _
      | cons c l ih => intro a; rw [List.foldl_cons]; exact Nat.le_trans (by omega) (ih _)
    have h1 := hle l (10 * acc + (c.toNat - 48))
    rw [List.foldl_cons] at hb ⊢
    rw [Lib.parseUint10, if_pos hc, if_neg (by omega), if_neg (by omega), show acc * 10 + (c.toNat - 48) = 10 * acc + (c.toNat - 48) by omega]
    exact ih _ (fun x hx => hd x (by simp [hx])) hb
theorem atoi_digits {n : Nat} (h : n < 9223372036854775808) : Lib.atoiAll (Lib.decDigits n) = .ok n := by
  have hd := digits_dig n
  have hv := valT_digits n
  have hp : Lib.parseMag (Lib.decDigits n) = .ok n := by
    rw [Lib.parseMag, if_neg (digits_ne n), parse_from _ 0 hd (by rw [← valT, hv]; exact h)]
    rw [← valT, hv]
  cases hl : Lib.decDigits n with
  | nil => exact absurd hl (digits_ne n)
  | cons c r =>
    have hc := hd c (by rw [hl]; simp)
    simp only [isDig, Bool.and_eq_true, decide_eq_true_eq] at hc
    rw [Lib.atoiAll_plain c r (by omega) (by omega), ← hl, hp]
    simp [Lib.signless]
    omega

/-- What a word says: the program's look, the document's. -/
def opP (k : Nat) (w : Txt) : Int := if w = [45] then 65535 else match Lib.atoiAll (Lib.trimLeftS w [88, 89]) with
  | .ok v => if k = 1 ∧ w.head? = some 89 then IntKind.i64.wrap (v + 16) else v
  | _ => -1
def numT (w : Txt) : Int := if w.length < 1 ∨ 7 < w.length then -1 else if w.all isDig = false then -1 else if Lib.decDigits (valT w) = w then valT w else -1
def opR (k : Nat) (w : Txt) : Int := if w = [45] then 65535 else if 1 < w.length ∧ w.head? = some 88 then numT w.tail else if 1 < w.length ∧ w.head? = some 89 then (if k = 1 then numT w.tail + 16 else numT w.tail) else numT w
theorem digits_not45 (n : Nat) : Lib.decDigits n ≠ [45] := fun h => by
  have := digits_dig n 45 (by rw [h]; simp)
  simp [isDig] at this
theorem digits_head (n : Nat) : ∃ c r, Lib.decDigits n = c :: r ∧ isDig c = true := by
  cases h : Lib.decDigits n with
  | nil => exact absurd h (digits_ne n)
  | cons c r => exact ⟨c, r, rfl, digits_dig n c (by rw [h]; simp)⟩
theorem dig_not (c : UInt8) (h : isDig c = true) : c ≠ 88 ∧ c ≠ 89 ∧ c ≠ 45 ∧ c ≠ 32 := by
  simp only [isDig, Bool.and_eq_true, decide_eq_true_eq] at h
  refine ⟨?_, ?_, ?_, ?_⟩ <;> (rintro rfl; simp at h)
theorem trim_digits (n : Nat) : Lib.trimLeftS (Lib.decDigits n) [88, 89] = Lib.decDigits n := by
  obtain ⟨c, r, h, hd⟩ := digits_head n
  obtain ⟨h1, h2, _, _⟩ := dig_not c hd
  rw [h, Lib.trimLeftS, List.dropWhile_cons, if_neg]
  simp [h1, h2]
theorem trim_mark (m : UInt8) (hm : m = 88 ∨ m = 89) (n : Nat) : Lib.trimLeftS (m :: Lib.decDigits n) [88, 89] = Lib.decDigits n := by
  have h := trim_digits n
  rw [Lib.trimLeftS] at h ⊢
  rw [List.dropWhile_cons, if_pos (by simp [hm]), h]
theorem opP_txt {k n : Nat} (hn : n ≤ 65535) : opP k (opTxt k n) = n := by
  unfold opTxt
  by_cases h1 : k = 1 ∧ 16 ≤ n
  · rw [if_pos h1, opP, if_neg (by simp), trim_mark 89 (.inr rfl), atoi_digits (by omega)]
    simp only
    rw [if_pos ⟨h1.1, rfl⟩, IntKind.wrap_i64]
    omega
  · rw [if_neg h1]
    by_cases h2 : k = 1 ∨ k = 2
    · rw [if_pos h2, opP, if_neg (by simp), trim_mark 88 (.inl rfl), atoi_digits (by omega)]
      simp only
      rw [if_neg (by simp)]
    · rw [if_neg h2]
      by_cases h9 : k = 9
      · rw [if_pos h9, opP, if_neg (by simp), trim_mark 89 (.inr rfl), atoi_digits (by omega)]
        simp only
        rw [if_neg (by omega)]
      · rw [if_neg h9]
        by_cases h6 : n = 65535
        · rw [if_pos h6, opP, if_pos rfl, h6]; rfl
        · rw [if_neg h6, opP, if_neg (digits_not45 n), trim_digits, atoi_digits (by omega)]
          simp only
          rw [if_neg (by omega)]
theorem digits_len (n : Nat) (h : n ≤ 65535) : 1 ≤ (Lib.decDigits n).length ∧ (Lib.decDigits n).length ≤ 7 := by
  refine ⟨Nat.pos_of_ne_zero (fun h0 => digits_ne n (List.eq_nil_of_length_eq_zero h0)), ?_⟩
  have step : ∀ m j : Nat, (m < 10 → (Lib.decDigits m).length ≤ j + 1) := fun m j hm => by rw [Lib.decDigits_one hm]; simp
  have go : ∀ j m : Nat, m < 10 ^ (j + 1) → (Lib.decDigits m).length ≤ j + 1 := fun j => by
    induction j with
    | zero => intro m hm; exact step m 0 (by simpa using hm)
    | succ j ih =>
      intro m hm
      by_cases h10 : m < 10
      · exact step m _ h10
      · rw [Lib.decDigits, dif_neg h10, List.length_append]
        have := ih (m / 10) (by rw [Nat.pow_succ] at hm; omega)
        simp only [List.length_singleton]
        omega
  exact go 6 n (by omega)
theorem numT_digits {n : Nat} (h : n ≤ 65535) : numT (Lib.decDigits n) = n := by
  have hl := digits_len n h
  have ha : (Lib.decDigits n).all isDig = true := List.all_eq_true.2 (digits_dig n)
  rw [numT, if_neg (by omega), if_neg (by rw [ha]; simp), valT_digits, if_pos rfl]
theorem opR_txt {k n : Nat} (hn : n ≤ 65535) : opR k (opTxt k n) = n := by
  have hl := fun m (hm : m ≤ 65535) => (digits_len m hm).1
  unfold opTxt
  by_cases h1 : k = 1 ∧ 16 ≤ n
  · have := hl (n - 16) (by omega)
    rw [if_pos h1, opR, if_neg (by simp), if_neg (by simp), if_pos ⟨by rw [List.length_cons]; omega, rfl⟩, if_pos h1.1, List.tail_cons, numT_digits (by omega)]
    omega
  · rw [if_neg h1]
    by_cases h2 : k = 1 ∨ k = 2
    · have := hl n hn
      rw [if_pos h2, opR, if_neg (by simp), if_pos ⟨by rw [List.length_cons]; omega, rfl⟩, List.tail_cons, numT_digits hn]
    · rw [if_neg h2]
      by_cases h9 : k = 9
      · have := hl n hn
        rw [if_pos h9, opR, if_neg (by simp), if_neg (by simp), if_pos ⟨by rw [List.length_cons]; omega, rfl⟩, if_neg (by omega), List.tail_cons, numT_digits hn]
      · rw [if_neg h9]
        by_cases h6 : n = 65535
        · rw [if_pos h6, opR, if_pos rfl, h6]; rfl
        · obtain ⟨c, r, h, hd⟩ := digits_head n
          obtain ⟨d1, d2, _, _⟩ := dig_not c hd
          rw [if_neg h6, opR, if_neg (digits_not45 n), if_neg (by rw [h]; simp [d1]), if_neg (by rw [h]; simp [d2]), numT_digits hn]
/-- An instruction of a number and operands. -/
def insW (op : Int) (l : List Int) : LIns := ⟨op, l.getD 0 0, l.getD 1 0, l.getD 2 0, l.getD 3 0⟩
def namedT (w : Txt) : Int := if w = [] then -1 else match (List.range 27).find? fun k : Nat => nameT (k : Int) == w with
  | some k => (k : Int)
  | none => -1
def argsW (f : Nat → Txt → Int) (ks : List Int) (ws : List Txt) : List Int := (List.range ks.length).map fun j => match ws[j + 1]? with
  | some w => f (ks.getD j 0).toNat w
  | none => 0
def cand (f : Nat → Txt → Int) (s : Txt) : LIns := insW (namedT ((splitT s).headD [])) (argsW f (kindsOf (namedT ((splitT s).headD []))) (splitT s))
def parseT (f : Nat → Txt → Int) (s : Txt) : LIns × Int := if s = [] ∨ insTxt (cand f s) ≠ s then (⟨0, 0, 0, 0, 0⟩, 17) else (cand f s, 0)
theorem names_ok : ∀ k : Nat, k < 27 → namedT (nameT (k : Int)) = (k : Int) ∧ (32 : UInt8) ∉ nameT (k : Int) := by decide +kernel
theorem name_op {op : Int} (h : opIn op = true) : namedT (nameT op) = op ∧ (32 : UInt8) ∉ nameT op := by
  simp only [opIn, Bool.and_eq_true, decide_eq_true_eq] at h
  obtain ⟨k, rfl⟩ := Int.eq_ofNat_of_zero_le h.1
  exact names_ok k (by omega)
theorem opTxt_blank (k n : Nat) : (32 : UInt8) ∉ opTxt k n := by
  have hd : ∀ m, (32 : UInt8) ∉ Lib.decDigits m := fun m hm => (dig_not 32 (digits_dig m 32 hm)).2.2.2 rfl
  unfold opTxt
  split
  · simp [hd]
  · split
    · simp [hd]
    · split
      · simp [hd]
      · split
        · simp
        · exact hd n
theorem mayOk_top6 {op : Int} {k : Nat} {n : Int} (h : mayOk op k n = true) : 0 ≤ n ∧ n ≤ 65535 := by
  simp only [mayOk, Bool.or_eq_true, Bool.and_eq_true, decide_eq_true_eq, beq_iff_eq] at h
  have hm : mostOf k ≤ 65535 := by
    unfold mostOf mosts
    rcases k with _ | _ | _ | _ | _ | _ | _ | _ | _ | _ | k <;> simp
  have h0 : 0 ≤ leastOf6 k := by unfold leastOf6; split <;> omega
  omega
theorem insOk_arg6 {i : LIns} (h : insOk i = true) {k : Nat} (hk : k < (kindsOf i.op).length) : 0 ≤ i.arg k ∧ i.arg k ≤ 65535 := by
  have hlen := kinds_few i.op
  simp only [insOk, Bool.and_eq_true, List.all_eq_true, List.mem_range] at h
  have h1 := h.2 k (by omega)
  rw [argOk, List.getElem?_eq_getElem hk] at h1
  exact mayOk_top6 h1
theorem insOk_rest6 {i : LIns} (h : insOk i = true) {k : Nat} (hk : (kindsOf i.op).length ≤ k) (h4 : k < 4) : i.arg k = 0 := by
  simp only [insOk, Bool.and_eq_true, List.all_eq_true, List.mem_range] at h
  have h1 := h.2 k h4
  rw [argOk, List.getElem?_eq_none hk] at h1
  simpa using h1
theorem ins_ext6 {i j : LIns} (h0 : i.op = j.op) (h : ∀ k, k < 4 → i.arg k = j.arg k) : i = j := by
  obtain ⟨o, a, b, c, d⟩ := i
  obtain ⟨o', a', b', c', d'⟩ := j
  have e0 := h 0 (by omega)
  have e1 := h 1 (by omega)
  have e2 := h 2 (by omega)
  have e3 := h 3 (by omega)
  simp only [LIns.arg] at e0 e1 e2 e3 h0
  subst e0 e1 e2 e3 h0
  rfl
theorem insW_arg (op : Int) (l : List Int) {k : Nat} (hk : k < 4) : (insW op l).arg k = l.getD k 0 := by
  match k, hk with
  | 0, _ => rfl
  | 1, _ => rfl
  | 2, _ => rfl
  | 3, _ => rfl
/-- A text that is an instruction's is told to be that one's. -/
theorem cand_txt {f : Nat → Txt → Int} (hf : ∀ {k n : Nat}, n ≤ 65535 → f k (opTxt k n) = n) {i : LIns} (h : insOk i = true) : cand f (insTxt i) = i := by
  have hop : opIn i.op = true := by simp only [insOk, Bool.and_eq_true] at h; exact h.1
  obtain ⟨hn, hb⟩ := name_op hop
  have hs : splitT (insTxt i) = wordsOf i := by
    rw [insTxt, if_pos h]
    refine split_join _ (by simp [wordsOf]) (fun w hw => ?_)
    simp only [wordsOf, List.mem_cons, List.mem_map, List.mem_range] at hw
    rcases hw with rfl | ⟨j, _, rfl⟩
    · exact hb
    · exact opTxt_blank _ _
  have h0 : (splitT (insTxt i)).headD [] = nameT i.op := by rw [hs]; rfl
  rw [cand, h0, hn, hs]
  refine ins_ext6 rfl (fun k hk => ?_)
  rw [insW_arg _ _ hk, argsW, List.getD_eq_getElem?_getD, List.getElem?_map]
  by_cases hlt : k < (kindsOf i.op).length
  · rw [List.getElem?_range hlt]
    have ha := insOk_arg6 h hlt
    have hw : (wordsOf i)[k + 1]? = some (opTxt ((kindsOf i.op).getD k 0).toNat (i.arg k).toNat) := by
      rw [wordsOf, List.getElem?_cons_succ, List.getElem?_map, List.getElem?_range hlt]
      rfl
    simp only [Option.map_some, Option.getD_some, hw]
    rw [hf (by omega)]
    omega
  · rw [List.getElem?_eq_none (by simpa using hlt)]
    simp only [Option.map_none, Option.getD_none]
    exact (insOk_rest6 h (by omega) hk).symm
theorem txt_ok {i : LIns} (h : insTxt i ≠ []) : insOk i = true := by
  by_cases hi : insOk i = true
  · exact hi
  · rw [insTxt, if_neg hi] at h
    exact absurd rfl h
theorem parse_of {f : Nat → Txt → Int} (hf : ∀ {k n : Nat}, n ≤ 65535 → f k (opTxt k n) = n) {i : LIns} (h : insOk i = true) (hne : insTxt i ≠ []) : parseT f (insTxt i) = (i, 0) := by
  rw [parseT, cand_txt hf h, if_neg]
  rintro (h1 | h1)
  · exact hne h1
  · exact h1 rfl
/-- Both tell the same of all texts. -/
theorem parse_same (s : Txt) : parseT opP s = parseT opR s := by
  by_cases hs : s = []
  · rw [parseT, parseT, if_pos (.inl hs), if_pos (.inl hs)]
  by_cases h : ∃ i, insOk i = true ∧ insTxt i = s
  · obtain ⟨i, hi, rfl⟩ := h
    rw [parse_of opP_txt hi hs, parse_of opR_txt hi hs]
  · have hno : ∀ f, insTxt (cand f s) ≠ s := fun f he => h ⟨cand f s, txt_ok (by rw [he]; exact hs), he⟩
    rw [parseT, parseT, if_pos (.inr (hno _)), if_pos (.inr (hno _))]
end Go.Proofs.YtpcihhdalofdiaaGreatDoor

/- Names: the program's and the document's look at them. -/
namespace Go.Proofs.YtpcihhdalofdiaaGreatDoor
open Go.RowKit

def isSmall (c : Int) : Bool := decide (97 ≤ c) && decide (c ≤ 122)
def isDigit (c : Int) : Bool := decide (48 ≤ c) && decide (c ≤ 57)
def nameOk (s : ByteArray) : Bool := decide (1 ≤ s.size) && decide (s.size ≤ 32) && isSmall ((bytesOf s).getD 0 0) && (bytesOf s).all fun c => isSmall c || isDigit c

set_option maxHeartbeats 400000 in
theorem small_any (c : Int) (w : World) : Calls Tryz.prog 88 #[.int .u8 c] w fun e w' => e = .returned (.bool (isSmall c)) ∧ w = w' := by
  have HR : Hid (isSmall c = (decide (97 ≤ c) && decide (c ≤ 122))) := rfl
  cases d1 : decide (97 ≤ c) <;> cases d2 : decide (c ≤ 122) <;>
  (rw [d1, d2] at HR
   go_enter Tryz.func88, Tryz.ntmps88
   go_wp2_with fail
   go_ret
   exact ⟨by rw [HR.out]; rfl, rfl⟩)
set_option maxHeartbeats 400000 in
theorem digit_any (c : Int) (w : World) : Calls Tryz.prog 91 #[.int .u8 c] w fun e w' => e = .returned (.bool (isDigit c)) ∧ w = w' := by
  have HR : Hid (isDigit c = (decide (48 ≤ c) && decide (c ≤ 57))) := rfl
  cases d1 : decide (48 ≤ c) <;> cases d2 : decide (c ≤ 57) <;>
  (rw [d1, d2] at HR
   go_enter Tryz.func91, Tryz.ntmps91
   go_wp2_with fail
   go_ret
   exact ⟨by rw [HR.out]; rfl, rfl⟩)
/-- What may not stand in a name. -/
def odd1 (c : Int) : Bool := !isSmall c && !isDigit c
set_option maxHeartbeats 400000 in
theorem odd_any (c : Int) (w : World) : Calls Tryz.prog 90 #[.int .u8 c] w fun e w' => e = .returned (.bool (odd1 c)) ∧ w = w' := by
  have HR : Hid (odd1 c = (!isSmall c && !isDigit c)) := rfl
  cases d1 : isSmall c with
  | true =>
    rw [d1] at HR
    have hc := small_any c
    rw [d1] at hc
    have HC := Lib.hid hc
    clear hc
    go_enter Tryz.func90, Tryz.ntmps90
    go_wp2_with (go_at_call 88; refine (HC.out _).mono ?_; rintro e w' ⟨rfl, rfl⟩)
    go_ret
    exact ⟨by rw [HR.out]; rfl, rfl⟩
  | false =>
    rw [d1] at HR
    have hc := small_any c
    rw [d1] at hc
    have HC := Lib.hid hc
    clear hc
    cases d2 : isDigit c
    all_goals
      rw [d2] at HR
      have hd := digit_any c
      rw [d2] at hd
      have HD := Lib.hid hd
      clear hd
      go_enter Tryz.func90, Tryz.ntmps90
      go_wp2_with (first | (go_at_call 88; refine (HC.out _).mono ?_; rintro e w' ⟨rfl, rfl⟩) | (go_at_call 91; refine (HD.out _).mono ?_; rintro e w' ⟨rfl, rfl⟩))
      go_ret
      exact ⟨by rw [HR.out]; rfl, rfl⟩

set_option maxHeartbeats 400000 in
theorem indexBytes_any (A : Option Addr) (n c : Nat) (l : List Int) (w : World) (hl : l.length = n) (hn : n ≤ 65536) (hA : Nums .u8 w w.heap.size A l) :
    Calls Tryz.prog 117 #[.slice A n c, .func (.func 90) #[] #[]] w fun e w' => e = .returned (.int .i64 (findI odd1 l)) ∧ w = w' := by
  have HL := Lib.hid hl
  have HA := Lib.hid hA
  clear hl hA
  go_enter Tryz.func117, Tryz.ntmps117
  go_wp2_with fail
  go_loop [8] (fun i => ∃ k : Nat, k ≤ n ∧ i = .int .i64 k ∧ Hid (∀ y ∈ l.take k, odd1 y = false)) (fun i => n - (intOf i).toNat)
  case atStart => exact ⟨0, Nat.zero_le _, rfl, fun y hy => by simp at hy⟩
  case round =>
    obtain ⟨k, hk, rfl, HB⟩ := hrel
    by_cases hlt : k < n
    · obtain ⟨b, off, x, rfl, _, hc, hx⟩ := HA.out k (by rw [HL.out]; exact hlt)
      have HX := Lib.hid hx
      clear hx
      cases hp : odd1 x with
      | true =>
        have HI : Hid (findI odd1 l = (k : Int)) := findI_some HX.out hp HB.out
        go_wp2_with (go_at_call 90; refine (odd_any x _).mono ?_; rintro e w' ⟨rfl, rfl⟩)
        go_ret
        exact ⟨by rw [HI.out]; rfl, rfl⟩
      | false =>
        have HB2 : Hid (∀ y ∈ l.take (k + 1), odd1 y = false) := take_snoc_all HX.out hp HB.out
        go_wp2_with (go_at_call 90; refine (odd_any x _).mono ?_; rintro e w' ⟨rfl, rfl⟩)
        go_round
        case rel => exact ⟨k + 1, by omega, by go_num, HB2⟩
        case measure => simp [intOf]; omega
    · obtain rfl : n = k := by omega
      have HI : Hid (findI odd1 l = -1) := findI_none (by have := HB.out; rwa [List.take_of_length_le (by rw [HL.out]; omega)] at this)
      go_wp2_with fail
      go_ret
      exact ⟨by rw [HI.out]; rfl, rfl⟩
set_option maxHeartbeats 400000 in
theorem containsBytes_any (A : Option Addr) (n c : Nat) (l : List Int) (w : World) (hl : l.length = n) (hn : n ≤ 65536) (hA : Nums .u8 w w.heap.size A l) :
    Calls Tryz.prog 89 #[.slice A n c, .func (.func 90) #[] #[]] w fun e w' => e = .returned (.bool (l.any odd1)) ∧ w = w' := by
  have HF := Lib.hid (findI_nonneg odd1 l)
  have HC := Lib.hid (indexBytes_any A n c l w hl hn hA)
  clear hl hA hn
  generalize findI odd1 l = f at *
  go_enter Tryz.func89, Tryz.ntmps89
  go_wp2_with (go_at_call 117; refine HC.out.mono ?_; rintro e w' ⟨rfl, rfl⟩)
  go_ret
  exact ⟨by rw [← HF.out]; rfl, rfl⟩

theorem nameOk_none {s : ByteArray} (h : s.size = 0) : nameOk s = false := by simp [nameOk, h]
theorem nameOk_long {s : ByteArray} (h : 32 < s.size) : nameOk s = false := by
  have : ¬ s.size ≤ 32 := by omega
  simp [nameOk, this]
theorem bytesOf_first (s : ByteArray) (h : 0 < s.size) : (bytesOf s).getD 0 0 = (s[0].toNat : Int) := by
  rw [List.getD_eq_getElem?_getD, bytesOf_at s 0 h]
  rfl
theorem nameOk_first {s : ByteArray} (h : 0 < s.size) (h2 : isSmall (s[0].toNat : Int) = false) : nameOk s = false := by
  rw [nameOk, bytesOf_first s h, h2]
  simp
theorem nameOk_rest {s : ByteArray} (h : 0 < s.size) (h1 : ¬ 32 < s.size) (h2 : isSmall (s[0].toNat : Int) = true) : nameOk s = !(bytesOf s).any odd1 := by
  rw [nameOk, bytesOf_first s h, h2]
  have a1 : 1 ≤ s.size := h
  have a2 : s.size ≤ 32 := by omega
  simp only [a1, a2, decide_true, Bool.true_and, Bool.and_true]
  rw [List.all_eq_not_any_not]
  congr 2
  funext c
  simp [odd1]
set_option maxHeartbeats 400000 in
theorem name_any (s : ByteArray) (w : World) : Calls Tryz.prog 58 #[.string s] w fun e w' => e = .returned (.bool (nameOk s)) ∧ Keeps w w' [] := by
  by_cases h0 : s.size = 0
  · have h1 := strEmpty s h0
    have HN := Lib.hid (nameOk_none h0)
    clear h0
    go_enter Tryz.func58, Tryz.ntmps58
    go_wp2_with fail
    go_ret
    exact ⟨by rw [HN.out]; rfl, Keeps.refl _ _⟩
  · have h1 := strFull s h0
    by_cases h2 : 32 < s.size
    · have d2 : decide ((32 : Int) < s.size) = true := by simp; omega
      have HN := Lib.hid (nameOk_long h2)
      go_enter Tryz.func58, Tryz.ntmps58
      go_wp2_with fail
      go_ret
      exact ⟨by rw [HN.out]; rfl, Keeps.refl _ _⟩
    · have d2 : decide ((32 : Int) < s.size) = false := by simp; omega
      have h3 : 0 < s.size := by omega
      clear h0
      obtain ⟨c, w1, hrun, hN, hK⟩ := conv_bytes (P := Tryz.prog) w 9 138 5 s Tryz.underlying9 Tryz.underlying138 Tryz.underlying5
      have HNum := Lib.hid hN
      have HK := Lib.hid hK
      clear hN hK
      have hsm := small_any (s[0].toNat : Int)
      cases d3 : isSmall (s[0].toNat : Int)
      · have HN := Lib.hid (nameOk_first h3 d3)
        rw [d3] at hsm
        have HS := Lib.hid hsm
        clear hsm
        go_enter Tryz.func58, Tryz.ntmps58
        go_wp2_with (go_at_call 88; refine (HS.out _).mono ?_; rintro e w' ⟨rfl, rfl⟩)
        go_ret
        exact ⟨by rw [HN.out]; rfl, Keeps.refl _ _⟩
      · have HN := Lib.hid (nameOk_rest h3 h2 d3)
        rw [d3] at hsm
        have HS := Lib.hid hsm
        clear hsm
        have HC := Lib.hid (containsBytes_any (some ⟨w.heap.size, 0, none⟩) s.size c (bytesOf s) w1 (bytesOf_len s) (by omega) HNum.out)
        generalize (bytesOf s).any odd1 = q at *
        go_enter Tryz.func58, Tryz.ntmps58
        go_wp2_with (first | (go_at_call 88; refine (HS.out _).mono ?_; rintro e w' ⟨rfl, rfl⟩) | (go_at_call 89; refine HC.out.mono ?_; rintro e w' ⟨rfl, rfl⟩))
        go_ret
        exact ⟨by rw [HN.out]; rfl, HK.out⟩

theorem odd1_mid {c : Int} (h : 97 ≤ c ∧ c ≤ 122 ∨ 48 ≤ c ∧ c ≤ 57) : odd1 c = false := by
  rcases h with ⟨h, h'⟩ | ⟨h, h'⟩ <;> simp [odd1, isSmall, isDigit, h, h']
theorem odd1_out {c : Int} (h : c < 48 ∨ (57 < c ∧ c < 97) ∨ 122 < c) : odd1 c = true := by
  simp only [odd1, isSmall, isDigit, Bool.and_eq_true, Bool.not_eq_true', Bool.and_eq_false_iff, decide_eq_false_iff_not]
  omega
theorem small_out {c : Int} (h : c < 97 ∨ 122 < c) : isSmall c = false := by
  simp only [isSmall, Bool.and_eq_false_iff, decide_eq_false_iff_not]
  omega
theorem small_in {c : Int} (h : 97 ≤ c ∧ c ≤ 122) : isSmall c = true := by simp [isSmall, h]
set_option maxRecDepth 100000 in
set_option maxHeartbeats 800000 in
theorem refName_any (s : ByteArray) (w : World) : Calls Tryz.prog 84 #[.string s] w fun e w' => e = .returned (.bool (nameOk s)) ∧ w = w' := by
  by_cases h0 : s.size = 0
  · have d1 : decide ((s.size : Int) < 1) = true := by simp; omega
    have HN := Lib.hid (nameOk_none h0)
    clear h0
    go_enter Tryz.func84, Tryz.ntmps84
    go_wp2_with fail
    go_ret
    exact ⟨by rw [HN.out]; rfl, rfl⟩
  · have d1 : decide ((s.size : Int) < 1) = false := by simp; omega
    by_cases h2 : 32 < s.size
    · have d2 : decide ((32 : Int) < s.size) = true := by simp; omega
      have HN := Lib.hid (nameOk_long h2)
      go_enter Tryz.func84, Tryz.ntmps84
      go_wp2_with fail
      go_ret
      exact ⟨by rw [HN.out]; rfl, rfl⟩
    · have d2 : decide ((32 : Int) < s.size) = false := by simp; omega
      have h3 : 0 < s.size := by omega
      clear h0
      by_cases e1 : (s[0].toNat : Int) < 97
      · have HN := Lib.hid (nameOk_first h3 (small_out (.inl e1)))
        have d3 : decide ((s[0].toNat : Int) < 97) = true := by simpa using e1
        clear e1
        go_enter Tryz.func84, Tryz.ntmps84
        go_wp2_with fail
        go_ret
        exact ⟨by rw [HN.out]; rfl, rfl⟩
      · have d3 : decide ((s[0].toNat : Int) < 97) = false := by simpa using e1
        by_cases e2 : 122 < (s[0].toNat : Int)
        · have HN := Lib.hid (nameOk_first h3 (small_out (.inr e2)))
          have d4 : decide ((122 : Int) < (s[0].toNat : Int)) = true := by simpa using e2
          clear e1 e2
          go_enter Tryz.func84, Tryz.ntmps84
          go_wp2_with fail
          go_ret
          exact ⟨by rw [HN.out]; rfl, rfl⟩
        · have d4 : decide ((122 : Int) < (s[0].toNat : Int)) = false := by simpa using e2
          have HN := Lib.hid (nameOk_rest h3 h2 (small_in ⟨by omega, by omega⟩))
          clear e1 e2
          go_enter Tryz.func84, Tryz.ntmps84
          go_wp2_with fail
          go_loop [3] (fun i => ∃ k : Nat, k ≤ s.size ∧ i = .int .i64 k ∧ Hid (∀ y ∈ (bytesOf s).take k, odd1 y = false)) (fun i => s.size - (intOf i).toNat)
          case atStart => exact ⟨0, Nat.zero_le _, rfl, fun y hy => by simp at hy⟩
          case round =>
            obtain ⟨k, hk, rfl, HB⟩ := hrel
            clear d3 d4
            by_cases hlt : k < s.size
            · have HX := Lib.hid (bytesOf_at s k hlt)
              rcases (by omega : (s[k].toNat : Int) < 48 ∨ (57 < (s[k].toNat : Int) ∧ (s[k].toNat : Int) < 97) ∨ 122 < (s[k].toNat : Int) ∨ (97 ≤ (s[k].toNat : Int) ∧ (s[k].toNat : Int) ≤ 122) ∨ (48 ≤ (s[k].toNat : Int) ∧ (s[k].toNat : Int) ≤ 57)) with q | q | q | q | q
              · have HI : Hid (nameOk s = false) := by show _ = _; rw [HN.out, any_at HX.out (odd1_out (.inl q))]; rfl
                have a1 : decide ((s[k].toNat : Int) < 97) = true := by simp; omega
                have a3 : decide ((s[k].toNat : Int) < 48) = true := by simp; omega
                clear q
                go_wp2_with fail
                go_ret
                exact ⟨by rw [HI.out]; rfl, rfl⟩
              · have HI : Hid (nameOk s = false) := by show _ = _; rw [HN.out, any_at HX.out (odd1_out (.inr (.inl q)))]; rfl
                have a1 : decide ((s[k].toNat : Int) < 97) = true := by simp; omega
                have a3 : decide ((s[k].toNat : Int) < 48) = false := by simp; omega
                have a4 : decide ((57 : Int) < (s[k].toNat : Int)) = true := by simp; omega
                clear q
                go_wp2_with fail
                go_ret
                exact ⟨by rw [HI.out]; rfl, rfl⟩
              · have HI : Hid (nameOk s = false) := by show _ = _; rw [HN.out, any_at HX.out (odd1_out (.inr (.inr q)))]; rfl
                have a1 : decide ((s[k].toNat : Int) < 97) = false := by simp; omega
                have a2 : decide ((122 : Int) < (s[k].toNat : Int)) = true := by simp; omega
                have a3 : decide ((s[k].toNat : Int) < 48) = false := by simp; omega
                have a4 : decide ((57 : Int) < (s[k].toNat : Int)) = true := by simp; omega
                clear q
                go_wp2_with fail
                go_ret
                exact ⟨by rw [HI.out]; rfl, rfl⟩
              · have HB2 : Hid (∀ y ∈ (bytesOf s).take (k + 1), odd1 y = false) := take_snoc_all HX.out (odd1_mid (.inl q)) HB.out
                have a1 : decide ((s[k].toNat : Int) < 97) = false := by simp; omega
                have a2 : decide ((122 : Int) < (s[k].toNat : Int)) = false := by simp; omega
                clear q
                go_wp2_with fail
                go_round
                case rel => exact ⟨k + 1, by omega, by go_num, HB2⟩
                case measure => simp [intOf]; omega
              · have HB2 : Hid (∀ y ∈ (bytesOf s).take (k + 1), odd1 y = false) := take_snoc_all HX.out (odd1_mid (.inr q)) HB.out
                have a1 : decide ((s[k].toNat : Int) < 97) = true := by simp; omega
                have a3 : decide ((s[k].toNat : Int) < 48) = false := by simp; omega
                have a4 : decide ((57 : Int) < (s[k].toNat : Int)) = false := by simp; omega
                clear q
                go_wp2_with fail
                go_round
                case rel => exact ⟨k + 1, by omega, by go_num, HB2⟩
                case measure => simp [intOf]; omega
            · have HI : Hid (nameOk s = true) := by
                show _ = _
                have := HB.out
                rw [List.take_of_length_le (by rw [bytesOf_len]; omega)] at this
                rw [HN.out, not_any this]
                rfl
              go_wp2_with fail
              go_ret
              exact ⟨by rw [HI.out]; rfl, rfl⟩
end Go.Proofs.YtpcihhdalofdiaaGreatDoor

/- The document's numbers in digits: what strconv.Itoa says. -/
namespace Go.Proofs.YtpcihhdalofdiaaGreatDoor
open Go.RowKit

def digits (n : Nat) : ByteArray := ⟨(Lib.decDigits n).toArray⟩
def digit1 (n : Nat) : ByteArray := ⟨#[UInt8.ofNat (48 + n)]⟩
theorem digits_size (n : Nat) (h : n < 18446744073709551616) : (digits n).size ≤ 20 := by
  have := Lib.nDigits_le20 n h
  rw [← Lib.decDigits_length] at this
  simpa [digits, ByteArray.size] using this
theorem digits_small (n : Nat) (h : n < 10) : digits n = digit1 n := by
  unfold digits digit1
  rw [Lib.decDigits_one h]
theorem digits_big (n : Nat) (h : 10 ≤ n) : digits n = digits (n / 10) ++ digit1 (n % 10) := by
  have e : Lib.decDigits n = Lib.decDigits (n / 10) ++ [UInt8.ofNat (48 + n % 10)] := by
    rw [Lib.decDigits, dif_neg (by omega)]
  unfold digits digit1
  rw [e]
  exact (ByteArray.mk_append_mk (Lib.decDigits (n / 10)) [UInt8.ofNat (48 + n % 10)]).symm
theorem cut1 (n : Nat) (h : n < 10) : (⟨#[48, 49, 50, 51, 52, 53, 54, 55, 56, 57]⟩ : ByteArray).extract n (n + 1) = digit1 n := by
  rcases n with _ | _ | _ | _ | _ | _ | _ | _ | _ | _ | n
  all_goals first | rfl | (exfalso; omega)

set_option maxHeartbeats 400000 in
theorem num_small (n : Nat) (w : World) (h : n < 10) : Calls Tryz.prog 39 #[.int .i64 n] w fun e w' => e = .returned (.string (digits n)) ∧ w = w' := by
  have HD := Lib.hid ((cut1 n h).trans (digits_small n h).symm)
  have d1 : decide ((n : Int) < -9223372036854775807) = false := by simp
  have d2 : decide ((n : Int) < 0) = false := by simp
  have d3 : decide ((n : Int) < 10) = true := by simp; omega
  go_enter Tryz.func39, Tryz.ntmps39
  go_wp2_with fail
  go_ret
  exact ⟨by rw [← HD.out]; rfl, rfl⟩
set_option maxHeartbeats 400000 in
theorem num_big (n : Nat) (w : World) (h : 10 ≤ n) (hn : n ≤ 9223372036854775807) (ih : ∀ w, Calls Tryz.prog 39 #[.int .i64 ((n / 10 : Nat) : Int)] w fun e w' => e = .returned (.string (digits (n / 10))) ∧ ∃ k, w' = w.drewN k) :
    Calls Tryz.prog 39 #[.int .i64 n] w fun e w' => e = .returned (.string (digits n)) ∧ ∃ k, w' = w.drewN k := by
  have HI := Lib.hid ih
  clear ih
  have d1 : decide ((n : Int) < -9223372036854775807) = false := by simp
  have d2 : decide ((n : Int) < 0) = false := by simp
  have d3 : decide ((n : Int) < 10) = false := by simp; omega
  have b1 : (0 : Int) ≤ (n : Int) % 10 := by omega
  have b2 : (n : Int) % 10 < 10 := by omega
  have e1 : (n : Int).tdiv 10 = (n : Int) / 10 := Int.tdiv_eq_ediv_of_nonneg (by omega)
  have e2 : IntKind.i64.wrap ((n : Int) / 10) = (n : Int) / 10 := IntWalk.i64_in _ (by omega)
  have e3 : (n : Int).tmod 10 = (n : Int) % 10 := Int.tmod_eq_emod_of_nonneg (by omega)
  have e4 : IntKind.i64.wrap ((n : Int) % 10) = (n : Int) % 10 := IntWalk.i64_in _ (by omega)
  have e5 : IntKind.i64.wrap ((n : Int) % 10 + 1) = (n : Int) % 10 + 1 := IntWalk.i64_in _ (by omega)
  have hs : ∀ w, (Instr.slice 9 (.string ⟨#[48, 49, 50, 51, 52, 53, 54, 55, 56, 57]⟩) (some (.int .i64 ((n : Int) % 10))) (some (.int .i64 ((n : Int) % 10 + 1))) none).run Tryz.prog w = .ok (.string (digit1 (n % 10))) w := fun w => by
    rw [run_slice_string_if (P := Tryz.prog) (w := w) 9 _ _ _ _ _ Tryz.underlying9, if_pos ⟨by omega, by show (n : Int) % 10 + 1 ≤ 10; omega⟩, if_pos ⟨by omega, by omega⟩,
      show ((n : Int) % 10).toNat = n % 10 by omega, show ((n : Int) % 10 + 1).toNat = n % 10 + 1 by omega, cut1 _ (by omega)]
  have ha : ∀ w, (Op.stringOp .add (digits (n / 10)) (digit1 (n % 10))).run Tryz.prog w = .ok (.string (digits n)) w := fun w => by
    rw [run_string_add_sum (P := Tryz.prog) w _ _ (by have := digits_size (n / 10) (by omega); have : (digit1 (n % 10)).size = 1 := rfl; omega), digits_big n h]
  go_enter Tryz.func39, Tryz.ntmps39
  go_wp2_with fail
  go_quiet ((go_at_call 39; exact Calls.quiet_of (HI.out _)))
  go_wp2_with fail
  go_ret
  exact ⟨rfl, _, rfl⟩
theorem num_any (n : Nat) : ∀ w : World, n ≤ 9223372036854775807 → Calls Tryz.prog 39 #[.int .i64 n] w fun e w' => e = .returned (.string (digits n)) ∧ ∃ k, w' = w.drewN k := by
  induction n using Nat.strongRecOn with
  | _ n ih =>
    intro w hn
    by_cases h : n < 10
    · exact (num_small n w h).mono fun e w' ⟨he, hw⟩ => ⟨he, 0, hw.symm⟩
    · exact num_big n w (by omega) hn (fun w => ih (n / 10) (by omega) w (by omega))
end Go.Proofs.YtpcihhdalofdiaaGreatDoor
