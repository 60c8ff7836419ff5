/- append onto a row of the call's own, with an element type's facts in one word. Over any program. -/
import Derived.Test.YtpcihhdalofdiaaGreatDoorData
namespace Go.Proofs.YtpcihhdalofdiaaGreatDoor
open Go.RowKit

/-- What is known of a slice type T and its elements' type E: so many cells an element, so many bytes. -/
structure ElemT (P : Program) (T E : TypeId) (sz : Nat) : Prop where
  sl : P.underlying T = some (.slice E)
  ex : ∃ (i : TypeInfo) (z : Value), P.info? E = some i ∧ i.zero = some z ∧ i.size = sz ∧ i.bytes ≤ 128 ∧ z.cells.size = sz
  pos : 0 < sz
theorem elemT_of {P : Program} {T E : TypeId} {sz b : Nat} {z : Value} (hT : P.underlying T = some (.slice E)) (h : (P.info? E).map (fun i => (i.zero, i.size, i.bytes)) = some (some z, sz, b)) (hb : b ≤ 128) (hz : z.cells.size = sz) (hp : 0 < sz) : ElemT P T E sz := by
  obtain ⟨i, hi, h1, h2, h3⟩ := info_parts h
  exact ⟨hT, ⟨i, z, hi, h1, h2, by omega, hz⟩, hp⟩
theorem bytes_few {n b : Nat} (hb : b ≤ 128) (hn : n ≤ 549755813888) : n * b ≤ 140737488355328 := by
  have h1 := Nat.mul_le_mul hn hb
  omega

section
variable {P : Program} (w : World) {T E : TypeId} {sz : Nat}
theorem wpList_app (el : ElemT P T E sz) {ops : Array Oper} {rest : List Oper} {o : Oper} {a : Act} {Q : Exit → Act → World → Prop} (hgd : o.guard = none) (s x : Operand)
    (ho : o.op = .call { callee := .builtin .append, args := #[s, x], argTypes := #[T, T] })
    (base : Nat) (A0 : Option Addr) (n c0 : Nat) (xs : List Value) (hs : a.eval s = .slice A0 n c0) (hown : w.ownsRow base E sz (.slice A0 n c0) n xs)
    (A : Option Addr) (m c : Nat) (news : List Value) (hx : a.eval x = .slice A m c) (hr : Rd w A news) (hl : news.length = m * sz) (hc0 : A = none → c = 0) (h1 : ∀ u ∈ news, u.oneCell' = true)
    (hnm : n + m ≤ 549755813888) (hbase : base ≤ w.heap.size)
    (h : ∀ A' c' w', w'.ownsRow base E sz (.slice A' (n + m) c') (n + m) (xs ++ news) → w.grownBy w' (Value.slice A0 n c0).ownBlock →
      ((Value.slice A' (n + m) c').ownBlock = (Value.slice A0 n c0).ownBlock ∨ (Value.slice A' (n + m) c').ownBlock = some w.heap.size) → wpList P ops Q rest (a.put o.dst (.slice A' (n + m) c')) w') :
    wpList P ops Q (o :: rest) a w := by
  obtain ⟨i, z, hi, hz, hsz, hb, hzs⟩ := el.ex
  exact wpList_append_row w hgd s x T ho base E i z sz i.bytes el.sl hi hz hsz rfl hzs el.pos A0 n c0 xs hs hown w.heap.size A m c news hx hr hl hc0 h1 (by unfold maxLen; omega) (bytes_few hb hnm) hbase h

theorem step_app (el : ElemT P T E sz) {ops : Array Oper} {o : Oper} {a : Act} {K : Act → World → Prop} {Q : Exit → Act → World → Prop} {F : Prop} (hgd : o.guard = none) (s x : Operand)
    (ho : o.op = .call { callee := .builtin .append, args := #[s, x], argTypes := #[T, T] })
    (base : Nat) (A0 : Option Addr) (n c0 : Nat) (xs : List Value) (hs : a.eval s = .slice A0 n c0) (hown : w.ownsRow base E sz (.slice A0 n c0) n xs)
    (A : Option Addr) (m c : Nat) (news : List Value) (hx : a.eval x = .slice A m c) (hr : Rd w A news) (hl : news.length = m * sz) (hc0 : A = none → c = 0) (h1 : ∀ u ∈ news, u.oneCell' = true)
    (hnm : n + m ≤ 549755813888) (hbase : base ≤ w.heap.size)
    (h : ∀ A' c' w', w'.ownsRow base E sz (.slice A' (n + m) c') (n + m) (xs ++ news) → w.grownBy w' (Value.slice A0 n c0).ownBlock →
      ((Value.slice A' (n + m) c').ownBlock = (Value.slice A0 n c0).ownBlock ∨ (Value.slice A' (n + m) c').ownBlock = some w.heap.size) → K (a.put o.dst (.slice A' (n + m) c')) w') :
    if Region.wanted o (yielded ops a.tmps) = true then Oper.wp P o a w K Q else F := by
  obtain ⟨i, z, hi, hz, hsz, hb, hzs⟩ := el.ex
  exact step_append_row w hgd s x T ho base E i z sz i.bytes el.sl hi hz hsz rfl hzs el.pos A0 n c0 xs hs hown w.heap.size A m c news hx hr hl hc0 h1 (by unfold maxLen; omega) (bytes_few hb hnm) hbase h
end
/-- A new block of one element's cells, to be appended. -/
theorem Rd.one (w : World) (t : TypeId) (cs : List Value) : Rd (w.alloc (.cells cs.toArray t)) (some ⟨w.heap.size, 0, none⟩) cs := by
  have h := Rd.of_blk (Blk.new w t cs.toArray)
  simpa using h
/-- An empty literal. -/
theorem own_empty (w : World) (t : TypeId) : (w.alloc (.cells #[] t)).ownsRow w.heap.size t 1 (.slice (some ⟨w.heap.size, 0, none⟩) 0 0) 0 [] := World.ownsRow_made _ #[] 0 (Nat.le_refl _) (Nat.zero_le _) rfl
theorem own_base {w : World} {base base' : Nat} {e : TypeId} {size n : Nat} {v : Value} {xs : List Value} (h : w.ownsRow base e size v n xs) (hb : base' ≤ base) : w.ownsRow base' e size v n xs := by
  refine ⟨h.1, ?_⟩
  rcases h.2 with h2 | ⟨g, cap, cur, he, hb2, r⟩
  · exact .inl h2
  · exact .inr ⟨g, cap, cur, he, by omega, r⟩
/-- Rows of other elements lie in other blocks. -/
theorem own_far {w w' : World} {base base' : Nat} {e e' : TypeId} {size size' n n' : Nat} {v v' : Value} {xs xs' : List Value} (h : w.ownsRow base e size v n xs) (h' : w.ownsRow base' e' size' v' n' xs') (hne : e ≠ e') (hg : w.grownBy w' v'.ownBlock) : w'.ownsRow base e size v n xs := by
  refine h.kept hg ?_
  rcases h.2 with ⟨rfl, _⟩ | ⟨g1, cap, cur, rfl, _, hb, _⟩
  · exact .inl rfl
  · right
    rcases h'.2 with ⟨rfl, _⟩ | ⟨g2, cap2, cur2, rfl, _, hb2, _⟩
    · simp [Value.ownBlock]
    · simp only [Value.ownBlock]
      intro he
      simp at he
      subst he
      rw [hb] at hb2
      simp at hb2
      exact hne hb2.2
theorem blk_far {w w' : World} {base' g : Nat} {e e' : TypeId} {size' n' : Nat} {cs : Array Value} {v' : Value} {xs' : List Value} (h : Blk w g e cs) (h' : w.ownsRow base' e' size' v' n' xs') (hne : e ≠ e') (hg : w.grownBy w' v'.ownBlock) : Blk w' g e cs := by
  refine h.grown hg ?_
  rcases h'.2 with ⟨rfl, _⟩ | ⟨g2, cap2, cur2, rfl, _, hb2, _⟩
  · simp [Value.ownBlock]
  · simp only [Value.ownBlock]
    intro he
    simp at he
    subst he
    unfold Blk at h
    rw [h] at hb2
    simp at hb2
    exact hne hb2.2
theorem Keeps.app {a w w' : World} {S : List Nat} {base n size : Nat} {e : TypeId} {v : Value} {xs : List Value} (k : Keeps a w S) (h : w.ownsRow base e size v n xs) (hb : a.heap.size ≤ base) (hg : w.grownBy w' v.ownBlock) : Keeps a w' S :=
  k.grown hg (fun q hq => .inr (Nat.le_trans hb (h.lt q hq).1))
/-- The blocks that a row's growing may touch. -/
def ownL (v : Value) : List Nat := v.ownBlock.toList
theorem Keeps.ofGrown {w w' : World} {v : Value} (hg : w.grownBy w' v.ownBlock) : Keeps w w' (ownL v) :=
  ⟨hg.os, hg.tape, hg.output, hg.size, fun k hk hn => hg.block k hk (fun e => hn (by unfold ownL; rw [← e]; simp))⟩
theorem Keeps.rest {a w w' : World} {S : List Nat} (k : Keeps a w []) (h : Keeps w w' S) : Keeps a w' S := (k.to_ S).trans h
theorem own_out {w : World} {base n size : Nat} {e : TypeId} {v : Value} {xs : List Value} (h : w.ownsRow base e size v n xs) {b : Nat} (hb : b < base) : b ∉ ownL v := by
  unfold ownL
  intro hm
  simp at hm
  have := (h.lt b hm).1
  omega
theorem own_outT {w : World} {base n size : Nat} {e t : TypeId} {v : Value} {xs : List Value} {cs : Array Value} (h : w.ownsRow base e size v n xs) {b : Nat} (hb : Blk w b t cs) (hne : t ≠ e) : b ∉ ownL v := by
  unfold ownL
  intro hm
  simp at hm
  rcases h.2 with ⟨rfl, _⟩ | ⟨g2, cap2, cur2, rfl, _, hb2, _⟩
  · simp [Value.ownBlock] at hm
  · simp only [Value.ownBlock] at hm
    simp at hm
    subst hm
    unfold Blk at hb
    rw [hb] at hb2
    simp at hb2
    exact hne hb2.2
end Go.Proofs.YtpcihhdalofdiaaGreatDoor
