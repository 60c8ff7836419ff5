/- append onto a row of the call's own, with an element type's facts in one word. Over any program. -/
import Derived.Test.YtpcihhdalofdiaaGreatDoorJQ01
import Derived.Maps.OwnOps
import Derived.Maps.OwnSet
import Derived.DeepKeys4
import Derived.Deep.Cut
import Derived.Deep.CutRange
import Derived.Deep.CutBlock
import Derived.Deep.DeepCutAuto
import Derived.Deep.DeepMust
import Derived.Laws.StructEq
import Derived.ChangeKeysEq
namespace Go.Proofs.YtpcihhdalofdiaaGreatDoor
open Go.RowKit

/-- What is known of a slice type T and its elements' type E: so many cells an element, so many bytes. -/
structure ElemT (P : Program) (T E : TypeId) (sz : Nat) : Prop where
  sl : P.underlying T = some (.slice E)
  ex : ∃ (i : TypeInfo) (z : Value), P.info? E = some i ∧ i.zero = some z ∧ i.size = sz ∧ i.bytes ≤ 128 ∧ z.cells.size = sz
  pos : 0 < sz
theorem elemT_of {P : Program} {T E : TypeId} {sz b : Nat} {z : Value} (hT : P.underlying T = some (.slice E)) (h : (P.info? E).map (fun i => (i.zero, i.size, i.bytes)) = some (some z, sz, b)) (hb : b ≤ 128) (hz : z.cells.size = sz) (hp : 0 < sz) : ElemT P T E sz := by
  obtain ⟨i, hi, h1, h2, h3⟩ := info_parts h
  exact ⟨hT, ⟨i, z, hi, h1, h2, by omega, hz⟩, hp⟩
theorem bytes_few {n b : Nat} (hb : b ≤ 128) (hn : n ≤ 549755813888) : n * b ≤ 140737488355328 := by
  have h1 := Nat.mul_le_mul hn hb
  omega

section
variable {P : Program} (w : World) {T E : TypeId} {sz : Nat}
theorem wpList_app (el : ElemT P T E sz) {ops : Array Oper} {rest : List Oper} {o : Oper} {a : Act} {Q : Exit → Act → World → Prop} (hgd : o.guard = none) (s x : Operand)
    (ho : o.op = .call { callee := .builtin .append, args := #[s, x], argTypes := #[T, T] })
    (base : Nat) (A0 : Option Addr) (n c0 : Nat) (xs : List Value) (hs : a.eval s = .slice A0 n c0) (hown : w.ownsRow base E sz (.slice A0 n c0) n xs)
    (A : Option Addr) (m c : Nat) (news : List Value) (hx : a.eval x = .slice A m c) (hr : Rd w A news) (hl : news.length = m * sz) (hc0 : A = none → c = 0) (h1 : ∀ u ∈ news, u.oneCell' = true)
    (hnm : n + m ≤ 549755813888) (hbase : base ≤ w.heap.size)
    (h : ∀ A' c' w', w'.ownsRow base E sz (.slice A' (n + m) c') (n + m) (xs ++ news) → w.grownBy w' (Value.slice A0 n c0).ownBlock →
      ((Value.slice A' (n + m) c').ownBlock = (Value.slice A0 n c0).ownBlock ∨ (Value.slice A' (n + m) c').ownBlock = some w.heap.size) → wpList P ops Q rest (a.put o.dst (.slice A' (n + m) c')) w') :
    wpList P ops Q (o :: rest) a w := by
  obtain ⟨i, z, hi, hz, hsz, hb, hzs⟩ := el.ex
  exact wpList_append_row w hgd s x T ho base E i z sz i.bytes el.sl hi hz hsz rfl hzs el.pos A0 n c0 xs hs hown w.heap.size A m c news hx hr hl hc0 h1 (by unfold maxLen; omega) (bytes_few hb hnm) hbase h

theorem step_app (el : ElemT P T E sz) {ops : Array Oper} {o : Oper} {a : Act} {K : Act → World → Prop} {Q : Exit → Act → World → Prop} {F : Prop} (hgd : o.guard = none) (s x : Operand)
    (ho : o.op = .call { callee := .builtin .append, args := #[s, x], argTypes := #[T, T] })
    (base : Nat) (A0 : Option Addr) (n c0 : Nat) (xs : List Value) (hs : a.eval s = .slice A0 n c0) (hown : w.ownsRow base E sz (.slice A0 n c0) n xs)
    (A : Option Addr) (m c : Nat) (news : List Value) (hx : a.eval x = .slice A m c) (hr : Rd w A news) (hl : news.length = m * sz) (hc0 : A = none → c = 0) (h1 : ∀ u ∈ news, u.oneCell' = true)
    (hnm : n + m ≤ 549755813888) (hbase : base ≤ w.heap.size)
    (h : ∀ A' c' w', w'.ownsRow base E sz (.slice A' (n + m) c') (n + m) (xs ++ news) → w.grownBy w' (Value.slice A0 n c0).ownBlock →
      ((Value.slice A' (n + m) c').ownBlock = (Value.slice A0 n c0).ownBlock ∨ (Value.slice A' (n + m) c').ownBlock = some w.heap.size) → K (a.put o.dst (.slice A' (n + m) c')) w') :
    if Region.wanted o (yielded ops a.tmps) = true then Oper.wp P o a w K Q else F := by
  obtain ⟨i, z, hi, hz, hsz, hb, hzs⟩ := el.ex
  exact step_append_row w hgd s x T ho base E i z sz i.bytes el.sl hi hz hsz rfl hzs el.pos A0 n c0 xs hs hown w.heap.size A m c news hx hr hl hc0 h1 (by unfold maxLen; omega) (bytes_few hb hnm) hbase h
end
/-- A new block of one element's cells, to be appended. -/
theorem Rd.one (w : World) (t : TypeId) (cs : List Value) : Rd (w.alloc (.cells cs.toArray t)) (some ⟨w.heap.size, 0, none⟩) cs := by
  have h := Rd.of_blk (Blk.new w t cs.toArray)
  simpa using h
/-- An empty literal. -/
theorem own_empty (w : World) (t : TypeId) : (w.alloc (.cells #[] t)).ownsRow w.heap.size t 1 (.slice (some ⟨w.heap.size, 0, none⟩) 0 0) 0 [] := World.ownsRow_made _ #[] 0 (Nat.le_refl _) (Nat.zero_le _) rfl
theorem own_base {w : World} {base base' : Nat} {e : TypeId} {size n : Nat} {v : Value} {xs : List Value} (h : w.ownsRow base e size v n xs) (hb : base' ≤ base) : w.ownsRow base' e size v n xs := by
  refine ⟨h.1, ?_⟩
  rcases h.2 with h2 | ⟨g, cap, cur, he, hb2, r⟩
  · exact .inl h2
  · exact .inr ⟨g, cap, cur, he, by omega, r⟩
/-- Rows of other elements lie in other blocks. -/
theorem own_far {w w' : World} {base base' : Nat} {e e' : TypeId} {size size' n n' : Nat} {v v' : Value} {xs xs' : List Value} (h : w.ownsRow base e size v n xs) (h' : w.ownsRow base' e' size' v' n' xs') (hne : e ≠ e') (hg : w.grownBy w' v'.ownBlock) : w'.ownsRow base e size v n xs := by
  refine h.kept hg ?_
  rcases h.2 with ⟨rfl, _⟩ | ⟨g1, cap, cur, rfl, _, hb, _⟩
  · exact .inl rfl
  · right
    rcases h'.2 with ⟨rfl, _⟩ | ⟨g2, cap2, cur2, rfl, _, hb2, _⟩
    · simp [Value.ownBlock]
    · simp only [Value.ownBlock]
      intro he
      simp at he
      subst he
      rw [hb] at hb2
      simp at hb2
      exact hne hb2.2
theorem blk_far {w w' : World} {base' g : Nat} {e e' : TypeId} {size' n' : Nat} {cs : Array Value} {v' : Value} {xs' : List Value} (h : Blk w g e cs) (h' : w.ownsRow base' e' size' v' n' xs') (hne : e ≠ e') (hg : w.grownBy w' v'.ownBlock) : Blk w' g e cs := by
  refine h.grown hg ?_
  rcases h'.2 with ⟨rfl, _⟩ | ⟨g2, cap2, cur2, rfl, _, hb2, _⟩
  · simp [Value.ownBlock]
  · simp only [Value.ownBlock]
    intro he
    simp at he
    subst he
    unfold Blk at h
    rw [h] at hb2
    simp at hb2
    exact hne hb2.2
theorem Keeps.app {a w w' : World} {S : List Nat} {base n size : Nat} {e : TypeId} {v : Value} {xs : List Value} (k : Keeps a w S) (h : w.ownsRow base e size v n xs) (hb : a.heap.size ≤ base) (hg : w.grownBy w' v.ownBlock) : Keeps a w' S :=
  k.grown hg (fun q hq => .inr (Nat.le_trans hb (h.lt q hq).1))
/-- The blocks that a row's growing may touch. -/
def ownL (v : Value) : List Nat := v.ownBlock.toList
theorem Keeps.ofGrown {w w' : World} {v : Value} (hg : w.grownBy w' v.ownBlock) : Keeps w w' (ownL v) :=
  ⟨hg.os, hg.tape, hg.output, hg.size, fun k hk hn => hg.block k hk (fun e => hn (by unfold ownL; rw [← e]; simp))⟩
theorem Keeps.rest {a w w' : World} {S : List Nat} (k : Keeps a w []) (h : Keeps w w' S) : Keeps a w' S := (k.to_ S).trans h
theorem own_out {w : World} {base n size : Nat} {e : TypeId} {v : Value} {xs : List Value} (h : w.ownsRow base e size v n xs) {b : Nat} (hb : b < base) : b ∉ ownL v := by
  unfold ownL
  intro hm
  simp at hm
  have := (h.lt b hm).1
  omega
theorem own_outT {w : World} {base n size : Nat} {e t : TypeId} {v : Value} {xs : List Value} {cs : Array Value} (h : w.ownsRow base e size v n xs) {b : Nat} (hb : Blk w b t cs) (hne : t ≠ e) : b ∉ ownL v := by
  unfold ownL
  intro hm
  simp at hm
  rcases h.2 with ⟨rfl, _⟩ | ⟨g2, cap2, cur2, rfl, _, hb2, _⟩
  · simp [Value.ownBlock] at hm
  · simp only [Value.ownBlock] at hm
    simp at hm
    subst hm
    unfold Blk at hb
    rw [hb] at hb2
    simp at hb2
    exact hne hb2.2
end Go.Proofs.YtpcihhdalofdiaaGreatDoor

/- Layer 6: Operands, laid anew each time. -/
namespace Go.Proofs.YtpcihhdalofdiaaGreatDoor
open Go.RowKit
attribute [local irreducible] nameOf kindsOf opName opList

def KindsF (w : World) (op : Int) (e : Ending) (w' : World) : Prop :=
  ∃ A c, e = .returned (.slice A (kindsOf op).length c) ∧ Nums .i64 w' w'.heap.size A (kindsOf op) ∧ Keeps w w' [] ∧ ∀ b off, A = some ⟨b, off, none⟩ → w.heap.size ≤ b

set_option maxRecDepth 20000 in
set_option maxHeartbeats 400000 in
theorem cloneIntsF_any (A : Option Addr) (n c : Nat) (l : List Int) (w : World) (hl : l.length = n) (hn : n ≤ 65536) (hA : Nums .i64 w w.heap.size A l) :
    Calls Tryz.prog 94 #[.slice A n c] w fun e w' => ∃ A' c', e = .returned (.slice A' n c') ∧ Nums .i64 w' w'.heap.size A' l ∧ Keeps w w' [] ∧ ∀ b off, A' = some ⟨b, off, none⟩ → w.heap.size ≤ b := by
  cases A with
  | none =>
    have h0 : l = [] := by
      cases l with
      | nil => rfl
      | cons x t =>
        obtain ⟨b, off, v, e, _⟩ := hA 0 (by simp)
        cases e
    subst h0
    simp only [List.length_nil] at hl
    subst hl
    clear hA hn
    go_enter Tryz.func94, Tryz.ntmps94
    have hne := Lib.run_eql_slice_nil (P := Tryz.prog)
    go_wp2_with fail
    go_ret
    exact ⟨none, 0, rfl, Nums.nil, Keeps.refl _ _, fun b off h => by cases h⟩
  | some A =>
  obtain ⟨i0, hi, hz0, hz1, hz2⟩ := info_parts info_int
  have HL := Lib.hid hl
  have HA := Lib.hid hA
  have hne := Lib.run_eql_slice_nil (P := Tryz.prog)
  clear hl hA
  go_enter Tryz.func94, Tryz.ntmps94
  go_wp2_with (at_builtin; refine wpList_append_row _ rfl (.tmp 5) (.tmp 6) _ rfl w.heap.size 3 i0 _ 1 8 Tryz.underlying93 hi hz0 hz1 hz2 rfl (by omega) (some ⟨w.heap.size, 0, none⟩) 0 0 [] rfl (World.ownsRow_made _ #[] 0 (Nat.le_refl _) (Nat.zero_le _) rfl) w.heap.size (some A) n c (l.map (Value.int .i64)) rfl (HA.out.alloc (Nat.le_refl _) _).toRow (by rw [List.length_map, HL.out, Nat.mul_one]) (fun hh => by cases hh) (oneCell_ints _ _) (by simp only [maxLen]; omega) (by omega) (by simp) ?_; intro A' c' w1 hown hgrow hat)
  go_ret
  refine ⟨A', c', by simp, ?_, ((Keeps.refl w []).alloc _).grown hgrow (fun k hk => .inr (by simp [Value.ownBlock] at hk; omega)), fun b off h => (hown.lt b (by rw [h]; rfl)).1⟩
  have := (Row.of_own (by simpa using hown)).toNums (l := l) (K := .i64)
  exact this
set_option maxRecDepth 20000 in
set_option maxHeartbeats 400000 in
theorem kindsF_any (op : Int) (w : World) : Calls Tryz.prog 62 #[.int .i64 op] w (KindsF w op) := by
  have hf := kinds_few op
  go_enter Tryz.func62, Tryz.ntmps62
  go_wp2_with fail
  refine (rowOf_any op _).mono ?_
  rintro e w1 ⟨kk, A, rfl, hN⟩
  have q0 := row_field0 (nameOf op) A (kindsOf op).length (kindsOf op).length
  have q1 := row_field1 (nameOf op) A (kindsOf op).length (kindsOf op).length
  have HN := Lib.hid hN
  clear hN
  go_wp2_with fail
  refine (cloneIntsF_any A _ _ _ _ rfl (by omega) HN.out).mono ?_
  rintro e w2 ⟨A', c', rfl, hN2, k2, hfr⟩
  go_wp2_with fail
  go_ret
  exact ⟨A', c', rfl, hN2, kk.trans k2, fun b off h => Nat.le_trans kk.size (hfr b off h)⟩
end Go.Proofs.YtpcihhdalofdiaaGreatDoor

/- A set that the call itself keeps: a map to true, asked before each store. Over any program. -/
namespace Go.Proofs.YtpcihhdalofdiaaGreatDoor
open Go Go.RowKit Go.Maps

/-- Block b is a map whose keys are these, each at true. -/
def SetIs (w : World) (P : Program) (K : TypeId) (b : Nat) (keys : List Value) : Prop :=
  ∃ es clock, w.heap[b]? = some (.map es clock) ∧ es.toList.map (·.key) = keys ∧ (∀ e ∈ es.toList, e.val = .bool true) ∧ ∀ e ∈ es.toList, ∃ l, keyOf P K e.key = some l

section
variable {P : Program} {w : World} {K : TypeId} {b : Nat} {keys : List Value}
theorem SetIs.new (w : World) (P : Program) (K : TypeId) : SetIs (w.alloc (.map #[] 0)) P K w.heap.size [] := ⟨#[], 0, heap_alloc_new w _, rfl, by simp, by simp⟩
theorem SetIs.lt (h : SetIs w P K b keys) : b < w.heap.size := by
  obtain ⟨_, _, h, _⟩ := h
  exact (Array.getElem?_eq_some_iff.1 h).1
theorem SetIs.keep {w' : World} {S : List Nat} (h : SetIs w P K b keys) (k : Keeps w w' S) (hb : b ∉ S) : SetIs w' P K b keys := by
  have hl := h.lt
  obtain ⟨es, clock, h1, h2⟩ := h
  exact ⟨es, clock, (k.block b hl hb).trans h1, h2⟩
theorem SetIs.look {T E : TypeId} (h : SetIs w P K b keys) (Kd : Keyed P K) (ht : P.underlying T = some (.map K E)) (hz : (zeroValue E).run P w = .ok (.bool false) w) {key : Value} {l : Lit} (hk : keyOf P K key = some l) :
    ((Instr.lookup T (.map (some b)) key false).run P w = .ok (.bool false) w ∧ key ∉ keys) ∨ ((Instr.lookup T (.map (some b)) key false).run P w = .ok (.bool true) w ∧ key ∈ keys) := by
  obtain ⟨es, clock, hb, hkeys, hv, hl⟩ := h
  rcases Kd.find w hk es.toList hl with ⟨h1, h2⟩ | ⟨j, e0, h1, h2, h3⟩
  · refine .inl ⟨by simp [Instr.lookup, run_underlying ht, MapKept.run_getObj_map hb, Kd.check w _ hk, h1, hz, Result.andThen], ?_⟩
    rw [← hkeys]
    intro hm
    obtain ⟨e, he, hke⟩ := List.mem_map.1 hm
    exact h2 e he hke
  · have hm : e0 ∈ es.toList := List.mem_of_getElem? h2
    refine .inr ⟨by simp [Instr.lookup, run_underlying ht, MapKept.run_getObj_map hb, Kd.check w _ hk, h1, Result.andThen, hv e0 hm], ?_⟩
    rw [← hkeys]
    exact List.mem_map.2 ⟨e0, hm, h3⟩
theorem SetIs.store {T E : TypeId} (h : SetIs w P K b keys) (Kd : Keyed P K) (ht : P.underlying T = some (.map K E)) {key : Value} {l : Lit} (hk : keyOf P K key = some l) (hn : key ∉ keys) :
    ∃ w', (Instr.mapUpdate T (.map (some b)) key (.bool true)).run P w = .ok () w' ∧ SetIs w' P K b (keys ++ [key]) ∧ Keeps w w' [b] := by
  have hlt := h.lt
  obtain ⟨es, clock, hb, hkeys, hv, hl⟩ := h
  rcases Kd.find w hk es.toList hl with ⟨h1, h2⟩ | ⟨j, e0, h1, h2, h3⟩
  · refine ⟨ChangeMaps.setBlock w b (.map (es.push ⟨key, .bool true, clock⟩) (clock + 1)), by simp [Instr.mapUpdate, run_underlying ht, MapKept.run_getObj_map hb, Kd.check w false hk, h1, MapKept.run_setObj_map _ hb, Result.andThen, ChangeMaps.setBlock], ⟨es.push ⟨key, .bool true, clock⟩, clock + 1, ?_, ?_, ?_, ?_⟩, ?_⟩
    · simp [ChangeMaps.setBlock, hlt]
    · rw [Array.toList_push, List.map_append, hkeys]; rfl
    · intro e he
      rw [Array.toList_push, List.mem_append] at he
      rcases he with he | he
      · exact hv e he
      · simp at he; subst he; rfl
    · intro e he
      rw [Array.toList_push, List.mem_append] at he
      rcases he with he | he
      · exact hl e he
      · simp at he; subst he; exact ⟨l, hk⟩
    · refine ⟨rfl, rfl, rfl, by simp [ChangeMaps.setBlock], fun k _ hkn => ?_⟩
      simp only [ChangeMaps.setBlock]
      rw [Array.getElem?_setIfInBounds_ne (by rintro rfl; exact hkn (by simp))]
  · exact absurd (by rw [← hkeys]; exact List.mem_map.2 ⟨e0, List.mem_of_getElem? h2, h3⟩) hn
end

/-- Is one of a list there twice? -/
def dupB {α : Type} [DecidableEq α] : List α → Bool
  | [] => false
  | x :: l => l.contains x || dupB l
/-- .. said from the front: one that was there. -/
theorem dupB_snoc {α : Type} [DecidableEq α] : ∀ (l : List α) (x : α), dupB (l ++ [x]) = (dupB l || l.contains x)
  | [], x => by simp [dupB]
  | y :: l, x => by
    rw [List.cons_append, dupB, dupB, dupB_snoc l x]
    simp only [List.contains_eq_mem, List.mem_append, List.mem_cons]
    by_cases h1 : y ∈ l <;> by_cases h2 : x ∈ l <;> by_cases h3 : y = x <;> cases dupB l <;> simp [h1, h2, h3, eq_comm]
theorem dupB_app {α : Type} [DecidableEq α] (l r : List α) (h : dupB l = true) : dupB (l ++ r) = true := by
  induction l with
  | nil => cases h
  | cons x l ih =>
    rw [List.cons_append, dupB]
    rw [dupB] at h
    rcases Bool.or_eq_true _ _ ▸ h with h | h
    · simp only [List.contains_eq_mem, decide_eq_true_eq] at h
      simp [h]
    · simp [ih h]
theorem dupB_hit {α : Type} [DecidableEq α] {l : List α} {k : Nat} {x : α} (hx : l[k]? = some x) (h : x ∈ l.take k) : dupB l = true := by
  have h1 : dupB (l.take (k + 1)) = true := by
    rw [List.take_add_one, hx, Option.toList_some, dupB_snoc]
    simp [h]
  have := dupB_app (l.take (k + 1)) (l.drop (k + 1)) h1
  rwa [List.take_append_drop] at this
theorem dupB_miss {α : Type} [DecidableEq α] {l : List α} {k : Nat} {x : α} (hx : l[k]? = some x) (h : x ∉ l.take k) (hd : dupB (l.take k) = false) : dupB (l.take (k + 1)) = false := by
  rw [List.take_add_one, hx, Option.toList_some, dupB_snoc, hd]
  simp [h]
end Go.Proofs.YtpcihhdalofdiaaGreatDoor

/- The three instances of obj.twice. Printed by gen_twice.py. -/
namespace Go.Proofs.YtpcihhdalofdiaaGreatDoor
open Go Go.RowKit Go.Maps
def intE (x : Int) : List Value := [.int .i64 x]
theorem intE_len (x : Int) : (intE x).length = 1 := rfl
theorem law_string : Keyed Tryz.prog 9 := string_keyed Tryz.underlying9
theorem law_int : Keyed Tryz.prog 3 := int_keyed Tryz.underlying3
theorem laid_out : laidOutB Tryz.prog = true := by kernel_rfl
theorem row_fun : 77 < Tryz.prog.types.size := of_decide_eq_true (by kernel_rfl)
theorem key_fun : Tryz.prog.keyTypeAt 2 77 = true := by kernel_rfl
set_option maxRecDepth 100000 in
theorem law_fun0 : WideMaps.KeyLaw Tryz.prog 77 := deep_law_laid laid_out (m := 2) (by omega) row_fun key_fun (by kernel_rfl)
theorem law_fun : Keyed Tryz.prog 77 := Keyed.of_law law_fun0

theorem kvInj_Str {a b : ByteArray} (h : Value.string a = .string b) : a = b := by
  injection h
set_option maxHeartbeats 800000 in
theorem twiceStr_any (A : Option Addr) (n c : Nat) (l : List ByteArray) (w : World) (hl : l.length = n) (hn : n ≤ 65536) (hA : Rd w A (l.flatMap strE)) (hkey : ∀ x ∈ l, ∃ lit, keyOf Tryz.prog 9 (.string x) = some lit) :
    Calls Tryz.prog 26 #[.slice A n c] w fun e w' => e = .returned (.bool (dupB l)) ∧ Keeps w w' [] := by
  have HL := Lib.hid hl
  have HA := Lib.hid hA
  have HK := Lib.hid hkey
  clear hl hA hkey
  have hmm := @run_makeMap Tryz.prog
  go_enter Tryz.func26, Tryz.ntmps26
  go_wp2_with fail
  go_loopw [9] (fun i wr => ∃ k : Nat, k ≤ n ∧ i = .int .i64 k ∧ SetIs wr Tryz.prog 9 w.heap.size ((l.take k).map fun x => Value.string x) ∧ Hid (dupB (l.take k) = false) ∧ Keeps w wr []) (fun i _ => n - (intOf i).toNat)
  case atStart => exact ⟨0, Nat.zero_le _, rfl, SetIs.new _ _ _, rfl, (Keeps.refl _ _).alloc _⟩
  case round =>
    obtain ⟨k, hk, rfl, hset, HD, hkeep⟩ := hrel
    have HSet := Lib.hid hset
    have HKeep := Lib.hid hkeep
    clear hset hkeep hmm
    by_cases hlt : k < n
    · obtain ⟨x, hx⟩ := at_of HL.out hlt
      obtain ⟨b, off, rfl, hb, hc⟩ := HA.out.field strE_len hx (by omega)
      have HX := Lib.hid hx
      clear hx
      have q0 : wr.cell? ⟨b, off + k * 1, none⟩ = some _ := (HKeep.out.cell0 hb).trans (hc 0 _ rfl)
      rw [Nat.mul_one] at q0
      clear hc
      obtain ⟨lit, hlit⟩ := HK.out x (List.mem_of_getElem? HX.out)
      have HLit := Lib.hid hlit
      clear hlit
      rcases SetIs.look (T := 115) (HSet.out.keep (w' := wr) (Keeps.refl _ []) (by simp)) law_string Tryz.underlying115 (by kernel_rfl) HLit.out with ⟨hlook, hno⟩ | ⟨hlook, hyes⟩
      · have HN : Hid (x ∉ l.take k) := fun hm => hno (List.mem_map.2 ⟨x, hm, rfl⟩)
        have HD2 : Hid (dupB (l.take (k + 1)) = false) := dupB_miss HX.out HN.out HD.out
        obtain ⟨w2, hst, hset2, hk2⟩ := SetIs.store (T := 115) (HSet.out.keep (w' := wr) (Keeps.refl _ []) (by simp)) law_string Tryz.underlying115 HLit.out hno
        have HSet2 := Lib.hid hset2
        have HK2 := Lib.hid hk2
        clear hno hset2 hk2
        go_wp2_with fail
        go_roundw
        case rel =>
          refine ⟨k + 1, by omega, by go_num, ?_, HD2, ?_⟩
          · rw [List.take_add_one, HX.out, Option.toList_some, List.map_append]
            exact HSet2.out
          · have kk : Keeps w w2 [w.heap.size] := ((HKeep.out.trans (Keeps.refl _ [])).to_ _).trans HK2.out
            exact ⟨kk.os, kk.tape, kk.output, kk.size, fun j hj _ => kk.block j hj (by simp; omega)⟩
        case measure => simp [intOf]; omega
      · have HI : Hid (dupB l = true) := by
          obtain ⟨y, hy, he⟩ := List.mem_map.1 hyes
          have := kvInj_Str he
          subst this
          exact dupB_hit HX.out hy
        clear hyes
        go_wp2_with fail
        go_ret
        exact ⟨by rw [HI.out]; rfl, HKeep.out.trans (Keeps.refl _ [])⟩
    · obtain rfl : n = k := by omega
      have HI : Hid (dupB l = false) := by
        have := HD.out
        rwa [List.take_of_length_le (by rw [HL.out]; exact Nat.le_refl _)] at this
      go_wp2_with fail
      go_ret
      exact ⟨by rw [HI.out]; rfl, HKeep.out⟩

theorem kvInj_Int {a b : Int} (h : Value.int .i64 a = .int .i64 b) : a = b := by
  injection h
set_option maxHeartbeats 800000 in
theorem twiceInt_any (A : Option Addr) (n c : Nat) (l : List Int) (w : World) (hl : l.length = n) (hn : n ≤ 65536) (hA : Rd w A (l.flatMap intE)) (hkey : ∀ x ∈ l, ∃ lit, keyOf Tryz.prog 3 (.int .i64 x) = some lit) :
    Calls Tryz.prog 59 #[.slice A n c] w fun e w' => e = .returned (.bool (dupB l)) ∧ Keeps w w' [] := by
  have HL := Lib.hid hl
  have HA := Lib.hid hA
  have HK := Lib.hid hkey
  clear hl hA hkey
  have hmm := @run_makeMap Tryz.prog
  go_enter Tryz.func59, Tryz.ntmps59
  go_wp2_with fail
  go_loopw [9] (fun i wr => ∃ k : Nat, k ≤ n ∧ i = .int .i64 k ∧ SetIs wr Tryz.prog 3 w.heap.size ((l.take k).map fun x => Value.int .i64 x) ∧ Hid (dupB (l.take k) = false) ∧ Keeps w wr []) (fun i _ => n - (intOf i).toNat)
  case atStart => exact ⟨0, Nat.zero_le _, rfl, SetIs.new _ _ _, rfl, (Keeps.refl _ _).alloc _⟩
  case round =>
    obtain ⟨k, hk, rfl, hset, HD, hkeep⟩ := hrel
    have HSet := Lib.hid hset
    have HKeep := Lib.hid hkeep
    clear hset hkeep hmm
    by_cases hlt : k < n
    · obtain ⟨x, hx⟩ := at_of HL.out hlt
      obtain ⟨b, off, rfl, hb, hc⟩ := HA.out.field intE_len hx (by omega)
      have HX := Lib.hid hx
      clear hx
      have q0 : wr.cell? ⟨b, off + k * 1, none⟩ = some _ := (HKeep.out.cell0 hb).trans (hc 0 _ rfl)
      rw [Nat.mul_one] at q0
      clear hc
      obtain ⟨lit, hlit⟩ := HK.out x (List.mem_of_getElem? HX.out)
      have HLit := Lib.hid hlit
      clear hlit
      rcases SetIs.look (T := 84) (HSet.out.keep (w' := wr) (Keeps.refl _ []) (by simp)) law_int Tryz.underlying84 (by kernel_rfl) HLit.out with ⟨hlook, hno⟩ | ⟨hlook, hyes⟩
      · have HN : Hid (x ∉ l.take k) := fun hm => hno (List.mem_map.2 ⟨x, hm, rfl⟩)
        have HD2 : Hid (dupB (l.take (k + 1)) = false) := dupB_miss HX.out HN.out HD.out
        obtain ⟨w2, hst, hset2, hk2⟩ := SetIs.store (T := 84) (HSet.out.keep (w' := wr) (Keeps.refl _ []) (by simp)) law_int Tryz.underlying84 HLit.out hno
        have HSet2 := Lib.hid hset2
        have HK2 := Lib.hid hk2
        clear hno hset2 hk2
        go_wp2_with fail
        go_roundw
        case rel =>
          refine ⟨k + 1, by omega, by go_num, ?_, HD2, ?_⟩
          · rw [List.take_add_one, HX.out, Option.toList_some, List.map_append]
            exact HSet2.out
          · have kk : Keeps w w2 [w.heap.size] := ((HKeep.out.trans (Keeps.refl _ [])).to_ _).trans HK2.out
            exact ⟨kk.os, kk.tape, kk.output, kk.size, fun j hj _ => kk.block j hj (by simp; omega)⟩
        case measure => simp [intOf]; omega
      · have HI : Hid (dupB l = true) := by
          obtain ⟨y, hy, he⟩ := List.mem_map.1 hyes
          have := kvInj_Int he
          subst this
          exact dupB_hit HX.out hy
        clear hyes
        go_wp2_with fail
        go_ret
        exact ⟨by rw [HI.out]; rfl, HKeep.out.trans (Keeps.refl _ [])⟩
    · obtain rfl : n = k := by omega
      have HI : Hid (dupB l = false) := by
        have := HD.out
        rwa [List.take_of_length_le (by rw [HL.out]; exact Nat.le_refl _)] at this
      go_wp2_with fail
      go_ret
      exact ⟨by rw [HI.out]; rfl, HKeep.out⟩

theorem kvInj_Fun {a b : LFun} (h : Value.agg #[.string a.name, .int .i64 a.arity] = .agg #[.string b.name, .int .i64 b.arity]) : a = b := by
  cases a
  cases b
  simpa using h
set_option maxHeartbeats 800000 in
theorem twiceFun_any (A : Option Addr) (n c : Nat) (l : List LFun) (w : World) (hl : l.length = n) (hn : n ≤ 65536) (hA : Rd w A (l.flatMap funE)) (hkey : ∀ x ∈ l, ∃ lit, keyOf Tryz.prog 77 (.agg #[.string x.name, .int .i64 x.arity]) = some lit) :
    Calls Tryz.prog 27 #[.slice A n c] w fun e w' => e = .returned (.bool (dupB l)) ∧ Keeps w w' [] := by
  have HL := Lib.hid hl
  have HA := Lib.hid hA
  have HK := Lib.hid hkey
  clear hl hA hkey
  have hmm := @run_makeMap Tryz.prog
  go_enter Tryz.func27, Tryz.ntmps27
  go_wp2_with fail
  go_loopw [9] (fun i wr => ∃ k : Nat, k ≤ n ∧ i = .int .i64 k ∧ SetIs wr Tryz.prog 77 w.heap.size ((l.take k).map fun x => Value.agg #[.string x.name, .int .i64 x.arity]) ∧ Hid (dupB (l.take k) = false) ∧ Keeps w wr []) (fun i _ => n - (intOf i).toNat)
  case atStart => exact ⟨0, Nat.zero_le _, rfl, SetIs.new _ _ _, rfl, (Keeps.refl _ _).alloc _⟩
  case round =>
    obtain ⟨k, hk, rfl, hset, HD, hkeep⟩ := hrel
    have HSet := Lib.hid hset
    have HKeep := Lib.hid hkeep
    clear hset hkeep hmm
    by_cases hlt : k < n
    · obtain ⟨x, hx⟩ := at_of HL.out hlt
      obtain ⟨b, off, rfl, hb, hc⟩ := HA.out.field funE_len hx (by omega)
      have HX := Lib.hid hx
      clear hx
      have q0 : wr.cell? ⟨b, off + k * 2, none⟩ = some _ := (HKeep.out.cell0 hb).trans (hc 0 _ rfl)
      have q1 : wr.cell? ⟨b, off + k * 2 + 1, none⟩ = some _ := (HKeep.out.cell0 hb).trans (hc 1 _ rfl)
      clear hc
      obtain ⟨lit, hlit⟩ := HK.out x (List.mem_of_getElem? HX.out)
      have HLit := Lib.hid hlit
      clear hlit
      rcases SetIs.look (T := 116) (HSet.out.keep (w' := (wr.alloc (.cells #[.string x.name, .int .i64 x.arity] 77))) ((Keeps.refl _ []).alloc _) (by simp)) law_fun Tryz.underlying116 (by kernel_rfl) HLit.out with ⟨hlook, hno⟩ | ⟨hlook, hyes⟩
      · have HN : Hid (x ∉ l.take k) := fun hm => hno (List.mem_map.2 ⟨x, hm, rfl⟩)
        have HD2 : Hid (dupB (l.take (k + 1)) = false) := dupB_miss HX.out HN.out HD.out
        obtain ⟨w2, hst, hset2, hk2⟩ := SetIs.store (T := 116) (HSet.out.keep (w' := (wr.alloc (.cells #[.string x.name, .int .i64 x.arity] 77))) ((Keeps.refl _ []).alloc _) (by simp)) law_fun Tryz.underlying116 HLit.out hno
        have HSet2 := Lib.hid hset2
        have HK2 := Lib.hid hk2
        clear hno hset2 hk2
        go_wp2_with fail
        go_roundw
        case rel =>
          refine ⟨k + 1, by omega, by go_num, ?_, HD2, ?_⟩
          · rw [List.take_add_one, HX.out, Option.toList_some, List.map_append]
            exact HSet2.out
          · have kk : Keeps w w2 [w.heap.size] := ((HKeep.out.trans ((Keeps.refl _ []).alloc _)).to_ _).trans HK2.out
            exact ⟨kk.os, kk.tape, kk.output, kk.size, fun j hj _ => kk.block j hj (by simp; omega)⟩
        case measure => simp [intOf]; omega
      · have HI : Hid (dupB l = true) := by
          obtain ⟨y, hy, he⟩ := List.mem_map.1 hyes
          have := kvInj_Fun he
          subst this
          exact dupB_hit HX.out hy
        clear hyes
        go_wp2_with fail
        go_ret
        exact ⟨by rw [HI.out]; rfl, HKeep.out.trans ((Keeps.refl _ []).alloc _)⟩
    · obtain rfl : n = k := by omega
      have HI : Hid (dupB l = false) := by
        have := HD.out
        rwa [List.take_of_length_le (by rw [HL.out]; exact Nat.le_refl _)] at this
      go_wp2_with fail
      go_ret
      exact ⟨by rw [HI.out]; rfl, HKeep.out⟩
end Go.Proofs.YtpcihhdalofdiaaGreatDoor

/- What is wrong with an object: in plain words. -/
namespace Go.Proofs.YtpcihhdalofdiaaGreatDoor
open Go.RowKit

def funOk (f : LFun) : Bool := nameOk f.name && (decide (1 ≤ f.arity) && decide (f.arity ≤ 8))
def predOk (p : LPred) : Bool := nameOk p.name && (decide (0 ≤ p.arity) && decide (p.arity ≤ 8))
def namedB (o : LObj) : Bool := o.atoms.all nameOk && (o.funs.all funOk && o.preds.all predOk)
def keyF (p : LPred) : LFun := ⟨p.name, p.arity⟩
def entB (n : Nat) (p : LPred) : Bool := p.entry == 65535 || (decide (0 ≤ p.entry) && decide (p.entry < n))
def entL (l : List LPred) : List Int := (l.filter fun p => p.entry != 65535).map (·.entry)
def entriesB (o : LObj) : Bool := o.preds.all (entB o.code.length) && !dupB (entL o.preds)
def hasB (o : LObj) (kind : Nat) (n : Int) : Bool :=
  if kind = 3 then decide (n < o.atoms.length) else if kind = 4 then decide (n < o.funs.length) else if kind = 7 then decide (n < o.preds.length) else if kind = 8 then decide (n < o.code.length) || n == 65535 else true
def argHas (o : LObj) (i : LIns) (k : Nat) : Bool := hasB o ((kindsOf i.op).getD k 0).toNat (i.arg k)
def insErr (o : LObj) (i : LIns) : Int := if opIn i.op = false then 8 else if insOk i = false then 9 else if (List.range (kindsOf i.op).length).all (argHas o i) then 0 else 9
def codeErr (o : LObj) : List LIns → Int
  | [] => 0
  | i :: r => if insErr o i = 0 then codeErr o r else insErr o i
def bigB (a f p c : Int) : Bool := (if a < f then decide (256 < f) else decide (256 < a)) || (decide (64 < p) || decide (1024 < c))
def bigO (o : LObj) : Bool := bigB o.atoms.length o.funs.length o.preds.length o.code.length
def dupO (o : LObj) : Bool := dupB o.atoms || (dupB o.funs || dupB (o.preds.map keyF))
def checkE (o : LObj) : Int := if bigO o then 2 else if namedB o = false then 7 else if dupO o then 11 else if entriesB o = false then 7 else codeErr o o.code

theorem take_all1 {α : Type} {p : α → Bool} {l : List α} {k : Nat} {x : α} (hx : l[k]? = some x) (hp : p x = true) (hb : ∀ y ∈ l.take k, p y = true) : ∀ y ∈ l.take (k + 1), p y = true := by
  intro y hy
  rw [List.take_add_one, hx] at hy
  simp at hy
  rcases hy with hy | rfl
  · exact hb y hy
  · exact hp
theorem all_of {α : Type} {p : α → Bool} {l : List α} {n : Nat} (hl : l.length = n) (h : ∀ y ∈ l.take n, p y = true) : l.all p = true := by
  rw [List.take_of_length_le (by omega)] at h
  exact List.all_eq_true.2 h
theorem all_no {α : Type} {p : α → Bool} {l : List α} {k : Nat} {x : α} (hx : l[k]? = some x) (hp : p x = false) : l.all p = false := by
  rw [List.all_eq_false]
  exact ⟨x, List.mem_of_getElem? hx, by rw [hp]; simp⟩
theorem nameOk_size {s : ByteArray} (h : nameOk s = true) : s.size ≤ 32 := by
  simp only [nameOk, Bool.and_eq_true, decide_eq_true_eq] at h
  exact h.1.1.2
theorem key_string {s : ByteArray} (h : s.size ≤ 32) : ∃ l, keyOf Tryz.prog 9 (.string s) = some l :=
  ⟨_, WideMaps.keyOf_string_mk Tryz.underlying9 (by unfold maxLen; omega)⟩
theorem key_int {x : Int} (h0 : -9223372036854775808 ≤ x) (h1 : x ≤ 9223372036854775807) : ∃ l, keyOf Tryz.prog 3 (.int .i64 x) = some l :=
  ⟨_, Maps.keyOf_int_mk Tryz.underlying3 (WalkArith.wf_i64 (by omega))⟩
theorem codeErr_step {o : LObj} {l : List LIns} {k : Nat} {i : LIns} (hx : l[k]? = some i) (h : codeErr o l = codeErr o (l.drop k)) (h0 : insErr o i = 0) : codeErr o l = codeErr o (l.drop (k + 1)) := by
  rw [h, List.drop_eq_getElem_cons (List.getElem?_eq_some_iff.1 hx).1, codeErr, (List.getElem?_eq_some_iff.1 hx).2, if_pos h0]
theorem codeErr_stop {o : LObj} {l : List LIns} {k : Nat} {i : LIns} (hx : l[k]? = some i) (h : codeErr o l = codeErr o (l.drop k)) (h0 : insErr o i ≠ 0) : codeErr o l = insErr o i := by
  rw [h, List.drop_eq_getElem_cons (List.getElem?_eq_some_iff.1 hx).1, codeErr, (List.getElem?_eq_some_iff.1 hx).2, if_neg h0]
theorem codeErr_end {o : LObj} {l : List LIns} {n : Nat} (hl : l.length = n) (h : codeErr o l = codeErr o (l.drop n)) : codeErr o l = 0 := by
  rw [h, List.drop_eq_nil_of_le (by omega), codeErr]
theorem fun_formed (s : ByteArray) (a : Int) : (Value.agg #[.string s, .int .i64 a]).formed Tryz.prog 77 = true := by kernel_rfl
set_option maxRecDepth 100000 in
theorem key_fun_mk {s : ByteArray} {a : Int} (h : s.size ≤ 32) (h0 : -9223372036854775808 ≤ a) (h1 : a ≤ 9223372036854775807) : ∃ l, keyOf Tryz.prog 77 (.agg #[.string s, .int .i64 a]) = some l := by
  have hw : (Lit.int .i64 a).wf = true := WalkArith.wf_i64 (by omega)
  have hs : s.size ≤ maxLen := by unfold maxLen; omega
  obtain ⟨m, hm⟩ : ∃ m, Tryz.prog.types.size = m + 1 := ⟨Tryz.prog.types.size - 1, by have := row_fun; omega⟩
  have hkt : Tryz.prog.keyType 77 = true := by kernel_rfl
  have hf : (Value.agg #[.string s, .int .i64 a]).formed Tryz.prog 77 = true := fun_formed s a
  have c1 : Tryz.prog.cellsOf 77 = 2 := by kernel_rfl
  have c2 : Tryz.prog.cellsOf 9 = 1 := by kernel_rfl
  have c3 : Tryz.prog.cellsOf 3 = 1 := by kernel_rfl
  have u1 := Tryz.underlying9
  have u2 := Tryz.underlying3
  unfold keyOf
  simp only [Tryz.underlying77]
  rw [if_pos (by rw [hkt, hf]; rfl), hm]
  unfold Program.keyLits
  simp only [Tryz.underlying77, Value.cells]
  rw [if_pos ⟨by rw [c1]; rfl, by decide +kernel⟩]
  simp [c2, c3, Program.keyLits, u1, u2, hw, hs]
end Go.Proofs.YtpcihhdalofdiaaGreatDoor

/- The law's To and From. -/
namespace Go.Proofs.YtpcihhdalofdiaaGreatDoor
open Go.RowKit

theorem el_string : ElemT Tryz.prog 22 9 1 := elemT_of (b := 16) (z := .string ⟨#[]⟩) Tryz.underlying22 (by kernel_rfl) (by omega) rfl (by omega)
theorem el_pfun : ElemT Tryz.prog 25 77 2 := elemT_of (b := 24) (z := .agg #[.string ⟨#[]⟩, .int .i64 0]) Tryz.underlying25 (by kernel_rfl) (by omega) rfl (by omega)
/-- What stands in a round of To and From: the argument's box, the object that is made (its four rows), the result's block. tb, tg: the two objects' types; tf, tp, ti: the new elements'. -/
structure ToSt (tb tg tf tp ti : TypeId) (w wr : World) (box rb g : Nat) (args : Array Value) (o : LObj) (A1 A2 A3 A4 : Option Addr) (n1 k2 k3 k4 c1 c2 c3 c4 : Nat) : Prop where
  blk : Blk wr box tb args
  res : Blk wr rb tg #[.slice none 0 0, .slice none 0 0, .slice none 0 0, .slice none 0 0]
  out : Blk wr g tg #[.slice A1 n1 c1, .slice A2 k2 c2, .slice A3 k3 c3, .slice A4 k4 c4]
  r1 : wr.ownsRow w.heap.size 9 1 (.slice A1 n1 c1) n1 (o.atoms.flatMap strE)
  r2 : wr.ownsRow w.heap.size tf 2 (.slice A2 k2 c2) k2 ((o.funs.take k2).flatMap funE)
  r3 : wr.ownsRow w.heap.size tp 3 (.slice A3 k3 c3) k3 ((o.preds.take k3).flatMap predE)
  r4 : wr.ownsRow w.heap.size ti 5 (.slice A4 k4 c4) k4 ((o.code.take k4).flatMap insE)
  keep : Keeps w wr []
  low : w.heap.size ≤ box ∧ w.heap.size ≤ g ∧ w.heap.size ≤ rb ∧ rb ≠ g
/-- The types that differ. -/
structure ToTy (tb tg tf tp ti : TypeId) : Prop where
  bg : tb ≠ tg
  b : tb ≠ 9 ∧ tb ≠ tf ∧ tb ≠ tp ∧ tb ≠ ti
  g : tg ≠ 9 ∧ tg ≠ tf ∧ tg ≠ tp ∧ tg ≠ ti
  s : 9 ≠ tf ∧ 9 ≠ tp ∧ 9 ≠ ti
  e : tf ≠ tp ∧ tf ≠ ti ∧ tp ≠ ti

theorem own_set {w : World} {base n size : Nat} {e t : TypeId} {v : Value} {xs : List Value} {cs : Array Value} (h : w.ownsRow base e size v n xs) {g : Nat} (hb : Blk w g t cs) (hne : t ≠ e) (i : Nat) (u : Value) : (w.setCell ⟨g, i, none⟩ u).ownsRow base e size v n xs := by
  refine ⟨h.1, ?_⟩
  rcases h.2 with h2 | ⟨g2, cap, cur, he, hb2, hg, r⟩
  · exact .inl h2
  · refine .inr ⟨g2, cap, cur, he, hb2, (Below.heap_setCell _ _ _ _ ?_).trans hg, r⟩
    rintro rfl
    unfold Blk at hb
    rw [hb] at hg
    simp at hg
    exact hne hg.2

section
variable {tb tg tf tp ti : TypeId} {w wr : World} {box rb g : Nat} {args : Array Value} {o : LObj} {A1 A2 A3 A4 : Option Addr} {n1 k2 k3 k4 c1 c2 c3 c4 : Nat}
theorem ToSt.keep0 (s : ToSt tb tg tf tp ti w wr box rb g args o A1 A2 A3 A4 n1 k2 k3 k4 c1 c2 c3 c4) {W : World} (k : Keeps wr W []) : ToSt tb tg tf tp ti w W box rb g args o A1 A2 A3 A4 n1 k2 k3 k4 c1 c2 c3 c4 :=
  ⟨s.blk.keep k (by simp), s.res.keep k (by simp), s.out.keep k (by simp), own_keep0 s.r1 k, own_keep0 s.r2 k, own_keep0 s.r3 k, own_keep0 s.r4 k, s.keep.trans k, s.low⟩
theorem ToSt.step2 (ty : ToTy tb tg tf tp ti) (s0 : ToSt tb tg tf tp ti w wr box rb g args o A1 A2 A3 A4 n1 k2 k3 k4 c1 c2 c3 c4) {W W2 : World} (k : Keeps wr W []) {f : LFun} (hf : o.funs[k2]? = some f) {A' : Option Addr} {c' : Nat}
    (hown : W2.ownsRow w.heap.size tf 2 (.slice A' (k2 + 1) c') (k2 + 1) ((o.funs.take k2).flatMap funE ++ funE f)) (hg : W.grownBy W2 (Value.slice A2 k2 c2).ownBlock) :
    ToSt tb tg tf tp ti w (W2.setCell ⟨g, 1, none⟩ (.slice A' (k2 + 1) c')) box rb g args o A1 A' A3 A4 n1 (k2 + 1) k3 k4 c1 c' c3 c4 := by
  have s := s0.keep0 k
  have b := blk_far s.blk s.r2 ty.b.2.1 hg
  have r := blk_far s.res s.r2 ty.g.2.1 hg
  have u := blk_far s.out s.r2 ty.g.2.1 hg
  refine ⟨b.far (fun e => ?_) _, r.far s.low.2.2.2 _, by have := u.set_ 1 (.slice A' (k2 + 1) c'); simpa using this, own_set (own_far s.r1 s.r2 ty.s.1 hg) u ty.g.1 _ _, ?_, own_set (own_far s.r3 s.r2 (Ne.symm ty.e.1) hg) u ty.g.2.2.1 _ _, own_set (own_far s.r4 s.r2 (Ne.symm ty.e.2.1) hg) u ty.g.2.2.2 _ _, (s.keep.app s.r2 (Nat.le_refl _) hg).setCell (.inr s.low.2.1) _, s.low⟩
  · exact s.blk.ne_ s.out ty.bg e
  · rw [flat_snoc hf]
    exact own_set hown u ty.g.2.1 _ _
theorem ToSt.step3 (ty : ToTy tb tg tf tp ti) (s0 : ToSt tb tg tf tp ti w wr box rb g args o A1 A2 A3 A4 n1 k2 k3 k4 c1 c2 c3 c4) {W W2 : World} (k : Keeps wr W []) {f : LPred} (hf : o.preds[k3]? = some f) {A' : Option Addr} {c' : Nat}
    (hown : W2.ownsRow w.heap.size tp 3 (.slice A' (k3 + 1) c') (k3 + 1) ((o.preds.take k3).flatMap predE ++ predE f)) (hg : W.grownBy W2 (Value.slice A3 k3 c3).ownBlock) :
    ToSt tb tg tf tp ti w (W2.setCell ⟨g, 2, none⟩ (.slice A' (k3 + 1) c')) box rb g args o A1 A2 A' A4 n1 k2 (k3 + 1) k4 c1 c2 c' c4 := by
  have s := s0.keep0 k
  have b := blk_far s.blk s.r3 ty.b.2.2.1 hg
  have r := blk_far s.res s.r3 ty.g.2.2.1 hg
  have u := blk_far s.out s.r3 ty.g.2.2.1 hg
  refine ⟨b.far (fun e => ?_) _, r.far s.low.2.2.2 _, by have := u.set_ 2 (.slice A' (k3 + 1) c'); simpa using this, own_set (own_far s.r1 s.r3 ty.s.2.1 hg) u ty.g.1 _ _, own_set (own_far s.r2 s.r3 ty.e.1 hg) u ty.g.2.1 _ _, ?_, own_set (own_far s.r4 s.r3 (Ne.symm ty.e.2.2) hg) u ty.g.2.2.2 _ _, (s.keep.app s.r3 (Nat.le_refl _) hg).setCell (.inr s.low.2.1) _, s.low⟩
  · exact s.blk.ne_ s.out ty.bg e
  · rw [flat_snoc hf]
    exact own_set hown u ty.g.2.2.1 _ _
theorem ToSt.step4 (ty : ToTy tb tg tf tp ti) (s0 : ToSt tb tg tf tp ti w wr box rb g args o A1 A2 A3 A4 n1 k2 k3 k4 c1 c2 c3 c4) {W W2 : World} (k : Keeps wr W []) {f : LIns} (hf : o.code[k4]? = some f) {A' : Option Addr} {c' : Nat}
    (hown : W2.ownsRow w.heap.size ti 5 (.slice A' (k4 + 1) c') (k4 + 1) ((o.code.take k4).flatMap insE ++ insE f)) (hg : W.grownBy W2 (Value.slice A4 k4 c4).ownBlock) :
    ToSt tb tg tf tp ti w (W2.setCell ⟨g, 3, none⟩ (.slice A' (k4 + 1) c')) box rb g args o A1 A2 A3 A' n1 k2 k3 (k4 + 1) c1 c2 c3 c' := by
  have s := s0.keep0 k
  have b := blk_far s.blk s.r4 ty.b.2.2.2 hg
  have r := blk_far s.res s.r4 ty.g.2.2.2 hg
  have u := blk_far s.out s.r4 ty.g.2.2.2 hg
  refine ⟨b.far (fun e => ?_) _, r.far s.low.2.2.2 _, by have := u.set_ 3 (.slice A' (k4 + 1) c'); simpa using this, own_set (own_far s.r1 s.r4 ty.s.2.2 hg) u ty.g.1 _ _, own_set (own_far s.r2 s.r4 ty.e.2.1 hg) u ty.g.2.1 _ _, own_set (own_far s.r3 s.r4 ty.e.2.2 hg) u ty.g.2.2.1 _ _, ?_, (s.keep.app s.r4 (Nat.le_refl _) hg).setCell (.inr s.low.2.1) _, s.low⟩
  · exact s.blk.ne_ s.out ty.bg e
  · rw [flat_snoc hf]
    exact own_set hown u ty.g.2.2.2 _ _
end

def ToDone (w : World) (o : LObj) (e : Ending) (w' : World) : Prop :=
  ∃ Aa Af Ap Ac ca cf cp cc, e = .returned (.agg #[.slice Aa o.atoms.length ca, .slice Af o.funs.length cf, .slice Ap o.preds.length cp, .slice Ac o.code.length cc]) ∧ ObIs w' o Aa Af Ap Ac ca cf cp cc ∧ Keeps w w' []
theorem own_zero {w : World} {base n c size : Nat} {e : TypeId} {xs : List Value} (h : w.ownsRow base e size (.slice none n c) n xs) : c = 0 := by
  rcases h.2 with ⟨h2, _⟩ | ⟨g2, cap, cur, he, _⟩
  · injection h2
  · injection he with he; cases he
theorem toDone_mk {tb tg tf tp ti : TypeId} (ty : ToTy tb tg tf tp ti) {w wr : World} {box rb g : Nat} {args : Array Value} {o : LObj} {A1 A2 A3 A4 : Option Addr} {n1 n2 n3 n4 c1 c2 c3 c4 : Nat} (s : ToSt tb tg tf tp ti w wr box rb g args o A1 A2 A3 A4 n1 n2 n3 n4 c1 c2 c3 c4)
    (l1 : o.atoms.length = n1) (l2 : o.funs.length = n2) (l3 : o.preds.length = n3) (l4 : o.code.length = n4) (hb : w.heap.size ≤ rb) {v0 v1 v2 v3 : Value} :
    ToDone w o (.returned (.agg #[.slice A1 n1 c1, .slice A2 n2 c2, .slice A3 n3 c3, .slice A4 n4 c4])) ((((wr.setCell ⟨rb, 0, none⟩ v0).setCell ⟨rb, 1, none⟩ v1).setCell ⟨rb, 2, none⟩ v2).setCell ⟨rb, 3, none⟩ v3) := by
  subst l1 l2 l3 l4
  have b0 := s.res
  have b1 := b0.set_ 0 v0
  have b2 := b1.set_ 1 v1
  have b3 := b2.set_ 2 v2
  have r1 := own_set (own_set (own_set (own_set s.r1 b0 ty.g.1 0 v0) b1 ty.g.1 1 v1) b2 ty.g.1 2 v2) b3 ty.g.1 3 v3
  have r2 := own_set (own_set (own_set (own_set s.r2 b0 ty.g.2.1 0 v0) b1 ty.g.2.1 1 v1) b2 ty.g.2.1 2 v2) b3 ty.g.2.1 3 v3
  have r3 := own_set (own_set (own_set (own_set s.r3 b0 ty.g.2.2.1 0 v0) b1 ty.g.2.2.1 1 v1) b2 ty.g.2.2.1 2 v2) b3 ty.g.2.2.1 3 v3
  have r4 := own_set (own_set (own_set (own_set s.r4 b0 ty.g.2.2.2 0 v0) b1 ty.g.2.2.2 1 v1) b2 ty.g.2.2.2 2 v2) b3 ty.g.2.2.2 3 v3
  rw [List.take_length] at r2 r3 r4
  refine ⟨A1, A2, A3, A4, c1, c2, c3, c4, rfl, ⟨Rd.of_own r1, Rd.of_own r2, Rd.of_own r3, Rd.of_own r4, ?_, ?_, ?_, ?_⟩, ((((s.keep.setCell (.inr hb) _).setCell (.inr hb) _).setCell (.inr hb) _).setCell (.inr hb) _)⟩
  · rintro rfl; exact own_zero r1
  · rintro rfl; exact own_zero r2
  · rintro rfl; exact own_zero r3
  · rintro rfl; exact own_zero r4
end Go.Proofs.YtpcihhdalofdiaaGreatDoor

/- The program's look at an object. -/
namespace Go.Proofs.YtpcihhdalofdiaaGreatDoor
open Go.RowKit

def ObjCalls (f : FuncId) (o : LObj) (R : World → Ending → World → Prop) : Prop :=
  ∀ (Aa Af Ap Ac : Option Addr) (na nf np nc ca cf cp cc : Nat) (w : World), ObIs w o Aa Af Ap Ac ca cf cp cc → Fits o → o.atoms.length = na → o.funs.length = nf → o.preds.length = np → o.code.length = nc →
    Calls Tryz.prog f #[.agg #[.slice Aa na ca, .slice Af nf cf, .slice Ap np cp, .slice Ac nc cc]] w (R w)
def Told (b : Bool) (w : World) (e : Ending) (w' : World) : Prop := e = .returned (.bool b) ∧ Keeps w w' []

theorem namedB_atoms {o : LObj} (h : o.atoms.all nameOk = false) : namedB o = false := by simp [namedB, h]
theorem namedB_funs {o : LObj} (h : o.funs.all funOk = false) : namedB o = false := by simp [namedB, h]
theorem namedB_preds {o : LObj} (h : o.preds.all predOk = false) : namedB o = false := by simp [namedB, h]
theorem namedB_all {o : LObj} (h1 : o.atoms.all nameOk = true) (h2 : o.funs.all funOk = true) (h3 : o.preds.all predOk = true) : namedB o = true := by simp only [namedB, h1, h2, h3]; rfl
/-- What stands in a round: the object's box, and what was there. -/
structure BoxSt (w wr : World) (bx : Nat) (t : TypeId) (cs : Array Value) : Prop where
  blk : Blk wr bx t cs
  keep : Keeps w wr []
theorem BoxSt.go {w wr W : World} {bx : Nat} {t : TypeId} {cs : Array Value} (s : BoxSt w wr bx t cs) (k : Keeps wr W []) : BoxSt w W bx t cs := ⟨s.blk.keep k (by simp), s.keep.trans k⟩

set_option maxRecDepth 100000 in
set_option maxHeartbeats 1600000 in
theorem named_any (o : LObj) : ObjCalls 25 o (Told (namedB o)) := by
  intro Aa Af Ap Ac na nf np nc ca cf cp cc w h hf la lf lp lc
  have H := Lib.hid h
  have ga := hf.atoms
  have gf := hf.funs
  have gp := hf.preds
  rw [la] at ga
  rw [lf] at gf
  rw [lp] at gp
  have La := Lib.hid la
  have Lf := Lib.hid lf
  have Lp := Lib.hid lp
  clear h hf la lf lp lc
  go_enter Tryz.func25, Tryz.ntmps25
  go_wp2_with fail
  have st : BoxSt w (w.alloc (.cells #[.slice Aa na ca, .slice Af nf cf, .slice Ap np cp, .slice Ac nc cc] 31)) w.heap.size 31 #[.slice Aa na ca, .slice Af nf cf, .slice Ap np cp, .slice Ac nc cc] := ⟨Blk.new _ _ _, (Keeps.refl _ []).alloc _⟩
  have HST := Lib.hid st
  clear st
  go_loopw [13] (fun i wr => ∃ k : Nat, k ≤ na ∧ i = .int .i64 k ∧ Hid (∀ y ∈ o.atoms.take k, nameOk y = true) ∧ BoxSt w wr w.heap.size 31 #[.slice Aa na ca, .slice Af nf cf, .slice Ap np cp, .slice Ac nc cc]) (fun i _ => na - (intOf i).toNat)
  case atStart => exact ⟨0, Nat.zero_le _, rfl, fun y hy => by simp at hy, HST.out⟩
  case round =>
    obtain ⟨k, hk, rfl, HP, st⟩ := hrel
    have HS := Lib.hid st
    clear st HST
    by_cases hlt : k < na
    · obtain ⟨x, hx⟩ := at_of La.out hlt
      obtain ⟨b, off, rfl, hb, hc⟩ := (H.out.atoms).field strE_len hx (by omega)
      have HX := Lib.hid hx
      have q0 : wr.cell? ⟨b, off + k * 1, none⟩ = some _ := (HS.out.keep.cell0 hb).trans (hc 0 _ rfl)
      rw [Nat.mul_one] at q0
      clear hx hc
      have hcall := name_any x
      cases hv : nameOk x
      all_goals
        rw [hv] at hcall
        have HC := Lib.hid hcall
        clear hcall
      · have HI := Lib.hid (namedB_atoms (all_no HX.out hv))
        go_wp2_with (go_at_call 58; refine (HC.out _).mono ?_; rintro e w2 ⟨rfl, k2⟩)
        go_ret
        exact ⟨by rw [HI.out]; rfl, HS.out.keep.trans k2⟩
      · have HP2 := Lib.hid (take_all1 HX.out hv HP.out)
        go_wp2_with (go_at_call 58; refine (HC.out _).mono ?_; rintro e w2 ⟨rfl, k2⟩)
        go_roundw
        case rel => exact ⟨k + 1, by omega, by go_num, HP2.out, HS.out.go k2⟩
        case measure => simp [intOf]; omega
    · obtain rfl : na = k := by omega
      have HP1 := Lib.hid (all_of La.out HP.out)
      clear hlt hk HP
      have c1 := HS.out.blk.cell 1
      go_wp2_with fail
      clear c1
      go_loopw [25] (fun i wr => ∃ k : Nat, k ≤ nf ∧ i = .int .i64 k ∧ Hid (∀ y ∈ o.funs.take k, funOk y = true) ∧ BoxSt w wr w.heap.size 31 #[.slice Aa na ca, .slice Af nf cf, .slice Ap np cp, .slice Ac nc cc]) (fun i _ => nf - (intOf i).toNat)
      case atStart => exact ⟨0, Nat.zero_le _, rfl, fun y hy => by simp at hy, HS.out⟩
      case round =>
        obtain ⟨k, hk, rfl, HP, st⟩ := hrel
        clear HS
        have HS := Lib.hid st
        clear st
        by_cases hlt : k < nf
        · obtain ⟨x, hx⟩ := at_of Lf.out hlt
          obtain ⟨b, off, rfl, hb, hc⟩ := (H.out.funs).field funE_len hx (by omega)
          have HX := Lib.hid hx
          have q0 : wr.cell? ⟨b, off + k * 2, none⟩ = some _ := (HS.out.keep.cell0 hb).trans (hc 0 _ rfl)
          have q1 : wr.cell? ⟨b, off + k * 2 + 1, none⟩ = some _ := (HS.out.keep.cell0 hb).trans (hc 1 _ rfl)
          clear hx hc
          have hcall := name_any x.name
          have HF : Hid (funOk x = (nameOk x.name && (decide (1 ≤ x.arity) && decide (x.arity ≤ 8)))) := rfl
          cases hv : nameOk x.name
          all_goals
            rw [hv] at hcall HF
            have HC := Lib.hid hcall
            clear hcall
          · have HI := Lib.hid (namedB_funs (all_no HX.out HF.out))
            go_wp2_with (go_at_call 58; refine (HC.out _).mono ?_; rintro e w2 ⟨rfl, k2⟩)
            go_ret
            exact ⟨by rw [HI.out]; rfl, HS.out.keep.trans (((Keeps.refl _ []).alloc _).trans k2)⟩
          · by_cases a1 : x.arity < 1
            · have d1 : decide (x.arity < 1) = true := by simpa using a1
              have HI := Lib.hid (namedB_funs (all_no HX.out (HF.out.trans (by simp; omega))))
              clear a1
              go_wp2_with (go_at_call 58; refine (HC.out _).mono ?_; rintro e w2 ⟨rfl, k2⟩; have q2 := ((Blk.new wr 77 #[.string x.name, .int .i64 x.arity]).keep k2 (by simp)).cell 1)
              go_ret
              exact ⟨by rw [HI.out]; rfl, HS.out.keep.trans (((Keeps.refl _ []).alloc _).trans k2)⟩
            · have d1 : decide (x.arity < 1) = false := by simpa using a1
              by_cases a2 : 8 < x.arity
              · have d2 : decide (8 < x.arity) = true := by simpa using a2
                have HI := Lib.hid (namedB_funs (all_no HX.out (HF.out.trans (by simp; omega))))
                clear a1 a2
                go_wp2_with (go_at_call 58; refine (HC.out _).mono ?_; rintro e w2 ⟨rfl, k2⟩; have q2 := ((Blk.new wr 77 #[.string x.name, .int .i64 x.arity]).keep k2 (by simp)).cell 1)
                go_ret
                exact ⟨by rw [HI.out]; rfl, HS.out.keep.trans (((Keeps.refl _ []).alloc _).trans k2)⟩
              · have d2 : decide (8 < x.arity) = false := by simpa using a2
                have HP2 := Lib.hid (take_all1 HX.out (HF.out.trans (by simp; omega)) HP.out)
                clear a1 a2
                go_wp2_with (go_at_call 58; refine (HC.out _).mono ?_; rintro e w2 ⟨rfl, k2⟩; have q2 := ((Blk.new wr 77 #[.string x.name, .int .i64 x.arity]).keep k2 (by simp)).cell 1)
                go_roundw
                case rel => exact ⟨k + 1, by omega, by go_num, HP2.out, (HS.out.go ((Keeps.refl _ []).alloc _)).go k2⟩
                case measure => simp [intOf]; omega
        · obtain rfl : nf = k := by omega
          have HP3 := Lib.hid (all_of Lf.out HP.out)
          clear hlt hk HP
          have c1 := HS.out.blk.cell 2
          go_wp2_with fail
          clear c1
          go_loopw [47] (fun i wr => ∃ k : Nat, k ≤ np ∧ i = .int .i64 k ∧ Hid (∀ y ∈ o.preds.take k, predOk y = true) ∧ BoxSt w wr w.heap.size 31 #[.slice Aa na ca, .slice Af nf cf, .slice Ap np cp, .slice Ac nc cc]) (fun i _ => np - (intOf i).toNat)
          case atStart => exact ⟨0, Nat.zero_le _, rfl, fun y hy => by simp at hy, HS.out⟩
          case round =>
            obtain ⟨k, hk, rfl, HP, st⟩ := hrel
            clear HS
            have HS := Lib.hid st
            clear st
            by_cases hlt : k < np
            · obtain ⟨x, hx⟩ := at_of Lp.out hlt
              obtain ⟨b, off, rfl, hb, hc⟩ := (H.out.preds).field predE_len hx (by omega)
              have HX := Lib.hid hx
              have q0 : wr.cell? ⟨b, off + k * 3, none⟩ = some _ := (HS.out.keep.cell0 hb).trans (hc 0 _ rfl)
              have q1 : wr.cell? ⟨b, off + k * 3 + 1, none⟩ = some _ := (HS.out.keep.cell0 hb).trans (hc 1 _ rfl)
              have q3 : wr.cell? ⟨b, off + k * 3 + 2, none⟩ = some _ := (HS.out.keep.cell0 hb).trans (hc 2 _ rfl)
              clear hx hc
              have hcall := name_any x.name
              have HF : Hid (predOk x = (nameOk x.name && (decide (0 ≤ x.arity) && decide (x.arity ≤ 8)))) := rfl
              cases hv : nameOk x.name
              all_goals
                rw [hv] at hcall HF
                have HC := Lib.hid hcall
                clear hcall
              · have HI := Lib.hid (namedB_preds (all_no HX.out HF.out))
                go_wp2_with (go_at_call 58; refine (HC.out _).mono ?_; rintro e w2 ⟨rfl, k2⟩)
                go_ret
                exact ⟨by rw [HI.out]; rfl, HS.out.keep.trans (((Keeps.refl _ []).alloc _).trans k2)⟩
              · by_cases a1 : x.arity < 0
                · have d1 : decide (x.arity < 0) = true := by simpa using a1
                  have HI := Lib.hid (namedB_preds (all_no HX.out (HF.out.trans (by simp; omega))))
                  clear a1
                  go_wp2_with (go_at_call 58; refine (HC.out _).mono ?_; rintro e w2 ⟨rfl, k2⟩; have q2 := ((Blk.new wr 52 #[.string x.name, .int .i64 x.arity, .int .i64 x.entry]).keep k2 (by simp)).cell 1)
                  go_ret
                  exact ⟨by rw [HI.out]; rfl, HS.out.keep.trans (((Keeps.refl _ []).alloc _).trans k2)⟩
                · have d1 : decide (x.arity < 0) = false := by simpa using a1
                  by_cases a2 : 8 < x.arity
                  · have d2 : decide (8 < x.arity) = true := by simpa using a2
                    have HI := Lib.hid (namedB_preds (all_no HX.out (HF.out.trans (by simp; omega))))
                    clear a1 a2
                    go_wp2_with (go_at_call 58; refine (HC.out _).mono ?_; rintro e w2 ⟨rfl, k2⟩; have q2 := ((Blk.new wr 52 #[.string x.name, .int .i64 x.arity, .int .i64 x.entry]).keep k2 (by simp)).cell 1)
                    go_ret
                    exact ⟨by rw [HI.out]; rfl, HS.out.keep.trans (((Keeps.refl _ []).alloc _).trans k2)⟩
                  · have d2 : decide (8 < x.arity) = false := by simpa using a2
                    have HP2 := Lib.hid (take_all1 HX.out (HF.out.trans (by simp; omega)) HP.out)
                    clear a1 a2
                    go_wp2_with (go_at_call 58; refine (HC.out _).mono ?_; rintro e w2 ⟨rfl, k2⟩; have q2 := ((Blk.new wr 52 #[.string x.name, .int .i64 x.arity, .int .i64 x.entry]).keep k2 (by simp)).cell 1)
                    go_roundw
                    case rel => exact ⟨k + 1, by omega, by go_num, HP2.out, (HS.out.go ((Keeps.refl _ []).alloc _)).go k2⟩
                    case measure => simp [intOf]; omega
            · obtain rfl : np = k := by omega
              have HI := Lib.hid (namedB_all HP1.out HP3.out (all_of Lp.out HP.out))
              go_wp2_with fail
              go_ret
              exact ⟨by rw [HI.out]; rfl, HS.out.keep⟩
end Go.Proofs.YtpcihhdalofdiaaGreatDoor

/- The program's look at an object: its keys and entries. -/
namespace Go.Proofs.YtpcihhdalofdiaaGreatDoor
open Go.RowKit

theorem BoxSt.app {w wr W W2 : World} {bx base n size : Nat} {t e : TypeId} {cs : Array Value} {v : Value} {xs : List Value} (s : BoxSt w wr bx t cs) (k : Keeps wr W []) (ho : W.ownsRow base e size v n xs) (hb : w.heap.size ≤ base) (hne : t ≠ e) (hg : W.grownBy W2 v.ownBlock) : BoxSt w W2 bx t cs :=
  ⟨blk_far (s.blk.keep k (by simp)) ho hne hg, (s.keep.trans k).app ho hb hg⟩
set_option maxHeartbeats 400000 in
theorem big_any (a f p c : Nat) (w : World) : Calls Tryz.prog 24 #[.int .i64 a, .int .i64 f, .int .i64 p, .int .i64 c] w fun e w' => e = .returned (.bool (bigB a f p c)) ∧ w = w' := by
  by_cases h : a < f
  · have HI : Hid (bigB a f p c = (decide (256 < (f : Int)) || (decide (64 < (p : Int)) || decide (1024 < (c : Int))))) := by show _ = _; rw [bigB, if_pos (by omega)]
    cases d1 : decide (256 < (f : Int)) <;> cases d2 : decide (64 < (p : Int)) <;> cases d3 : decide (1024 < (c : Int)) <;>
    (rw [d1, d2, d3] at HI
     go_enter Tryz.func24, Tryz.ntmps24
     go_wp2_with fail
     go_ret
     exact ⟨by rw [HI.out]; rfl, rfl⟩)
  · have HI : Hid (bigB a f p c = (decide (256 < (a : Int)) || (decide (64 < (p : Int)) || decide (1024 < (c : Int))))) := by show _ = _; rw [bigB, if_neg (by omega)]
    cases d1 : decide (256 < (a : Int)) <;> cases d2 : decide (64 < (p : Int)) <;> cases d3 : decide (1024 < (c : Int)) <;>
    (rw [d1, d2, d3] at HI
     go_enter Tryz.func24, Tryz.ntmps24
     go_wp2_with fail
     go_ret
     exact ⟨by rw [HI.out]; rfl, rfl⟩)

def KeysDone (o : LObj) (w : World) (e : Ending) (w' : World) : Prop := ∃ A c, e = .returned (.slice A o.preds.length c) ∧ Rd w' A ((o.preds.map keyF).flatMap funE) ∧ Keeps w w' []
theorem map_at {α β : Type} {l : List α} {k : Nat} {x : α} (f : α → β) (h : l[k]? = some x) : (l.map f)[k]? = some (f x) := by rw [List.getElem?_map, h]; rfl
set_option maxRecDepth 100000 in
set_option maxHeartbeats 800000 in
theorem keys_any (o : LObj) : ObjCalls 28 o (KeysDone o) := by
  intro Aa Af Ap Ac na nf np nc ca cf cp cc w h hf la lf lp lc
  have H := Lib.hid h
  have gp := hf.preds
  rw [lp] at gp
  have Lp := Lib.hid lp
  clear h hf la lf lp lc
  go_enter Tryz.func28, Tryz.ntmps28
  go_wp2_with fail
  have st : BoxSt w (w.alloc (.cells #[.slice Aa na ca, .slice Af nf cf, .slice Ap np cp, .slice Ac nc cc] 31)) w.heap.size 31 #[.slice Aa na ca, .slice Af nf cf, .slice Ap np cp, .slice Ac nc cc] := ⟨Blk.new _ _ _, (Keeps.refl _ []).alloc _⟩
  have HST := Lib.hid st
  clear st
  go_loopw [3, 9] (fun v i wr => ∃ k : Nat, k ≤ np ∧ i = .int .i64 k ∧ (∃ A3 c3, v = .slice A3 k c3 ∧ wr.ownsRow w.heap.size 77 2 (.slice A3 k c3) k (((o.preds.map keyF).take k).flatMap funE)) ∧ BoxSt w wr w.heap.size 31 #[.slice Aa na ca, .slice Af nf cf, .slice Ap np cp, .slice Ac nc cc]) (fun _ i _ => np - (intOf i).toNat)
  case atStart => exact ⟨0, Nat.zero_le _, rfl, ⟨none, 0, rfl, World.ownsRow_nil _ _ _ _⟩, HST.out⟩
  case round =>
    obtain ⟨k, hk, rfl, ⟨A3, c3, rfl, how⟩, st⟩ := hrel
    have HS := Lib.hid st
    have HO := Lib.hid how
    clear st HST how
    by_cases hlt : k < np
    · obtain ⟨x, hx⟩ := at_of Lp.out hlt
      obtain ⟨b, off, rfl, hb, hc⟩ := (H.out.preds).field predE_len hx (by omega)
      have HX := Lib.hid hx
      have q0 : wr.cell? ⟨b, off + k * 3, none⟩ = some _ := (HS.out.keep.cell0 hb).trans (hc 0 _ rfl)
      have q1 : wr.cell? ⟨b, off + k * 3 + 1, none⟩ = some _ := (HS.out.keep.cell0 hb).trans (hc 1 _ rfl)
      have q3 : wr.cell? ⟨b, off + k * 3 + 2, none⟩ = some _ := (HS.out.keep.cell0 hb).trans (hc 2 _ rfl)
      have hsz := HS.out.keep.size
      clear hx hc
      go_wp2_with (at_builtin; refine wpList_app _ el_pfun rfl _ _ rfl w.heap.size A3 k c3 (((o.preds.map keyF).take k).flatMap funE) rfl ((HO.out.alloc _).alloc _) (some ⟨wr.heap.size + 1, 0, none⟩) 1 1 (funE (keyF x)) rfl (by rw [← World.size_alloc]; exact Rd.one _ _ (funE (keyF x))) rfl (by simp) (by simp [funE, Value.oneCell']) (by omega) (by simp; omega) ?_; intro A' c' w2 hown hgrow hat)
      go_roundw
      case rel =>
        refine ⟨k + 1, by omega, by go_num, ⟨A', c', rfl, ?_⟩, HS.out.app (((Keeps.refl _ []).alloc _).alloc _) ((HO.out.alloc _).alloc _) (Nat.le_refl _) (by decide) hgrow⟩
        · rw [flat_snoc (map_at keyF HX.out)]; exact hown
      case measure => simp [intOf]; omega
    · obtain rfl : np = k := by omega
      have HI : Hid (KeysDone o w (.returned (.slice A3 np c3)) wr) := by
        refine ⟨A3, c3, by rw [Lp.out], ?_, HS.out.keep⟩
        have := HO.out
        rw [List.take_of_length_le (by rw [List.length_map, Lp.out]; exact Nat.le_refl _)] at this
        exact Rd.of_own this
      go_wp2_with fail
      go_ret
      exact HI.out

theorem entriesB_no {o : LObj} {k : Nat} {x : LPred} (hx : o.preds[k]? = some x) (h : entB o.code.length x = false) : entriesB o = false := by rw [entriesB, all_no hx h]; rfl
theorem entriesB_all {o : LObj} (h : o.preds.all (entB o.code.length) = true) : entriesB o = !dupB (entL o.preds) := by rw [entriesB, h]; rfl
theorem entL_snoc {l : List LPred} {k : Nat} {x : LPred} (hx : l[k]? = some x) : entL (l.take (k + 1)) = entL (l.take k) ++ (if x.entry = 65535 then [] else [x.entry]) := by
  rw [List.take_add_one, hx, entL, List.filter_append, List.map_append]
  by_cases h : x.entry = 65535 <;> simp [entL, h]
theorem el_int : ElemT Tryz.prog 93 3 1 := elemT_of (b := 8) (z := .int .i64 0) Tryz.underlying93 (by kernel_rfl) (by omega) rfl (by omega)
theorem entL_mem {o : LObj} (h : o.preds.all (entB o.code.length) = true) : ∀ x ∈ entL o.preds, 0 ≤ x ∧ x < o.code.length := by
  intro x hx
  obtain ⟨p, hp, rfl⟩ := List.mem_map.1 hx
  rw [List.mem_filter] at hp
  have h1 := List.all_eq_true.1 h p hp.1
  have h2 := hp.2
  simp only [entB, Bool.or_eq_true, Bool.and_eq_true, decide_eq_true_eq, beq_iff_eq] at h1
  simp only [bne_iff_ne, ne_eq] at h2
  omega

set_option maxRecDepth 100000 in
set_option maxHeartbeats 1600000 in
theorem entries_any (o : LObj) : ObjCalls 29 o (Told (entriesB o)) := by
  intro Aa Af Ap Ac na nf np nc ca cf cp cc w h hf la lf lp lc
  have H := Lib.hid h
  have gp := hf.preds
  have gc := hf.code
  rw [lp] at gp
  rw [lc] at gc
  have Lp := Lib.hid lp
  have Lc := Lib.hid lc
  clear h hf la lf lp lc
  go_enter Tryz.func29, Tryz.ntmps29
  go_wp2_with fail
  have st : BoxSt w (w.alloc (.cells #[.slice Aa na ca, .slice Af nf cf, .slice Ap np cp, .slice Ac nc cc] 31)) w.heap.size 31 #[.slice Aa na ca, .slice Af nf cf, .slice Ap np cp, .slice Ac nc cc] := ⟨Blk.new _ _ _, (Keeps.refl _ []).alloc _⟩
  have HST := Lib.hid st
  clear st
  go_loopw [3, 9] (fun v i wr => ∃ k : Nat, k ≤ np ∧ i = .int .i64 k ∧ Hid (∀ y ∈ o.preds.take k, entB o.code.length y = true) ∧ (∃ A3 n3 c3, v = .slice A3 n3 c3 ∧ n3 ≤ k ∧ wr.ownsRow w.heap.size 3 1 (.slice A3 n3 c3) n3 ((entL (o.preds.take k)).flatMap intE)) ∧ BoxSt w wr w.heap.size 31 #[.slice Aa na ca, .slice Af nf cf, .slice Ap np cp, .slice Ac nc cc]) (fun _ i _ => np - (intOf i).toNat)
  case atStart => exact ⟨0, Nat.zero_le _, rfl, fun y hy => by simp at hy, ⟨none, 0, 0, rfl, Nat.le_refl _, World.ownsRow_nil _ _ _ _⟩, HST.out⟩
  case round =>
    obtain ⟨k, hk, rfl, HP, ⟨A3, n3, c3, rfl, hn3, how⟩, st⟩ := hrel
    have HS := Lib.hid st
    have HO := Lib.hid how
    clear st HST how
    by_cases hlt : k < np
    · obtain ⟨x, hx⟩ := at_of Lp.out hlt
      obtain ⟨b, off, rfl, hb, hc⟩ := (H.out.preds).field predE_len hx (by omega)
      have HX := Lib.hid hx
      have q0 : wr.cell? ⟨b, off + k * 3, none⟩ = some _ := (HS.out.keep.cell0 hb).trans (hc 0 _ rfl)
      have q1 : wr.cell? ⟨b, off + k * 3 + 1, none⟩ = some _ := (HS.out.keep.cell0 hb).trans (hc 1 _ rfl)
      have q3 : wr.cell? ⟨b, off + k * 3 + 2, none⟩ = some _ := (HS.out.keep.cell0 hb).trans (hc 2 _ rfl)
      have q4 : (wr.alloc (.cells #[.string x.name, .int .i64 x.arity, .int .i64 x.entry] 52)).cell? ⟨w.heap.size, 3, none⟩ = some (.slice Ac nc cc) := ((HS.out.go ((Keeps.refl _ []).alloc _)).blk).cell 3
      have hsz := HS.out.keep.size
      clear hx hc
      by_cases e1 : x.entry = 65535
      · have d1 : (x.entry == 65535) = true := by simpa using e1
        have HP2 := Lib.hid (take_all1 HX.out (show entB o.code.length x = true by simp [entB, e1]) HP.out)
        have HE : Hid (entL (o.preds.take (k + 1)) = entL (o.preds.take k)) := by show _ = _; rw [entL_snoc HX.out, if_pos e1, List.append_nil]
        clear e1
        go_wp2_with fail
        go_roundw
        case rel => exact ⟨k + 1, by omega, by go_num, HP2.out, ⟨A3, n3, c3, rfl, by omega, by rw [HE.out]; exact HO.out.alloc _⟩, HS.out.go ((Keeps.refl _ []).alloc _)⟩
        case measure => simp [intOf]; omega
      · have d1 : (x.entry == 65535) = false := by simpa using e1
        by_cases e2 : x.entry < 0
        · have d2 : decide (x.entry < 0) = true := by simpa using e2
          have HI := Lib.hid (entriesB_no HX.out (show entB o.code.length x = false by simp [entB, e1]; omega))
          clear e1 e2
          go_wp2_with fail
          go_ret
          exact ⟨by rw [HI.out]; rfl, HS.out.keep.alloc _⟩
        · have d2 : decide (x.entry < 0) = false := by simpa using e2
          by_cases e3 : (nc : Int) ≤ x.entry
          · have d3 : decide ((nc : Int) ≤ x.entry) = true := by simpa using e3
            have HI := Lib.hid (entriesB_no HX.out (show entB o.code.length x = false by rw [Lc.out]; simp [entB, e1]; omega))
            clear e1 e2 e3
            go_wp2_with fail
            go_ret
            exact ⟨by rw [HI.out]; rfl, HS.out.keep.alloc _⟩
          · have d3 : decide ((nc : Int) ≤ x.entry) = false := by simpa using e3
            have HP2 := Lib.hid (take_all1 HX.out (show entB o.code.length x = true by rw [Lc.out]; simp [entB]; omega) HP.out)
            have HE : Hid (entL (o.preds.take (k + 1)) = entL (o.preds.take k) ++ [x.entry]) := by show _ = _; rw [entL_snoc HX.out, if_neg e1]
            clear e1 e2 e3
            go_wp2_with (at_builtin; refine wpList_app _ el_int rfl _ _ rfl w.heap.size A3 n3 c3 ((entL (o.preds.take k)).flatMap intE) rfl ((HO.out.alloc _).alloc _) (some ⟨wr.heap.size + 1, 0, none⟩) 1 1 (intE x.entry) rfl (by rw [← World.size_alloc]; exact Rd.one _ _ (intE x.entry)) rfl (by simp) (by simp [intE, Value.oneCell']) (by omega) (by simp; omega) ?_; intro A' c' w2 hown hgrow hat)
            go_roundw
            case rel =>
              refine ⟨k + 1, by omega, by go_num, HP2.out, ⟨A', n3 + 1, c', rfl, by omega, ?_⟩, HS.out.app (((Keeps.refl _ []).alloc _).alloc _) ((HO.out.alloc _).alloc _) (Nat.le_refl _) (by decide) hgrow⟩
              rw [HE.out, List.flatMap_append]
              exact hown
            case measure => simp [intOf]; omega
    · obtain rfl : np = k := by omega
      have hall := all_of Lp.out HP.out
      have HI := Lib.hid (entriesB_all hall)
      have HM := Lib.hid (entL_mem hall)
      have hl : o.preds.take np = o.preds := List.take_of_length_le (by rw [Lp.out]; exact Nat.le_refl _)
      have how := HO.out
      rw [hl] at how
      have hlen : (entL o.preds).length = n3 := by
        have := how.1
        rw [length_flat intE_len] at this
        omega
      have HC := Lib.hid (twiceInt_any A3 n3 c3 (entL o.preds) wr hlen (by omega) (Rd.of_own how) (fun x hx => by
        have := HM.out x hx
        rw [Lc.out] at this
        exact key_int (by omega) (by omega)))
      clear hall hl how hlen
      cases hv : dupB (entL o.preds)
      all_goals
        rw [hv] at HI HC
        go_wp2_with (go_at_call 59; refine HC.out.mono ?_; rintro e w2 ⟨rfl, k2⟩)
        go_ret
        exact ⟨by rw [HI.out]; rfl, HS.out.keep.trans k2⟩
end Go.Proofs.YtpcihhdalofdiaaGreatDoor

/- The program's look at an object: instructions; Check. -/
namespace Go.Proofs.YtpcihhdalofdiaaGreatDoor
open Go.RowKit

set_option maxRecDepth 100000 in
set_option maxHeartbeats 1600000 in
theorem has_any (o : LObj) (kind : Nat) (n : Int) (Aa Af Ap Ac : Option Addr) (na nf np nc ca cf cp cc : Nat) (w : World) (la : o.atoms.length = na) (lf : o.funs.length = nf) (lp : o.preds.length = np) (lc : o.code.length = nc) :
    Calls Tryz.prog 63 #[.agg #[.slice Aa na ca, .slice Af nf cf, .slice Ap np cp, .slice Ac nc cc], .int .i64 kind, .int .i64 n] w (Told (hasB o kind n) w) := by
  subst la lf lp lc
  have HI : Hid (hasB o kind n = if kind = 3 then decide (n < o.atoms.length) else if kind = 4 then decide (n < o.funs.length) else if kind = 7 then decide (n < o.preds.length) else if kind = 8 then decide (n < o.code.length) || n == 65535 else true) := rfl
  by_cases h3 : kind = 3
  · have e3 : ((kind : Int) == 3) = true := by simp; omega
    have HJ : Hid (hasB o kind n = decide (n < o.atoms.length)) := HI.out.trans (if_pos h3)
    clear h3 HI
    go_enter Tryz.func63, Tryz.ntmps63
    go_wp2_with fail
    go_ret
    exact ⟨by rw [HJ.out]; rfl, (Keeps.refl _ []).alloc _⟩
  · have e3 : ((kind : Int) == 3) = false := by simp; omega
    by_cases h4 : kind = 4
    · have e4 : ((kind : Int) == 4) = true := by simp; omega
      have HJ : Hid (hasB o kind n = decide (n < o.funs.length)) := HI.out.trans (by rw [if_neg h3, if_pos h4])
      clear h3 h4 HI
      go_enter Tryz.func63, Tryz.ntmps63
      go_wp2_with fail
      go_ret
      exact ⟨by rw [HJ.out]; rfl, (Keeps.refl _ []).alloc _⟩
    · have e4 : ((kind : Int) == 4) = false := by simp; omega
      by_cases h7 : kind = 7
      · have e7 : ((kind : Int) == 7) = true := by simp; omega
        have HJ : Hid (hasB o kind n = decide (n < o.preds.length)) := HI.out.trans (by rw [if_neg h3, if_neg h4, if_pos h7])
        clear h3 h4 h7 HI
        go_enter Tryz.func63, Tryz.ntmps63
        go_wp2_with fail
        go_ret
        exact ⟨by rw [HJ.out]; rfl, (Keeps.refl _ []).alloc _⟩
      · have e7 : ((kind : Int) == 7) = false := by simp; omega
        by_cases h8 : kind = 8
        · have e8 : ((kind : Int) == 8) = true := by simp; omega
          have HJ : Hid (hasB o kind n = (decide (n < o.code.length) || n == 65535)) := HI.out.trans (by rw [if_neg h3, if_neg h4, if_neg h7, if_pos h8])
          clear h3 h4 h7 h8 HI
          cases d1 : decide (n < o.code.length) <;> cases d2 : n == 65535 <;>
          (rw [d1, d2] at HJ
           go_enter Tryz.func63, Tryz.ntmps63
           go_wp2_with fail
           go_ret
           exact ⟨by rw [HJ.out]; rfl, (Keeps.refl _ []).alloc _⟩)
        · have e8 : ((kind : Int) == 8) = false := by simp; omega
          have HJ : Hid (hasB o kind n = true) := HI.out.trans (by rw [if_neg h3, if_neg h4, if_neg h7, if_neg h8])
          clear h3 h4 h7 h8 HI
          go_enter Tryz.func63, Tryz.ntmps63
          go_wp2_with fail
          go_ret
          exact ⟨by rw [HJ.out]; rfl, (Keeps.refl _ []).alloc _⟩

theorem insErr_op {o : LObj} {i : LIns} (h : opIn i.op = false) : insErr o i = 8 := by rw [insErr, if_pos h]
theorem insErr_bad {o : LObj} {i : LIns} (h : opIn i.op = true) (h2 : insOk i = false) : insErr o i = 9 := by rw [insErr, if_neg (by rw [h]; simp), if_pos h2]
theorem insErr_no {o : LObj} {i : LIns} (h : opIn i.op = true) (h2 : insOk i = true) {k : Nat} (hk : k < (kindsOf i.op).length) (h3 : argHas o i k = false) : insErr o i = 9 := by
  rw [insErr, if_neg (by rw [h]; simp), if_neg (by rw [h2]; simp), if_neg]
  rw [Bool.not_eq_true, List.all_eq_false]
  exact ⟨k, List.mem_range.2 hk, by rw [h3]; simp⟩
theorem insErr_ok {o : LObj} {i : LIns} (h : opIn i.op = true) (h2 : insOk i = true) (h3 : ∀ k, k < (kindsOf i.op).length → argHas o i k = true) : insErr o i = 0 := by
  rw [insErr, if_neg (by rw [h]; simp), if_neg (by rw [h2]; simp), if_pos]
  rw [List.all_eq_true]
  exact fun k hk => h3 k (List.mem_range.1 hk)
def ErrTold (x : Int) (w : World) (e : Ending) (w' : World) : Prop := e = .returned (.int .i64 x) ∧ Keeps w w' []

set_option maxRecDepth 100000 in
set_option maxHeartbeats 1600000 in
theorem instr_any (o : LObj) (i : LIns) (Aa Af Ap Ac : Option Addr) (na nf np nc ca cf cp cc : Nat) (w : World) (la : o.atoms.length = na) (lf : o.funs.length = nf) (lp : o.preds.length = np) (lc : o.code.length = nc) :
    Calls Tryz.prog 30 #[.agg #[.slice Aa na ca, .slice Af nf cf, .slice Ap np cp, .slice Ac nc cc], insV i] w (ErrTold (insErr o i) w) := by
  unfold insV
  have HH := Lib.hid (fun kind n w => has_any o kind n Aa Af Ap Ac na nf np nc ca cf cp cc w la lf lp lc)
  clear la lf lp lc
  have k0 : Keeps w ((w.alloc (.cells #[.slice Aa na ca, .slice Af nf cf, .slice Ap np cp, .slice Ac nc cc] 31)).alloc (.cells #[.int .i64 i.op, .int .i64 i.a0, .int .i64 i.a1, .int .i64 i.a2, .int .i64 i.a3] 79)) [] := ((Keeps.refl _ []).alloc _).alloc _
  have HK0 := Lib.hid k0
  clear k0
  cases h0 : opIn i.op with
  | false =>
    have hne := nameOf_out h0
    have HI := Lib.hid (insErr_op (o := o) h0)
    go_enter Tryz.func30, Tryz.ntmps30
    go_wp2_with (go_at_call 60; refine (name6_any i.op _).mono ?_; rintro e w1 ⟨rfl, k1⟩)
    go_ret
    exact ⟨by rw [HI.out]; rfl, HK0.out.trans k1⟩
  | true =>
    have hne := nameOf_in h0
    cases h1 : insOk i with
    | false =>
      have HI := Lib.hid (insErr_bad (o := o) h0 h1)
      have hr := right6_any i
      unfold insV at hr
      rw [h1] at hr
      have HR := Lib.hid hr
      clear hr h0 h1
      go_enter Tryz.func30, Tryz.ntmps30
      go_wp2_with fail
      refine (name6_any i.op _).mono ?_
      rintro e w1 ⟨rfl, k1⟩
      have b1 := (Blk.newAt (w := w.alloc (.cells #[.slice Aa na ca, .slice Af nf cf, .slice Ap np cp, .slice Ac nc cc] 31)) (n := w.heap.size + 1) 79 #[.int .i64 i.op, .int .i64 i.a0, .int .i64 i.a1, .int .i64 i.a2, .int .i64 i.a3] (by simp)).keep k1 (by simp)
      have c0 := b1.cell 0
      have c1 := b1.cell 1
      have c2 := b1.cell 2
      have c3 := b1.cell 3
      have c4 := b1.cell 4
      clear b1
      go_wp2_with (go_at_call 61; refine (HR.out _).mono ?_; rintro e w2 ⟨rfl, k2⟩)
      go_ret
      exact ⟨by rw [HI.out]; rfl, (HK0.out.trans k1).trans k2⟩
    | true =>
      have H0 := Lib.hid h0
      have H1 := Lib.hid h1
      have hr := right6_any i
      unfold insV at hr
      rw [h1] at hr
      have HR := Lib.hid hr
      clear hr h0 h1
      go_enter Tryz.func30, Tryz.ntmps30
      go_wp2_with fail
      refine (name6_any i.op _).mono ?_
      rintro e w1 ⟨rfl, k1⟩
      have b1 := (Blk.newAt (w := w.alloc (.cells #[.slice Aa na ca, .slice Af nf cf, .slice Ap np cp, .slice Ac nc cc] 31)) (n := w.heap.size + 1) 79 #[.int .i64 i.op, .int .i64 i.a0, .int .i64 i.a1, .int .i64 i.a2, .int .i64 i.a3] (by simp)).keep k1 (by simp)
      have c0 := b1.cell 0
      have c1 := b1.cell 1
      have c2 := b1.cell 2
      have c3 := b1.cell 3
      have c4 := b1.cell 4
      clear b1
      go_wp2_with (go_at_call 61; refine (HR.out _).mono ?_; rintro e w2 ⟨rfl, k2⟩; clear c0 c1 c2 c3 c4; have b2 := (Blk.newAt (w := w.alloc (.cells #[.slice Aa na ca, .slice Af nf cf, .slice Ap np cp, .slice Ac nc cc] 31)) (n := w.heap.size + 1) 79 #[.int .i64 i.op, .int .i64 i.a0, .int .i64 i.a1, .int .i64 i.a2, .int .i64 i.a3] (by simp)).keep (k1.trans k2) (by simp); have c0 := b2.cell 0; clear b2)
      refine (kinds_any i.op _).mono ?_
      rintro e w3 ⟨A, c, rfl, hN, k3⟩
      have b3 := (Blk.newAt (w := w.alloc (.cells #[.slice Aa na ca, .slice Af nf cf, .slice Ap np cp, .slice Ac nc cc] 31)) (n := w.heap.size + 1) 79 #[.int .i64 i.op, .int .i64 i.a0, .int .i64 i.a1, .int .i64 i.a2, .int .i64 i.a3] (by simp)).keep (k1.trans (k2.trans k3)) (by simp)
      have bo := ((Blk.new w 31 #[.slice Aa na ca, .slice Af nf cf, .slice Ap np cp, .slice Ac nc cc]).alloc (.cells #[.int .i64 i.op, .int .i64 i.a0, .int .i64 i.a1, .int .i64 i.a2, .int .i64 i.a3] 79)).keep (k1.trans (k2.trans k3)) (by simp)
      have HB := Lib.hid b3
      have HO := Lib.hid bo
      have HK := Lib.hid (HK0.out.trans (k1.trans (k2.trans k3)))
      have HN := Lib.hid hN
      have hfew := kinds_few i.op
      clear b3 bo c0 k1 k2 k3 hN HK0
      obtain ⟨m, hm⟩ : ∃ m, (kindsOf i.op).length = m := ⟨_, rfl⟩
      rw [hm] at hfew ⊢
      have HM := Lib.hid hm
      clear hm
      go_wp2_with fail
      go_loopw [20] (fun v wr => ∃ k : Nat, k ≤ m ∧ v = .int .i64 k ∧ Hid (∀ j, j < k → argHas o i j = true) ∧ Keeps w3 wr []) (fun v _ => m - (intOf v).toNat)
      case atStart => exact ⟨0, by omega, rfl, fun j hj => absurd hj (by omega), Keeps.refl _ _⟩
      case round =>
        obtain ⟨k, hk, rfl, HA, kr⟩ := hrel
        have HR2 := Lib.hid kr
        clear kr
        by_cases hlt : k < m
        · obtain ⟨b, off, x, rfl, hb, hc, hx⟩ := HN.out k (by rw [HM.out]; exact hlt)
          have hx1 := kinds_mem i.op x (List.mem_of_getElem? hx)
          obtain ⟨q, rfl⟩ := Int.eq_ofNat_of_zero_le (show 0 ≤ x by omega)
          have q1 := (HR2.out.cell0 hb).trans hc
          have HArg : Hid (argHas o i k = hasB o q (i.arg k)) := by show _ = _; rw [argHas, List.getD_eq_getElem?_getD, hx]; rfl
          clear hx hc
          have q2 := ins_cell (HB.out.keep HR2.out (by simp)) k (by omega)
          have bo2 := HO.out.keep HR2.out (by simp)
          have p0 := bo2.cell 0
          have p1 := bo2.cell 1
          have p2 := bo2.cell 2
          have p3 := bo2.cell 3
          clear bo2
          have b0 : (0 : Int) ≤ (k : Int) := Int.natCast_nonneg _
          have b4 : (k : Int) < 4 := by omega
          have hcall := HH.out q (i.arg k)
          cases hv : hasB o q (i.arg k)
          all_goals
            rw [hv] at hcall HArg
            have HC := Lib.hid hcall
            clear hcall
            go_wp2_with fail
            refine wp_region_tx (fun W' => W'.cell? ⟨w.heap.size, 0, none⟩ = some (.slice Aa na ca) ∧ W'.cell? ⟨w.heap.size, 1, none⟩ = some (.slice Af nf cf) ∧ W'.cell? ⟨w.heap.size, 2, none⟩ = some (.slice Ap np cp) ∧ W'.cell? ⟨w.heap.size, 3, none⟩ = some (.slice Ac nc cc) ∧ W'.cell? ⟨w.heap.size + 1, 1 + k, none⟩ = some (.int .i64 (i.arg k))) [(0, true), (1, true), (2, true), (3, true), (4, true), (5, true), (6, false), (7, false)] (by kernel_rfl) (by kernel_rfl) (by exact ⟨p0, p1, p2, p3, q2⟩) (fun hHeld => ?_)
            (repeat (first | (refine wpTx_take (v := ?_) rfl (by assumption) ?_ (by rfl) ?_; rotate_left; (focus (intro w' hSw; (try dsimp only at hSw); go_simp; (try with_reducible rfl); done)); simp only [Act.put, List.setIfInBounds_toArray, List.set_cons_zero, List.set_cons_succ]) | (refine wpTx_skip rfl (by assumption) (by rfl) ?_; simp only [Act.put, List.setIfInBounds_toArray, List.set_cons_zero, List.set_cons_succ])))
            refine wpTx_go rfl (fun K hK => ?_)
            go_simp
            refine (HC.out _).mono ?_
            rintro e w4 ⟨rfl, k4⟩
            refine hK.out _ _ ?_ ?_
            · have hlt2 : w.heap.size + 1 < wr.heap.size := by have := HB.out.lt; have := HR2.out.size; omega
              have k5 := ((Keeps.refl _ []).drew.trans k4)
              exact ⟨(k5.cell0 (by omega)).trans p0, (k5.cell0 (by omega)).trans p1, (k5.cell0 (by omega)).trans p2, (k5.cell0 (by omega)).trans p3, (k5.cell0 hlt2).trans q2⟩
            (clear hHeld; intro hHeld; clear hK K; (try simp only [Act.put, List.setIfInBounds_toArray, List.set_cons_zero, List.set_cons_succ]))
            (repeat (first | (refine wpTx_take (v := ?_) rfl (by assumption) ?_ (by rfl) ?_; rotate_left; (focus (intro w' hSw; (try dsimp only at hSw); go_simp; (try with_reducible rfl); done)); simp only [Act.put, List.setIfInBounds_toArray, List.set_cons_zero, List.set_cons_succ]) | (refine wpTx_skip rfl (by assumption) (by rfl) ?_; simp only [Act.put, List.setIfInBounds_toArray, List.set_cons_zero, List.set_cons_succ])))
            refine wpTx_last rfl (fun K hK => ?_)
            go_simp
            refine hK.out _ _ (NoPanic.normal ?_); clear hK K; (try simp only [Act.put, List.setIfInBounds_toArray, List.set_cons_zero, List.set_cons_succ])
          · have HI := Lib.hid (insErr_no H0.out H1.out (by rw [HM.out]; exact hlt) HArg.out)
            go_wp2_with fail
            go_ret
            exact ⟨by rw [HI.out]; rfl, HK.out.trans (HR2.out.trans ((Keeps.refl _ []).drew.trans k4))⟩
          · have HA2 := Lib.hid (all4_step HA.out HArg.out)
            go_wp2_with fail
            go_roundw
            case rel => exact ⟨k + 1, by omega, by go_num, HA2.out, HR2.out.trans ((Keeps.refl _ []).drew.trans k4)⟩
            case measure => simp [intOf]; omega
        · obtain rfl : m = k := by omega
          have HI := Lib.hid (insErr_ok (o := o) H0.out H1.out (by rw [HM.out]; exact HA.out))
          go_wp2_with fail
          go_ret
          exact ⟨by rw [HI.out]; rfl, HK.out.trans HR2.out⟩

theorem checkE_big {o : LObj} (h : bigO o = true) : checkE o = 2 := by rw [checkE, if_pos h]
theorem checkE_name {o : LObj} (h : bigO o = false) (h2 : namedB o = false) : checkE o = 7 := by rw [checkE, if_neg (by rw [h]; simp), if_pos h2]
theorem checkE_dup {o : LObj} (h : bigO o = false) (h2 : namedB o = true) (h3 : dupO o = true) : checkE o = 11 := by rw [checkE, if_neg (by rw [h]; simp), if_neg (by rw [h2]; simp), if_pos h3]
theorem checkE_ent {o : LObj} (h : bigO o = false) (h2 : namedB o = true) (h3 : dupO o = false) (h4 : entriesB o = false) : checkE o = 7 := by rw [checkE, if_neg (by rw [h]; simp), if_neg (by rw [h2]; simp), if_neg (by rw [h3]; simp), if_pos h4]
theorem checkE_code {o : LObj} (h : bigO o = false) (h2 : namedB o = true) (h3 : dupO o = false) (h4 : entriesB o = true) : checkE o = codeErr o o.code := by rw [checkE, if_neg (by rw [h]; simp), if_neg (by rw [h2]; simp), if_neg (by rw [h3]; simp), if_neg (by rw [h4]; simp)]
theorem named_keys {o : LObj} (h : namedB o = true) : (∀ s ∈ o.atoms, ∃ l, keyOf Tryz.prog 9 (.string s) = some l) ∧ (∀ f ∈ o.funs, ∃ l, keyOf Tryz.prog 77 (.agg #[.string f.name, .int .i64 f.arity]) = some l) ∧
    ∀ f ∈ o.preds.map keyF, ∃ l, keyOf Tryz.prog 77 (.agg #[.string f.name, .int .i64 f.arity]) = some l := by
  simp only [namedB, Bool.and_eq_true, List.all_eq_true] at h
  obtain ⟨h1, h2, h3⟩ := h
  refine ⟨fun s hs => key_string (nameOk_size (h1 s hs)), fun f hf => ?_, fun f hf => ?_⟩
  · have := h2 f hf
    simp only [funOk, Bool.and_eq_true, decide_eq_true_eq] at this
    exact key_fun_mk (nameOk_size this.1) (by omega) (by omega)
  · obtain ⟨p, hp, rfl⟩ := List.mem_map.1 hf
    have := h3 p hp
    simp only [predOk, Bool.and_eq_true, decide_eq_true_eq] at this
    exact key_fun_mk (s := p.name) (a := p.arity) (nameOk_size this.1) (by omega) (by omega)

/-- The cells of the object's box. -/
theorem BoxSt.four {w wr : World} {bx : Nat} {t : TypeId} {v0 v1 v2 v3 : Value} (s : BoxSt w wr bx t #[v0, v1, v2, v3]) : wr.cell? ⟨bx, 0, none⟩ = some v0 ∧ wr.cell? ⟨bx, 1, none⟩ = some v1 ∧ wr.cell? ⟨bx, 2, none⟩ = some v2 ∧ wr.cell? ⟨bx, 3, none⟩ = some v3 :=
  ⟨s.blk.cell 0, s.blk.cell 1, s.blk.cell 2, s.blk.cell 3⟩
set_option maxRecDepth 100000 in
set_option maxHeartbeats 3200000 in
theorem check_any (o : LObj) : ObjCalls 12 o (ErrTold (checkE o)) := by
  intro Aa Af Ap Ac na nf np nc ca cf cp cc w h hf la lf lp lc
  have HF := Lib.hid hf
  have H := Lib.hid h
  have gc := hf.code
  rw [lc] at gc
  have La := Lib.hid la
  have Lf := Lib.hid lf
  have Lp := Lib.hid lp
  have Lc := Lib.hid lc
  have hbig := big_any na nf np nc
  have HB : Hid (bigO o = bigB na nf np nc) := by show _ = _; rw [bigO, la, lf, lp, lc]
  clear h hf la lf lp lc
  have st : BoxSt w (w.alloc (.cells #[.slice Aa na ca, .slice Af nf cf, .slice Ap np cp, .slice Ac nc cc] 31)) w.heap.size 31 #[.slice Aa na ca, .slice Af nf cf, .slice Ap np cp, .slice Ac nc cc] := ⟨Blk.new _ _ _, (Keeps.refl _ []).alloc _⟩
  have HST := Lib.hid st
  clear st
  cases hb : bigB na nf np nc
  case true =>
    rw [hb] at hbig HB
    have HBG := Lib.hid hbig
    clear hbig
    have HI := Lib.hid (checkE_big HB.out)
    go_enter Tryz.func12, Tryz.ntmps12
    go_wp2_with (go_at_call 24; refine (HBG.out _).mono ?_; rintro e w2 ⟨rfl, rfl⟩)
    go_ret
    exact ⟨by rw [HI.out]; rfl, HST.out.keep⟩
  rw [hb] at hbig HB
  have HBG := Lib.hid hbig
  clear hbig
  cases hn : namedB o
  case false =>
    have HI := Lib.hid (checkE_name HB.out hn)
    have hnm := named_any o
    rw [hn] at hnm
    have HN := Lib.hid hnm
    clear hnm hn
    go_enter Tryz.func12, Tryz.ntmps12
    go_wp2_with (first
      | (go_at_call 24; refine (HBG.out _).mono ?_; rintro e w2 ⟨rfl, rfl⟩)
      | (go_at_call 25; refine (HN.out _ _ _ _ _ _ _ _ _ _ _ _ _ (H.out.keep HST.out.keep) HF.out La.out Lf.out Lp.out Lc.out).mono ?_; rintro e w3 ⟨rfl, k3⟩))
    go_ret
    exact ⟨by rw [HI.out]; rfl, HST.out.keep.trans k3⟩
  have hnm := named_any o
  rw [hn] at hnm
  have HN := Lib.hid hnm
  have hkeys := named_keys hn
  have HK := Lib.hid hkeys
  have HNM := Lib.hid hn
  clear hnm hkeys hn
  have hns : na ≤ 65536 ∧ nf ≤ 65536 ∧ np ≤ 65536 := by
    have := HF.out.atoms
    have := HF.out.funs
    have := HF.out.preds
    have := La.out
    have := Lf.out
    have := Lp.out
    omega
  obtain ⟨ga, gf, gp⟩ := hns
  go_enter Tryz.func12, Tryz.ntmps12
  go_wp2_with (first
    | (go_at_call 24; refine (HBG.out _).mono ?_; rintro e w2 ⟨rfl, rfl⟩)
    | (go_at_call 25; refine (HN.out _ _ _ _ _ _ _ _ _ _ _ _ _ (H.out.keep HST.out.keep) HF.out La.out Lf.out Lp.out Lc.out).mono ?_; rintro e w3 ⟨rfl, k3⟩; have S3 := Lib.hid (HST.out.go k3); obtain ⟨p0, p1, p2, p3⟩ := S3.out.four; clear k3))
  have ht := twiceStr_any Aa na ca o.atoms w3 La.out (by omega) (H.out.keep S3.out.keep).atoms HK.out.1
  cases hd1 : dupB o.atoms
  case true =>
    rw [hd1] at ht
    have HI := Lib.hid (checkE_dup HB.out HNM.out (show dupO o = true by simp [dupO, hd1]))
    clear hd1
    refine ht.mono ?_
    rintro e w4 ⟨rfl, k4⟩
    clear ht
    go_wp2_with fail
    go_ret
    exact ⟨by rw [HI.out]; rfl, S3.out.keep.trans k4⟩
  rw [hd1] at ht
  refine ht.mono ?_
  rintro e w4 ⟨rfl, k4⟩
  have S4 := Lib.hid (S3.out.go k4)
  have HD1 := Lib.hid hd1
  clear ht k4 p0 p1 p2 p3 hd1
  obtain ⟨p0, p1, p2, p3⟩ := S4.out.four
  go_wp2_with fail
  have ht := twiceFun_any Af nf cf o.funs w4 Lf.out (by omega) (H.out.keep S4.out.keep).funs HK.out.2.1
  cases hd2 : dupB o.funs
  case true =>
    rw [hd2] at ht
    have HI := Lib.hid (checkE_dup HB.out HNM.out (show dupO o = true by simp [dupO, hd2]))
    clear hd2
    refine ht.mono ?_
    rintro e w5 ⟨rfl, k5⟩
    clear ht
    go_wp2_with fail
    go_ret
    exact ⟨by rw [HI.out]; rfl, S4.out.keep.trans k5⟩
  rw [hd2] at ht
  refine ht.mono ?_
  rintro e w5 ⟨rfl, k5⟩
  have S5 := Lib.hid (S4.out.go k5)
  have HD2 := Lib.hid hd2
  clear ht k5 p0 p1 p2 p3 hd2
  obtain ⟨p0, p1, p2, p3⟩ := S5.out.four
  go_wp2_with fail
  refine (keys_any o _ _ _ _ _ _ _ _ _ _ _ _ _ (H.out.keep S5.out.keep) HF.out La.out Lf.out Lp.out Lc.out).mono ?_
  rintro e w6 ⟨A6, c6, rfl, hr6, k6⟩
  rw [Lp.out]
  have S6 := Lib.hid (S5.out.go k6)
  clear k6 p0 p1 p2 p3
  obtain ⟨p0, p1, p2, p3⟩ := S6.out.four
  have HR6 := Lib.hid hr6
  clear hr6
  go_wp2_with fail
  have ht := twiceFun_any A6 np c6 (o.preds.map keyF) w6 (by rw [List.length_map, Lp.out]) (by omega) HR6.out HK.out.2.2
  cases hd3 : dupB (o.preds.map keyF)
  case true =>
    rw [hd3] at ht
    have HI := Lib.hid (checkE_dup HB.out HNM.out (show dupO o = true by simp [dupO, hd3]))
    clear hd3
    refine ht.mono ?_
    rintro e w7 ⟨rfl, k7⟩
    clear ht
    go_wp2_with fail
    go_ret
    exact ⟨by rw [HI.out]; rfl, S6.out.keep.trans k7⟩
  rw [hd3] at ht
  refine ht.mono ?_
  rintro e w7 ⟨rfl, k7⟩
  have S7 := Lib.hid (S6.out.go k7)
  have HD := Lib.hid (show dupO o = false by simp [dupO, HD1.out, HD2.out, hd3])
  clear ht k7 p0 p1 p2 p3 hd3
  obtain ⟨p0, p1, p2, p3⟩ := S7.out.four
  go_wp2_with fail
  have ht := entries_any o Aa Af Ap Ac na nf np nc ca cf cp cc w7 (H.out.keep S7.out.keep) HF.out La.out Lf.out Lp.out Lc.out
  cases he : entriesB o
  case false =>
    rw [he] at ht
    have HI := Lib.hid (checkE_ent HB.out HNM.out HD.out he)
    clear he
    refine ht.mono ?_
    rintro e w8 ⟨rfl, k8⟩
    clear ht
    go_wp2_with fail
    go_ret
    exact ⟨by rw [HI.out]; rfl, S7.out.keep.trans k8⟩
  rw [he] at ht
  have HI := Lib.hid (checkE_code HB.out HNM.out HD.out he)
  refine ht.mono ?_
  rintro e w8 ⟨rfl, k8⟩
  have S8 := Lib.hid (S7.out.go k8)
  clear ht k8 p0 p1 p2 p3 he
  obtain ⟨p0, p1, p2, p3⟩ := S8.out.four
  go_wp2_with fail
  clear p0 p1 p2 p3
  go_loopw [45] (fun v wr => ∃ k : Nat, k ≤ nc ∧ v = .int .i64 k ∧ Hid (codeErr o o.code = codeErr o (o.code.drop k)) ∧ BoxSt w wr w.heap.size 31 #[.slice Aa na ca, .slice Af nf cf, .slice Ap np cp, .slice Ac nc cc]) (fun v _ => nc - (intOf v).toNat)
  case atStart => exact ⟨0, Nat.zero_le _, rfl, rfl, S8.out⟩
  case round =>
    obtain ⟨k, hk, rfl, HE, st⟩ := hrel
    have HS := Lib.hid st
    clear st
    by_cases hlt : k < nc
    · obtain ⟨x, hx⟩ := at_of Lc.out hlt
      obtain ⟨b, off, rfl, hb, hc⟩ := (H.out.code).field insE_len hx (by omega)
      have HX := Lib.hid hx
      have q0 : wr.cell? ⟨b, off + k * 5, none⟩ = some _ := (HS.out.keep.cell0 hb).trans (hc 0 _ rfl)
      have q1 : wr.cell? ⟨b, off + k * 5 + 1, none⟩ = some _ := (HS.out.keep.cell0 hb).trans (hc 1 _ rfl)
      have q2 : wr.cell? ⟨b, off + k * 5 + 2, none⟩ = some _ := (HS.out.keep.cell0 hb).trans (hc 2 _ rfl)
      have q3 : wr.cell? ⟨b, off + k * 5 + 3, none⟩ = some _ := (HS.out.keep.cell0 hb).trans (hc 3 _ rfl)
      have q4 : wr.cell? ⟨b, off + k * 5 + 4, none⟩ = some _ := (HS.out.keep.cell0 hb).trans (hc 4 _ rfl)
      have sa := HS.out.go ((Keeps.refl wr []).alloc (.cells #[.int .i64 x.op, .int .i64 x.a0, .int .i64 x.a1, .int .i64 x.a2, .int .i64 x.a3] 79))
      have SA := Lib.hid sa
      obtain ⟨p0, p1, p2, p3⟩ := sa.four
      have hi := fun w => instr_any o x Aa Af Ap (some ⟨b, off, none⟩) na nf np nc ca cf cp cc w La.out Lf.out Lp.out Lc.out
      unfold insV at hi
      clear hx hc sa
      by_cases h0 : insErr o x = 0
      · rw [h0] at hi
        have HC := Lib.hid hi
        have HE2 := Lib.hid (codeErr_step HX.out HE.out h0)
        clear hi h0
        go_wp2_with (go_at_call 30; refine (HC.out _).mono ?_; rintro e w9 ⟨rfl, k9⟩)
        go_roundw
        case rel => exact ⟨k + 1, by omega, by go_num, HE2.out, SA.out.go k9⟩
        case measure => simp [intOf]; omega
      · have HI2 := Lib.hid (HI.out.trans (codeErr_stop HX.out HE.out h0))
        have HC := Lib.hid hi
        obtain ⟨z, hz⟩ : ∃ z, insErr o x = z := ⟨_, rfl⟩
        rw [hz] at h0 HI2 HC
        have d0 : (z != 0) = true := by simpa using h0
        clear hi h0 hz
        go_wp2_with (go_at_call 30; refine (HC.out _).mono ?_; rintro e w9 ⟨rfl, k9⟩)
        go_ret
        exact ⟨by rw [HI2.out]; rfl, SA.out.keep.trans k9⟩
    · obtain rfl : nc = k := by omega
      have HI2 := Lib.hid (HI.out.trans (codeErr_end Lc.out HE.out))
      go_wp2_with fail
      go_ret
      exact ⟨by rw [HI2.out]; rfl, HS.out.keep⟩
end Go.Proofs.YtpcihhdalofdiaaGreatDoor

/- The law's From. Printed by gen_from.py. -/
namespace Go.Proofs.YtpcihhdalofdiaaGreatDoor
open Go.RowKit

theorem el_rfun : ElemT Tryz.prog 35 76 2 := elemT_of (b := 24) (z := .agg #[.string ⟨#[]⟩, .int .i64 0]) Tryz.underlying35 (by kernel_rfl) (by omega) rfl (by omega)
theorem el_rpred : ElemT Tryz.prog 36 74 3 := elemT_of (b := 32) (z := .agg #[.string ⟨#[]⟩, .int .i64 0, .int .i64 0]) Tryz.underlying36 (by kernel_rfl) (by omega) rfl (by omega)
theorem el_rins : ElemT Tryz.prog 37 72 5 := elemT_of (b := 40) (z := .agg #[.int .i64 0, .int .i64 0, .int .i64 0, .int .i64 0, .int .i64 0]) Tryz.underlying37 (by kernel_rfl) (by omega) rfl (by omega)

set_option maxHeartbeats 400000 in
theorem insFrom_any (i : LIns) (w : World) : Calls Tryz.prog 23 #[insV i] w fun e w' => e = .returned (insV i) ∧ Keeps w w' [] := by
  unfold insV
  go_enter Tryz.func23, Tryz.ntmps23
  go_wp2_with fail
  exact bodyPost_ret (v := .agg #[.int .i64 i.op, .int .i64 i.a0, .int .i64 i.a1, .int .i64 i.a2, .int .i64 i.a3]) (by simp [results, Tryz.results23, go_sem]) rfl ⟨rfl, ((Keeps.refl _ _).alloc _).alloc _⟩

theorem ty_from : ToTy 31 39 76 74 72 := ⟨by decide, by decide, by decide, by decide, by decide⟩

set_option maxRecDepth 100000 in
set_option maxHeartbeats 3200000 in
theorem from_any (o : LObj) (Aa Af Ap Ac : Option Addr) (na nf np nc ca cf cp cc : Nat) (w : World) (h : ObIs w o Aa Af Ap Ac ca cf cp cc) (hf : Fits o) (la : o.atoms.length = na) (lf : o.funs.length = nf) (lp : o.preds.length = np) (lc : o.code.length = nc) :
    Calls Tryz.prog 11 #[.agg #[.slice Aa na ca, .slice Af nf cf, .slice Ap np cp, .slice Ac nc cc]] w (ToDone w o) := by
  have H := Lib.hid h
  have ga := hf.atoms
  have gf := hf.funs
  have gp := hf.preds
  have gc := hf.code
  rw [la] at ga
  rw [lf] at gf
  rw [lp] at gp
  rw [lc] at gc
  clear h hf
  have La := Lib.hid la
  have Lf := Lib.hid lf
  have Lp := Lib.hid lp
  have Lc := Lib.hid lc
  clear la lf lp lc
  go_enter Tryz.func11, Tryz.ntmps11
  go_wp2_with (at_builtin; refine wpList_app _ el_string rfl _ _ rfl (w.heap.size + 1 + 1) (some ⟨w.heap.size + 1 + 1, 0, none⟩) 0 0 [] rfl (by rw [← World.size_alloc, ← World.size_alloc]; exact own_empty _ _) Aa na ca (o.atoms.flatMap strE) rfl (((H.out.atoms.alloc _).alloc _).alloc _) (by rw [length_flat strE_len, La.out]) H.out.za (strE_one _) (by omega) (by simp) ?_; intro A1 c1 w1 hown hgrow hat; simp only [Nat.zero_add, List.nil_append] at hown hat)
  have hK : Keeps w w1 [] := (((Keeps.refl w []).alloc _).alloc _).alloc _ |>.grown hgrow (fun q hq => .inr (by simp [Value.ownBlock] at hq; omega))
  have hbx : Blk w1 w.heap.size 31 #[.slice Aa na ca, .slice Af nf cf, .slice Ap np cp, .slice Ac nc cc] := (((Blk.new _ _ _).alloc _).alloc _).grown hgrow (by simp [Value.ownBlock]; omega)
  have hrb : Blk w1 (w.heap.size + 1) 39 #[.slice none 0 0, .slice none 0 0, .slice none 0 0, .slice none 0 0] := ((Blk.newAt _ _ (by simp)).alloc _).grown hgrow (by simp [Value.ownBlock])
  have hsz := hrb.lt
  have st : ToSt 31 39 76 74 72 w (w1.alloc (.cells #[.slice A1 na c1, .slice none 0 0, .slice none 0 0, .slice none 0 0] 39)) w.heap.size (w.heap.size + 1) w1.heap.size #[.slice Aa na ca, .slice Af nf cf, .slice Ap np cp, .slice Ac nc cc] o A1 none none none na 0 0 0 c1 0 0 0 :=
    ⟨hbx.alloc _, hrb.alloc _, Blk.new _ _ _, own_base (hown.alloc _) (by omega), World.ownsRow_nil _ _ _ _, World.ownsRow_nil _ _ _ _, World.ownsRow_nil _ _ _ _, hK.alloc _, by omega⟩
  have hgz := hK.size
  generalize w1.heap.size = g at *
  have HST := Lib.hid st
  clear hown hgrow hat hK hbx hrb st
  go_loopw [4] (fun i wr => ∃ k : Nat, k ≤ nf ∧ i = .int .i64 k ∧ ∃ A2 c2, ToSt 31 39 76 74 72 w wr w.heap.size (w.heap.size + 1) g #[.slice Aa na ca, .slice Af nf cf, .slice Ap np cp, .slice Ac nc cc] o A1 A2 none none na k 0 0 c1 c2 0 0) (fun i _ => nf - (intOf i).toNat)
  case atStart => exact ⟨0, Nat.zero_le _, rfl, none, 0, HST.out⟩
  case round =>
    obtain ⟨k, hk, rfl, A2, c2, st⟩ := hrel
    have HS := Lib.hid st
    have e1 := st.blk.cell 1
    have e2 := st.out.cell 1
    clear st HST
    by_cases hlt : k < nf
    · obtain ⟨f, hx⟩ := at_of Lf.out hlt
      obtain ⟨b, off, rfl, hb, hc⟩ := (H.out.funs).field funE_len hx (by omega)
      have HX := Lib.hid hx
      clear hx
      have HW : Hid (∀ W', Keeps wr W' (ownL (.slice A2 k c2)) → W'.frozen? ⟨g, 1, none⟩ = false ∧ W'.cell? ⟨g, 1, none⟩ = some (.slice A2 k c2) ∧ W'.cell? ⟨w.heap.size, 1, none⟩ = some (.slice (some ⟨b, off, none⟩) nf cf) ∧ W'.cell? ⟨b, off + k * 2, none⟩ = some (.string f.name) ∧ W'.cell? ⟨b, off + k * 2 + 1, none⟩ = some (.int .i64 f.arity)) := fun W' kk =>
        ⟨(HS.out.out.keep kk (own_outT HS.out.r2 HS.out.out (by decide))).frozen 1, (HS.out.out.keep kk (own_outT HS.out.r2 HS.out.out (by decide))).cell 1, (HS.out.blk.keep kk (own_outT HS.out.r2 HS.out.blk (by decide))).cell 1, ((kk.cell (p := ⟨b, off + k * 2, none⟩) (Nat.lt_of_lt_of_le hb HS.out.keep.size) (own_out HS.out.r2 hb)).trans (HS.out.keep.cell0 hb)).trans (hc 0 _ rfl), ((kk.cell (p := ⟨b, off + k * 2 + 1, none⟩) (Nat.lt_of_lt_of_le hb HS.out.keep.size) (own_out HS.out.r2 hb)).trans (HS.out.keep.cell0 hb)).trans (hc 1 _ rfl)⟩
      obtain ⟨q0, q1, q2, q3, q4⟩ := HW.out wr (Keeps.refl _ _)
      clear hc e1 e2
      have b0 : (0 : Int) ≤ (k : Int) := Int.natCast_nonneg _
      have b1 : (k : Int) < (nf : Int) := by omega
      go_wp2_with fail
      refine wp_region_tx (fun W' => W'.frozen? ⟨g, 1, none⟩ = false ∧ W'.cell? ⟨g, 1, none⟩ = some (.slice A2 k c2) ∧ W'.cell? ⟨w.heap.size, 1, none⟩ = some (.slice (some ⟨b, off, none⟩) nf cf) ∧ W'.cell? ⟨b, off + k * 2, none⟩ = some (.string f.name) ∧ W'.cell? ⟨b, off + k * 2 + 1, none⟩ = some (.int .i64 f.arity)) [(0, true), (1, true), (2, true), (3, true), (4, true), (5, true), (6, true), (7, true), (8, true), (9, true), (10, true), (11, true), (12, true), (13, true), (14, true), (15, true), (16, true), (17, false), (18, false), (19, true), (20, false)] (by kernel_rfl) (by kernel_rfl) (HW.out _ ((Keeps.refl _ _).drew)) (fun hHeld => ?_)
      (repeat (first | (refine wpTx_take (v := ?_) rfl (by assumption) ?_ (by rfl) ?_; rotate_left; (focus (intro w' hSw; (try dsimp only at hSw); go_simp; (try with_reducible rfl); done)); simp only [Act.put, List.setIfInBounds_toArray, List.set_cons_zero, List.set_cons_succ]) | (refine wpTx_skip rfl (by assumption) (by rfl) ?_; simp only [Act.put, List.setIfInBounds_toArray, List.set_cons_zero, List.set_cons_succ])))
      refine wpTx_go rfl (fun K hK => ?_)
      go_simp
      refine hK.out _ _ ?_ ?_
      · exact HW.out _ ((((Keeps.refl _ []).alloc _).drew).to_ _)
      (clear hHeld; intro hHeld; clear hK K; (try simp only [Act.put, List.setIfInBounds_toArray, List.set_cons_zero, List.set_cons_succ]))
      refine wpTx_go rfl (fun K hK => ?_)
      refine step_app _ el_rfun (by rfl) _ _ (by rfl) w.heap.size A2 k c2 ((o.funs.take k).flatMap funE) (by rfl) (own_keep0 HS.out.r2 (((Keeps.refl _ []).alloc _).drew)) (some ⟨wr.heap.size, 0, none⟩) 1 1 (funE f) (by rfl) ((Rd.one wr _ (funE f)).drew) rfl (by simp) (by simp [funE, Value.oneCell']) (by omega) (by simp; have := HS.out.keep.size; omega) ?_
      intro A' c' w2 hown hgrow hat
      refine hK.out _ _ ?_ ?_
      · exact HW.out _ ((((Keeps.refl _ []).alloc _).drew).rest (Keeps.ofGrown hgrow))
      (clear hHeld; intro hHeld; clear hK K; (try simp only [Act.put, List.setIfInBounds_toArray, List.set_cons_zero, List.set_cons_succ]))
      (repeat (first | (refine wpTx_take (v := ?_) rfl (by assumption) ?_ (by rfl) ?_; rotate_left; (focus (intro w' hSw; (try dsimp only at hSw); go_simp; (try with_reducible rfl); done)); simp only [Act.put, List.setIfInBounds_toArray, List.set_cons_zero, List.set_cons_succ]) | (refine wpTx_skip rfl (by assumption) (by rfl) ?_; simp only [Act.put, List.setIfInBounds_toArray, List.set_cons_zero, List.set_cons_succ])))
      refine wpTx_last rfl (fun K hK => ?_)
      go_simp
      refine hK.out _ _ (NoPanic.normal ?_); clear hK K; (try simp only [Act.put, List.setIfInBounds_toArray, List.set_cons_zero, List.set_cons_succ])
      go_wp2_with fail
      go_roundw
      case rel => exact ⟨k + 1, by omega, by go_num, A', c', HS.out.step2 ty_from (((Keeps.refl _ []).alloc _).drew) HX.out hown hgrow⟩
      case measure => simp [intOf]; omega
    · obtain rfl : nf = k := by omega
      clear hlt hk
      go_wp2_with fail
      go_loopw [5] (fun i wr => ∃ k : Nat, k ≤ np ∧ i = .int .i64 k ∧ ∃ A3 c3, ToSt 31 39 76 74 72 w wr w.heap.size (w.heap.size + 1) g #[.slice Aa na ca, .slice Af nf cf, .slice Ap np cp, .slice Ac nc cc] o A1 A2 A3 none na nf k 0 c1 c2 c3 0) (fun i _ => np - (intOf i).toNat)
      case atStart => exact ⟨0, Nat.zero_le _, rfl, none, 0, HS.out⟩
      case round =>
        obtain ⟨k, hk, rfl, A3, c3, st⟩ := hrel
        clear HS e1 e2
        have HS := Lib.hid st
        have e1 := st.blk.cell 2
        have e2 := st.out.cell 2
        clear st
        by_cases hlt : k < np
        · obtain ⟨f, hx⟩ := at_of Lp.out hlt
          obtain ⟨b, off, rfl, hb, hc⟩ := (H.out.preds).field predE_len hx (by omega)
          have HX := Lib.hid hx
          clear hx
          have HW : Hid (∀ W', Keeps wr W' (ownL (.slice A3 k c3)) → W'.frozen? ⟨g, 2, none⟩ = false ∧ W'.cell? ⟨g, 2, none⟩ = some (.slice A3 k c3) ∧ W'.cell? ⟨w.heap.size, 2, none⟩ = some (.slice (some ⟨b, off, none⟩) np cp) ∧ W'.cell? ⟨b, off + k * 3, none⟩ = some (.string f.name) ∧ W'.cell? ⟨b, off + k * 3 + 1, none⟩ = some (.int .i64 f.arity) ∧ W'.cell? ⟨b, off + k * 3 + 2, none⟩ = some (.int .i64 f.entry)) := fun W' kk =>
            ⟨(HS.out.out.keep kk (own_outT HS.out.r3 HS.out.out (by decide))).frozen 2, (HS.out.out.keep kk (own_outT HS.out.r3 HS.out.out (by decide))).cell 2, (HS.out.blk.keep kk (own_outT HS.out.r3 HS.out.blk (by decide))).cell 2, ((kk.cell (p := ⟨b, off + k * 3, none⟩) (Nat.lt_of_lt_of_le hb HS.out.keep.size) (own_out HS.out.r3 hb)).trans (HS.out.keep.cell0 hb)).trans (hc 0 _ rfl), ((kk.cell (p := ⟨b, off + k * 3 + 1, none⟩) (Nat.lt_of_lt_of_le hb HS.out.keep.size) (own_out HS.out.r3 hb)).trans (HS.out.keep.cell0 hb)).trans (hc 1 _ rfl), ((kk.cell (p := ⟨b, off + k * 3 + 2, none⟩) (Nat.lt_of_lt_of_le hb HS.out.keep.size) (own_out HS.out.r3 hb)).trans (HS.out.keep.cell0 hb)).trans (hc 2 _ rfl)⟩
          obtain ⟨q0, q1, q2, q3, q4, q5⟩ := HW.out wr (Keeps.refl _ _)
          clear hc e1 e2
          have b0 : (0 : Int) ≤ (k : Int) := Int.natCast_nonneg _
          have b1 : (k : Int) < (np : Int) := by omega
          go_wp2_with fail
          refine wp_region_tx (fun W' => W'.frozen? ⟨g, 2, none⟩ = false ∧ W'.cell? ⟨g, 2, none⟩ = some (.slice A3 k c3) ∧ W'.cell? ⟨w.heap.size, 2, none⟩ = some (.slice (some ⟨b, off, none⟩) np cp) ∧ W'.cell? ⟨b, off + k * 3, none⟩ = some (.string f.name) ∧ W'.cell? ⟨b, off + k * 3 + 1, none⟩ = some (.int .i64 f.arity) ∧ W'.cell? ⟨b, off + k * 3 + 2, none⟩ = some (.int .i64 f.entry)) [(0, true), (1, true), (2, true), (3, true), (4, true), (5, true), (6, true), (7, true), (8, true), (9, true), (10, true), (11, true), (12, true), (13, true), (14, true), (15, true), (16, true), (17, true), (18, true), (19, true), (20, true), (21, false), (22, false), (23, true), (24, false)] (by kernel_rfl) (by kernel_rfl) (HW.out _ ((Keeps.refl _ _).drew)) (fun hHeld => ?_)
          (repeat (first | (refine wpTx_take (v := ?_) rfl (by assumption) ?_ (by rfl) ?_; rotate_left; (focus (intro w' hSw; (try dsimp only at hSw); go_simp; (try with_reducible rfl); done)); simp only [Act.put, List.setIfInBounds_toArray, List.set_cons_zero, List.set_cons_succ]) | (refine wpTx_skip rfl (by assumption) (by rfl) ?_; simp only [Act.put, List.setIfInBounds_toArray, List.set_cons_zero, List.set_cons_succ])))
          refine wpTx_go rfl (fun K hK => ?_)
          go_simp
          refine hK.out _ _ ?_ ?_
          · exact HW.out _ ((((Keeps.refl _ []).alloc _).drew).to_ _)
          (clear hHeld; intro hHeld; clear hK K; (try simp only [Act.put, List.setIfInBounds_toArray, List.set_cons_zero, List.set_cons_succ]))
          refine wpTx_go rfl (fun K hK => ?_)
          refine step_app _ el_rpred (by rfl) _ _ (by rfl) w.heap.size A3 k c3 ((o.preds.take k).flatMap predE) (by rfl) (own_keep0 HS.out.r3 (((Keeps.refl _ []).alloc _).drew)) (some ⟨wr.heap.size, 0, none⟩) 1 1 (predE f) (by rfl) ((Rd.one wr _ (predE f)).drew) rfl (by simp) (by simp [predE, Value.oneCell']) (by omega) (by simp; have := HS.out.keep.size; omega) ?_
          intro A' c' w2 hown hgrow hat
          refine hK.out _ _ ?_ ?_
          · exact HW.out _ ((((Keeps.refl _ []).alloc _).drew).rest (Keeps.ofGrown hgrow))
          (clear hHeld; intro hHeld; clear hK K; (try simp only [Act.put, List.setIfInBounds_toArray, List.set_cons_zero, List.set_cons_succ]))
          (repeat (first | (refine wpTx_take (v := ?_) rfl (by assumption) ?_ (by rfl) ?_; rotate_left; (focus (intro w' hSw; (try dsimp only at hSw); go_simp; (try with_reducible rfl); done)); simp only [Act.put, List.setIfInBounds_toArray, List.set_cons_zero, List.set_cons_succ]) | (refine wpTx_skip rfl (by assumption) (by rfl) ?_; simp only [Act.put, List.setIfInBounds_toArray, List.set_cons_zero, List.set_cons_succ])))
          refine wpTx_last rfl (fun K hK => ?_)
          go_simp
          refine hK.out _ _ (NoPanic.normal ?_); clear hK K; (try simp only [Act.put, List.setIfInBounds_toArray, List.set_cons_zero, List.set_cons_succ])
          go_wp2_with fail
          go_roundw
          case rel => exact ⟨k + 1, by omega, by go_num, A', c', HS.out.step3 ty_from (((Keeps.refl _ []).alloc _).drew) HX.out hown hgrow⟩
          case measure => simp [intOf]; omega
        · obtain rfl : np = k := by omega
          clear hlt hk
          go_wp2_with fail
          go_loopw [6] (fun i wr => ∃ k : Nat, k ≤ nc ∧ i = .int .i64 k ∧ ∃ A4 c4, ToSt 31 39 76 74 72 w wr w.heap.size (w.heap.size + 1) g #[.slice Aa na ca, .slice Af nf cf, .slice Ap np cp, .slice Ac nc cc] o A1 A2 A3 A4 na nf np k c1 c2 c3 c4) (fun i _ => nc - (intOf i).toNat)
          case atStart => exact ⟨0, Nat.zero_le _, rfl, none, 0, HS.out⟩
          case round =>
            obtain ⟨k, hk, rfl, A4, c4, st⟩ := hrel
            clear HS e1 e2
            have HS := Lib.hid st
            have e1 := st.blk.cell 3
            have e2 := st.out.cell 3
            by_cases hlt : k < nc
            · clear st
              obtain ⟨f, hx⟩ := at_of Lc.out hlt
              obtain ⟨b, off, rfl, hb, hc⟩ := (H.out.code).field insE_len hx (by omega)
              have HX := Lib.hid hx
              clear hx
              have HW : Hid (∀ W', Keeps wr W' (ownL (.slice A4 k c4)) → W'.frozen? ⟨g, 3, none⟩ = false ∧ W'.cell? ⟨g, 3, none⟩ = some (.slice A4 k c4) ∧ W'.cell? ⟨w.heap.size, 3, none⟩ = some (.slice (some ⟨b, off, none⟩) nc cc) ∧ W'.cell? ⟨b, off + k * 5, none⟩ = some (.int .i64 f.op) ∧ W'.cell? ⟨b, off + k * 5 + 1, none⟩ = some (.int .i64 f.a0) ∧ W'.cell? ⟨b, off + k * 5 + 2, none⟩ = some (.int .i64 f.a1) ∧ W'.cell? ⟨b, off + k * 5 + 3, none⟩ = some (.int .i64 f.a2) ∧ W'.cell? ⟨b, off + k * 5 + 4, none⟩ = some (.int .i64 f.a3)) := fun W' kk =>
                have kc : ∀ j v, (insE f)[j]? = some v → W'.cell? ⟨b, off + k * 5 + j, none⟩ = some v := fun j v hj => ((kk.cell (p := ⟨b, off + k * 5 + j, none⟩) (Nat.lt_of_lt_of_le hb HS.out.keep.size) (own_out HS.out.r4 hb)).trans (HS.out.keep.cell0 hb)).trans (hc j v hj)
                ⟨(HS.out.out.keep kk (own_outT HS.out.r4 HS.out.out (by decide))).frozen 3, (HS.out.out.keep kk (own_outT HS.out.r4 HS.out.out (by decide))).cell 3, (HS.out.blk.keep kk (own_outT HS.out.r4 HS.out.blk (by decide))).cell 3, kc 0 _ rfl, kc 1 _ rfl, kc 2 _ rfl, kc 3 _ rfl, kc 4 _ rfl⟩
              obtain ⟨q0, q1, q2, q3, q4, q5, q6, q7⟩ := HW.out wr (Keeps.refl _ _)
              clear hc e1 e2
              have b0 : (0 : Int) ≤ (k : Int) := Int.natCast_nonneg _
              have b1 : (k : Int) < (nc : Int) := by omega
              go_wp2_with fail
              refine wp_region_tx (fun W' => W'.frozen? ⟨g, 3, none⟩ = false ∧ W'.cell? ⟨g, 3, none⟩ = some (.slice A4 k c4) ∧ W'.cell? ⟨w.heap.size, 3, none⟩ = some (.slice (some ⟨b, off, none⟩) nc cc) ∧ W'.cell? ⟨b, off + k * 5, none⟩ = some (.int .i64 f.op) ∧ W'.cell? ⟨b, off + k * 5 + 1, none⟩ = some (.int .i64 f.a0) ∧ W'.cell? ⟨b, off + k * 5 + 2, none⟩ = some (.int .i64 f.a1) ∧ W'.cell? ⟨b, off + k * 5 + 3, none⟩ = some (.int .i64 f.a2) ∧ W'.cell? ⟨b, off + k * 5 + 4, none⟩ = some (.int .i64 f.a3)) [(0, true), (1, true), (2, true), (3, true), (4, true), (5, true), (6, true), (7, false), (8, false), (9, false), (10, true), (11, false)] (by kernel_rfl) (by kernel_rfl) (HW.out _ ((Keeps.refl _ _).drew)) (fun hHeld => ?_)
              (repeat (first | (refine wpTx_take (v := ?_) rfl (by assumption) ?_ (by rfl) ?_; rotate_left; (focus (intro w' hSw; (try dsimp only at hSw); go_simp; (try with_reducible rfl); done)); simp only [Act.put, List.setIfInBounds_toArray, List.set_cons_zero, List.set_cons_succ]) | (refine wpTx_skip rfl (by assumption) (by rfl) ?_; simp only [Act.put, List.setIfInBounds_toArray, List.set_cons_zero, List.set_cons_succ])))
              refine wpTx_go rfl (fun K hK => ?_)
              go_simp
              refine (insFrom_any f _).mono ?_
              rintro e w3 ⟨rfl, k3⟩
              refine hK.out _ _ ?_ ?_
              · exact HW.out _ (((Keeps.refl _ []).drew.trans k3).to_ _)
              (clear hHeld; intro hHeld; clear hK K; (try simp only [Act.put, List.setIfInBounds_toArray, List.set_cons_zero, List.set_cons_succ]))
              refine wpTx_go rfl (fun K hK => ?_)
              go_simp
              refine hK.out _ _ ?_ ?_
              · exact HW.out _ ((((Keeps.refl _ []).drew.trans k3).alloc _).to_ _)
              (clear hHeld; intro hHeld; clear hK K; (try simp only [Act.put, List.setIfInBounds_toArray, List.set_cons_zero, List.set_cons_succ]))
              refine wpTx_go rfl (fun K hK => ?_)
              refine step_app _ el_rins (by rfl) _ _ (by rfl) w.heap.size A4 k c4 ((o.code.take k).flatMap insE) (by rfl) (own_keep0 HS.out.r4 (((Keeps.refl _ []).drew.trans k3).alloc _)) (some ⟨w3.heap.size, 0, none⟩) 1 1 (insE f) (by rfl) (Rd.one w3 _ (insE f)) rfl (by simp) (by simp [insE, Value.oneCell']) (by omega) (by simp; have := HS.out.keep.size; have := k3.size; simp at this; omega) ?_
              intro A' c' w2 hown hgrow hat
              refine hK.out _ _ ?_ ?_
              · exact HW.out _ (((Keeps.refl _ []).drew.trans k3).alloc _ |>.rest (Keeps.ofGrown hgrow))
              (clear hHeld; intro hHeld; clear hK K; (try simp only [Act.put, List.setIfInBounds_toArray, List.set_cons_zero, List.set_cons_succ]))
              (repeat (first | (refine wpTx_take (v := ?_) rfl (by assumption) ?_ (by rfl) ?_; rotate_left; (focus (intro w' hSw; (try dsimp only at hSw); go_simp; (try with_reducible rfl); done)); simp only [Act.put, List.setIfInBounds_toArray, List.set_cons_zero, List.set_cons_succ]) | (refine wpTx_skip rfl (by assumption) (by rfl) ?_; simp only [Act.put, List.setIfInBounds_toArray, List.set_cons_zero, List.set_cons_succ])))
              refine wpTx_last rfl (fun K hK => ?_)
              go_simp
              refine hK.out _ _ (NoPanic.normal ?_); clear hK K; (try simp only [Act.put, List.setIfInBounds_toArray, List.set_cons_zero, List.set_cons_succ])
              go_wp2_with fail
              go_roundw
              case rel => exact ⟨k + 1, by omega, by go_num, A', c', HS.out.step4 ty_from (((Keeps.refl _ []).drew.trans k3).alloc _) HX.out hown hgrow⟩
              case measure => simp [intOf]; omega
            · obtain rfl : nc = k := by omega
              clear hlt hk
              have d0 := st.out.cell 0
              have d1 := st.out.cell 1
              have d2 := st.out.cell 2
              have d3 := st.out.cell 3
              have r0 := st.res.cell 0
              have r1 := st.res.cell 1
              have r2 := st.res.cell 2
              have r3 := st.res.cell 3
              have f0 := st.res.frozen 0
              have f1 := st.res.frozen 1
              have f2 := st.res.frozen 2
              have f3 := st.res.frozen 3
              clear st
              have HD := Lib.hid (show ToDone w o (.returned (.agg #[.slice A1 na c1, .slice A2 nf c2, .slice A3 np c3, .slice A4 nc c4])) ((((wr.setCell ⟨w.heap.size + 1, 0, none⟩ (.slice A1 na c1)).setCell ⟨w.heap.size + 1, 1, none⟩ (.slice A2 nf c2)).setCell ⟨w.heap.size + 1, 2, none⟩ (.slice A3 np c3)).setCell ⟨w.heap.size + 1, 3, none⟩ (.slice A4 nc c4)) from toDone_mk ty_from HS.out La.out Lf.out Lp.out Lc.out (by omega))
              go_wp2_with fail
              exact bodyPost_ret (v := .agg #[.slice A1 na c1, .slice A2 nf c2, .slice A3 np c3, .slice A4 nc c4]) (by simp [results, Tryz.results11, go_sem, *]) rfl HD.out
end Go.Proofs.YtpcihhdalofdiaaGreatDoor

/- The document's look at an object's tables. Printed by gen_tab.py. -/
namespace Go.Proofs.YtpcihhdalofdiaaGreatDoor
open Go.RowKit
theorem str_beq {a b : ByteArray} (h : a = b) : (a.toList == b.toList) = true := by rw [h]; exact beq_self_eq_true _
theorem str_bne {a b : ByteArray} (h : a ≠ b) : (a.toList == b.toList) = false := by
  rw [beq_eq_false_iff_ne]
  intro hh
  rw [ByteArray.toList_eq, ByteArray.toList_eq] at hh
  exact h (by obtain ⟨⟨a⟩⟩ := a; obtain ⟨⟨b⟩⟩ := b; congr 2)

end Go.Proofs.YtpcihhdalofdiaaGreatDoor

/- Find: the program's, the document's. -/
namespace Go.Proofs.YtpcihhdalofdiaaGreatDoor
open Go.RowKit
attribute [local irreducible] kindsOf nameOf bigB checkE

def isKey (nm : ByteArray) (ar : Int) (p : LPred) : Bool := decide (p.name = nm) && decide (p.arity = ar)
theorem isKey_yes {nm : ByteArray} {ar : Int} {p : LPred} (h : p.name = nm) (h2 : p.arity = ar) : isKey nm ar p = true := by simp [isKey, h, h2]
theorem isKey_no1 {nm : ByteArray} {ar : Int} {p : LPred} (h : ¬ p.name = nm) : isKey nm ar p = false := by simp [isKey, h]
theorem isKey_no2 {nm : ByteArray} {ar : Int} {p : LPred} (h : ¬ p.arity = ar) : isKey nm ar p = false := by simp [isKey, h]

theorem findPred_any (x : LPred) (nm : ByteArray) (ar : Int) (g1 g2 : Nat) (t1 t2 : TypeId) (w : World) (h1 : Blk w g1 t1 #[.string nm]) (h2 : Blk w g2 t2 #[.int .i64 ar]) :
    Calls Tryz.prog 130 #[.agg #[.string x.name, .int .i64 x.arity, .int .i64 x.entry], .pointer (some ⟨g1, 0, none⟩), .pointer (some ⟨g2, 0, none⟩)] w fun e w' => e = .returned (.bool (isKey nm ar x)) ∧ Keeps w w' [] := by
  have k1 := (h1.alloc (.cells #[.string x.name, .int .i64 x.arity, .int .i64 x.entry] 52)).cell 0
  have k2 := (h2.alloc (.cells #[.string x.name, .int .i64 x.arity, .int .i64 x.entry] 52)).cell 0
  clear h1 h2
  by_cases n1 : x.name = nm
  · have e1 : (x.name.toList == nm.toList) = true := str_beq n1
    by_cases n2 : x.arity = ar
    · have e2 : (x.arity == ar) = true := by simpa using n2
      have HV := Lib.hid (isKey_yes n1 n2)
      clear n1 n2
      go_enter Tryz.func130, Tryz.ntmps130
      go_wp2_with fail
      go_ret
      exact ⟨by rw [HV.out]; rfl, (Keeps.refl _ _).alloc _⟩
    · have e2 : (x.arity == ar) = false := by simpa using n2
      have HV := Lib.hid (isKey_no2 (nm := nm) n2)
      clear n1 n2
      go_enter Tryz.func130, Tryz.ntmps130
      go_wp2_with fail
      go_ret
      exact ⟨by rw [HV.out]; rfl, (Keeps.refl _ _).alloc _⟩
  · have e1 : (x.name.toList == nm.toList) = false := str_bne n1
    have HV := Lib.hid (isKey_no1 (ar := ar) n1)
    clear n1
    go_enter Tryz.func130, Tryz.ntmps130
    go_wp2_with fail
    go_ret
    exact ⟨by rw [HV.out]; rfl, (Keeps.refl _ _).alloc _⟩

set_option maxHeartbeats 1600000 in
theorem indexPred_any (A : Option Addr) (n c : Nat) (l : List LPred) (nm : ByteArray) (ar : Int) (g1 g2 : Nat) (t1 t2 : TypeId) (w : World) (hl : l.length = n) (hn : n ≤ 65536) (hA : Rd w A (l.flatMap predE)) (h1 : Blk w g1 t1 #[.string nm]) (h2 : Blk w g2 t2 #[.int .i64 ar]) :
    Calls Tryz.prog 32 #[.slice A n c, .func (.func 130) #[] #[.pointer (some ⟨g1, 0, none⟩), .pointer (some ⟨g2, 0, none⟩)]] w fun e w' => e = .returned (.int .i64 (findI (isKey nm ar) l)) ∧ Keeps w w' [] := by
  have HL := Lib.hid hl
  have HA := Lib.hid hA
  have HG1 := Lib.hid h1
  have HG2 := Lib.hid h2
  clear hl hA h1 h2
  go_enter Tryz.func32, Tryz.ntmps32
  go_wp2_with fail
  go_loopw [8] (fun i wr => ∃ k : Nat, k ≤ n ∧ i = .int .i64 k ∧ Hid (∀ y ∈ l.take k, isKey nm ar y = false) ∧ Keeps w wr []) (fun i _ => n - (intOf i).toNat)
  case atStart => exact ⟨0, Nat.zero_le _, rfl, fun y hy => by simp at hy, Keeps.refl _ _⟩
  case round =>
    obtain ⟨k, hk, rfl, HB, kr⟩ := hrel
    have HK := Lib.hid kr
    clear kr
    by_cases hlt : k < n
    · obtain ⟨x, hx⟩ := at_of HL.out hlt
      obtain ⟨b, off, rfl, hb, hc⟩ := (HA.out).field predE_len hx (by omega)
      have HX := Lib.hid hx
      have q0 : wr.cell? ⟨b, off + k * 3, none⟩ = some (.string x.name) := (HK.out.cell0 hb).trans (hc 0 _ rfl)
      have q1 : wr.cell? ⟨b, off + k * 3 + 1, none⟩ = some (.int .i64 x.arity) := (HK.out.cell0 hb).trans (hc 1 _ rfl)
      have q2 : wr.cell? ⟨b, off + k * 3 + 2, none⟩ = some (.int .i64 x.entry) := (HK.out.cell0 hb).trans (hc 2 _ rfl)
      have HC := Lib.hid (findPred_any x nm ar g1 g2 t1 t2 wr (HG1.out.keep HK.out (by simp)) (HG2.out.keep HK.out (by simp)))
      clear hx hc
      have b0 : (0 : Int) ≤ (k : Int) := Int.natCast_nonneg _
      have b1 : (k : Int) < (n : Int) := by omega
      cases hp : isKey nm ar x with
      | true =>
        have HI : Hid (findI (isKey nm ar) l = (k : Int)) := findI_some HX.out hp HB.out
        rw [hp] at HC
        clear hp
        go_wp2_with (go_at_call 130; refine HC.out.mono ?_; rintro e w' ⟨rfl, k2⟩)
        go_ret
        exact ⟨by rw [HI.out]; rfl, HK.out.trans k2⟩
      | false =>
        have HB2 : Hid (∀ y ∈ l.take (k + 1), isKey nm ar y = false) := take_snoc_all HX.out hp HB.out
        rw [hp] at HC
        clear hp
        go_wp2_with (go_at_call 130; refine HC.out.mono ?_; rintro e w' ⟨rfl, k2⟩)
        go_roundw
        case rel => exact ⟨k + 1, by omega, by go_num, HB2, HK.out.trans k2⟩
        case measure => simp [intOf]; omega
    · obtain rfl : n = k := by omega
      have HI : Hid (findI (isKey nm ar) l = -1) := findI_none (by have := HB.out; rwa [List.take_of_length_le (by rw [HL.out]; omega)] at this)
      go_wp2_with fail
      go_ret
      exact ⟨by rw [HI.out]; rfl, HK.out⟩
def FindCalls (f : FuncId) (o : LObj) (nm : ByteArray) (ar : Int) : Prop :=
  ∀ (Aa Af Ap Ac : Option Addr) (na nf np nc ca cf cp cc : Nat) (w : World), ObIs w o Aa Af Ap Ac ca cf cp cc → Fits o → o.atoms.length = na → o.funs.length = nf → o.preds.length = np → o.code.length = nc →
    Calls Tryz.prog f #[.agg #[.slice Aa na ca, .slice Af nf cf, .slice Ap np cp, .slice Ac nc cc], .string nm, .int .i64 ar] w (ErrTold (findI (isKey nm ar) o.preds) w)
set_option maxRecDepth 20000 in
set_option maxHeartbeats 1600000 in
theorem find_any (o : LObj) (nm : ByteArray) (ar : Int) : FindCalls 107 o nm ar := by
  intro Aa Af Ap Ac na nf np nc ca cf cp cc w h hf la lf lp lc
  have hmf : ∀ (fn : Fn) (first cap : Array Value) (w : World), (Instr.makeFunc fn first cap).run Tryz.prog w = .ok (.func fn first cap) w := fun _ _ _ _ => rfl
  obtain ⟨W, hW⟩ : ∃ W, ((w.alloc (.cells #[.slice Aa na ca, .slice Af nf cf, .slice Ap np cp, .slice Ac nc cc] 31)).alloc (.cells #[.string nm] 9)).alloc (.cells #[.int .i64 ar] 3) = W := ⟨_, rfl⟩
  have kW : Keeps w W [] := by rw [← hW]; exact (((Keeps.refl w []).alloc _).alloc _).alloc _
  have B1 : Blk W w.heap.size 31 #[.slice Aa na ca, .slice Af nf cf, .slice Ap np cp, .slice Ac nc cc] := by rw [← hW]; exact ((Blk.new w _ _).alloc _).alloc _
  have B2 : Blk W (w.heap.size + 1) 9 #[.string nm] := by rw [← hW]; exact (Blk.newAt _ _ (by simp)).alloc _
  have B3 : Blk W (w.heap.size + 1 + 1) 3 #[.int .i64 ar] := by rw [← hW]; exact Blk.newAt _ _ (by simp)
  have HC := Lib.hid (indexPred_any Ap np cp o.preds nm ar (w.heap.size + 1) (w.heap.size + 1 + 1) _ _ W lp (by have := hf.preds; omega) (h.preds.keep kW) B2 B3)
  have HK := Lib.hid kW
  have c1 := B1.cell 1
  rw [← hW] at c1 HC HK
  clear hW kW B1 B2 B3 h hf la lf lp lc W
  go_enter Tryz.func107, Tryz.ntmps107
  go_wp2_with fail
  refine HC.out.mono ?_
  rintro e w2 ⟨rfl, k2⟩
  go_wp2_with fail
  go_ret
  exact ⟨rfl, HK.out.trans k2⟩
set_option maxRecDepth 20000 in
set_option maxHeartbeats 1600000 in
theorem refFind_any (o : LObj) (nm : ByteArray) (ar : Int) : FindCalls 85 o nm ar := by
  intro Aa Af Ap Ac na nf np nc ca cf cp cc w h hf la lf lp lc
  have HL := Lib.hid lp
  have HA := Lib.hid h.preds
  have gp : np ≤ 65536 := by have := hf.preds; omega
  have HST : Hid (BoxSt w (w.alloc (.cells #[.slice Aa na ca, .slice Af nf cf, .slice Ap np cp, .slice Ac nc cc] 39)) w.heap.size 39 #[.slice Aa na ca, .slice Af nf cf, .slice Ap np cp, .slice Ac nc cc]) := ⟨Blk.new _ _ _, (Keeps.refl _ []).alloc _⟩
  clear h hf la lf lp lc
  go_enter Tryz.func85, Tryz.ntmps85
  go_wp2_with fail
  go_loopw [7] (fun i wr => ∃ k : Nat, k ≤ np ∧ i = .int .i64 k ∧ Hid (∀ y ∈ o.preds.take k, isKey nm ar y = false) ∧ BoxSt w wr w.heap.size 39 #[.slice Aa na ca, .slice Af nf cf, .slice Ap np cp, .slice Ac nc cc]) (fun i _ => np - (intOf i).toNat)
  case atStart => exact ⟨0, Nat.zero_le _, rfl, fun y hy => by simp at hy, HST.out⟩
  case round =>
    obtain ⟨k, hk, rfl, HB, st⟩ := hrel
    have HS := Lib.hid st
    have p1 := st.blk.cell 2
    clear st
    by_cases hlt : k < np
    · obtain ⟨x, hx⟩ := at_of HL.out hlt
      obtain ⟨b, off, rfl, hb, hc⟩ := (HA.out).field predE_len hx (by omega)
      have HX := Lib.hid hx
      have q0 : wr.cell? ⟨b, off + k * 3, none⟩ = some (.string x.name) := (HS.out.keep.cell0 hb).trans (hc 0 _ rfl)
      have q1 : wr.cell? ⟨b, off + k * 3 + 1, none⟩ = some (.int .i64 x.arity) := (HS.out.keep.cell0 hb).trans (hc 1 _ rfl)
      clear hx hc
      have b0 : (0 : Int) ≤ (k : Int) := Int.natCast_nonneg _
      have b1 : (k : Int) < (np : Int) := by omega
      by_cases n1 : x.name = nm
      · have e1 : (x.name.toList == nm.toList) = true := str_beq n1
        by_cases n2 : x.arity = ar
        · have e2 : (x.arity == ar) = true := by simpa using n2
          have HI : Hid (findI (isKey nm ar) o.preds = (k : Int)) := findI_some HX.out (isKey_yes n1 n2) HB.out
          clear n1 n2
          go_wp2_with fail
          go_ret
          exact ⟨by rw [HI.out]; rfl, HS.out.keep⟩
        · have e2 : (x.arity == ar) = false := by simpa using n2
          have HB2 : Hid (∀ y ∈ o.preds.take (k + 1), isKey nm ar y = false) := take_snoc_all HX.out (isKey_no2 n2) HB.out
          clear n1 n2
          go_wp2_with fail
          go_roundw
          case rel => exact ⟨k + 1, by omega, by go_num, HB2, HS.out⟩
          case measure => simp [intOf]; omega
      · have e1 : (x.name.toList == nm.toList) = false := str_bne n1
        have HB2 : Hid (∀ y ∈ o.preds.take (k + 1), isKey nm ar y = false) := take_snoc_all HX.out (isKey_no1 n1) HB.out
        clear n1
        go_wp2_with fail
        go_roundw
        case rel => exact ⟨k + 1, by omega, by go_num, HB2, HS.out⟩
        case measure => simp [intOf]; omega
    · obtain rfl : np = k := by omega
      have HI : Hid (findI (isKey nm ar) o.preds = -1) := findI_none (by have := HB.out; rwa [List.take_of_length_le (by rw [HL.out]; omega)] at this)
      go_wp2_with fail
      go_ret
      exact ⟨by rw [HI.out]; rfl, HS.out.keep⟩
end Go.Proofs.YtpcihhdalofdiaaGreatDoor

/- A region that draws its order and ends in operations that write one behind the other: as XText, S asked ahead of these alone. Over any program. -/
namespace Go.Proofs.YtpcihhdalofdiaaGreatDoor
open Go

section
variable {P : Program} {ops : Array Oper} {Q : Exit → Act → World → Prop} {md : Region.Mode} {S : World → Prop}

def tyB (md : Region.Mode) (ops : Array Oper) (n : Nat) : List (Nat × Bool) → Array Bool → Bool
  | [], listed => (Region.ready md ops listed).isEmpty
  | (k, true) :: r, listed => decide (k < n) && (Region.ready md ops listed).contains k && Region.free md ops listed k && tyB md ops n r (listed.setIfInBounds k true)
  | (k, false) :: r, listed => decide (Region.ready md ops listed = [k]) && (decide (k < n) || r.all fun x => !x.2 && decide (n ≤ x.1)) && tyB md ops n r (listed.setIfInBounds k true)
end
end Go.Proofs.YtpcihhdalofdiaaGreatDoor

/- Layer 6: the document's Operands, its row in new memory. Printed by gen_opg.py. -/
namespace Go.Proofs.YtpcihhdalofdiaaGreatDoor
open Go.RowKit

set_option maxHeartbeats 400000 in
theorem refKindsF0 (w : World) : Calls Tryz.prog 40 #[.int .i64 0] w (KindsF w 0) := by
  have HK : Hid (kindsOf 0 = []) := kinds_at 0 (by omega) rfl
  go_enter Tryz.func40, Tryz.ntmps40
  go_wp2_with fail
  go_ret
  refine ⟨none, 0, by rw [HK.out]; rfl, ?_, Keeps.refl w [], fun b off h => by cases h⟩
  rw [HK.out]
  exact Nums.nil
set_option maxHeartbeats 400000 in
theorem refKindsF1 (w : World) : Calls Tryz.prog 40 #[.int .i64 1] w (KindsF w 1) := by
  have HK : Hid (kindsOf 1 = [1, 2]) := kinds_at 1 (by omega) rfl
  go_enter Tryz.func40, Tryz.ntmps40
  go_wp2_with fail
  go_ret
  refine ⟨some ⟨w.heap.size, 0, none⟩, 2, by rw [HK.out]; rfl, ?_, (Keeps.refl w []).alloc _, fun b off h => by injection h with h; injection h with h; omega⟩
  rw [HK.out]
  exact Nums.of_blk [1, 2] (Blk.new _ _ _) rfl
set_option maxHeartbeats 400000 in
theorem refKindsF2 (w : World) : Calls Tryz.prog 40 #[.int .i64 2] w (KindsF w 2) := by
  have HK : Hid (kindsOf 2 = [1, 2]) := kinds_at 2 (by omega) rfl
  go_enter Tryz.func40, Tryz.ntmps40
  go_wp2_with fail
  go_ret
  refine ⟨some ⟨w.heap.size, 0, none⟩, 2, by rw [HK.out]; rfl, ?_, (Keeps.refl w []).alloc _, fun b off h => by injection h with h; injection h with h; omega⟩
  rw [HK.out]
  exact Nums.of_blk [1, 2] (Blk.new _ _ _) rfl
set_option maxHeartbeats 400000 in
theorem refKindsF3 (w : World) : Calls Tryz.prog 40 #[.int .i64 3] w (KindsF w 3) := by
  have HK : Hid (kindsOf 3 = [3, 2]) := kinds_at 3 (by omega) rfl
  go_enter Tryz.func40, Tryz.ntmps40
  go_wp2_with fail
  go_ret
  refine ⟨some ⟨w.heap.size, 0, none⟩, 2, by rw [HK.out]; rfl, ?_, (Keeps.refl w []).alloc _, fun b off h => by injection h with h; injection h with h; omega⟩
  rw [HK.out]
  exact Nums.of_blk [3, 2] (Blk.new _ _ _) rfl
set_option maxHeartbeats 400000 in
theorem refKindsF4 (w : World) : Calls Tryz.prog 40 #[.int .i64 4] w (KindsF w 4) := by
  have HK : Hid (kindsOf 4 = [4, 2]) := kinds_at 4 (by omega) rfl
  go_enter Tryz.func40, Tryz.ntmps40
  go_wp2_with fail
  go_ret
  refine ⟨some ⟨w.heap.size, 0, none⟩, 2, by rw [HK.out]; rfl, ?_, (Keeps.refl w []).alloc _, fun b off h => by injection h with h; injection h with h; omega⟩
  rw [HK.out]
  exact Nums.of_blk [4, 2] (Blk.new _ _ _) rfl
set_option maxHeartbeats 400000 in
theorem refKindsF5 (w : World) : Calls Tryz.prog 40 #[.int .i64 5] w (KindsF w 5) := by
  have HK : Hid (kindsOf 5 = [2]) := kinds_at 5 (by omega) rfl
  go_enter Tryz.func40, Tryz.ntmps40
  go_wp2_with fail
  go_ret
  refine ⟨some ⟨w.heap.size, 0, none⟩, 1, by rw [HK.out]; rfl, ?_, (Keeps.refl w []).alloc _, fun b off h => by injection h with h; injection h with h; omega⟩
  rw [HK.out]
  exact Nums.of_blk [2] (Blk.new _ _ _) rfl
set_option maxHeartbeats 400000 in
theorem refKindsF6 (w : World) : Calls Tryz.prog 40 #[.int .i64 6] w (KindsF w 6) := by
  have HK : Hid (kindsOf 6 = [1]) := kinds_at 6 (by omega) rfl
  go_enter Tryz.func40, Tryz.ntmps40
  go_wp2_with fail
  go_ret
  refine ⟨some ⟨w.heap.size, 0, none⟩, 1, by rw [HK.out]; rfl, ?_, (Keeps.refl w []).alloc _, fun b off h => by injection h with h; injection h with h; omega⟩
  rw [HK.out]
  exact Nums.of_blk [1] (Blk.new _ _ _) rfl
set_option maxHeartbeats 400000 in
theorem refKindsF7 (w : World) : Calls Tryz.prog 40 #[.int .i64 7] w (KindsF w 7) := by
  have HK : Hid (kindsOf 7 = [1]) := kinds_at 7 (by omega) rfl
  go_enter Tryz.func40, Tryz.ntmps40
  go_wp2_with fail
  go_ret
  refine ⟨some ⟨w.heap.size, 0, none⟩, 1, by rw [HK.out]; rfl, ?_, (Keeps.refl w []).alloc _, fun b off h => by injection h with h; injection h with h; omega⟩
  rw [HK.out]
  exact Nums.of_blk [1] (Blk.new _ _ _) rfl
set_option maxHeartbeats 400000 in
theorem refKindsF8 (w : World) : Calls Tryz.prog 40 #[.int .i64 8] w (KindsF w 8) := by
  have HK : Hid (kindsOf 8 = [3]) := kinds_at 8 (by omega) rfl
  go_enter Tryz.func40, Tryz.ntmps40
  go_wp2_with fail
  go_ret
  refine ⟨some ⟨w.heap.size, 0, none⟩, 1, by rw [HK.out]; rfl, ?_, (Keeps.refl w []).alloc _, fun b off h => by injection h with h; injection h with h; omega⟩
  rw [HK.out]
  exact Nums.of_blk [3] (Blk.new _ _ _) rfl
set_option maxHeartbeats 400000 in
theorem refKindsF9 (w : World) : Calls Tryz.prog 40 #[.int .i64 9] w (KindsF w 9) := by
  have HK : Hid (kindsOf 9 = [5]) := kinds_at 9 (by omega) rfl
  go_enter Tryz.func40, Tryz.ntmps40
  go_wp2_with fail
  go_ret
  refine ⟨some ⟨w.heap.size, 0, none⟩, 1, by rw [HK.out]; rfl, ?_, (Keeps.refl w []).alloc _, fun b off h => by injection h with h; injection h with h; omega⟩
  rw [HK.out]
  exact Nums.of_blk [5] (Blk.new _ _ _) rfl
set_option maxHeartbeats 400000 in
theorem refKindsF10 (w : World) : Calls Tryz.prog 40 #[.int .i64 10] w (KindsF w 10) := by
  have HK : Hid (kindsOf 10 = [1, 2]) := kinds_at 10 (by omega) rfl
  go_enter Tryz.func40, Tryz.ntmps40
  go_wp2_with fail
  go_ret
  refine ⟨some ⟨w.heap.size, 0, none⟩, 2, by rw [HK.out]; rfl, ?_, (Keeps.refl w []).alloc _, fun b off h => by injection h with h; injection h with h; omega⟩
  rw [HK.out]
  exact Nums.of_blk [1, 2] (Blk.new _ _ _) rfl
set_option maxHeartbeats 400000 in
theorem refKindsF11 (w : World) : Calls Tryz.prog 40 #[.int .i64 11] w (KindsF w 11) := by
  have HK : Hid (kindsOf 11 = [1, 2]) := kinds_at 11 (by omega) rfl
  go_enter Tryz.func40, Tryz.ntmps40
  go_wp2_with fail
  go_ret
  refine ⟨some ⟨w.heap.size, 0, none⟩, 2, by rw [HK.out]; rfl, ?_, (Keeps.refl w []).alloc _, fun b off h => by injection h with h; injection h with h; omega⟩
  rw [HK.out]
  exact Nums.of_blk [1, 2] (Blk.new _ _ _) rfl
set_option maxHeartbeats 400000 in
theorem refKindsF12 (w : World) : Calls Tryz.prog 40 #[.int .i64 12] w (KindsF w 12) := by
  have HK : Hid (kindsOf 12 = [3, 2]) := kinds_at 12 (by omega) rfl
  go_enter Tryz.func40, Tryz.ntmps40
  go_wp2_with fail
  go_ret
  refine ⟨some ⟨w.heap.size, 0, none⟩, 2, by rw [HK.out]; rfl, ?_, (Keeps.refl w []).alloc _, fun b off h => by injection h with h; injection h with h; omega⟩
  rw [HK.out]
  exact Nums.of_blk [3, 2] (Blk.new _ _ _) rfl
set_option maxHeartbeats 400000 in
theorem refKindsF13 (w : World) : Calls Tryz.prog 40 #[.int .i64 13] w (KindsF w 13) := by
  have HK : Hid (kindsOf 13 = [4, 2]) := kinds_at 13 (by omega) rfl
  go_enter Tryz.func40, Tryz.ntmps40
  go_wp2_with fail
  go_ret
  refine ⟨some ⟨w.heap.size, 0, none⟩, 2, by rw [HK.out]; rfl, ?_, (Keeps.refl w []).alloc _, fun b off h => by injection h with h; injection h with h; omega⟩
  rw [HK.out]
  exact Nums.of_blk [4, 2] (Blk.new _ _ _) rfl
set_option maxHeartbeats 400000 in
theorem refKindsF14 (w : World) : Calls Tryz.prog 40 #[.int .i64 14] w (KindsF w 14) := by
  have HK : Hid (kindsOf 14 = [2]) := kinds_at 14 (by omega) rfl
  go_enter Tryz.func40, Tryz.ntmps40
  go_wp2_with fail
  go_ret
  refine ⟨some ⟨w.heap.size, 0, none⟩, 1, by rw [HK.out]; rfl, ?_, (Keeps.refl w []).alloc _, fun b off h => by injection h with h; injection h with h; omega⟩
  rw [HK.out]
  exact Nums.of_blk [2] (Blk.new _ _ _) rfl
set_option maxHeartbeats 400000 in
theorem refKindsF15 (w : World) : Calls Tryz.prog 40 #[.int .i64 15] w (KindsF w 15) := by
  have HK : Hid (kindsOf 15 = [6]) := kinds_at 15 (by omega) rfl
  go_enter Tryz.func40, Tryz.ntmps40
  go_wp2_with fail
  go_ret
  refine ⟨some ⟨w.heap.size, 0, none⟩, 1, by rw [HK.out]; rfl, ?_, (Keeps.refl w []).alloc _, fun b off h => by injection h with h; injection h with h; omega⟩
  rw [HK.out]
  exact Nums.of_blk [6] (Blk.new _ _ _) rfl
set_option maxHeartbeats 400000 in
theorem refKindsF16 (w : World) : Calls Tryz.prog 40 #[.int .i64 16] w (KindsF w 16) := by
  have HK : Hid (kindsOf 16 = []) := kinds_at 16 (by omega) rfl
  go_enter Tryz.func40, Tryz.ntmps40
  go_wp2_with fail
  go_ret
  refine ⟨none, 0, by rw [HK.out]; rfl, ?_, Keeps.refl w [], fun b off h => by cases h⟩
  rw [HK.out]
  exact Nums.nil
set_option maxHeartbeats 400000 in
theorem refKindsF17 (w : World) : Calls Tryz.prog 40 #[.int .i64 17] w (KindsF w 17) := by
  have HK : Hid (kindsOf 17 = [7]) := kinds_at 17 (by omega) rfl
  go_enter Tryz.func40, Tryz.ntmps40
  go_wp2_with fail
  go_ret
  refine ⟨some ⟨w.heap.size, 0, none⟩, 1, by rw [HK.out]; rfl, ?_, (Keeps.refl w []).alloc _, fun b off h => by injection h with h; injection h with h; omega⟩
  rw [HK.out]
  exact Nums.of_blk [7] (Blk.new _ _ _) rfl
set_option maxHeartbeats 400000 in
theorem refKindsF18 (w : World) : Calls Tryz.prog 40 #[.int .i64 18] w (KindsF w 18) := by
  have HK : Hid (kindsOf 18 = [7]) := kinds_at 18 (by omega) rfl
  go_enter Tryz.func40, Tryz.ntmps40
  go_wp2_with fail
  go_ret
  refine ⟨some ⟨w.heap.size, 0, none⟩, 1, by rw [HK.out]; rfl, ?_, (Keeps.refl w []).alloc _, fun b off h => by injection h with h; injection h with h; omega⟩
  rw [HK.out]
  exact Nums.of_blk [7] (Blk.new _ _ _) rfl
set_option maxHeartbeats 400000 in
theorem refKindsF19 (w : World) : Calls Tryz.prog 40 #[.int .i64 19] w (KindsF w 19) := by
  have HK : Hid (kindsOf 19 = []) := kinds_at 19 (by omega) rfl
  go_enter Tryz.func40, Tryz.ntmps40
  go_wp2_with fail
  go_ret
  refine ⟨none, 0, by rw [HK.out]; rfl, ?_, Keeps.refl w [], fun b off h => by cases h⟩
  rw [HK.out]
  exact Nums.nil
set_option maxHeartbeats 400000 in
theorem refKindsF20 (w : World) : Calls Tryz.prog 40 #[.int .i64 20] w (KindsF w 20) := by
  have HK : Hid (kindsOf 20 = [8]) := kinds_at 20 (by omega) rfl
  go_enter Tryz.func40, Tryz.ntmps40
  go_wp2_with fail
  go_ret
  refine ⟨some ⟨w.heap.size, 0, none⟩, 1, by rw [HK.out]; rfl, ?_, (Keeps.refl w []).alloc _, fun b off h => by injection h with h; injection h with h; omega⟩
  rw [HK.out]
  exact Nums.of_blk [8] (Blk.new _ _ _) rfl
set_option maxHeartbeats 400000 in
theorem refKindsF21 (w : World) : Calls Tryz.prog 40 #[.int .i64 21] w (KindsF w 21) := by
  have HK : Hid (kindsOf 21 = [8]) := kinds_at 21 (by omega) rfl
  go_enter Tryz.func40, Tryz.ntmps40
  go_wp2_with fail
  go_ret
  refine ⟨some ⟨w.heap.size, 0, none⟩, 1, by rw [HK.out]; rfl, ?_, (Keeps.refl w []).alloc _, fun b off h => by injection h with h; injection h with h; omega⟩
  rw [HK.out]
  exact Nums.of_blk [8] (Blk.new _ _ _) rfl
set_option maxHeartbeats 400000 in
theorem refKindsF22 (w : World) : Calls Tryz.prog 40 #[.int .i64 22] w (KindsF w 22) := by
  have HK : Hid (kindsOf 22 = []) := kinds_at 22 (by omega) rfl
  go_enter Tryz.func40, Tryz.ntmps40
  go_wp2_with fail
  go_ret
  refine ⟨none, 0, by rw [HK.out]; rfl, ?_, Keeps.refl w [], fun b off h => by cases h⟩
  rw [HK.out]
  exact Nums.nil
set_option maxHeartbeats 400000 in
theorem refKindsF23 (w : World) : Calls Tryz.prog 40 #[.int .i64 23] w (KindsF w 23) := by
  have HK : Hid (kindsOf 23 = []) := kinds_at 23 (by omega) rfl
  go_enter Tryz.func40, Tryz.ntmps40
  go_wp2_with fail
  go_ret
  refine ⟨none, 0, by rw [HK.out]; rfl, ?_, Keeps.refl w [], fun b off h => by cases h⟩
  rw [HK.out]
  exact Nums.nil
set_option maxHeartbeats 400000 in
theorem refKindsF24 (w : World) : Calls Tryz.prog 40 #[.int .i64 24] w (KindsF w 24) := by
  have HK : Hid (kindsOf 24 = [9]) := kinds_at 24 (by omega) rfl
  go_enter Tryz.func40, Tryz.ntmps40
  go_wp2_with fail
  go_ret
  refine ⟨some ⟨w.heap.size, 0, none⟩, 1, by rw [HK.out]; rfl, ?_, (Keeps.refl w []).alloc _, fun b off h => by injection h with h; injection h with h; omega⟩
  rw [HK.out]
  exact Nums.of_blk [9] (Blk.new _ _ _) rfl
set_option maxHeartbeats 400000 in
theorem refKindsF25 (w : World) : Calls Tryz.prog 40 #[.int .i64 25] w (KindsF w 25) := by
  have HK : Hid (kindsOf 25 = [9]) := kinds_at 25 (by omega) rfl
  go_enter Tryz.func40, Tryz.ntmps40
  go_wp2_with fail
  go_ret
  refine ⟨some ⟨w.heap.size, 0, none⟩, 1, by rw [HK.out]; rfl, ?_, (Keeps.refl w []).alloc _, fun b off h => by injection h with h; injection h with h; omega⟩
  rw [HK.out]
  exact Nums.of_blk [9] (Blk.new _ _ _) rfl
set_option maxHeartbeats 400000 in
theorem refKindsF26 (w : World) : Calls Tryz.prog 40 #[.int .i64 26] w (KindsF w 26) := by
  have HK : Hid (kindsOf 26 = [8, 8, 8, 8]) := kinds_at 26 (by omega) rfl
  go_enter Tryz.func40, Tryz.ntmps40
  go_wp2_with fail
  go_ret
  refine ⟨some ⟨w.heap.size, 0, none⟩, 4, by rw [HK.out]; rfl, ?_, (Keeps.refl w []).alloc _, fun b off h => by injection h with h; injection h with h; omega⟩
  rw [HK.out]
  exact Nums.of_blk [8, 8, 8, 8] (Blk.new _ _ _) rfl
set_option maxHeartbeats 800000 in
theorem refKindsF_none (op : Int) (h : op < 0 ∨ 26 < op) (w : World) : Calls Tryz.prog 40 #[.int .i64 op] w (KindsF w op) := by
  have HK : Hid (kindsOf op = []) := if_neg (by omega)
  have h1 : (op == 1) = false := by simp; omega
  have h2 : (op == 2) = false := by simp; omega
  have h3 : (op == 3) = false := by simp; omega
  have h4 : (op == 4) = false := by simp; omega
  have h5 : (op == 5) = false := by simp; omega
  have h6 : (op == 6) = false := by simp; omega
  have h7 : (op == 7) = false := by simp; omega
  have h8 : (op == 8) = false := by simp; omega
  have h9 : (op == 9) = false := by simp; omega
  have h10 : (op == 10) = false := by simp; omega
  have h11 : (op == 11) = false := by simp; omega
  have h12 : (op == 12) = false := by simp; omega
  have h13 : (op == 13) = false := by simp; omega
  have h14 : (op == 14) = false := by simp; omega
  have h15 : (op == 15) = false := by simp; omega
  have h17 : (op == 17) = false := by simp; omega
  have h18 : (op == 18) = false := by simp; omega
  have h20 : (op == 20) = false := by simp; omega
  have h21 : (op == 21) = false := by simp; omega
  have h24 : (op == 24) = false := by simp; omega
  have h25 : (op == 25) = false := by simp; omega
  have h26 : (op == 26) = false := by simp; omega
  clear h
  go_enter Tryz.func40, Tryz.ntmps40
  go_wp2_with fail
  go_ret
  refine ⟨none, 0, by rw [HK.out]; rfl, ?_, Keeps.refl w [], fun b off h => by cases h⟩
  rw [HK.out]
  exact Nums.nil
theorem refKindsF_any (op : Int) (w : World) : Calls Tryz.prog 40 #[.int .i64 op] w (KindsF w op) := by
  by_cases h : op < 0 ∨ 26 < op
  · exact refKindsF_none op h w
  · obtain ⟨k, rfl⟩ := Int.eq_ofNat_of_zero_le (show 0 ≤ op by omega)
    match k, (show k < 27 by omega) with
    | 0, _ => exact refKindsF0 w
    | 1, _ => exact refKindsF1 w
    | 2, _ => exact refKindsF2 w
    | 3, _ => exact refKindsF3 w
    | 4, _ => exact refKindsF4 w
    | 5, _ => exact refKindsF5 w
    | 6, _ => exact refKindsF6 w
    | 7, _ => exact refKindsF7 w
    | 8, _ => exact refKindsF8 w
    | 9, _ => exact refKindsF9 w
    | 10, _ => exact refKindsF10 w
    | 11, _ => exact refKindsF11 w
    | 12, _ => exact refKindsF12 w
    | 13, _ => exact refKindsF13 w
    | 14, _ => exact refKindsF14 w
    | 15, _ => exact refKindsF15 w
    | 16, _ => exact refKindsF16 w
    | 17, _ => exact refKindsF17 w
    | 18, _ => exact refKindsF18 w
    | 19, _ => exact refKindsF19 w
    | 20, _ => exact refKindsF20 w
    | 21, _ => exact refKindsF21 w
    | 22, _ => exact refKindsF22 w
    | 23, _ => exact refKindsF23 w
    | 24, _ => exact refKindsF24 w
    | 25, _ => exact refKindsF25 w
    | 26, _ => exact refKindsF26 w
    | k + 27, h => exact absurd h (by omega)
end Go.Proofs.YtpcihhdalofdiaaGreatDoor

/- A region that draws its order and ends in operations that write one behind the other, where some operations that any world answers alike (they are known by `post`) are not awaited by the first of these. Over any program. -/
namespace Go.Proofs.YtpcihhdalofdiaaGreatDoor
open Go

section
variable {P : Program} {ops : Array Oper} {Q : Exit → Act → World → Prop} {md : Region.Mode} {S : World → Prop}
def sinkQ (md : Region.Mode) (ops : Array Oper) (n : Nat) (post : List Nat) : Bool :=
  (List.range n).all fun i => post.contains i || (List.range (n + 1)).any fun j => decide (i < j) && !post.contains j && Region.waitsFor md ops j i
theorem tail_waitsQ {n : Nat} {post : List Nat} {listed : Array Bool} (hs : sinkQ md ops n post = true) (hc : Region.chainB md ops n = true) (hn : n < ops.size) (inv : HeadInv md ops n listed) :
    ∀ (d i : Nat), n - i = d → i < n → post.contains i = false → listed.getD i true = false → ∀ t, n ≤ t → t ∉ Region.ready md ops listed := by
  intro d
  induction d using Nat.strongRecOn with
  | _ d ih =>
    intro i hd hi hpi hun t ht hr
    obtain ⟨_, ot, hot, hall⟩ := mem_ready.1 hr
    have htlt : t < ops.size := (Array.getElem?_eq_some_iff.1 hot).1
    by_cases htn : t = n
    · subst htn
      have h1 := List.all_eq_true.1 hs i (List.mem_range.2 hi)
      rw [hpi, Bool.false_or] at h1
      obtain ⟨j, hj, hj2⟩ := List.any_eq_true.1 h1
      simp only [Bool.and_eq_true, decide_eq_true_eq, Bool.not_eq_true'] at hj2
      obtain ⟨oj, hoj, e, he, hb, hon⟩ := Region.waitsFor_spec hj2.2
      have hjle : j ≤ t := by have := List.mem_range.1 hj; omega
      by_cases hjt : j = t
      · subst hjt
        have : oj = ot := Option.some.inj (hoj.symm.trans hot)
        subst this
        have h2 := hall e he hb
        rw [hon, getD_both hun] at h2
        cases h2
      · cases hl : listed.getD j false with
        | true =>
          have h2 := inv.closed j oj hoj hl e he hb
          rw [hon, getD_both hun] at h2
          cases h2
        | false =>
          have hjs : j < listed.size := by rw [inv.size]; omega
          exact ih (t - j) (by omega) j rfl (by omega) hj2.1.2 (getD_in hjs hl) t (Nat.le_refl _) hr
    · have h1 := List.all_eq_true.1 hc t (List.mem_range.2 htlt)
      simp only [Bool.or_eq_true, decide_eq_true_eq] at h1
      rcases h1 with h1 | h1
      · omega
      · obtain ⟨o', ho', e, he, hb, hon⟩ := Region.waitsFor_spec h1
        have : o' = ot := Option.some.inj (ho'.symm.trans hot)
        subst this
        have h2 := hall e he hb
        rw [hon, getD_both (inv.tail (t - 1) (by omega) (by omega))] at h2
        cases h2
/-- None of the tail has been. -/
def NoB (ops : Array Oper) (n : Nat) (listed : Array Bool) : Prop := ∀ t, n ≤ t → t < ops.size → listed.getD t true = false
theorem NoB.set {n i : Nat} {listed : Array Bool} (hi : i < n) : NoB ops n (listed.setIfInBounds i true) ↔ NoB ops n listed := by
  constructor
  · intro h t ht hts
    have := h t ht hts
    rwa [getD_set_ne true (by omega)] at this
  · intro h t ht hts
    rw [getD_set_ne true (by omega)]
    exact h t ht hts
/-- Whatever order is picked: S holds as long as none of the tail has been. -/
def wpAnyH (P : Program) (md : Region.Mode) (ops : Array Oper) (Q : Exit → Act → World → Prop) (S : World → Prop) (n : Nat) : Nat → Array Bool → Act → World → Prop
  | 0, listed, a, w => Region.ready md ops listed = [] ∧ Q .normal a w
  | fuel + 1, listed, a, w =>
    (Region.ready md ops listed = [] → Q .normal a w) ∧
    ∀ i ∈ Region.ready md ops listed, wpOp P ops Q i (fun a' w' => (i < n → NoB ops n listed → S w') ∧ wpAnyH P md ops Q S n fuel (listed.setIfInBounds i true) a' w') a w
theorem wpAny_of_H {n : Nat} : ∀ (fuel : Nat) (listed : Array Bool) (a : Act) (w : World), wpAnyH P md ops Q S n fuel listed a w → wpAny P md ops Q fuel listed a w
  | 0, _, _, _, h => h
  | fuel + 1, _, _, _, h => ⟨h.1, fun i hi => wpOp_mono (fun a' w' h' => wpAny_of_H fuel _ a' w' h'.2) (h.2 i hi)⟩
theorem wpAnyH_first {n i : Nat} {post : List Nat} {oi : Oper} {v : Value} (hi : ops[i]? = some oi) (hsel : ∀ (j : Nat) (o : Oper) cs b, ops[j]? = some o → o.op ≠ .select cs b)
    (hQ : ∀ c a w, Q (.panic c) (a.put oi.dst v) w → Q (.panic c) a w) (hs : sinkQ md ops n post = true) (hc : Region.chainB md ops n = true) (hn : n < ops.size) (hin : i < n) (hpi : post.contains i = false) :
    ∀ (fuel : Nat) (listed : Array Bool) (a : Act) (w : World), HeadInv md ops n listed →
      (∀ j oj, ops[j]? = some oj → j ≠ i → listed.getD j true = false → (∀ e ∈ oj.after, Region.binds md e = true → e.on ≠ i) → oi.apart ops oj = true) →
      i ∈ Region.ready md ops listed → YieldsIf P ops S oi v a → S w →
      wpAnyH P md ops Q S n fuel (listed.setIfInBounds i true) (a.put oi.dst v) w → wpAnyH P md ops Q S n (fuel + 1) listed a w := by
  intro fuel
  induction fuel with
  | zero =>
    intro listed a w _ _ hr hy hS H
    refine ⟨fun h => (by rw [h] at hr; cases hr), fun j hj => ?_⟩
    by_cases hji : j = i
    · subst hji; exact hy.wpOp hi hS ⟨fun _ _ => hS, H⟩
    · have := ready_mono hj hji
      rw [H.1] at this
      cases this
  | succ fuel ih =>
    intro listed a w inv hfree hr hy hS H
    have hun := (mem_ready.1 hr).1
    refine ⟨fun h => (by rw [h] at hr; cases hr), fun j hj => ?_⟩
    by_cases hji : j = i
    · subst hji; exact hy.wpOp hi hS ⟨fun _ _ => hS, H⟩
    · have hjn : j < n := by
        rcases Nat.lt_or_ge j n with h | h
        · exact h
        · exact absurd hj (tail_waitsQ hs hc hn inv _ i rfl hin hpi hun j h)
      have h1 := H.2 j (ready_mono hj hji)
      obtain ⟨hjun, oj, hoj, hall⟩ := mem_ready.1 hj
      have hnot : ∀ e ∈ oj.after, Region.binds md e = true → e.on ≠ i := fun e he hb heq => by
        have h1 := hall e he hb
        rw [heq, getD_both hun] at h1
        cases h1
      have h2 := wpOp_putIf hoj (hfree j oj hoj hji hjun hnot) (fun cs b => hsel i oi cs b hi) (fun cs b => hsel j oj cs b hoj) hQ hy h1
      have hfree' : ∀ k ok, ops[k]? = some ok → k ≠ i → (listed.setIfInBounds j true).getD k true = false →
          (∀ e ∈ ok.after, Region.binds md e = true → e.on ≠ i) → oi.apart ops ok = true := fun k ok hk hki hun hno => by
        refine hfree k ok hk hki ?_ hno
        by_cases hjk : j = k
        · subst hjk; exact hjun
        · rw [getD_set_ne true hjk] at hun; exact hun
      have hnb : NoB ops n (listed.setIfInBounds i true) := (NoB.set hin).2 inv.tail
      refine wpOp_mono (fun a' w' h3 => ⟨fun _ _ => h3.2.1 hjn hnb, ih (listed.setIfInBounds j true) a' w' (inv.set hj hjn) hfree' (ready_mono hr (Ne.symm hji)) h3.1 (h3.2.1 hjn hnb) ?_⟩) h2
      rw [Array.setIfInBounds_comm _ _ hji]
      exact h3.2.2
/-- .. one that any world answers alike. -/
theorem wpAnyH_pure {n i : Nat} {oi : Oper} {v : Value} (hi : ops[i]? = some oi) (hsel : ∀ (j : Nat) (o : Oper) cs b, ops[j]? = some o → o.op ≠ .select cs b)
    (hQ : ∀ c a w, Q (.panic c) (a.put oi.dst v) w → Q (.panic c) a w) (hin : i < n) :
    ∀ (fuel : Nat) (listed : Array Bool) (a : Act) (w : World), (NoB ops n listed → S w) →
      (∀ j oj, ops[j]? = some oj → j ≠ i → listed.getD j true = false → (∀ e ∈ oj.after, Region.binds md e = true → e.on ≠ i) → oi.apart ops oj = true) →
      i ∈ Region.ready md ops listed → YieldsIf P ops (fun _ => True) oi v a →
      wpAnyH P md ops Q S n fuel (listed.setIfInBounds i true) (a.put oi.dst v) w → wpAnyH P md ops Q S n (fuel + 1) listed a w := by
  intro fuel
  induction fuel with
  | zero =>
    intro listed a w hS _ hr hy H
    refine ⟨fun h => (by rw [h] at hr; cases hr), fun j hj => ?_⟩
    by_cases hji : j = i
    · subst hji; exact hy.wpOp hi trivial ⟨fun _ h => hS h, H⟩
    · have := ready_mono hj hji
      rw [H.1] at this
      cases this
  | succ fuel ih =>
    intro listed a w hS hfree hr hy H
    have hun := (mem_ready.1 hr).1
    refine ⟨fun h => (by rw [h] at hr; cases hr), fun j hj => ?_⟩
    by_cases hji : j = i
    · subst hji; exact hy.wpOp hi trivial ⟨fun _ h => hS h, H⟩
    · have h1 := H.2 j (ready_mono hj hji)
      obtain ⟨hjun, oj, hoj, hall⟩ := mem_ready.1 hj
      have hjs : j < ops.size := (Array.getElem?_eq_some_iff.1 hoj).1
      have hnot : ∀ e ∈ oj.after, Region.binds md e = true → e.on ≠ i := fun e he hb heq => by
        have h1 := hall e he hb
        rw [heq, getD_both hun] at h1
        cases h1
      have h2 := wpOp_putIf hoj (hfree j oj hoj hji hjun hnot) (fun cs b => hsel i oi cs b hi) (fun cs b => hsel j oj cs b hoj) hQ hy h1
      have hfree' : ∀ k ok, ops[k]? = some ok → k ≠ i → (listed.setIfInBounds j true).getD k true = false →
          (∀ e ∈ ok.after, Region.binds md e = true → e.on ≠ i) → oi.apart ops ok = true := fun k ok hk hki hun hno => by
        refine hfree k ok hk hki ?_ hno
        by_cases hjk : j = k
        · subst hjk; exact hjun
        · rw [getD_set_ne true hjk] at hun; exact hun
      refine wpOp_mono (fun a' w' h3 => ⟨fun hjn hb => h3.2.1 hjn ((NoB.set hin).2 hb), ih (listed.setIfInBounds j true) a' w' (fun hb => ?_) hfree' (ready_mono hr (Ne.symm hji)) h3.1 ?_⟩) h2
      · rcases Nat.lt_or_ge j n with hjn | hjn
        · exact h3.2.1 hjn ((NoB.set hin).2 ((NoB.set hjn).1 hb))
        · have := hb j hjn hjs
          have hsz : j < listed.size := by
            rcases Nat.lt_or_ge j listed.size with h | h
            · exact h
            · rw [Array.getD_eq_getD_getElem?, Array.getElem?_eq_none h] at hjun
              cases hjun
          simp [Array.getD, hsz] at this
      · rw [Array.setIfInBounds_comm _ _ hji]
        exact h3.2.2
/-- The walk in the order of a schedule: (k, true): taken first, k of `post`: in any world; (k, false): it comes up alone. -/
def wpTh (P : Program) (l : List Oper) (Q : Exit → Act → World → Prop) (S : World → Prop) (n : Nat) (post : List Nat) : List (Nat × Bool) → Act → World → Prop
  | [], a, w => Q .normal a w
  | (k, true) :: r, a, w => ∃ o v, nthO l k = some o ∧ YieldsIf P l.toArray (if post.contains k then fun _ => True else S) o v a ∧ S w ∧ wpTh P l Q S n post r (a.put o.dst v) w
  | (k, false) :: r, a, w => wpOp P l.toArray Q k (fun a' w' => (k < n → S w') ∧ wpTh P l Q S n post r a' w') a w
theorem wpAnyH_of_th {l : List Oper} {n : Nat} {post : List Nat} (hsel : Region.noSelect l.toArray = true) (hQ : ∀ c a d v w, Q (.panic c) (Act.put a d v) w → Q (.panic c) a w) (hs : sinkQ md l.toArray n post = true) (hc : Region.chainB md l.toArray n = true) (hn : n < l.toArray.size) :
    ∀ (r : List (Nat × Bool)) (listed : Array Bool) (a : Act) (w : World), HeadInv md l.toArray n listed ∨ (r.all fun x => !x.2 && decide (n ≤ x.1)) = true → tyB md l.toArray n r listed = true → wpTh P l Q S n post r a w → wpAnyH P md l.toArray Q S n r.length listed a w
  | [], listed, a, w, _, hB, h => ⟨by simpa [tyB] using hB, h⟩
  | (k, true) :: r, listed, a, w, hinv, hB, h => by
    have inv : HeadInv md l.toArray n listed := by
      rcases hinv with h | h
      · exact h
      · simp at h
    simp only [tyB, Bool.and_eq_true, decide_eq_true_eq] at hB
    obtain ⟨⟨⟨hk, hr⟩, hf⟩, hB'⟩ := hB
    obtain ⟨o, v, ho, hy, hS, h'⟩ := h
    have h0 : l.toArray[k]? = some o := (nthO_eq l k).trans ho
    have hr' : k ∈ Region.ready md l.toArray listed := by simpa using hr
    have hnext := wpAnyH_of_th hsel hQ hs hc hn r _ _ _ (.inl (inv.set hr' hk)) hB' h'
    cases hp : post.contains k with
    | false =>
      rw [hp] at hy
      exact wpAnyH_first h0 (Region.noSelect_spec hsel) (fun c a w => hQ c a _ _ w) hs hc hn hk hp r.length listed a w inv (Region.free_spec h0 hf) hr' hy hS hnext
    | true =>
      rw [hp] at hy
      exact wpAnyH_pure h0 (Region.noSelect_spec hsel) (fun c a w => hQ c a _ _ w) hk r.length listed a w (fun _ => hS) (Region.free_spec h0 hf) hr' hy hnext
  | (k, false) :: r, listed, a, w, hinv, hB, h => by
    simp only [tyB, Bool.and_eq_true, decide_eq_true_eq] at hB
    obtain ⟨⟨hr, hlast⟩, hB'⟩ := hB
    refine ⟨fun h1 => (by rw [hr] at h1; cases h1), fun i hi => ?_⟩
    have hik : i = k := by rw [hr] at hi; simpa using hi
    subst hik
    have h2 : HeadInv md l.toArray n (listed.setIfInBounds i true) ∨ (r.all fun x => !x.2 && decide (n ≤ x.1)) = true := by
      by_cases hkn : i < n
      · rcases hinv with h | h
        · exact .inl (h.set hi hkn)
        · simp at h
          omega
      · simp only [Bool.or_eq_true, decide_eq_true_eq] at hlast
        rcases hlast with h | h
        · exact absurd h hkn
        · exact .inr h
    exact wpOp_mono (fun a' w' h' => ⟨fun hk _ => h'.1 hk, wpAnyH_of_th hsel hQ hs hc hn r _ a' w' h2 hB' h'.2⟩) h
def thAllB (md : Region.Mode) (l : List Oper) (n : Nat) (post : List Nat) (sched : List (Nat × Bool)) : Bool :=
  Region.noSelect l.toArray && decide (n < l.length) && sinkQ md l.toArray n post && Region.chainB md l.toArray n && decide (sched.length = l.length) && tyB md l.toArray n sched (Array.replicate l.length false)
theorem wp_region_th {id : Nat} {l : List Oper} {a : Act} {w : World} (S : World → Prop) (n : Nat) (post : List Nat) (sched : List (Nat × Bool)) (hm : P.follows .mixedOrders = true) (hB : thAllB .any l n post sched = true)
    (hS : S w.drew) (h : S w.drew → wpTh P l (NoPanic Q) S n post sched a w.drew) : (Code.region id l.toArray true).wp P Q a w := by
  refine wp_region_noPanic ?_
  have hQ : ∀ c a d v w, NoPanic Q (.panic c) (Act.put a d v) w → NoPanic Q (.panic c) a w := fun _ _ _ _ _ h => h
  simp only [thAllB, Bool.and_eq_true, decide_eq_true_eq] at hB
  obtain ⟨⟨⟨⟨⟨hsel, hl⟩, hs⟩, hc⟩, hlen⟩, hB⟩ := hB
  have hn : n < l.toArray.size := by simpa using hl
  have inv0 : HeadInv .any l.toArray n (Array.replicate l.length false) :=
    ⟨by simp, fun j oj _ hl => (by rw [getD_replicate_false] at hl; cases hl), fun t _ ht => getD_in (by simpa using ht) (getD_replicate_false _ _)⟩
  have H := wpAnyH_of_th hsel hQ hs hc hn sched _ a w.drew (.inl inv0) hB (h hS)
  rw [hlen] at H
  refine wp_region_any hm (wpAny_of_H (S := S) (n := n) _ _ _ _ ?_)
  rw [show l.toArray.size = l.length by simp]
  exact H
theorem wpTh_take {l : List Oper} {n k : Nat} {post : List Nat} {r : List (Nat × Bool)} {o : Oper} {v : Value} {a : Act} {w : World} (ho : nthO l k = some o) (hp : post.contains k = false) (hS : S w)
    (hy : ∀ w, S w → (execOp a.eval o).run P w = .ok (.value v) w) (hw : Region.wanted o (yielded l.toArray a.tmps) = true) (h : wpTh P l Q S n post r (a.put o.dst v) w) : wpTh P l Q S n post ((k, true) :: r) a w :=
  ⟨o, v, ho, .inl ⟨hw, by rw [hp]; exact hy⟩, hS, h⟩
theorem wpTh_pure {l : List Oper} {n k : Nat} {post : List Nat} {r : List (Nat × Bool)} {o : Oper} {v : Value} {a : Act} {w : World} (ho : nthO l k = some o) (hp : post.contains k = true) (hS : S w)
    (hy : ∀ w, (execOp a.eval o).run P w = .ok (.value v) w) (hw : Region.wanted o (yielded l.toArray a.tmps) = true) (h : wpTh P l Q S n post r (a.put o.dst v) w) : wpTh P l Q S n post ((k, true) :: r) a w :=
  ⟨o, v, ho, .inl ⟨hw, by rw [hp]; exact fun w _ => hy w⟩, hS, h⟩
theorem wpTh_go {l : List Oper} {n k : Nat} {post : List Nat} {r : List (Nat × Bool)} {o : Oper} {a : Act} {w : World} (ho : nthO l k = some o)
    (h : ∀ K : Act → World → Prop, Shut (∀ a w, S w → (S w → wpTh P l Q S n post r a w) → K a w) → if Region.wanted o (yielded l.toArray a.tmps) = true then Oper.wp P o a w K Q else K (a.put o.dst undef) w) : wpTh P l Q S n post ((k, false) :: r) a w :=
  wpOp_step ((nthO_eq l k).trans ho) (fun K hK => h K (fun a w hS hW => hK a w ⟨fun _ => hS, hW hS⟩))
theorem wpTh_last {l : List Oper} {n k : Nat} {post : List Nat} {o : Oper} {a : Act} {w : World} (ho : nthO l k = some o) (hk : n ≤ k)
    (h : ∀ K : Act → World → Prop, Shut (∀ a w, Q .normal a w → K a w) → if Region.wanted o (yielded l.toArray a.tmps) = true then Oper.wp P o a w K Q else K (a.put o.dst undef) w) : wpTh P l Q S n post [(k, false)] a w :=
  wpOp_step ((nthO_eq l k).trans ho) (fun K hK => h K (fun a w hq => hK a w ⟨fun h => absurd h (by omega), hq⟩))
end
end Go.Proofs.YtpcihhdalofdiaaGreatDoor

/- Two arrays of four ints, compared. Over any program. -/
namespace Go.Proofs.YtpcihhdalofdiaaGreatDoor
open Go.RowKit

theorem eq_arr4 {P : Program} (w : World) (d : Nat) (t e : TypeId) (i : TypeInfo) (a0 a1 a2 a3 b0 b1 b2 b3 : Int) (ht : P.underlying t = some (.array 4 e)) (he : P.underlying e = some (.int .i64)) (hi : P.info? e = some i) (hs : P.cellsOf e = 1) (hp : P.plainKey e = true) :
    (Op.equalIn (d + 2) t (.agg #[.int .i64 a0, .int .i64 a1, .int .i64 a2, .int .i64 a3]) (.agg #[.int .i64 b0, .int .i64 b1, .int .i64 b2, .int .i64 b3])).run P w = .ok ((a0 == b0) && ((a1 == b1) && ((a2 == b2) && (a3 == b3)))) w := by
  rw [run_equalIn_array w (d + 1) _ _ ht hi, hs]
  have hr : List.range 4 = [0, 1, 2, 3] := rfl
  have x0 : ∀ b0 b1 b2 b3 : Int, (part e #[.int .i64 b0, .int .i64 b1, .int .i64 b2, .int .i64 b3] 0).run P w = .ok (.int .i64 b0) w := fun _ _ _ _ => run_part_plain w hp rfl
  have x1 : ∀ b0 b1 b2 b3 : Int, (part e #[.int .i64 b0, .int .i64 b1, .int .i64 b2, .int .i64 b3] 1).run P w = .ok (.int .i64 b1) w := fun _ _ _ _ => run_part_plain w hp rfl
  have x2 : ∀ b0 b1 b2 b3 : Int, (part e #[.int .i64 b0, .int .i64 b1, .int .i64 b2, .int .i64 b3] 2).run P w = .ok (.int .i64 b2) w := fun _ _ _ _ => run_part_plain w hp rfl
  have x3 : ∀ b0 b1 b2 b3 : Int, (part e #[.int .i64 b0, .int .i64 b1, .int .i64 b2, .int .i64 b3] 3).run P w = .ok (.int .i64 b3) w := fun _ _ _ _ => run_part_plain w hp rfl
  have hq : ∀ a b : Int, (Op.equalIn (d + 1) e (.int .i64 a) (.int .i64 b)).run P w = .ok (a == b) w := fun a b => run_equalIn_int w d e .i64 .i64 a b he
  rw [hr]
  simp only [Op.eqItems, Nat.mul_one, Sem.run_bind, x0, hq, Result.andThen_ok]
  cases h0 : a0 == b0 <;> cases h1 : a1 == b1 <;> cases h2 : a2 == b2 <;> cases h3 : a3 == b3 <;> simp [x1, x2, x3, hq, h1, h2, h3]
theorem ins_arr_eq (w : World) (a0 a1 a2 a3 b0 b1 b2 b3 : Int) :
    (Op.equalIn 9999 70 (.agg #[.int .i64 a0, .int .i64 a1, .int .i64 a2, .int .i64 a3]) (.agg #[.int .i64 b0, .int .i64 b1, .int .i64 b2, .int .i64 b3])).run Tryz.prog w = .ok ((a0 == b0) && ((a1 == b1) && ((a2 == b2) && (a3 == b3)))) w := by
  obtain ⟨i, hi⟩ : ∃ i, Tryz.prog.info? 3 = some i := Option.isSome_iff_exists.1 (by kernel_rfl)
  exact eq_arr4 w 9997 _ 3 i _ _ _ _ _ _ _ _ Tryz.underlying70 Tryz.underlying3 hi (by kernel_rfl) (by kernel_rfl)
end Go.Proofs.YtpcihhdalofdiaaGreatDoor
