/- Objects from lines: the plain law of layer 9 (Program). No program in sight. A draft: nothing of it is joined to a walk yet. -/
import Derived.Test.YtpcihhdalofdiaaGreatDoorJQ01
import Derived.Test.YtpcihhdalofdiaaGreatDoorJQ05
import Derived.Test.YtpcihhdalofdiaaGreatDoorJQ02
import Derived.Maps.OwnSet
import Derived.Maps.AppendAt
import Derived.Shelf.Strings.Cut
namespace Go.Proofs.YtpcihhdalofdiaaGreatDoor

/-- An object that comes to be: where the labels are, where they are used (instruction, operand, line), where predicates begin (which, line). -/
structure AS where
  o : LObj
  labels : Int → Option Nat
  uses : List (Nat × Nat × Nat)
  begins : List (Nat × Nat)
def AS0 : AS := ⟨⟨[], [], [], []⟩, fun _ => none, [], []⟩
def wdB (l : Txt) : ByteArray := ⟨l.toArray⟩
/-- What is ahead of the first slash, and behind it. -/
def cutT (w : Txt) : Txt × Txt := (w.takeWhile (· != 47), (w.dropWhile (· != 47)).tail)
/-- A number from 0 to most, in its only spelling; or -1. -/
def numM (w : Txt) (most : Int) : Int := if 0 ≤ numT w ∧ numT w ≤ most then numT w else -1
def slashP (w : Txt) (least : Int) : Option LFun :=
  if nameOk (wdB (cutT w).1) = true ∧ least ≤ numM (cutT w).2 8 then some ⟨wdB (cutT w).1, numM (cutT w).2 8⟩ else none
def labelP : Txt → Int
  | 64 :: r => numM r 1023
  | _ => -1
/-- An operand that is as in an instruction's text: by an instruction of one such operand. -/
def ofK (k : Nat) : Int := if k = 1 then 6 else if k = 2 then 5 else if k = 5 then 9 else if k = 6 then 15 else if k = 9 then 24 else 0
def plainP (k : Nat) (w : Txt) : Int :=
  if (parseT opP (nameT (ofK k) ++ 32 :: w)).2 = 0 then (parseT opP (nameT (ofK k) ++ 32 :: w)).1.a0 else -1
def fitsP (op : Int) (k : Nat) (w : Txt) : Bool :=
  if k = 3 then nameOk (wdB w) else if k = 4 then (slashP w 1).isSome else if k = 7 then (slashP w 0).isSome
  else if k = 8 then decide (0 ≤ labelP w) || (op == 26 && w == [45]) else decide (0 ≤ plainP k w)
def idxL {α : Type} [DecidableEq α] (l : List α) (x : α) : List α := if x ∈ l then l else l ++ [x]
def idxA {α : Type} [DecidableEq α] (l : List α) (x : α) : Nat := if x ∈ l then l.idxOf x else l.length
/-- A predicate's number, to which it comes. -/
def predP (o : LObj) (f : LFun) : LObj × Nat :=
  match o.preds.findIdx? fun p => decide (p.name = f.name) && decide (p.arity = f.arity) with
  | some k => (o, k)
  | none => ({ o with preds := o.preds ++ [⟨f.name, f.arity, 65535⟩] }, o.preds.length)
def operandP (o : LObj) (k : Nat) (w : Txt) : LObj × Int :=
  if k = 3 then ({ o with atoms := idxL o.atoms (wdB w) }, (idxA o.atoms (wdB w) : Int))
  else if k = 4 then (match slashP w 1 with
    | some f => ({ o with funs := idxL o.funs f }, (idxA o.funs f : Int))
    | none => (o, -1))
  else if k = 7 then (match slashP w 0 with
    | some f => ((predP o f).1, ((predP o f).2 : Int))
    | none => (o, -1))
  else if k = 8 then (o, if w = [45] then 65535 else labelP w)
  else (o, plainP k w)
/-- The operands, one behind the other: the object, what they say, where labels are used. -/
def operandsP (n at_ : Nat) : LObj → Nat → List (Nat × Txt) → LObj × List Int × List (Nat × Nat × Nat)
  | o, _, [] => (o, [], [])
  | o, j, (k, w) :: r =>
    let x := operandP o k w
    let q := operandsP n at_ x.1 (j + 1) r
    (q.1, x.2 :: q.2.1, (if k = 8 ∧ x.2 ≠ 65535 then [(n, j, at_)] else []) ++ q.2.2)
def instrP (S : AS) (w : List Txt) (at_ : Nat) : AS × Int :=
  let op := namedT (w.headD [])
  let ks := (kindsOf op).map Int.toNat
  if op < 0 ∨ w.length ≠ ks.length + 1 ∨ ((ks.zip w.tail).all fun x => fitsP op x.1 x.2) = false then (S, 17)
  else
    let q := operandsP S.o.code.length at_ S.o 0 (ks.zip w.tail)
    ({ S with o := { q.1 with code := q.1.code ++ [insW op q.2.1] }, uses := S.uses ++ q.2.2 }, 0)
def beginP (S : AS) (w : Txt) (at_ : Nat) : AS × Int :=
  match slashP w 0 with
  | none => (S, 17)
  | some f =>
    let r := predP S.o f
    if S.begins.any (fun b => b.1 == r.2) then (S, 11)
    else ({ S with o := { r.1 with preds := r.1.preds.modify r.2 fun p => { p with entry := (S.o.code.length : Int) } }, begins := S.begins ++ [(r.2, at_)] }, 0)
def markP (S : AS) (s : Txt) : AS × Int :=
  if labelP s < 0 then (S, 17) else if (S.labels (labelP s)).isSome then (S, 11)
  else ({ S with labels := fun n => if n = labelP s then some S.o.code.length else S.labels n }, 0)
def predW : Txt := [112, 114, 101, 100]
def lineP (S : AS) (s : Txt) (at_ : Nat) : AS × Int :=
  if (splitT s).length = 2 ∧ (splitT s).headD [] = predW then beginP S ((splitT s).getD 1 []) at_
  else if (splitT s).length = 1 ∧ s.head? = some 64 then markP S s
  else instrP S (splitT s) at_
def fullP (o : LObj) : Bool := decide (256 < o.atoms.length) || decide (256 < o.funs.length) || decide (64 < o.preds.length) || decide (1024 < o.code.length)
/-- All lines: the object that comes to be, or what is wrong, and in which line. -/
def linesP : AS → Nat → List Txt → AS × Int × Int
  | S, _, [] => (S, 0, -1)
  | S, n, s :: l =>
    let r := lineP S s n
    if r.2 ≠ 0 then (S, r.2, n) else if fullP r.1.o then (S, 2, n) else linesP r.1 (n + 1) l
/-- What a label's use, a predicate's beginning, has wrong. -/
def useAt (S : AS) (u : Nat × Nat × Nat) : Option Nat := S.labels ((S.o.code.getD u.1 ⟨0, 0, 0, 0, 0⟩).arg u.2.1)
def badUse (S : AS) (u : Nat × Nat × Nat) : Bool := match useAt S u with
  | some p => decide (S.o.code.length ≤ p)
  | none => true
def entryAt (S : AS) (b : Nat × Nat) : Int := (S.o.preds.getD b.1 ⟨⟨#[]⟩, 0, 0⟩).entry
def badBegins (S : AS) : List (Nat × Nat) → List Nat
  | [] => []
  | [b] => if (S.o.code.length : Int) ≤ entryAt S b then [b.2] else []
  | b :: c :: r => (if (S.o.code.length : Int) ≤ entryAt S b ∨ entryAt S c = entryAt S b then [b.2] else []) ++ badBegins S (c :: r)
def wrongs (S : AS) : List (Int × Nat) := (S.uses.filter (badUse S)).map (fun u => ((10 : Int), u.2.2)) ++ (badBegins S S.begins).map fun n => ((7 : Int), n)
/-- The first of the least line. -/
def least : Int × Int → List (Int × Nat) → Int × Int
  | e, [] => e
  | e, (f, n) :: r => least (if e.2 < 0 ∨ (n : Int) < e.2 then (f, (n : Int)) else e) r
def setArg (i : LIns) (k : Nat) (v : Int) : LIns := if k = 0 then { i with a0 := v } else if k = 1 then { i with a1 := v } else if k = 2 then { i with a2 := v } else { i with a3 := v }
def settleP (S : AS) : LObj := S.uses.foldl (fun o u => { o with code := o.code.modify u.1 fun i => setArg i u.2.1 (((useAt S u).getD 0 : Nat) : Int) }) S.o
def programP (l : List Txt) : LObj × Int × Int :=
  let r := linesP AS0 0 l
  if r.2.1 ≠ 0 then (⟨[], [], [], []⟩, r.2.1, r.2.2)
  else
    let e := least (0, -1) (wrongs r.1)
    if e.1 ≠ 0 then (⟨[], [], [], []⟩, e.1, e.2) else (settleP r.1, 0, -1)
/-! ### The two spellings of a number -/
theorem numT_spell {w : Txt} (h : 0 ≤ numT w) : Lib.decDigits (numT w).toNat = w := by
  unfold numT at h ⊢
  split
  · rename_i h1; rw [if_pos h1] at h; omega
  · rename_i h1
    rw [if_neg h1] at h
    split
    · rename_i h2; rw [if_pos h2] at h; omega
    · rename_i h2
      rw [if_neg h2] at h
      split
      · rename_i h3; simpa using h3
      · rename_i h3; rw [if_neg h3] at h; omega
/-- The program's number is the document's. -/
theorem numM_atoi (w : Txt) (most : Int) (hm : most ≤ 65535) : numM w most = match Lib.atoiAll w with
    | .ok v => if v < 0 ∨ most < v ∨ Lib.decDigits v.toNat ≠ w then -1 else v
    | _ => -1 := by
  by_cases h : 0 ≤ numT w ∧ numT w ≤ most
  · have h1 := numT_spell h.1
    have h2 : Lib.atoiAll w = .ok (numT w) := by
      rw [← h1, atoi_digits (by omega), h1]
      congr 1
      omega
    unfold numM
    rw [if_pos h, h2]
    simp only
    rw [if_neg (by rintro (h3 | h3 | h3) <;> first | omega | exact h3 h1)]
  · unfold numM
    rw [if_neg h]
    cases hv : Lib.atoiAll w with
    | ok v =>
      simp only
      split
      · rfl
      · rename_i hn
        exfalso
        refine h ?_
        have h0 : 0 ≤ v := Int.not_lt.1 fun e => hn (.inl e)
        have h1 : v ≤ most := Int.not_lt.1 fun e => hn (.inr (.inl e))
        have h2 : Lib.decDigits v.toNat = w := Classical.byContradiction fun e => hn (.inr (.inr e))
        have h3 : numT w = v := by rw [← h2, numT_digits (by omega)]; omega
        omega
    | _ => rfl
/-! ### What is wrong first: by lines -/
end Go.Proofs.YtpcihhdalofdiaaGreatDoor

/- An object that comes to be, in memory. Printed by gen_asmem.py. -/
namespace Go.Proofs.YtpcihhdalofdiaaGreatDoor
open Go.RowKit Go.Maps

theorem ownLA (A : Option Addr) (n c : Nat) : ownL (.slice A n c) = ownL (.slice A 0 0) := by cases A <;> rfl
theorem own_keepA {w w' : World} {L : List Nat} {base n size c : Nat} {e : TypeId} {A : Option Addr} {xs : List Value} (h : w.ownsRow base e size (.slice A n c) n xs) (k : Keeps w w' L) (hL : ∀ b ∈ L, b ∉ ownL (.slice A 0 0)) : w'.ownsRow base e size (.slice A n c) n xs := by
  refine ⟨h.1, ?_⟩
  rcases h.2 with h2 | ⟨g, cap, cur, he, hb, hg, r⟩
  · exact .inl h2
  · refine .inr ⟨g, cap, cur, he, hb, (k.block g (Array.getElem?_eq_some_iff.1 hg).1 (fun hm => hL g hm ?_)).trans hg, r⟩
    rw [← ownLA A n c, he]
    simp [ownL, Value.ownBlock]
theorem own_disjA {w : World} {base base' n n' size size' c c' : Nat} {e e' : TypeId} {A A' : Option Addr} {xs xs' : List Value} (h : w.ownsRow base e size (.slice A n c) n xs) (h' : w.ownsRow base' e' size' (.slice A' n' c') n' xs') (hne : e ≠ e') : ∀ b ∈ ownL (.slice A 0 0), b ∉ ownL (.slice A' 0 0) := by
  intro b hb hb'
  rw [← ownLA A n c] at hb
  rw [← ownLA A' n' c'] at hb'
  unfold ownL at hb hb'
  simp only [Option.mem_toList] at hb hb'
  rcases h.2 with ⟨h1, _⟩ | ⟨g, cap, cur, h0, _, h1, _⟩
  · rw [h1] at hb; simp [Value.ownBlock] at hb
  · rcases h'.2 with ⟨h2, _⟩ | ⟨g', cap', cur', h0', _, h2, _⟩
    · rw [h2] at hb'; simp [Value.ownBlock] at hb'
    · rw [h0] at hb
      rw [h0'] at hb'
      simp [Value.ownBlock] at hb hb'
      subst hb hb'
      rw [h1] at h2
      simp at h2
      exact hne h2.2
theorem own_outA {w : World} {base n size c : Nat} {e t : TypeId} {A : Option Addr} {xs : List Value} {cs : Array Value} {b : Nat} (h : w.ownsRow base e size (.slice A n c) n xs) (hb : Blk w b t cs) (hne : t ≠ e) : b ∉ ownL (.slice A 0 0) := by
  rw [← ownLA A n c]
  exact own_outT h hb hne
theorem own_ltA {w : World} {base n size c : Nat} {e : TypeId} {A : Option Addr} {xs : List Value} (h : w.ownsRow base e size (.slice A n c) n xs) : ∀ b ∈ ownL (.slice A 0 0), base ≤ b ∧ b < w.heap.size := by
  intro b hb
  rw [← ownLA A n c] at hb
  unfold ownL at hb
  simp only [Option.mem_toList] at hb
  exact h.lt b hb
theorem own_nilA {w : World} {base n c size : Nat} {e : TypeId} {xs : List Value} (h : w.ownsRow base e size (.slice none n c) n xs) : c = 0 := by
  rcases h.2 with ⟨h2, _⟩ | ⟨g2, cap, cur, he, _⟩
  · injection h2
  · injection he with he; cases he
theorem own_cellA {w : World} {base : Nat} {e : TypeId} {size n c g : Nat} {xs : List Value} (h : w.ownsRow base e size (.slice (some ⟨g, 0, none⟩) n c) n xs) (i : Nat) (u : Value) : (w.setCell ⟨g, i, none⟩ u).ownsRow base e size (.slice (some ⟨g, 0, none⟩) n c) n (xs.set i u) := by
  refine ⟨by rw [List.length_set]; exact h.1, ?_⟩
  rcases h.2 with ⟨h1, _⟩ | ⟨g', cap, cur, h1, h2, h3, h4, h5, h6, h7⟩
  · cases h1
  · injection h1 with h1 _ h8
    injection h1 with h1
    injection h1 with h1
    subst h1 h8
    refine .inr ⟨g, c, cur.setIfInBounds i u, rfl, h2, heap_setCell_same w g i cur e u h3, h4, h5, by simpa using h6, ?_⟩
    rw [← h7, Array.toList_setIfInBounds, List.take_set]
theorem own_atA {w : World} {base n c size : Nat} {e : TypeId} {A : Option Addr} {xs : List Value} (h : w.ownsRow base e size (.slice A n c) n xs) (hn : 0 < n) : ∃ g, A = some ⟨g, 0, none⟩ ∧ n ≤ c := by
  rcases h.2 with ⟨_, h1⟩ | ⟨g, cap, cur, h1, h2, h3, h4, _⟩
  · omega
  · injection h1 with h1 _ h8
    subst h8
    exact ⟨g, h1, h4⟩
/-- An element's cells in a row of the call's own: where they are, that they may be turned. -/
theorem app_factsA {w1 wa w4 : World} {base nt ct sz : Nat} {e : TypeId} {TA A' : Option Addr} {n' c' : Nat} {xs : List Value} (K5 : Keeps w1 wa []) (hown : w4.ownsRow base e sz (.slice A' n' c') n' xs) (hgrow : wa.grownBy w4 (Value.slice TA nt ct).ownBlock)
    (hat : (Value.slice A' n' c').ownBlock = (Value.slice TA nt ct).ownBlock ∨ (Value.slice A' n' c').ownBlock = some wa.heap.size) : w4.ownsRow base e sz (.slice A' n' c') n' xs ∧ Keeps w1 w4 (ownL (.slice TA 0 0)) ∧ (∀ b ∈ ownL (.slice A' 0 0), b ∈ ownL (.slice TA 0 0) ∨ w1.heap.size ≤ b) := by
  refine ⟨hown, (K5.to_ _).trans (by rw [← ownLA TA nt ct]; exact Keeps.ofGrown hgrow), fun b hb' => ?_⟩
  rw [← ownLA A' n' c'] at hb'
  rw [← ownLA TA nt ct]
  unfold ownL at hb' ⊢
  simp only [Option.mem_toList] at hb' ⊢
  rcases hat with h1 | h1
  · exact .inl (by rw [← h1]; exact hb')
  · have := K5.size
    exact .inr (by rw [h1] at hb'; simp at hb'; omega)
theorem Blk.grownA {w1 wa w4 : World} {g nt ct : Nat} {t : TypeId} {cs : Array Value} {TA : Option Addr} (h : Blk w1 g t cs) (K5 : Keeps w1 wa []) (hgrow : wa.grownBy w4 (Value.slice TA nt ct).ownBlock) (hn : g ∉ ownL (.slice TA 0 0)) : Blk w4 g t cs :=
  (h.keep K5 (by simp)).grown hgrow (fun e => hn (by rw [← ownLA TA nt ct]; unfold ownL; rw [← e]; simp))
/-- What a call leaves: only some blocks turn; those that come are new. -/
structure ASt (w : World) (L : List Nat) (w' : World) (L' : List Nat) : Prop where
  keep : Keeps w w' L
  own : ∀ b ∈ L', b ∈ L ∨ w.heap.size ≤ b
theorem ASt.refl (w : World) (L : List Nat) : ASt w L w L := ⟨Keeps.refl w L, fun _ h => .inl h⟩
theorem ASt.of_keeps {w w' : World} (k : Keeps w w' []) (L : List Nat) : ASt w L w' L := ⟨k.to_ L, fun _ h => .inl h⟩
theorem ASt.trans {a b c : World} {L M N : List Nat} (h : ASt a L b M) (k : ASt b M c N) : ASt a L c N := by
  refine ⟨⟨k.keep.os.trans h.keep.os, k.keep.tape.trans h.keep.tape, k.keep.output.trans h.keep.output, Nat.le_trans h.keep.size k.keep.size, fun i hi hn => ?_⟩, fun x hx => ?_⟩
  · refine (k.keep.block i (Nat.lt_of_lt_of_le hi h.keep.size) (fun hm => ?_)).trans (h.keep.block i hi hn)
    rcases h.own i hm with h1 | h1
    · exact hn h1
    · omega
  · rcases k.own x hx with h1 | h1
    · exact h.own x h1
    · exact .inr (Nat.le_trans h.keep.size h1)
/-- A block outside stays, and stays outside. -/
theorem ASt.blk {w w' : World} {L L' : List Nat} (h : ASt w L w' L') {g : Nat} {t : TypeId} {cs : Array Value} (hb : Blk w g t cs) (hg : g ∉ L) : Blk w' g t cs ∧ g ∉ L' := by
  refine ⟨hb.keep h.keep hg, fun hm => ?_⟩
  rcases h.own g hm with h1 | h1
  · exact hg h1
  · have := hb.lt; omega

/-! ### Maps of numbers -/
def I64A (x : Int) : Prop := -9223372036854775808 ≤ x ∧ x ≤ 9223372036854775807
theorem zero_intA (w : World) : (zeroValue 3).run Tryz.prog w = .ok (.int .i64 0) w := by kernel_rfl
theorem I64A.wf {x : Int} (h : I64A x) : (Lit.int .i64 x).wf = true := WalkArith.wf_i64 (by have := h.1; have := h.2; omega)
theorem I64A.key {x : Int} (h : I64A x) : keyOf Tryz.prog 3 (.int .i64 x) = some (.int .i64 x) := keyOf_int_mk Tryz.underlying3 h.wf
/-- A map of numbers to places, of at most n entries. -/
def LM (w : World) (b n : Nat) (f : Int → Option Nat) : Prop :=
  ∃ D : DataW Unit, w.ownsMap Tryz.prog 3 (plainElem Tryz.prog 3) b n D ∧ ∀ x, I64A x → Maps.has D (.int .i64 x) = (f x).isSome ∧ D.atKey (.int .i64 x) (.lit (.int .i64 0)) = .lit (.int .i64 (((f x).getD 0 : Nat) : Int))
theorem LM.kept {w w' : World} {b n : Nat} {f : Int → Option Nat} (h : LM w b n f) {L : List Nat} (k : Keeps w w' L) (hb : b ∉ L) : LM w' b n f := by
  obtain ⟨D, h1, h2⟩ := h
  obtain ⟨es, clock, e1, r⟩ := h1
  exact ⟨D, ⟨es, clock, (k.block b (Array.getElem?_eq_some_iff.1 e1).1 hb).trans e1, r⟩, h2⟩
set_option maxRecDepth 100000 in
theorem LM.look {w : World} {b n : Nat} {f : Int → Option Nat} (h : LM w b n f) {x : Int} (hx : I64A x) : (Instr.lookup 54 (.map (some b)) (.int .i64 x) true).run Tryz.prog w = .ok (.tuple #[.int .i64 (((f x).getD 0 : Nat) : Int), .bool (f x).isSome]) w := by
  obtain ⟨D, h1, h2⟩ := h
  obtain ⟨v, ps, hrun, hv⟩ := h1.look_ok law_int Tryz.underlying54 (zero_intA w) (plainElem_int Tryz.underlying3 (I64A.wf ⟨by omega, by omega⟩)) hx.key
  obtain ⟨c, rfl, hc, _⟩ := plainElem_int_inv Tryz.underlying3 hv
  obtain ⟨h3, h4⟩ := h2 x hx
  have h5 := congrArg Prod.fst hc
  simp only at h5
  rw [h4] at h5
  have h6 : (((f x).getD 0 : Nat) : Int) = c := by injection h5 with h5; injection h5
  rw [hrun, h3, h6]
theorem LM.put {w : World} {b n : Nat} {f : Int → Option Nat} (h : LM w b n f) (hn : n ≤ 1000000) {x : Int} {p : Nat} (hx : I64A x) (hp : p ≤ 9223372036854775807) :
    ∃ w', (Instr.mapUpdate 54 (.map (some b)) (.int .i64 x) (.int .i64 p)).run Tryz.prog w = .ok () w' ∧ LM w' b (n + 1) (fun m => if m = x then some p else f m) ∧ Keeps w w' [b] := by
  obtain ⟨D, h1, h2⟩ := h
  have hp' : I64A (p : Int) := ⟨by omega, by omega⟩
  obtain ⟨w', hrun, h3, hg⟩ := h1.update law_int Tryz.underlying54 (by unfold maxLen; omega) hx.key (plainElem_int Tryz.underlying3 hp'.wf)
  refine ⟨w', hrun, ⟨_, h3, fun y hy => ?_⟩, ⟨hg.os, hg.tape, hg.output, hg.size, fun k hk hkb => hg.block k hk (fun e => hkb (by injection e with e; subst e; simp))⟩⟩
  by_cases hyx : y = x
  · subst hyx
    dsimp only
    rw [if_pos rfl]
    exact ⟨has_put_same h1.isMap (by trivial) _, atKey_put_same h1.isMap (by trivial) _ _⟩
  · have hne : (Lit.int .i64 y) ≠ Lit.int .i64 x := fun e => hyx (by injection e)
    dsimp only
    rw [if_neg hyx, has_put_other hne, atKey_put_other hne]
    exact h2 y hy
theorem LM.made (w : World) : LM (w.alloc (.map #[] 0)) w.heap.size 0 (fun _ => none) :=
  ⟨_, World.ownsMap_made w Tryz.prog 3 _, fun _ _ => ⟨rfl, rfl⟩⟩
theorem LM.ne {w : World} {b n g : Nat} {f : Int → Option Nat} {t : TypeId} {cs : Array Value} (h : LM w b n f) (k : Blk w g t cs) : b ≠ g := by
  rintro rfl
  obtain ⟨D, ⟨es, clock, e1, _⟩, _⟩ := h
  unfold Blk at k
  rw [e1] at k
  cases k
theorem LM.out {w : World} {b n m base size c : Nat} {f : Int → Option Nat} {e : TypeId} {A : Option Addr} {xs : List Value} (h : LM w b n f) (k : w.ownsRow base e size (.slice A m c) m xs) : b ∉ ownL (.slice A 0 0) := by
  intro hb
  rw [← ownLA A m c] at hb
  unfold ownL at hb
  simp only [Option.mem_toList] at hb
  obtain ⟨D, ⟨es, clock, e1, _⟩, _⟩ := h
  rcases k.2 with ⟨h2, _⟩ | ⟨g, cap, cur, h0, _, h1, _⟩
  · rw [h2] at hb; simp [Value.ownBlock] at hb
  · rw [h0] at hb
    simp [Value.ownBlock] at hb
    subst hb
    rw [e1] at h1
    cases h1
theorem LM.more {w : World} {b n n' : Nat} {f : Int → Option Nat} (h : LM w b n f) (hn : n ≤ n') : LM w b n' f := by
  obtain ⟨D, h1, h2⟩ := h
  exact ⟨D, h1.mono hn, h2⟩

/-! ### An object that comes to be -/
def useE (u : Nat × Nat × Nat) : List Value := [.int .i64 u.1, .int .i64 u.2.1, .int .i64 u.2.2]
def begE (b : Nat × Nat) : List Value := [.int .i64 b.1, .int .i64 b.2]
theorem useE_len (u : Nat × Nat × Nat) : (useE u).length = 3 := rfl
theorem begE_len (b : Nat × Nat) : (begE b).length = 2 := rfl
theorem el_atomA : ElemT Tryz.prog 22 9 1 := elemT_of (b := 16) (z := .string ⟨#[]⟩) Tryz.underlying22 (by kernel_rfl) (by omega) rfl (by omega)
theorem el_funA : ElemT Tryz.prog 25 77 2 := elemT_of (b := 24) (z := .agg #[.string ⟨#[]⟩, .int .i64 0]) Tryz.underlying25 (by kernel_rfl) (by omega) rfl (by omega)
theorem el_predA : ElemT Tryz.prog 28 52 3 := elemT_of (b := 32) (z := .agg #[.string ⟨#[]⟩, .int .i64 0, .int .i64 0]) Tryz.underlying28 (by kernel_rfl) (by omega) rfl (by omega)
theorem el_insA : ElemT Tryz.prog 29 79 5 := elemT_of (b := 40) (z := .agg #[.int .i64 0, .int .i64 0, .int .i64 0, .int .i64 0, .int .i64 0]) Tryz.underlying29 (by kernel_rfl) (by omega) rfl (by omega)
theorem el_useA : ElemT Tryz.prog 55 105 3 := elemT_of (b := 24) (z := .agg #[.int .i64 0, .int .i64 0, .int .i64 0]) Tryz.underlying55 (by kernel_rfl) (by omega) rfl (by omega)
theorem el_begA : ElemT Tryz.prog 56 108 2 := elemT_of (b := 16) (z := .agg #[.int .i64 0, .int .i64 0]) Tryz.underlying56 (by kernel_rfl) (by omega) rfl (by omega)
/-- The struct, its rows, its map. -/
structure AsM (w0 w : World) (ab vb : Nat) (AA FA PA CA UA BA : Option Addr) (ca cf cp cc cu cb nl : Nat) (S : AS) : Prop where
  blk : Blk w ab 58 #[.slice AA S.o.atoms.length ca, .slice FA S.o.funs.length cf, .slice PA S.o.preds.length cp, .slice CA S.o.code.length cc, .map (some vb), .slice UA S.uses.length cu, .slice BA S.begins.length cb]
  atoms : w.ownsRow w0.heap.size 9 1 (.slice AA S.o.atoms.length ca) S.o.atoms.length (S.o.atoms.flatMap strE)
  funs : w.ownsRow w0.heap.size 77 2 (.slice FA S.o.funs.length cf) S.o.funs.length (S.o.funs.flatMap funE)
  preds : w.ownsRow w0.heap.size 52 3 (.slice PA S.o.preds.length cp) S.o.preds.length (S.o.preds.flatMap predE)
  code : w.ownsRow w0.heap.size 79 5 (.slice CA S.o.code.length cc) S.o.code.length (S.o.code.flatMap insE)
  uses : w.ownsRow w0.heap.size 105 3 (.slice UA S.uses.length cu) S.uses.length (S.uses.flatMap useE)
  begins : w.ownsRow w0.heap.size 108 2 (.slice BA S.begins.length cb) S.begins.length (S.begins.flatMap begE)
  labels : LM w vb nl S.labels
  low : w0.heap.size ≤ ab ∧ w0.heap.size ≤ vb
  bel : Below w0.heap.size w0 w
  st : St w0
def asL (ab vb : Nat) (AA FA PA CA UA BA : Option Addr) : List Nat := [ab, vb] ++ (ownL (.slice AA 0 0) ++ (ownL (.slice FA 0 0) ++ (ownL (.slice PA 0 0) ++ (ownL (.slice CA 0 0) ++ (ownL (.slice UA 0 0) ++ (ownL (.slice BA 0 0)))))))
section
variable {w0 w : World} {ab vb : Nat} {AA FA PA CA UA BA : Option Addr} {ca cf cp cc cu cb nl : Nat} {S : AS}
theorem AsM.st_ (h : AsM w0 w ab vb AA FA PA CA UA BA ca cf cp cc cu cb nl S) : St w := h.st.keep (Keeps.nil_of h.bel)
theorem AsM.bel_ (h : AsM w0 w ab vb AA FA PA CA UA BA ca cf cp cc cu cb nl S) {w' : World} {L : List Nat} (k : Keeps w w' L) (hL : ∀ b ∈ L, w0.heap.size ≤ b) : Below w0.heap.size w0 w' := k.below h.bel hL h.bel.size
/-- Nothing of it turns. -/
theorem AsM.keep (h : AsM w0 w ab vb AA FA PA CA UA BA ca cf cp cc cu cb nl S) {w' : World} {L : List Nat} (k : Keeps w w' L) (hL : ∀ b ∈ L, b ∉ asL ab vb AA FA PA CA UA BA ∧ w0.heap.size ≤ b) : AsM w0 w' ab vb AA FA PA CA UA BA ca cf cp cc cu cb nl S := by
  have hn : ∀ b ∈ L, (b ≠ ab ∧ b ≠ vb) ∧ b ∉ ownL (.slice AA 0 0) ∧ b ∉ ownL (.slice FA 0 0) ∧ b ∉ ownL (.slice PA 0 0) ∧ b ∉ ownL (.slice CA 0 0) ∧ b ∉ ownL (.slice UA 0 0) ∧ b ∉ ownL (.slice BA 0 0) := fun b hb => by
    have h1 := (hL b hb).1
    unfold asL at h1
    simp only [List.mem_append, List.mem_cons, List.not_mem_nil, or_false, not_or] at h1
    exact ⟨h1.1, h1.2⟩
  exact ⟨h.blk.keep k (fun hm => (hn _ hm).1.1 rfl), own_keepA h.atoms k (fun b hb => (hn b hb).2.1), own_keepA h.funs k (fun b hb => (hn b hb).2.2.1), own_keepA h.preds k (fun b hb => (hn b hb).2.2.2.1), own_keepA h.code k (fun b hb => (hn b hb).2.2.2.2.1), own_keepA h.uses k (fun b hb => (hn b hb).2.2.2.2.2.1), own_keepA h.begins k (fun b hb => (hn b hb).2.2.2.2.2.2), h.labels.kept k (fun hm => (hn _ hm).1.2 rfl), h.low, h.bel_ k (fun b hb => (hL b hb).2), h.st⟩
theorem AsM.keep0 (h : AsM w0 w ab vb AA FA PA CA UA BA ca cf cp cc cu cb nl S) {w' : World} (k : Keeps w w' []) : AsM w0 w' ab vb AA FA PA CA UA BA ca cf cp cc cu cb nl S := h.keep k (by simp)
theorem AsM.more (h : AsM w0 w ab vb AA FA PA CA UA BA ca cf cp cc cu cb nl S) {n' : Nat} (hn : nl ≤ n') : AsM w0 w ab vb AA FA PA CA UA BA ca cf cp cc cu cb n' S := ⟨h.blk, h.atoms, h.funs, h.preds, h.code, h.uses, h.begins, h.labels.more hn, h.low, h.bel, h.st⟩
/-- The object's tables. -/
theorem AsM.ob (h : AsM w0 w ab vb AA FA PA CA UA BA ca cf cp cc cu cb nl S) : ObIs w S.o AA FA PA CA ca cf cp cc := ⟨Rd.of_own h.atoms, Rd.of_own h.funs, Rd.of_own h.preds, Rd.of_own h.code, fun e => by subst e; exact own_nilA h.atoms, fun e => by subst e; exact own_nilA h.funs, fun e => by subst e; exact own_nilA h.preds, fun e => by subst e; exact own_nilA h.code⟩
/-- .. atoms turn. -/
theorem AsM.atoms_ (h : AsM w0 w ab vb AA FA PA CA UA BA ca cf cp cc cu cb nl S) {w1 : World} (k : Keeps w w1 (ownL (.slice AA 0 0))) {A' : Option Addr} {c' : Nat} {l' : List ByteArray} (ho : w1.ownsRow w0.heap.size 9 1 (.slice A' l'.length c') l'.length (l'.flatMap strE)) :
    AsM w0 (w1.setCell ⟨ab, 0, none⟩ (.slice A' l'.length c')) ab vb A' FA PA CA UA BA c' cf cp cc cu cb nl { S with o := { S.o with atoms := l' } } := by
  have hno := own_outA h.atoms h.blk (by decide)
  have b1 := h.blk.keep k hno
  have ks : Keeps w1 (w1.setCell ⟨ab, 0, none⟩ (.slice A' l'.length c')) [ab] := (Keeps.refl w1 [ab]).setCell (.inl (by simp)) _
  have v1 := (h.labels.kept k (h.labels.out h.atoms)).kept ks (by simp only [List.mem_cons, List.not_mem_nil, or_false]; exact h.labels.ne h.blk)
  have one : ∀ {Q : Option Addr}, ab ∉ ownL (.slice Q 0 0) → ∀ b ∈ [ab], b ∉ ownL (.slice Q 0 0) := fun hq b hb' => by simp at hb'; subst hb'; exact hq
  have b2 := b1.set_ 0 (.slice A' l'.length c')
  have e0 := own_keepA ho ks (one (own_outA ho b1 (by decide)))
  have e1 := own_keepA (own_keepA h.funs k (own_disjA h.atoms h.funs (by decide))) ks (one (own_outA h.funs h.blk (by decide)))
  have e2 := own_keepA (own_keepA h.preds k (own_disjA h.atoms h.preds (by decide))) ks (one (own_outA h.preds h.blk (by decide)))
  have e3 := own_keepA (own_keepA h.code k (own_disjA h.atoms h.code (by decide))) ks (one (own_outA h.code h.blk (by decide)))
  have e4 := own_keepA (own_keepA h.uses k (own_disjA h.atoms h.uses (by decide))) ks (one (own_outA h.uses h.blk (by decide)))
  have e5 := own_keepA (own_keepA h.begins k (own_disjA h.atoms h.begins (by decide))) ks (one (own_outA h.begins h.blk (by decide)))
  exact ⟨by simpa using b2, e0, e1, e2, e3, e4, e5, v1, h.low, ks.below (h.bel_ k (fun b hb' => (own_ltA h.atoms b hb').1)) (by simp only [List.mem_cons, List.not_mem_nil, or_false]; rintro _ rfl; exact h.low.1) (Nat.le_trans h.bel.size k.size), h.st⟩
/-- .. funs turn. -/
theorem AsM.funs_ (h : AsM w0 w ab vb AA FA PA CA UA BA ca cf cp cc cu cb nl S) {w1 : World} (k : Keeps w w1 (ownL (.slice FA 0 0))) {A' : Option Addr} {c' : Nat} {l' : List LFun} (ho : w1.ownsRow w0.heap.size 77 2 (.slice A' l'.length c') l'.length (l'.flatMap funE)) :
    AsM w0 (w1.setCell ⟨ab, 1, none⟩ (.slice A' l'.length c')) ab vb AA A' PA CA UA BA ca c' cp cc cu cb nl { S with o := { S.o with funs := l' } } := by
  have hno := own_outA h.funs h.blk (by decide)
  have b1 := h.blk.keep k hno
  have ks : Keeps w1 (w1.setCell ⟨ab, 1, none⟩ (.slice A' l'.length c')) [ab] := (Keeps.refl w1 [ab]).setCell (.inl (by simp)) _
  have v1 := (h.labels.kept k (h.labels.out h.funs)).kept ks (by simp only [List.mem_cons, List.not_mem_nil, or_false]; exact h.labels.ne h.blk)
  have one : ∀ {Q : Option Addr}, ab ∉ ownL (.slice Q 0 0) → ∀ b ∈ [ab], b ∉ ownL (.slice Q 0 0) := fun hq b hb' => by simp at hb'; subst hb'; exact hq
  have b2 := b1.set_ 1 (.slice A' l'.length c')
  have e0 := own_keepA ho ks (one (own_outA ho b1 (by decide)))
  have e1 := own_keepA (own_keepA h.atoms k (own_disjA h.funs h.atoms (by decide))) ks (one (own_outA h.atoms h.blk (by decide)))
  have e2 := own_keepA (own_keepA h.preds k (own_disjA h.funs h.preds (by decide))) ks (one (own_outA h.preds h.blk (by decide)))
  have e3 := own_keepA (own_keepA h.code k (own_disjA h.funs h.code (by decide))) ks (one (own_outA h.code h.blk (by decide)))
  have e4 := own_keepA (own_keepA h.uses k (own_disjA h.funs h.uses (by decide))) ks (one (own_outA h.uses h.blk (by decide)))
  have e5 := own_keepA (own_keepA h.begins k (own_disjA h.funs h.begins (by decide))) ks (one (own_outA h.begins h.blk (by decide)))
  exact ⟨by simpa using b2, e1, e0, e2, e3, e4, e5, v1, h.low, ks.below (h.bel_ k (fun b hb' => (own_ltA h.funs b hb').1)) (by simp only [List.mem_cons, List.not_mem_nil, or_false]; rintro _ rfl; exact h.low.1) (Nat.le_trans h.bel.size k.size), h.st⟩
/-- .. preds turn. -/
theorem AsM.preds_ (h : AsM w0 w ab vb AA FA PA CA UA BA ca cf cp cc cu cb nl S) {w1 : World} (k : Keeps w w1 (ownL (.slice PA 0 0))) {A' : Option Addr} {c' : Nat} {l' : List LPred} (ho : w1.ownsRow w0.heap.size 52 3 (.slice A' l'.length c') l'.length (l'.flatMap predE)) :
    AsM w0 (w1.setCell ⟨ab, 2, none⟩ (.slice A' l'.length c')) ab vb AA FA A' CA UA BA ca cf c' cc cu cb nl { S with o := { S.o with preds := l' } } := by
  have hno := own_outA h.preds h.blk (by decide)
  have b1 := h.blk.keep k hno
  have ks : Keeps w1 (w1.setCell ⟨ab, 2, none⟩ (.slice A' l'.length c')) [ab] := (Keeps.refl w1 [ab]).setCell (.inl (by simp)) _
  have v1 := (h.labels.kept k (h.labels.out h.preds)).kept ks (by simp only [List.mem_cons, List.not_mem_nil, or_false]; exact h.labels.ne h.blk)
  have one : ∀ {Q : Option Addr}, ab ∉ ownL (.slice Q 0 0) → ∀ b ∈ [ab], b ∉ ownL (.slice Q 0 0) := fun hq b hb' => by simp at hb'; subst hb'; exact hq
  have b2 := b1.set_ 2 (.slice A' l'.length c')
  have e0 := own_keepA ho ks (one (own_outA ho b1 (by decide)))
  have e1 := own_keepA (own_keepA h.atoms k (own_disjA h.preds h.atoms (by decide))) ks (one (own_outA h.atoms h.blk (by decide)))
  have e2 := own_keepA (own_keepA h.funs k (own_disjA h.preds h.funs (by decide))) ks (one (own_outA h.funs h.blk (by decide)))
  have e3 := own_keepA (own_keepA h.code k (own_disjA h.preds h.code (by decide))) ks (one (own_outA h.code h.blk (by decide)))
  have e4 := own_keepA (own_keepA h.uses k (own_disjA h.preds h.uses (by decide))) ks (one (own_outA h.uses h.blk (by decide)))
  have e5 := own_keepA (own_keepA h.begins k (own_disjA h.preds h.begins (by decide))) ks (one (own_outA h.begins h.blk (by decide)))
  exact ⟨by simpa using b2, e1, e2, e0, e3, e4, e5, v1, h.low, ks.below (h.bel_ k (fun b hb' => (own_ltA h.preds b hb').1)) (by simp only [List.mem_cons, List.not_mem_nil, or_false]; rintro _ rfl; exact h.low.1) (Nat.le_trans h.bel.size k.size), h.st⟩
theorem AsM.preds_in (h : AsM w0 w ab vb AA FA PA CA UA BA ca cf cp cc cu cb nl S) {w1 : World} (k : Keeps w w1 (ownL (.slice PA 0 0))) {l' : List LPred} (hl : l'.length = S.o.preds.length) (ho : w1.ownsRow w0.heap.size 52 3 (.slice PA S.o.preds.length cp) S.o.preds.length (l'.flatMap predE)) :
    AsM w0 w1 ab vb AA FA PA CA UA BA ca cf cp cc cu cb nl { S with o := { S.o with preds := l' } } := by
  have hno := own_outA h.preds h.blk (by decide)
  have b1 := h.blk.keep k hno
  have v1 := h.labels.kept k (h.labels.out h.preds)
  rw [← hl] at ho b1
  have e1 := own_keepA h.atoms k (own_disjA h.preds h.atoms (by decide))
  have e2 := own_keepA h.funs k (own_disjA h.preds h.funs (by decide))
  have e3 := own_keepA h.code k (own_disjA h.preds h.code (by decide))
  have e4 := own_keepA h.uses k (own_disjA h.preds h.uses (by decide))
  have e5 := own_keepA h.begins k (own_disjA h.preds h.begins (by decide))
  exact ⟨b1, e1, e2, ho, e3, e4, e5, v1, h.low, h.bel_ k (fun b hb' => (own_ltA h.preds b hb').1), h.st⟩
/-- .. code turn. -/
theorem AsM.code_ (h : AsM w0 w ab vb AA FA PA CA UA BA ca cf cp cc cu cb nl S) {w1 : World} (k : Keeps w w1 (ownL (.slice CA 0 0))) {A' : Option Addr} {c' : Nat} {l' : List LIns} (ho : w1.ownsRow w0.heap.size 79 5 (.slice A' l'.length c') l'.length (l'.flatMap insE)) :
    AsM w0 (w1.setCell ⟨ab, 3, none⟩ (.slice A' l'.length c')) ab vb AA FA PA A' UA BA ca cf cp c' cu cb nl { S with o := { S.o with code := l' } } := by
  have hno := own_outA h.code h.blk (by decide)
  have b1 := h.blk.keep k hno
  have ks : Keeps w1 (w1.setCell ⟨ab, 3, none⟩ (.slice A' l'.length c')) [ab] := (Keeps.refl w1 [ab]).setCell (.inl (by simp)) _
  have v1 := (h.labels.kept k (h.labels.out h.code)).kept ks (by simp only [List.mem_cons, List.not_mem_nil, or_false]; exact h.labels.ne h.blk)
  have one : ∀ {Q : Option Addr}, ab ∉ ownL (.slice Q 0 0) → ∀ b ∈ [ab], b ∉ ownL (.slice Q 0 0) := fun hq b hb' => by simp at hb'; subst hb'; exact hq
  have b2 := b1.set_ 3 (.slice A' l'.length c')
  have e0 := own_keepA ho ks (one (own_outA ho b1 (by decide)))
  have e1 := own_keepA (own_keepA h.atoms k (own_disjA h.code h.atoms (by decide))) ks (one (own_outA h.atoms h.blk (by decide)))
  have e2 := own_keepA (own_keepA h.funs k (own_disjA h.code h.funs (by decide))) ks (one (own_outA h.funs h.blk (by decide)))
  have e3 := own_keepA (own_keepA h.preds k (own_disjA h.code h.preds (by decide))) ks (one (own_outA h.preds h.blk (by decide)))
  have e4 := own_keepA (own_keepA h.uses k (own_disjA h.code h.uses (by decide))) ks (one (own_outA h.uses h.blk (by decide)))
  have e5 := own_keepA (own_keepA h.begins k (own_disjA h.code h.begins (by decide))) ks (one (own_outA h.begins h.blk (by decide)))
  exact ⟨by simpa using b2, e1, e2, e3, e0, e4, e5, v1, h.low, ks.below (h.bel_ k (fun b hb' => (own_ltA h.code b hb').1)) (by simp only [List.mem_cons, List.not_mem_nil, or_false]; rintro _ rfl; exact h.low.1) (Nat.le_trans h.bel.size k.size), h.st⟩
theorem AsM.code_in (h : AsM w0 w ab vb AA FA PA CA UA BA ca cf cp cc cu cb nl S) {w1 : World} (k : Keeps w w1 (ownL (.slice CA 0 0))) {l' : List LIns} (hl : l'.length = S.o.code.length) (ho : w1.ownsRow w0.heap.size 79 5 (.slice CA S.o.code.length cc) S.o.code.length (l'.flatMap insE)) :
    AsM w0 w1 ab vb AA FA PA CA UA BA ca cf cp cc cu cb nl { S with o := { S.o with code := l' } } := by
  have hno := own_outA h.code h.blk (by decide)
  have b1 := h.blk.keep k hno
  have v1 := h.labels.kept k (h.labels.out h.code)
  rw [← hl] at ho b1
  have e1 := own_keepA h.atoms k (own_disjA h.code h.atoms (by decide))
  have e2 := own_keepA h.funs k (own_disjA h.code h.funs (by decide))
  have e3 := own_keepA h.preds k (own_disjA h.code h.preds (by decide))
  have e4 := own_keepA h.uses k (own_disjA h.code h.uses (by decide))
  have e5 := own_keepA h.begins k (own_disjA h.code h.begins (by decide))
  exact ⟨b1, e1, e2, e3, ho, e4, e5, v1, h.low, h.bel_ k (fun b hb' => (own_ltA h.code b hb').1), h.st⟩
/-- .. uses turn. -/
theorem AsM.uses_ (h : AsM w0 w ab vb AA FA PA CA UA BA ca cf cp cc cu cb nl S) {w1 : World} (k : Keeps w w1 (ownL (.slice UA 0 0))) {A' : Option Addr} {c' : Nat} {l' : List (Nat × Nat × Nat)} (ho : w1.ownsRow w0.heap.size 105 3 (.slice A' l'.length c') l'.length (l'.flatMap useE)) :
    AsM w0 (w1.setCell ⟨ab, 5, none⟩ (.slice A' l'.length c')) ab vb AA FA PA CA A' BA ca cf cp cc c' cb nl { S with uses := l' } := by
  have hno := own_outA h.uses h.blk (by decide)
  have b1 := h.blk.keep k hno
  have ks : Keeps w1 (w1.setCell ⟨ab, 5, none⟩ (.slice A' l'.length c')) [ab] := (Keeps.refl w1 [ab]).setCell (.inl (by simp)) _
  have v1 := (h.labels.kept k (h.labels.out h.uses)).kept ks (by simp only [List.mem_cons, List.not_mem_nil, or_false]; exact h.labels.ne h.blk)
  have one : ∀ {Q : Option Addr}, ab ∉ ownL (.slice Q 0 0) → ∀ b ∈ [ab], b ∉ ownL (.slice Q 0 0) := fun hq b hb' => by simp at hb'; subst hb'; exact hq
  have b2 := b1.set_ 5 (.slice A' l'.length c')
  have e0 := own_keepA ho ks (one (own_outA ho b1 (by decide)))
  have e1 := own_keepA (own_keepA h.atoms k (own_disjA h.uses h.atoms (by decide))) ks (one (own_outA h.atoms h.blk (by decide)))
  have e2 := own_keepA (own_keepA h.funs k (own_disjA h.uses h.funs (by decide))) ks (one (own_outA h.funs h.blk (by decide)))
  have e3 := own_keepA (own_keepA h.preds k (own_disjA h.uses h.preds (by decide))) ks (one (own_outA h.preds h.blk (by decide)))
  have e4 := own_keepA (own_keepA h.code k (own_disjA h.uses h.code (by decide))) ks (one (own_outA h.code h.blk (by decide)))
  have e5 := own_keepA (own_keepA h.begins k (own_disjA h.uses h.begins (by decide))) ks (one (own_outA h.begins h.blk (by decide)))
  exact ⟨by simpa using b2, e1, e2, e3, e4, e0, e5, v1, h.low, ks.below (h.bel_ k (fun b hb' => (own_ltA h.uses b hb').1)) (by simp only [List.mem_cons, List.not_mem_nil, or_false]; rintro _ rfl; exact h.low.1) (Nat.le_trans h.bel.size k.size), h.st⟩
/-- .. begins turn. -/
theorem AsM.begins_ (h : AsM w0 w ab vb AA FA PA CA UA BA ca cf cp cc cu cb nl S) {w1 : World} (k : Keeps w w1 (ownL (.slice BA 0 0))) {A' : Option Addr} {c' : Nat} {l' : List (Nat × Nat)} (ho : w1.ownsRow w0.heap.size 108 2 (.slice A' l'.length c') l'.length (l'.flatMap begE)) :
    AsM w0 (w1.setCell ⟨ab, 6, none⟩ (.slice A' l'.length c')) ab vb AA FA PA CA UA A' ca cf cp cc cu c' nl { S with begins := l' } := by
  have hno := own_outA h.begins h.blk (by decide)
  have b1 := h.blk.keep k hno
  have ks : Keeps w1 (w1.setCell ⟨ab, 6, none⟩ (.slice A' l'.length c')) [ab] := (Keeps.refl w1 [ab]).setCell (.inl (by simp)) _
  have v1 := (h.labels.kept k (h.labels.out h.begins)).kept ks (by simp only [List.mem_cons, List.not_mem_nil, or_false]; exact h.labels.ne h.blk)
  have one : ∀ {Q : Option Addr}, ab ∉ ownL (.slice Q 0 0) → ∀ b ∈ [ab], b ∉ ownL (.slice Q 0 0) := fun hq b hb' => by simp at hb'; subst hb'; exact hq
  have b2 := b1.set_ 6 (.slice A' l'.length c')
  have e0 := own_keepA ho ks (one (own_outA ho b1 (by decide)))
  have e1 := own_keepA (own_keepA h.atoms k (own_disjA h.begins h.atoms (by decide))) ks (one (own_outA h.atoms h.blk (by decide)))
  have e2 := own_keepA (own_keepA h.funs k (own_disjA h.begins h.funs (by decide))) ks (one (own_outA h.funs h.blk (by decide)))
  have e3 := own_keepA (own_keepA h.preds k (own_disjA h.begins h.preds (by decide))) ks (one (own_outA h.preds h.blk (by decide)))
  have e4 := own_keepA (own_keepA h.code k (own_disjA h.begins h.code (by decide))) ks (one (own_outA h.code h.blk (by decide)))
  have e5 := own_keepA (own_keepA h.uses k (own_disjA h.begins h.uses (by decide))) ks (one (own_outA h.uses h.blk (by decide)))
  exact ⟨by simpa using b2, e1, e2, e3, e4, e5, e0, v1, h.low, ks.below (h.bel_ k (fun b hb' => (own_ltA h.begins b hb').1)) (by simp only [List.mem_cons, List.not_mem_nil, or_false]; rintro _ rfl; exact h.low.1) (Nat.le_trans h.bel.size k.size), h.st⟩
/-- .. a label comes. -/
theorem AsM.labels_ (h : AsM w0 w ab vb AA FA PA CA UA BA ca cf cp cc cu cb nl S) {w1 : World} (k : Keeps w w1 [vb]) {n' : Nat} {f : Int → Option Nat} (hv : LM w1 vb n' f) : AsM w0 w1 ab vb AA FA PA CA UA BA ca cf cp cc cu cb n' { S with labels := f } := by
  have one : ∀ {Q : Option Addr}, vb ∉ ownL (.slice Q 0 0) → ∀ b ∈ [vb], b ∉ ownL (.slice Q 0 0) := fun hq b hb' => by simp at hb'; subst hb'; exact hq
  exact ⟨h.blk.keep k (by simp only [List.mem_cons, List.not_mem_nil, or_false]; exact Ne.symm (h.labels.ne h.blk)), own_keepA h.atoms k (one (h.labels.out h.atoms)), own_keepA h.funs k (one (h.labels.out h.funs)), own_keepA h.preds k (one (h.labels.out h.preds)), own_keepA h.code k (one (h.labels.out h.code)), own_keepA h.uses k (one (h.labels.out h.uses)), own_keepA h.begins k (one (h.labels.out h.begins)), hv, h.low, h.bel_ k (by simp only [List.mem_cons, List.not_mem_nil, or_false]; rintro _ rfl; exact h.low.2), h.st⟩
end
/-- Its blocks are among those of L. -/
def As (w0 w : World) (ab : Nat) (L : List Nat) (nl : Nat) (S : AS) : Prop :=
  ∃ vb AA FA PA CA UA BA ca cf cp cc cu cb, AsM w0 w ab vb AA FA PA CA UA BA ca cf cp cc cu cb nl S ∧ (∀ b ∈ asL ab vb AA FA PA CA UA BA, b ∈ L) ∧ ∀ b ∈ L, w0.heap.size ≤ b ∧ b < w.heap.size
theorem As.st_ {w0 w : World} {ab nl : Nat} {L : List Nat} {S : AS} (h : As w0 w ab L nl S) : St w := by
  obtain ⟨_, _, _, _, _, _, _, _, _, _, _, _, _, h, _⟩ := h
  exact h.st_
theorem As.bel {w0 w : World} {ab nl : Nat} {L : List Nat} {S : AS} (h : As w0 w ab L nl S) : Below w0.heap.size w0 w := by
  obtain ⟨_, _, _, _, _, _, _, _, _, _, _, _, _, h, _⟩ := h
  exact h.bel
theorem As.more {w0 w : World} {ab nl n' : Nat} {L : List Nat} {S : AS} (h : As w0 w ab L nl S) (hn : nl ≤ n') : As w0 w ab L n' S := by
  obtain ⟨_, _, _, _, _, _, _, _, _, _, _, _, _, h, r⟩ := h
  exact ⟨_, _, _, _, _, _, _, _, _, _, _, _, _, h.more hn, r⟩
theorem As.keep {w0 w w' : World} {ab nl : Nat} {L M : List Nat} {S : AS} (h : As w0 w ab L nl S) (k : Keeps w w' M) (hM : ∀ b ∈ M, b ∉ L ∧ w0.heap.size ≤ b) : As w0 w' ab L nl S := by
  obtain ⟨_, _, _, _, _, _, _, _, _, _, _, _, _, h, r1, r2⟩ := h
  exact ⟨_, _, _, _, _, _, _, _, _, _, _, _, _, h.keep k (fun b hb => ⟨fun hm => (hM b hb).1 (r1 b hm), (hM b hb).2⟩), r1, fun b hb => ⟨(r2 b hb).1, Nat.lt_of_lt_of_le (r2 b hb).2 k.size⟩⟩
theorem As.keep0 {w0 w w' : World} {ab nl : Nat} {L : List Nat} {S : AS} (h : As w0 w ab L nl S) (k : Keeps w w' []) : As w0 w' ab L nl S := h.keep k (by simp)
theorem As.lt {w0 w : World} {ab nl : Nat} {L : List Nat} {S : AS} (h : As w0 w ab L nl S) : ∀ b ∈ L, w0.heap.size ≤ b ∧ b < w.heap.size := by
  obtain ⟨_, _, _, _, _, _, _, _, _, _, _, _, _, _, _, r2⟩ := h
  exact r2
theorem AsM.atoms_pack {w0 w : World} {ab vb : Nat} {AA FA PA CA UA BA : Option Addr} {ca cf cp cc cu cb nl : Nat} {S : AS} {L : List Nat} (h : AsM w0 w ab vb AA FA PA CA UA BA ca cf cp cc cu cb nl S) (hL : ∀ b ∈ asL ab vb AA FA PA CA UA BA, b ∈ L) (hlt : ∀ b ∈ L, w0.heap.size ≤ b ∧ b < w.heap.size) {w1 : World} (k : Keeps w w1 (ownL (.slice AA 0 0))) {A' : Option Addr} {c' : Nat} {l' : List ByteArray} (ho : w1.ownsRow w0.heap.size 9 1 (.slice A' l'.length c') l'.length (l'.flatMap strE)) (hn : ∀ b ∈ ownL (.slice A' 0 0), b ∈ ownL (.slice AA 0 0) ∨ w.heap.size ≤ b) :
    ∃ L', As w0 (w1.setCell ⟨ab, 0, none⟩ (.slice A' l'.length c')) ab L' nl { S with o := { S.o with atoms := l' } } ∧ ASt w L (w1.setCell ⟨ab, 0, none⟩ (.slice A' l'.length c')) L' := by
  have hm := h.atoms_ k ho
  have hin : ∀ b ∈ ownL (.slice AA 0 0), b ∈ L := fun b hb => hL b (by unfold asL; simp only [List.mem_append]; simp [hb])
  refine ⟨L ++ ownL (.slice A' 0 0), ⟨_, _, _, _, _, _, _, _, _, _, _, _, _, hm, fun b hb => ?_, fun b hb => ?_⟩, ⟨(k.more (fun b _ hb => hin b hb)).setCell (.inl (hL ab (by unfold asL; simp))) _, fun b hb => ?_⟩⟩
  · unfold asL at hb hL
    simp only [List.mem_append] at hb hL ⊢
    rcases hb with hb | hb | hb | hb | hb | hb | hb
    · exact .inl (hL b (by simp [hb]))
    · exact .inr hb
    · exact .inl (hL b (by simp [hb]))
    · exact .inl (hL b (by simp [hb]))
    · exact .inl (hL b (by simp [hb]))
    · exact .inl (hL b (by simp [hb]))
    · exact .inl (hL b (by simp [hb]))
  · have hs := k.size
    have hz : (w1.setCell ⟨ab, 0, none⟩ (.slice A' l'.length c')).heap.size = w1.heap.size := by simp [World.setCell]
    rw [hz]
    rcases List.mem_append.1 hb with hb | hb
    · have := hlt b hb
      exact ⟨this.1, by omega⟩
    · have := own_ltA ho b hb
      exact ⟨this.1, by omega⟩
  · rcases List.mem_append.1 hb with hb | hb
    · exact .inl hb
    · rcases hn b hb with h1 | h1
      · exact .inl (hin b h1)
      · exact .inr h1
theorem AsM.funs_pack {w0 w : World} {ab vb : Nat} {AA FA PA CA UA BA : Option Addr} {ca cf cp cc cu cb nl : Nat} {S : AS} {L : List Nat} (h : AsM w0 w ab vb AA FA PA CA UA BA ca cf cp cc cu cb nl S) (hL : ∀ b ∈ asL ab vb AA FA PA CA UA BA, b ∈ L) (hlt : ∀ b ∈ L, w0.heap.size ≤ b ∧ b < w.heap.size) {w1 : World} (k : Keeps w w1 (ownL (.slice FA 0 0))) {A' : Option Addr} {c' : Nat} {l' : List LFun} (ho : w1.ownsRow w0.heap.size 77 2 (.slice A' l'.length c') l'.length (l'.flatMap funE)) (hn : ∀ b ∈ ownL (.slice A' 0 0), b ∈ ownL (.slice FA 0 0) ∨ w.heap.size ≤ b) :
    ∃ L', As w0 (w1.setCell ⟨ab, 1, none⟩ (.slice A' l'.length c')) ab L' nl { S with o := { S.o with funs := l' } } ∧ ASt w L (w1.setCell ⟨ab, 1, none⟩ (.slice A' l'.length c')) L' := by
  have hm := h.funs_ k ho
  have hin : ∀ b ∈ ownL (.slice FA 0 0), b ∈ L := fun b hb => hL b (by unfold asL; simp only [List.mem_append]; simp [hb])
  refine ⟨L ++ ownL (.slice A' 0 0), ⟨_, _, _, _, _, _, _, _, _, _, _, _, _, hm, fun b hb => ?_, fun b hb => ?_⟩, ⟨(k.more (fun b _ hb => hin b hb)).setCell (.inl (hL ab (by unfold asL; simp))) _, fun b hb => ?_⟩⟩
  · unfold asL at hb hL
    simp only [List.mem_append] at hb hL ⊢
    rcases hb with hb | hb | hb | hb | hb | hb | hb
    · exact .inl (hL b (by simp [hb]))
    · exact .inl (hL b (by simp [hb]))
    · exact .inr hb
    · exact .inl (hL b (by simp [hb]))
    · exact .inl (hL b (by simp [hb]))
    · exact .inl (hL b (by simp [hb]))
    · exact .inl (hL b (by simp [hb]))
  · have hs := k.size
    have hz : (w1.setCell ⟨ab, 1, none⟩ (.slice A' l'.length c')).heap.size = w1.heap.size := by simp [World.setCell]
    rw [hz]
    rcases List.mem_append.1 hb with hb | hb
    · have := hlt b hb
      exact ⟨this.1, by omega⟩
    · have := own_ltA ho b hb
      exact ⟨this.1, by omega⟩
  · rcases List.mem_append.1 hb with hb | hb
    · exact .inl hb
    · rcases hn b hb with h1 | h1
      · exact .inl (hin b h1)
      · exact .inr h1
theorem AsM.preds_pack {w0 w : World} {ab vb : Nat} {AA FA PA CA UA BA : Option Addr} {ca cf cp cc cu cb nl : Nat} {S : AS} {L : List Nat} (h : AsM w0 w ab vb AA FA PA CA UA BA ca cf cp cc cu cb nl S) (hL : ∀ b ∈ asL ab vb AA FA PA CA UA BA, b ∈ L) (hlt : ∀ b ∈ L, w0.heap.size ≤ b ∧ b < w.heap.size) {w1 : World} (k : Keeps w w1 (ownL (.slice PA 0 0))) {A' : Option Addr} {c' : Nat} {l' : List LPred} (ho : w1.ownsRow w0.heap.size 52 3 (.slice A' l'.length c') l'.length (l'.flatMap predE)) (hn : ∀ b ∈ ownL (.slice A' 0 0), b ∈ ownL (.slice PA 0 0) ∨ w.heap.size ≤ b) :
    ∃ L', As w0 (w1.setCell ⟨ab, 2, none⟩ (.slice A' l'.length c')) ab L' nl { S with o := { S.o with preds := l' } } ∧ ASt w L (w1.setCell ⟨ab, 2, none⟩ (.slice A' l'.length c')) L' := by
  have hm := h.preds_ k ho
  have hin : ∀ b ∈ ownL (.slice PA 0 0), b ∈ L := fun b hb => hL b (by unfold asL; simp only [List.mem_append]; simp [hb])
  refine ⟨L ++ ownL (.slice A' 0 0), ⟨_, _, _, _, _, _, _, _, _, _, _, _, _, hm, fun b hb => ?_, fun b hb => ?_⟩, ⟨(k.more (fun b _ hb => hin b hb)).setCell (.inl (hL ab (by unfold asL; simp))) _, fun b hb => ?_⟩⟩
  · unfold asL at hb hL
    simp only [List.mem_append] at hb hL ⊢
    rcases hb with hb | hb | hb | hb | hb | hb | hb
    · exact .inl (hL b (by simp [hb]))
    · exact .inl (hL b (by simp [hb]))
    · exact .inl (hL b (by simp [hb]))
    · exact .inr hb
    · exact .inl (hL b (by simp [hb]))
    · exact .inl (hL b (by simp [hb]))
    · exact .inl (hL b (by simp [hb]))
  · have hs := k.size
    have hz : (w1.setCell ⟨ab, 2, none⟩ (.slice A' l'.length c')).heap.size = w1.heap.size := by simp [World.setCell]
    rw [hz]
    rcases List.mem_append.1 hb with hb | hb
    · have := hlt b hb
      exact ⟨this.1, by omega⟩
    · have := own_ltA ho b hb
      exact ⟨this.1, by omega⟩
  · rcases List.mem_append.1 hb with hb | hb
    · exact .inl hb
    · rcases hn b hb with h1 | h1
      · exact .inl (hin b h1)
      · exact .inr h1
theorem AsM.code_pack {w0 w : World} {ab vb : Nat} {AA FA PA CA UA BA : Option Addr} {ca cf cp cc cu cb nl : Nat} {S : AS} {L : List Nat} (h : AsM w0 w ab vb AA FA PA CA UA BA ca cf cp cc cu cb nl S) (hL : ∀ b ∈ asL ab vb AA FA PA CA UA BA, b ∈ L) (hlt : ∀ b ∈ L, w0.heap.size ≤ b ∧ b < w.heap.size) {w1 : World} (k : Keeps w w1 (ownL (.slice CA 0 0))) {A' : Option Addr} {c' : Nat} {l' : List LIns} (ho : w1.ownsRow w0.heap.size 79 5 (.slice A' l'.length c') l'.length (l'.flatMap insE)) (hn : ∀ b ∈ ownL (.slice A' 0 0), b ∈ ownL (.slice CA 0 0) ∨ w.heap.size ≤ b) :
    ∃ L', As w0 (w1.setCell ⟨ab, 3, none⟩ (.slice A' l'.length c')) ab L' nl { S with o := { S.o with code := l' } } ∧ ASt w L (w1.setCell ⟨ab, 3, none⟩ (.slice A' l'.length c')) L' := by
  have hm := h.code_ k ho
  have hin : ∀ b ∈ ownL (.slice CA 0 0), b ∈ L := fun b hb => hL b (by unfold asL; simp only [List.mem_append]; simp [hb])
  refine ⟨L ++ ownL (.slice A' 0 0), ⟨_, _, _, _, _, _, _, _, _, _, _, _, _, hm, fun b hb => ?_, fun b hb => ?_⟩, ⟨(k.more (fun b _ hb => hin b hb)).setCell (.inl (hL ab (by unfold asL; simp))) _, fun b hb => ?_⟩⟩
  · unfold asL at hb hL
    simp only [List.mem_append] at hb hL ⊢
    rcases hb with hb | hb | hb | hb | hb | hb | hb
    · exact .inl (hL b (by simp [hb]))
    · exact .inl (hL b (by simp [hb]))
    · exact .inl (hL b (by simp [hb]))
    · exact .inl (hL b (by simp [hb]))
    · exact .inr hb
    · exact .inl (hL b (by simp [hb]))
    · exact .inl (hL b (by simp [hb]))
  · have hs := k.size
    have hz : (w1.setCell ⟨ab, 3, none⟩ (.slice A' l'.length c')).heap.size = w1.heap.size := by simp [World.setCell]
    rw [hz]
    rcases List.mem_append.1 hb with hb | hb
    · have := hlt b hb
      exact ⟨this.1, by omega⟩
    · have := own_ltA ho b hb
      exact ⟨this.1, by omega⟩
  · rcases List.mem_append.1 hb with hb | hb
    · exact .inl hb
    · rcases hn b hb with h1 | h1
      · exact .inl (hin b h1)
      · exact .inr h1
theorem AsM.uses_pack {w0 w : World} {ab vb : Nat} {AA FA PA CA UA BA : Option Addr} {ca cf cp cc cu cb nl : Nat} {S : AS} {L : List Nat} (h : AsM w0 w ab vb AA FA PA CA UA BA ca cf cp cc cu cb nl S) (hL : ∀ b ∈ asL ab vb AA FA PA CA UA BA, b ∈ L) (hlt : ∀ b ∈ L, w0.heap.size ≤ b ∧ b < w.heap.size) {w1 : World} (k : Keeps w w1 (ownL (.slice UA 0 0))) {A' : Option Addr} {c' : Nat} {l' : List (Nat × Nat × Nat)} (ho : w1.ownsRow w0.heap.size 105 3 (.slice A' l'.length c') l'.length (l'.flatMap useE)) (hn : ∀ b ∈ ownL (.slice A' 0 0), b ∈ ownL (.slice UA 0 0) ∨ w.heap.size ≤ b) :
    ∃ L', As w0 (w1.setCell ⟨ab, 5, none⟩ (.slice A' l'.length c')) ab L' nl { S with uses := l' } ∧ ASt w L (w1.setCell ⟨ab, 5, none⟩ (.slice A' l'.length c')) L' := by
  have hm := h.uses_ k ho
  have hin : ∀ b ∈ ownL (.slice UA 0 0), b ∈ L := fun b hb => hL b (by unfold asL; simp only [List.mem_append]; simp [hb])
  refine ⟨L ++ ownL (.slice A' 0 0), ⟨_, _, _, _, _, _, _, _, _, _, _, _, _, hm, fun b hb => ?_, fun b hb => ?_⟩, ⟨(k.more (fun b _ hb => hin b hb)).setCell (.inl (hL ab (by unfold asL; simp))) _, fun b hb => ?_⟩⟩
  · unfold asL at hb hL
    simp only [List.mem_append] at hb hL ⊢
    rcases hb with hb | hb | hb | hb | hb | hb | hb
    · exact .inl (hL b (by simp [hb]))
    · exact .inl (hL b (by simp [hb]))
    · exact .inl (hL b (by simp [hb]))
    · exact .inl (hL b (by simp [hb]))
    · exact .inl (hL b (by simp [hb]))
    · exact .inr hb
    · exact .inl (hL b (by simp [hb]))
  · have hs := k.size
    have hz : (w1.setCell ⟨ab, 5, none⟩ (.slice A' l'.length c')).heap.size = w1.heap.size := by simp [World.setCell]
    rw [hz]
    rcases List.mem_append.1 hb with hb | hb
    · have := hlt b hb
      exact ⟨this.1, by omega⟩
    · have := own_ltA ho b hb
      exact ⟨this.1, by omega⟩
  · rcases List.mem_append.1 hb with hb | hb
    · exact .inl hb
    · rcases hn b hb with h1 | h1
      · exact .inl (hin b h1)
      · exact .inr h1
theorem AsM.begins_pack {w0 w : World} {ab vb : Nat} {AA FA PA CA UA BA : Option Addr} {ca cf cp cc cu cb nl : Nat} {S : AS} {L : List Nat} (h : AsM w0 w ab vb AA FA PA CA UA BA ca cf cp cc cu cb nl S) (hL : ∀ b ∈ asL ab vb AA FA PA CA UA BA, b ∈ L) (hlt : ∀ b ∈ L, w0.heap.size ≤ b ∧ b < w.heap.size) {w1 : World} (k : Keeps w w1 (ownL (.slice BA 0 0))) {A' : Option Addr} {c' : Nat} {l' : List (Nat × Nat)} (ho : w1.ownsRow w0.heap.size 108 2 (.slice A' l'.length c') l'.length (l'.flatMap begE)) (hn : ∀ b ∈ ownL (.slice A' 0 0), b ∈ ownL (.slice BA 0 0) ∨ w.heap.size ≤ b) :
    ∃ L', As w0 (w1.setCell ⟨ab, 6, none⟩ (.slice A' l'.length c')) ab L' nl { S with begins := l' } ∧ ASt w L (w1.setCell ⟨ab, 6, none⟩ (.slice A' l'.length c')) L' := by
  have hm := h.begins_ k ho
  have hin : ∀ b ∈ ownL (.slice BA 0 0), b ∈ L := fun b hb => hL b (by unfold asL; simp only [List.mem_append]; simp [hb])
  refine ⟨L ++ ownL (.slice A' 0 0), ⟨_, _, _, _, _, _, _, _, _, _, _, _, _, hm, fun b hb => ?_, fun b hb => ?_⟩, ⟨(k.more (fun b _ hb => hin b hb)).setCell (.inl (hL ab (by unfold asL; simp))) _, fun b hb => ?_⟩⟩
  · unfold asL at hb hL
    simp only [List.mem_append] at hb hL ⊢
    rcases hb with hb | hb | hb | hb | hb | hb | hb
    · exact .inl (hL b (by simp [hb]))
    · exact .inl (hL b (by simp [hb]))
    · exact .inl (hL b (by simp [hb]))
    · exact .inl (hL b (by simp [hb]))
    · exact .inl (hL b (by simp [hb]))
    · exact .inl (hL b (by simp [hb]))
    · exact .inr hb
  · have hs := k.size
    have hz : (w1.setCell ⟨ab, 6, none⟩ (.slice A' l'.length c')).heap.size = w1.heap.size := by simp [World.setCell]
    rw [hz]
    rcases List.mem_append.1 hb with hb | hb
    · have := hlt b hb
      exact ⟨this.1, by omega⟩
    · have := own_ltA ho b hb
      exact ⟨this.1, by omega⟩
  · rcases List.mem_append.1 hb with hb | hb
    · exact .inl hb
    · rcases hn b hb with h1 | h1
      · exact .inl (hin b h1)
      · exact .inr h1
end Go.Proofs.YtpcihhdalofdiaaGreatDoor

/- append onto a row of the call's own: what was there stays where it was. Over any program. -/
namespace Go.Proofs.YtpcihhdalofdiaaGreatDoor
open Go.RowKit

/-- Rows stay where they are: of each as many cells as p says. -/
def Prot (w w' : World) (p : Nat → Nat) : Prop := ∀ (g : Nat) (cur : Array Value) (e : TypeId), w.heap[g]? = some (.cells cur e (0, 0)) → ∃ cur', w'.heap[g]? = some (.cells cur' e (0, 0)) ∧ cur'.size = cur.size ∧ cur'.toList.take (p g) = cur.toList.take (p g)
theorem Prot.refl (w : World) (p : Nat → Nat) : Prot w w p := fun _ cur _ h => ⟨cur, h, rfl, rfl⟩
theorem Prot.trans {a b c : World} {p : Nat → Nat} (h : Prot a b p) (k : Prot b c p) : Prot a c p := fun g cur e hg => by
  obtain ⟨x, h1, h2, h3⟩ := h g cur e hg
  obtain ⟨y, k1, k2, k3⟩ := k g x e h1
  exact ⟨y, k1, k2.trans h2, k3.trans h3⟩
theorem Prot.of_keeps {w w' : World} (k : Keeps w w' []) (p : Nat → Nat) : Prot w w' p := fun g cur _ h => ⟨cur, (k.block g (Array.getElem?_eq_some_iff.1 h).1 (by simp)).trans h, rfl, rfl⟩
theorem Prot.setCell {w : World} {p : Nat → Nat} {g : Nat} (hp : p g = 0) (i : Nat) (u : Value) : Prot w (w.setCell ⟨g, i, none⟩ u) p := fun b cur e h => by
  by_cases hb : b = g
  · subst hb
    exact ⟨cur.setIfInBounds i u, heap_setCell_same w b i cur e u h, by simp, by rw [hp]; simp⟩
  · exact ⟨cur, (Below.heap_setCell w ⟨g, i, none⟩ u b hb).trans h, rfl, rfl⟩
/-- A row behind it. -/
theorem own_prot {w w' : World} {base n size c : Nat} {e : TypeId} {A : Option Addr} {xs : List Value} (h : w.ownsRow base e size (.slice A n c) n xs) {p : Nat → Nat} (k : Prot w w' p) (hp : ∀ g ∈ ownL (.slice A 0 0), n * size ≤ p g) : w'.ownsRow base e size (.slice A n c) n xs := by
  refine ⟨h.1, ?_⟩
  rcases h.2 with h2 | ⟨g, cap, cur, he, hb, hg, h3, h4, h5, h6⟩
  · exact .inl h2
  · obtain ⟨cur', k1, k2, k3⟩ := k g cur e hg
    have hle := hp g (by rw [← ownLA A n c, he]; simp [ownL, Value.ownBlock])
    refine .inr ⟨g, cap, cur', he, hb, k1, h3, h4, by rw [k2, h5], ?_⟩
    have h7 := congrArg (List.take (n * size)) k3
    rw [List.take_take, List.take_take, Nat.min_eq_left hle] at h7
    rw [h7, h6]
/-- As much of the old row as there is stays where it was. -/
def Head (w w' : World) (v : Value) (m : Nat) : Prop := ∀ (g : Nat) (cur : Array Value) (e : TypeId), v.ownBlock = some g → w.heap[g]? = some (.cells cur e (0, 0)) → ∃ cur', w'.heap[g]? = some (.cells cur' e (0, 0)) ∧ cur'.size = cur.size ∧ cur'.toList.take m = cur.toList.take m
theorem Prot.of_head {w w' : World} {v : Value} {m : Nat} (h : Head w w' v m) (hg : w.grownBy w' v.ownBlock) {p : Nat → Nat} (hp : ∀ g ∈ ownL v, p g ≤ m) : Prot w w' p := fun g cur e hc => by
  by_cases hb : v.ownBlock = some g
  · obtain ⟨cur', h1, h2, h3⟩ := h g cur e hb hc
    have hle := hp g (by unfold ownL; rw [hb]; simp)
    have h7 := congrArg (List.take (p g)) h3
    rw [List.take_take, List.take_take, Nat.min_eq_left hle] at h7
    exact ⟨cur', h1, h2, h7⟩
  · exact ⟨cur, (hg.block g (Array.getElem?_eq_some_iff.1 hc).1 (fun e => hb e.symm)).trans hc, rfl, rfl⟩
section
variable {P : Program} (w : World)
theorem run_append_head (base : Nat) (t ty e : TypeId) (i : TypeInfo) (z : Value) (size bytes : Nat) (ht : P.underlying t = some (.slice e)) (hi : P.info? e = some i) (hz : i.zero = some z)
    (hsize : i.size = size) (hby : i.bytes = bytes) (hzs : z.cells.size = size) (hsz : 0 < size)
    (v : Value) (n : Nat) (xs : List Value) (hown : w.ownsRow base e size v n xs)
    (a : Addr) (m c : Nat) (news : List Value) (hl : news.length = m * size) (hnews : ∀ j u, news[j]? = some u → w.cell? (a.add j) = some u) (h1 : ∀ u ∈ news, u.oneCell' = true)
    (h63 : n + m ≤ maxLen) (hbytes : (n + m) * bytes ≤ 140737488355328) (hbase : base ≤ w.heap.size) :
    ∃ v' w', (Builtin.append_ #[t, t] ty #[v, .slice (some a) m c]).run P w = .ok v' w' ∧ w'.ownsRow base e size v' (n + m) (xs ++ news) ∧ w.grownBy w' v.ownBlock ∧
      (v'.ownBlock = v.ownBlock ∨ v'.ownBlock = some w.heap.size) ∧ Head w w' v (n * size) := by
  subst hsize
  subst hby
  have hsmall : n + m ≤ 9223372036854775807 := by simp only [maxLen] at h63; omega
  have hlen : (xs ++ news).length = (n + m) * i.size := by rw [List.length_append, hown.1, hl, Nat.add_mul]
  have grown : ∀ (old : Nat), old < n + m → ∀ (v : Value),
      (w.drew.alloc (.cells (xs.toArray ++ news.toArray ++ Builtin.zeroCells z.cells (grownCap w (n + m) old e - (n + m))) e)).ownsRow base e i.size
        (.slice (some ⟨w.heap.size, 0, none⟩) (n + m) (grownCap w (n + m) old e)) (n + m) (xs ++ news) ∧
      w.grownBy (w.drew.alloc (.cells (xs.toArray ++ news.toArray ++ Builtin.zeroCells z.cells (grownCap w (n + m) old e - (n + m))) e)) v.ownBlock ∧
      Head w (w.drew.alloc (.cells (xs.toArray ++ news.toArray ++ Builtin.zeroCells z.cells (grownCap w (n + m) old e - (n + m))) e)) v (n * i.size) := by
    intro old ho v
    have hge := grownCap_ge w (n + m) old e
    have hcm : grownCap w (n + m) old e ≤ maxLen := grownCap_le_maxLen w (n + m) old e h63
    refine ⟨⟨hlen, .inr ⟨w.heap.size, _, _, rfl, hbase, heap_alloc_new w.drew _, hge, hcm, ?_, ?_⟩⟩, ⟨rfl, rfl, rfl, by simp, fun k hk _ => heap_alloc_old w.drew _ hk⟩, fun g cur e' _ hg => ⟨cur, (heap_alloc_old w.drew _ (Array.getElem?_eq_some_iff.1 hg).1).trans hg, rfl, rfl⟩⟩
    · simp only [Array.size_append, List.size_toArray, size_zeroCells, hzs, hown.1, hl, ← Nat.add_mul]
      congr 1
      omega
    · simp only [Array.toList_append, List.append_assoc]
      rw [← List.append_assoc, ← hlen]
      exact List.take_left
  rcases hown.2 with ⟨rfl, rfl⟩ | ⟨g, cap, cur, rfl, hbg, hg, hnc, hcm, hcs, htake⟩
  · have hx : xs = [] := List.eq_nil_of_length_eq_zero (by simpa using hown.1)
    subst hx
    by_cases hm : m = 0
    · subst hm
      have hn : news = [] := List.eq_nil_of_length_eq_zero (by simpa using hl)
      subst hn
      refine ⟨.slice none 0 0, w, ?_, World.ownsRow_nil w base e i.size, ⟨rfl, rfl, rfl, Nat.le_refl _, fun _ _ _ => rfl⟩, Or.inl rfl, fun g cur e' hv _ => by simp [Value.ownBlock] at hv⟩
      simp [Builtin.append_, run_underlying ht, sizeOf, typeInfo, hi, Builtin.lenOf, Builtin.firstCells, loadCells, loadCellsFrom]
    · have hr := run_append_nil (P := P) w t ty e i z ht hi hz a m c news hl hnews (by omega) (by omega) (by have hb := hbytes; simp only [Nat.zero_add] at hb; omega)
      have hgr := grown 0 (by omega) (.slice none 0 0)
      simp only [Nat.zero_add, List.nil_append, Array.empty_append] at hgr ⊢
      exact ⟨_, _, hr, hgr.1, hgr.2.1, Or.inr rfl, hgr.2.2⟩
  · by_cases hroom : n + m ≤ cap
    · have hfit : n * i.size + news.length ≤ cur.size := by rw [hl, hcs, ← Nat.add_mul]; exact Nat.mul_le_mul_right _ hroom
      have hr := run_append_room (P := P) w t ty e i ht hi g n cap cur hg a m c news hl hnews h1 hroom hfit
      have hsz2 : (cur.toList.take (n * i.size) ++ news ++ cur.toList.drop (n * i.size + news.length)).length = cur.size := by
        simp only [List.length_append, List.length_take, List.length_drop, Array.length_toList]
        omega
      refine ⟨_, _, hr, ⟨hlen, .inr ⟨g, cap, _, rfl, hbg, setRow_heap w g cur _ e _ hg, hroom, hcm, ?_, ?_⟩⟩, ⟨rfl, rfl, rfl, by simp, fun k _ hk => setRow_other w g k _ (fun e => hk (by simp [Value.ownBlock, e]))⟩, Or.inl rfl, fun g' cur' e' hv hg' => ?_⟩
      · simp only [List.size_toArray, hsz2, hcs]
      · rw [htake, ← hlen]
        exact List.take_left
      · simp [Value.ownBlock] at hv
        subst hv
        rw [hg] at hg'
        simp only [Option.some.injEq, Obj.cells.injEq, and_true] at hg'
        obtain ⟨rfl, rfl⟩ := hg'
        refine ⟨_, setRow_heap w g cur _ e _ hg, by simp only [List.size_toArray, hsz2], ?_⟩
        simp only [List.append_assoc]
        rw [List.take_append_of_le_length (by simp; omega), List.take_take, Nat.min_self]
    · have holds : ∀ j u, xs[j]? = some u → w.cell? ((⟨g, 0, none⟩ : Addr).add j) = some u := hown.cells (g := g) rfl
      have hr := run_append_grow (P := P) w t ty e i z ht hi hz ⟨g, 0, none⟩ n cap xs hown.1 holds a m c news hl hnews (by omega) (by omega) (growslice_fits (by omega) hbytes)
      have hgr := grown cap (by omega) (.slice (some ⟨g, 0, none⟩) n cap)
      exact ⟨_, _, hr, hgr.1, hgr.2.1, Or.inr rfl, hgr.2.2⟩
variable {T E : TypeId} {sz : Nat}
theorem wp_app_head (el : ElemT P T E sz) {o : Oper} {a : Act} {K : Act → World → Prop} {Q : Exit → Act → World → Prop} (s x : Operand)
    (ho : o.op = .call { callee := .builtin .append, args := #[s, x], argTypes := #[T, T] })
    (base : Nat) (A0 : Option Addr) (n c0 : Nat) (xs : List Value) (hs : a.eval s = .slice A0 n c0) (hown : w.ownsRow base E sz (.slice A0 n c0) n xs)
    (ad : Addr) (m c : Nat) (news : List Value) (hx : a.eval x = .slice (some ad) m c) (hr : Rd w (some ad) news) (hl : news.length = m * sz) (h1 : ∀ u ∈ news, u.oneCell' = true)
    (hnm : n + m ≤ 549755813888) (hbase : base ≤ w.heap.size)
    (h : ∀ A' c' w', w'.ownsRow base E sz (.slice A' (n + m) c') (n + m) (xs ++ news) → w.grownBy w' (Value.slice A0 n c0).ownBlock →
      ((Value.slice A' (n + m) c').ownBlock = (Value.slice A0 n c0).ownBlock ∨ (Value.slice A' (n + m) c').ownBlock = some w.heap.size) → Head w w' (.slice A0 n c0) (n * sz) → K (a.put o.dst (.slice A' (n + m) c')) w') : o.wp P a w K Q := by
  obtain ⟨i, z, hi, hz, hsz, hb, hzs⟩ := el.ex
  have hcells : ∀ j u, news[j]? = some u → w.cell? (ad.add j) = some u := by
    intro j u hu
    have hj := (List.getElem?_eq_some_iff.1 hu).1
    obtain ⟨b, off, v, h, _, hc, hv⟩ := hr j hj
    injection h with h
    subst h
    rw [add_lit, hc]
    rw [hu] at hv
    exact hv.symm
  obtain ⟨v', w', hrun, h2, h3, h4, h5⟩ := run_append_head (P := P) w base T o.type E i z sz i.bytes el.sl hi hz hsz rfl hzs el.pos _ n xs hown ad m c news hl hcells h1 (by unfold maxLen; omega) (bytes_few hb hnm) hbase
  obtain ⟨A', c', rfl⟩ := own_form h2
  unfold Oper.wp execOp
  simp only [ho, resolve, invoke, builtin, Sem.run_bind, Sem.run_pure, Result.andThen_ok, List.map_toArray, List.map_cons, List.map_nil, hs, hx, hrun]
  exact h A' c' w' h2 h3 h4 h5
theorem wpList_app_head (el : ElemT P T E sz) {ops : Array Oper} {rest : List Oper} {o : Oper} {a : Act} {Q : Exit → Act → World → Prop} (hgd : o.guard = none) (s x : Operand)
    (ho : o.op = .call { callee := .builtin .append, args := #[s, x], argTypes := #[T, T] })
    (base : Nat) (A0 : Option Addr) (n c0 : Nat) (xs : List Value) (hs : a.eval s = .slice A0 n c0) (hown : w.ownsRow base E sz (.slice A0 n c0) n xs)
    (ad : Addr) (m c : Nat) (news : List Value) (hx : a.eval x = .slice (some ad) m c) (hr : Rd w (some ad) news) (hl : news.length = m * sz) (h1 : ∀ u ∈ news, u.oneCell' = true)
    (hnm : n + m ≤ 549755813888) (hbase : base ≤ w.heap.size)
    (h : ∀ A' c' w', w'.ownsRow base E sz (.slice A' (n + m) c') (n + m) (xs ++ news) → w.grownBy w' (Value.slice A0 n c0).ownBlock →
      ((Value.slice A' (n + m) c').ownBlock = (Value.slice A0 n c0).ownBlock ∨ (Value.slice A' (n + m) c').ownBlock = some w.heap.size) → Head w w' (.slice A0 n c0) (n * sz) → wpList P ops Q rest (a.put o.dst (.slice A' (n + m) c')) w') :
    wpList P ops Q (o :: rest) a w :=
  wpList_plain hgd fun _ hK => wp_app_head w el s x ho base A0 n c0 xs hs hown ad m c news hx hr hl h1 hnm hbase fun A' c' w' h2 h3 h4 h5 => hK _ _ (h A' c' w' h2 h3 h4 h5)
end
end Go.Proofs.YtpcihhdalofdiaaGreatDoor

/- The document's object that comes to be, in memory. Printed by gen_rsmem.py. -/
namespace Go.Proofs.YtpcihhdalofdiaaGreatDoor
open Go.RowKit Go.Maps

/-- A label's cell: its place and 1, or 0. -/
def labV (o : Option Nat) : Value := .int .i64 (match o with | some q => (q : Int) + 1 | none => 0)
def rsCells (a b c d : Value) (f : Int → Option Nat) (u l : Value) : Array Value := (a :: b :: c :: d :: (((List.range 1024).map fun n : Nat => labV (f n)) ++ [u, l])).toArray
section
variable (a b c d : Value) (f : Int → Option Nat) (u l : Value)
theorem rsCells_lab {n : Nat} (h : n < 1024) : (rsCells a b c d f u l)[4 + n]? = some (labV (f n)) := by
  unfold rsCells
  rw [List.getElem?_toArray, show 4 + n = n + 1 + 1 + 1 + 1 by omega]
  simp only [List.getElem?_cons_succ]
  rw [List.getElem?_append_left (by simpa using h), List.getElem?_map, List.getElem?_range h]
  rfl
theorem rsCells_0 : (rsCells a b c d f u l)[0]? = some a := rfl
theorem rsCells_1 : (rsCells a b c d f u l)[1]? = some b := rfl
theorem rsCells_2 : (rsCells a b c d f u l)[2]? = some c := rfl
theorem rsCells_3 : (rsCells a b c d f u l)[3]? = some d := rfl
theorem rsCells_1028 : (rsCells a b c d f u l)[1028]? = some u := by
  unfold rsCells
  rw [List.getElem?_toArray, show 1028 = 1024 + 1 + 1 + 1 + 1 by omega]
  simp only [List.getElem?_cons_succ]
  rw [List.getElem?_append_right (by simp)]
  simp
theorem rsCells_1029 : (rsCells a b c d f u l)[1029]? = some l := by
  unfold rsCells
  rw [List.getElem?_toArray, show 1029 = 1025 + 1 + 1 + 1 + 1 by omega]
  simp only [List.getElem?_cons_succ]
  rw [List.getElem?_append_right (by simp)]
  simp
theorem rsCells_size : (rsCells a b c d f u l).size = 1030 := by
  unfold rsCells
  simp
theorem rsCells_at {i : Nat} (h : 1030 ≤ i) : (rsCells a b c d f u l)[i]? = none := Array.getElem?_eq_none (by rw [rsCells_size]; exact h)
/-- Two such rows are one where all their cells are. -/
theorem rsCells_ext {x : Array Value} {a b c d : Value} {f : Int → Option Nat} {u l : Value} (hs : x.size = 1030) (h0 : x[0]? = some a) (h1 : x[1]? = some b) (h2 : x[2]? = some c) (h3 : x[3]? = some d) (hl : ∀ n : Nat, n < 1024 → x[4 + n]? = some (labV (f n))) (h4 : x[1028]? = some u) (h5 : x[1029]? = some l) : x = rsCells a b c d f u l := by
  refine Array.ext_getElem? fun i => ?_
  by_cases h : i < 4
  · match i, h with
    | 0, _ => rw [h0, rsCells_0]
    | 1, _ => rw [h1, rsCells_1]
    | 2, _ => rw [h2, rsCells_2]
    | 3, _ => rw [h3, rsCells_3]
  · by_cases h' : i < 1028
    · obtain ⟨n, rfl⟩ : ∃ n, i = 4 + n := ⟨i - 4, by omega⟩
      rw [hl n (by omega), rsCells_lab _ _ _ _ _ _ _ (by omega)]
    · by_cases h6 : i = 1028
      · subst h6
        rw [h4, rsCells_1028]
      · by_cases h7 : i = 1029
        · subst h7
          rw [h5, rsCells_1029]
        · rw [rsCells_at _ _ _ _ _ _ _ (by omega), Array.getElem?_eq_none (by omega)]
theorem rsCells_set (i : Nat) (v : Value) {j : Nat} : ((rsCells a b c d f u l).setIfInBounds i v)[j]? = if i = j then (if i < 1030 then some v else none) else (rsCells a b c d f u l)[j]? := by
  rw [Array.getElem?_setIfInBounds, rsCells_size]
theorem rsCells_set0 (v : Value) : (rsCells a b c d f u l).setIfInBounds 0 v = rsCells v b c d f u l :=
  rsCells_ext (by rw [Array.size_setIfInBounds, rsCells_size]) (by rw [rsCells_set, if_pos rfl, if_pos (by decide)]) (by rw [rsCells_set, if_neg (by decide), rsCells_1]) (by rw [rsCells_set, if_neg (by decide), rsCells_2]) (by rw [rsCells_set, if_neg (by decide), rsCells_3]) (fun n hn => by rw [rsCells_set, if_neg (by omega), rsCells_lab _ _ _ _ _ _ _ hn]) (by rw [rsCells_set, if_neg (by decide), rsCells_1028]) (by rw [rsCells_set, if_neg (by decide), rsCells_1029])
theorem rsCells_set1 (v : Value) : (rsCells a b c d f u l).setIfInBounds 1 v = rsCells a v c d f u l :=
  rsCells_ext (by rw [Array.size_setIfInBounds, rsCells_size]) (by rw [rsCells_set, if_neg (by decide), rsCells_0]) (by rw [rsCells_set, if_pos rfl, if_pos (by decide)]) (by rw [rsCells_set, if_neg (by decide), rsCells_2]) (by rw [rsCells_set, if_neg (by decide), rsCells_3]) (fun n hn => by rw [rsCells_set, if_neg (by omega), rsCells_lab _ _ _ _ _ _ _ hn]) (by rw [rsCells_set, if_neg (by decide), rsCells_1028]) (by rw [rsCells_set, if_neg (by decide), rsCells_1029])
theorem rsCells_set2 (v : Value) : (rsCells a b c d f u l).setIfInBounds 2 v = rsCells a b v d f u l :=
  rsCells_ext (by rw [Array.size_setIfInBounds, rsCells_size]) (by rw [rsCells_set, if_neg (by decide), rsCells_0]) (by rw [rsCells_set, if_neg (by decide), rsCells_1]) (by rw [rsCells_set, if_pos rfl, if_pos (by decide)]) (by rw [rsCells_set, if_neg (by decide), rsCells_3]) (fun n hn => by rw [rsCells_set, if_neg (by omega), rsCells_lab _ _ _ _ _ _ _ hn]) (by rw [rsCells_set, if_neg (by decide), rsCells_1028]) (by rw [rsCells_set, if_neg (by decide), rsCells_1029])
theorem rsCells_set3 (v : Value) : (rsCells a b c d f u l).setIfInBounds 3 v = rsCells a b c v f u l :=
  rsCells_ext (by rw [Array.size_setIfInBounds, rsCells_size]) (by rw [rsCells_set, if_neg (by decide), rsCells_0]) (by rw [rsCells_set, if_neg (by decide), rsCells_1]) (by rw [rsCells_set, if_neg (by decide), rsCells_2]) (by rw [rsCells_set, if_pos rfl, if_pos (by decide)]) (fun n hn => by rw [rsCells_set, if_neg (by omega), rsCells_lab _ _ _ _ _ _ _ hn]) (by rw [rsCells_set, if_neg (by decide), rsCells_1028]) (by rw [rsCells_set, if_neg (by decide), rsCells_1029])
theorem rsCells_set1028 (v : Value) : (rsCells a b c d f u l).setIfInBounds 1028 v = rsCells a b c d f v l :=
  rsCells_ext (by rw [Array.size_setIfInBounds, rsCells_size]) (by rw [rsCells_set, if_neg (by decide), rsCells_0]) (by rw [rsCells_set, if_neg (by decide), rsCells_1]) (by rw [rsCells_set, if_neg (by decide), rsCells_2]) (by rw [rsCells_set, if_neg (by decide), rsCells_3]) (fun n hn => by rw [rsCells_set, if_neg (by omega), rsCells_lab _ _ _ _ _ _ _ hn]) (by rw [rsCells_set, if_pos rfl, if_pos (by decide)]) (by rw [rsCells_set, if_neg (by decide), rsCells_1029])
theorem rsCells_set1029 (v : Value) : (rsCells a b c d f u l).setIfInBounds 1029 v = rsCells a b c d f u v :=
  rsCells_ext (by rw [Array.size_setIfInBounds, rsCells_size]) (by rw [rsCells_set, if_neg (by decide), rsCells_0]) (by rw [rsCells_set, if_neg (by decide), rsCells_1]) (by rw [rsCells_set, if_neg (by decide), rsCells_2]) (by rw [rsCells_set, if_neg (by decide), rsCells_3]) (fun n hn => by rw [rsCells_set, if_neg (by omega), rsCells_lab _ _ _ _ _ _ _ hn]) (by rw [rsCells_set, if_neg (by decide), rsCells_1028]) (by rw [rsCells_set, if_pos rfl, if_pos (by decide)])
theorem rsCells_setL {n : Nat} (hn : n < 1024) (x : Option Nat) : (rsCells a b c d f u l).setIfInBounds (4 + n) (labV x) = rsCells a b c d (fun m => if m = (n : Int) then x else f m) u l :=
  rsCells_ext (by rw [Array.size_setIfInBounds, rsCells_size]) (by rw [rsCells_set, if_neg (by omega), rsCells_0]) (by rw [rsCells_set, if_neg (by omega), rsCells_1]) (by rw [rsCells_set, if_neg (by omega), rsCells_2]) (by rw [rsCells_set, if_neg (by omega), rsCells_3]) (fun m hm => by
    rw [rsCells_set]
    by_cases h : m = n
    · subst h
      rw [if_pos rfl, if_pos (by omega), if_pos rfl]
    · rw [if_neg (by omega), rsCells_lab _ _ _ _ _ _ _ hm, if_neg (by omega)]) (by rw [rsCells_set, if_neg (by omega), rsCells_1028]) (by rw [rsCells_set, if_neg (by omega), rsCells_1029])
end
theorem zero_rs : Tryz.zeroCells67 = rsCells (.slice none 0 0) (.slice none 0 0) (.slice none 0 0) (.slice none 0 0) (fun _ => none) (.slice none 0 0) (.slice none 0 0) := by kernel_rfl
theorem el_atomR : ElemT Tryz.prog 22 9 1 := el_atomA
theorem el_funR : ElemT Tryz.prog 35 76 2 := elemT_of (b := 24) (z := .agg #[.string ⟨#[]⟩, .int .i64 0]) Tryz.underlying35 (by kernel_rfl) (by omega) rfl (by omega)
theorem el_predR : ElemT Tryz.prog 36 74 3 := elemT_of (b := 32) (z := .agg #[.string ⟨#[]⟩, .int .i64 0, .int .i64 0]) Tryz.underlying36 (by kernel_rfl) (by omega) rfl (by omega)
theorem el_insR : ElemT Tryz.prog 37 72 5 := elemT_of (b := 40) (z := .agg #[.int .i64 0, .int .i64 0, .int .i64 0, .int .i64 0, .int .i64 0]) Tryz.underlying37 (by kernel_rfl) (by omega) rfl (by omega)
theorem el_useR : ElemT Tryz.prog 64 69 3 := elemT_of (b := 24) (z := .agg #[.int .i64 0, .int .i64 0, .int .i64 0]) Tryz.underlying64 (by kernel_rfl) (by omega) rfl (by omega)
theorem el_begR : ElemT Tryz.prog 65 73 2 := elemT_of (b := 16) (z := .agg #[.int .i64 0, .int .i64 0]) Tryz.underlying65 (by kernel_rfl) (by omega) rfl (by omega)
attribute [local irreducible] rsCells

/-- The struct, its rows. -/
structure RsM (w0 w : World) (ab : Nat) (AA FA PA CA UA BA : Option Addr) (ca cf cp cc cu cb : Nat) (S : AS) : Prop where
  blk : Blk w ab 67 (rsCells (.slice AA S.o.atoms.length ca) (.slice FA S.o.funs.length cf) (.slice PA S.o.preds.length cp) (.slice CA S.o.code.length cc) S.labels (.slice UA S.uses.length cu) (.slice BA S.begins.length cb))
  atoms : w.ownsRow w0.heap.size 9 1 (.slice AA S.o.atoms.length ca) S.o.atoms.length (S.o.atoms.flatMap strE)
  funs : w.ownsRow w0.heap.size 76 2 (.slice FA S.o.funs.length cf) S.o.funs.length (S.o.funs.flatMap funE)
  preds : w.ownsRow w0.heap.size 74 3 (.slice PA S.o.preds.length cp) S.o.preds.length (S.o.preds.flatMap predE)
  code : w.ownsRow w0.heap.size 72 5 (.slice CA S.o.code.length cc) S.o.code.length (S.o.code.flatMap insE)
  uses : w.ownsRow w0.heap.size 69 3 (.slice UA S.uses.length cu) S.uses.length (S.uses.flatMap useE)
  begins : w.ownsRow w0.heap.size 73 2 (.slice BA S.begins.length cb) S.begins.length (S.begins.flatMap begE)
  low : w0.heap.size ≤ ab
  bel : Below w0.heap.size w0 w
  st : St w0
def rsL (ab : Nat) (AA FA PA CA UA BA : Option Addr) : List Nat := [ab] ++ (ownL (.slice AA 0 0) ++ (ownL (.slice FA 0 0) ++ (ownL (.slice PA 0 0) ++ (ownL (.slice CA 0 0) ++ (ownL (.slice UA 0 0) ++ (ownL (.slice BA 0 0)))))))
section
variable {w0 w : World} {ab : Nat} {AA FA PA CA UA BA : Option Addr} {ca cf cp cc cu cb : Nat} {S : AS}
theorem RsM.bel_ (h : RsM w0 w ab AA FA PA CA UA BA ca cf cp cc cu cb S) {w' : World} {L : List Nat} (k : Keeps w w' L) (hL : ∀ b ∈ L, w0.heap.size ≤ b) : Below w0.heap.size w0 w' := k.below h.bel hL h.bel.size
/-- Nothing of it turns. -/
theorem RsM.keep (h : RsM w0 w ab AA FA PA CA UA BA ca cf cp cc cu cb S) {w' : World} {L : List Nat} (k : Keeps w w' L) (hL : ∀ b ∈ L, b ∉ rsL ab AA FA PA CA UA BA ∧ w0.heap.size ≤ b) : RsM w0 w' ab AA FA PA CA UA BA ca cf cp cc cu cb S := by
  have hn : ∀ b ∈ L, b ≠ ab ∧ b ∉ ownL (.slice AA 0 0) ∧ b ∉ ownL (.slice FA 0 0) ∧ b ∉ ownL (.slice PA 0 0) ∧ b ∉ ownL (.slice CA 0 0) ∧ b ∉ ownL (.slice UA 0 0) ∧ b ∉ ownL (.slice BA 0 0) := fun b hb => by
    have h1 := (hL b hb).1
    unfold rsL at h1
    simp only [List.mem_append, List.mem_cons, List.not_mem_nil, or_false, not_or] at h1
    exact h1
  exact ⟨h.blk.keep k (fun hm => (hn _ hm).1 rfl), own_keepA h.atoms k (fun b hb => (hn b hb).2.1), own_keepA h.funs k (fun b hb => (hn b hb).2.2.1), own_keepA h.preds k (fun b hb => (hn b hb).2.2.2.1), own_keepA h.code k (fun b hb => (hn b hb).2.2.2.2.1), own_keepA h.uses k (fun b hb => (hn b hb).2.2.2.2.2.1), own_keepA h.begins k (fun b hb => (hn b hb).2.2.2.2.2.2), h.low, h.bel_ k (fun b hb => (hL b hb).2), h.st⟩
theorem RsM.keep0 (h : RsM w0 w ab AA FA PA CA UA BA ca cf cp cc cu cb S) {w' : World} (k : Keeps w w' []) : RsM w0 w' ab AA FA PA CA UA BA ca cf cp cc cu cb S := h.keep k (by simp)
/-- The first three rows turn only behind what they hold. -/
theorem RsM.keepP (h : RsM w0 w ab AA FA PA CA UA BA ca cf cp cc cu cb S) {w' : World} {L : List Nat} {p : Nat → Nat} (k : Keeps w w' L) (kp : Prot w w' p) (hL : ∀ b ∈ L, b ≠ ab ∧ b ∉ ownL (.slice CA 0 0) ∧ b ∉ ownL (.slice UA 0 0) ∧ b ∉ ownL (.slice BA 0 0) ∧ w0.heap.size ≤ b) (pa : ∀ g ∈ ownL (.slice AA 0 0), S.o.atoms.length * 1 ≤ p g) (pf : ∀ g ∈ ownL (.slice FA 0 0), S.o.funs.length * 2 ≤ p g) (pp : ∀ g ∈ ownL (.slice PA 0 0), S.o.preds.length * 3 ≤ p g) : RsM w0 w' ab AA FA PA CA UA BA ca cf cp cc cu cb S :=
  ⟨h.blk.keep k (fun hm => (hL _ hm).1 rfl), own_prot h.atoms kp pa, own_prot h.funs kp pf, own_prot h.preds kp pp, own_keepA h.code k (fun b hb => (hL b hb).2.1), own_keepA h.uses k (fun b hb => (hL b hb).2.2.1), own_keepA h.begins k (fun b hb => (hL b hb).2.2.2.1), h.low, h.bel_ k (fun b hb => (hL b hb).2.2.2.2), h.st⟩
/-- The object's tables. -/
theorem RsM.ob (h : RsM w0 w ab AA FA PA CA UA BA ca cf cp cc cu cb S) : ObIs w S.o AA FA PA CA ca cf cp cc := ⟨Rd.of_own h.atoms, Rd.of_own h.funs, Rd.of_own h.preds, Rd.of_own h.code, fun e => by subst e; exact own_nilA h.atoms, fun e => by subst e; exact own_nilA h.funs, fun e => by subst e; exact own_nilA h.preds, fun e => by subst e; exact own_nilA h.code⟩
/-- The object's cells. -/
theorem RsM.c0 (h : RsM w0 w ab AA FA PA CA UA BA ca cf cp cc cu cb S) : w.cell? ⟨ab, 0, none⟩ = some (.slice AA S.o.atoms.length ca) := (h.blk.cell 0).trans (rsCells_0 _ _ _ _ _ _ _)
theorem RsM.c1 (h : RsM w0 w ab AA FA PA CA UA BA ca cf cp cc cu cb S) : w.cell? ⟨ab, 1, none⟩ = some (.slice FA S.o.funs.length cf) := (h.blk.cell 1).trans (rsCells_1 _ _ _ _ _ _ _)
theorem RsM.c2 (h : RsM w0 w ab AA FA PA CA UA BA ca cf cp cc cu cb S) : w.cell? ⟨ab, 2, none⟩ = some (.slice PA S.o.preds.length cp) := (h.blk.cell 2).trans (rsCells_2 _ _ _ _ _ _ _)
theorem RsM.c3 (h : RsM w0 w ab AA FA PA CA UA BA ca cf cp cc cu cb S) : w.cell? ⟨ab, 3, none⟩ = some (.slice CA S.o.code.length cc) := (h.blk.cell 3).trans (rsCells_3 _ _ _ _ _ _ _)
theorem RsM.cellU (h : RsM w0 w ab AA FA PA CA UA BA ca cf cp cc cu cb S) : w.cell? ⟨ab, 1028, none⟩ = some (.slice UA S.uses.length cu) := (h.blk.cell 1028).trans (rsCells_1028 _ _ _ _ _ _ _)
theorem RsM.cellB (h : RsM w0 w ab AA FA PA CA UA BA ca cf cp cc cu cb S) : w.cell? ⟨ab, 1029, none⟩ = some (.slice BA S.begins.length cb) := (h.blk.cell 1029).trans (rsCells_1029 _ _ _ _ _ _ _)
theorem RsM.cl (h : RsM w0 w ab AA FA PA CA UA BA ca cf cp cc cu cb S) {n : Nat} (hn : n < 1024) : w.cell? ⟨ab, 4 + n, none⟩ = some (labV (S.labels n)) := (h.blk.cell (4 + n)).trans (rsCells_lab _ _ _ _ _ _ _ hn)
/-- .. atoms turn. -/
theorem RsM.atoms_ (h : RsM w0 w ab AA FA PA CA UA BA ca cf cp cc cu cb S) {w1 : World} (k : Keeps w w1 (ownL (.slice AA 0 0))) {A' : Option Addr} {c' : Nat} {l' : List ByteArray} (ho : w1.ownsRow w0.heap.size 9 1 (.slice A' l'.length c') l'.length (l'.flatMap strE)) :
    RsM w0 (w1.setCell ⟨ab, 0, none⟩ (.slice A' l'.length c')) ab A' FA PA CA UA BA c' cf cp cc cu cb { S with o := { S.o with atoms := l' } } := by
  have hno := own_outA h.atoms h.blk (by decide)
  have b1 := h.blk.keep k hno
  have ks : Keeps w1 (w1.setCell ⟨ab, 0, none⟩ (.slice A' l'.length c')) [ab] := (Keeps.refl w1 [ab]).setCell (.inl (by simp)) _
  have one : ∀ {Q : Option Addr}, ab ∉ ownL (.slice Q 0 0) → ∀ b ∈ [ab], b ∉ ownL (.slice Q 0 0) := fun hq b hb' => by simp at hb'; subst hb'; exact hq
  have b2 := b1.set_ 0 (.slice A' l'.length c')
  rw [rsCells_set0] at b2
  have e0 := own_keepA ho ks (one (own_outA ho b1 (by decide)))
  have e1 := own_keepA (own_keepA h.funs k (own_disjA h.atoms h.funs (by decide))) ks (one (own_outA h.funs h.blk (by decide)))
  have e2 := own_keepA (own_keepA h.preds k (own_disjA h.atoms h.preds (by decide))) ks (one (own_outA h.preds h.blk (by decide)))
  have e3 := own_keepA (own_keepA h.code k (own_disjA h.atoms h.code (by decide))) ks (one (own_outA h.code h.blk (by decide)))
  have e4 := own_keepA (own_keepA h.uses k (own_disjA h.atoms h.uses (by decide))) ks (one (own_outA h.uses h.blk (by decide)))
  have e5 := own_keepA (own_keepA h.begins k (own_disjA h.atoms h.begins (by decide))) ks (one (own_outA h.begins h.blk (by decide)))
  exact ⟨b2, e0, e1, e2, e3, e4, e5, h.low, ks.below (h.bel_ k (fun b hb' => (own_ltA h.atoms b hb').1)) (by simp only [List.mem_cons, List.not_mem_nil, or_false]; rintro _ rfl; exact h.low) (Nat.le_trans h.bel.size k.size), h.st⟩
/-- .. funs turn. -/
theorem RsM.funs_ (h : RsM w0 w ab AA FA PA CA UA BA ca cf cp cc cu cb S) {w1 : World} (k : Keeps w w1 (ownL (.slice FA 0 0))) {A' : Option Addr} {c' : Nat} {l' : List LFun} (ho : w1.ownsRow w0.heap.size 76 2 (.slice A' l'.length c') l'.length (l'.flatMap funE)) :
    RsM w0 (w1.setCell ⟨ab, 1, none⟩ (.slice A' l'.length c')) ab AA A' PA CA UA BA ca c' cp cc cu cb { S with o := { S.o with funs := l' } } := by
  have hno := own_outA h.funs h.blk (by decide)
  have b1 := h.blk.keep k hno
  have ks : Keeps w1 (w1.setCell ⟨ab, 1, none⟩ (.slice A' l'.length c')) [ab] := (Keeps.refl w1 [ab]).setCell (.inl (by simp)) _
  have one : ∀ {Q : Option Addr}, ab ∉ ownL (.slice Q 0 0) → ∀ b ∈ [ab], b ∉ ownL (.slice Q 0 0) := fun hq b hb' => by simp at hb'; subst hb'; exact hq
  have b2 := b1.set_ 1 (.slice A' l'.length c')
  rw [rsCells_set1] at b2
  have e0 := own_keepA ho ks (one (own_outA ho b1 (by decide)))
  have e1 := own_keepA (own_keepA h.atoms k (own_disjA h.funs h.atoms (by decide))) ks (one (own_outA h.atoms h.blk (by decide)))
  have e2 := own_keepA (own_keepA h.preds k (own_disjA h.funs h.preds (by decide))) ks (one (own_outA h.preds h.blk (by decide)))
  have e3 := own_keepA (own_keepA h.code k (own_disjA h.funs h.code (by decide))) ks (one (own_outA h.code h.blk (by decide)))
  have e4 := own_keepA (own_keepA h.uses k (own_disjA h.funs h.uses (by decide))) ks (one (own_outA h.uses h.blk (by decide)))
  have e5 := own_keepA (own_keepA h.begins k (own_disjA h.funs h.begins (by decide))) ks (one (own_outA h.begins h.blk (by decide)))
  exact ⟨b2, e1, e0, e2, e3, e4, e5, h.low, ks.below (h.bel_ k (fun b hb' => (own_ltA h.funs b hb').1)) (by simp only [List.mem_cons, List.not_mem_nil, or_false]; rintro _ rfl; exact h.low) (Nat.le_trans h.bel.size k.size), h.st⟩
/-- .. preds turn. -/
theorem RsM.preds_ (h : RsM w0 w ab AA FA PA CA UA BA ca cf cp cc cu cb S) {w1 : World} (k : Keeps w w1 (ownL (.slice PA 0 0))) {A' : Option Addr} {c' : Nat} {l' : List LPred} (ho : w1.ownsRow w0.heap.size 74 3 (.slice A' l'.length c') l'.length (l'.flatMap predE)) :
    RsM w0 (w1.setCell ⟨ab, 2, none⟩ (.slice A' l'.length c')) ab AA FA A' CA UA BA ca cf c' cc cu cb { S with o := { S.o with preds := l' } } := by
  have hno := own_outA h.preds h.blk (by decide)
  have b1 := h.blk.keep k hno
  have ks : Keeps w1 (w1.setCell ⟨ab, 2, none⟩ (.slice A' l'.length c')) [ab] := (Keeps.refl w1 [ab]).setCell (.inl (by simp)) _
  have one : ∀ {Q : Option Addr}, ab ∉ ownL (.slice Q 0 0) → ∀ b ∈ [ab], b ∉ ownL (.slice Q 0 0) := fun hq b hb' => by simp at hb'; subst hb'; exact hq
  have b2 := b1.set_ 2 (.slice A' l'.length c')
  rw [rsCells_set2] at b2
  have e0 := own_keepA ho ks (one (own_outA ho b1 (by decide)))
  have e1 := own_keepA (own_keepA h.atoms k (own_disjA h.preds h.atoms (by decide))) ks (one (own_outA h.atoms h.blk (by decide)))
  have e2 := own_keepA (own_keepA h.funs k (own_disjA h.preds h.funs (by decide))) ks (one (own_outA h.funs h.blk (by decide)))
  have e3 := own_keepA (own_keepA h.code k (own_disjA h.preds h.code (by decide))) ks (one (own_outA h.code h.blk (by decide)))
  have e4 := own_keepA (own_keepA h.uses k (own_disjA h.preds h.uses (by decide))) ks (one (own_outA h.uses h.blk (by decide)))
  have e5 := own_keepA (own_keepA h.begins k (own_disjA h.preds h.begins (by decide))) ks (one (own_outA h.begins h.blk (by decide)))
  exact ⟨b2, e1, e2, e0, e3, e4, e5, h.low, ks.below (h.bel_ k (fun b hb' => (own_ltA h.preds b hb').1)) (by simp only [List.mem_cons, List.not_mem_nil, or_false]; rintro _ rfl; exact h.low) (Nat.le_trans h.bel.size k.size), h.st⟩
theorem RsM.preds_in (h : RsM w0 w ab AA FA PA CA UA BA ca cf cp cc cu cb S) {w1 : World} (k : Keeps w w1 (ownL (.slice PA 0 0))) {l' : List LPred} (hl : l'.length = S.o.preds.length) (ho : w1.ownsRow w0.heap.size 74 3 (.slice PA S.o.preds.length cp) S.o.preds.length (l'.flatMap predE)) :
    RsM w0 w1 ab AA FA PA CA UA BA ca cf cp cc cu cb { S with o := { S.o with preds := l' } } := by
  have hno := own_outA h.preds h.blk (by decide)
  have b1 := h.blk.keep k hno
  rw [← hl] at ho b1
  have e1 := own_keepA h.atoms k (own_disjA h.preds h.atoms (by decide))
  have e2 := own_keepA h.funs k (own_disjA h.preds h.funs (by decide))
  have e3 := own_keepA h.code k (own_disjA h.preds h.code (by decide))
  have e4 := own_keepA h.uses k (own_disjA h.preds h.uses (by decide))
  have e5 := own_keepA h.begins k (own_disjA h.preds h.begins (by decide))
  exact ⟨b1, e1, e2, ho, e3, e4, e5, h.low, h.bel_ k (fun b hb' => (own_ltA h.preds b hb').1), h.st⟩
/-- .. code turn. -/
theorem RsM.code_ (h : RsM w0 w ab AA FA PA CA UA BA ca cf cp cc cu cb S) {w1 : World} (k : Keeps w w1 (ownL (.slice CA 0 0))) {A' : Option Addr} {c' : Nat} {l' : List LIns} (ho : w1.ownsRow w0.heap.size 72 5 (.slice A' l'.length c') l'.length (l'.flatMap insE)) :
    RsM w0 (w1.setCell ⟨ab, 3, none⟩ (.slice A' l'.length c')) ab AA FA PA A' UA BA ca cf cp c' cu cb { S with o := { S.o with code := l' } } := by
  have hno := own_outA h.code h.blk (by decide)
  have b1 := h.blk.keep k hno
  have ks : Keeps w1 (w1.setCell ⟨ab, 3, none⟩ (.slice A' l'.length c')) [ab] := (Keeps.refl w1 [ab]).setCell (.inl (by simp)) _
  have one : ∀ {Q : Option Addr}, ab ∉ ownL (.slice Q 0 0) → ∀ b ∈ [ab], b ∉ ownL (.slice Q 0 0) := fun hq b hb' => by simp at hb'; subst hb'; exact hq
  have b2 := b1.set_ 3 (.slice A' l'.length c')
  rw [rsCells_set3] at b2
  have e0 := own_keepA ho ks (one (own_outA ho b1 (by decide)))
  have e1 := own_keepA (own_keepA h.atoms k (own_disjA h.code h.atoms (by decide))) ks (one (own_outA h.atoms h.blk (by decide)))
  have e2 := own_keepA (own_keepA h.funs k (own_disjA h.code h.funs (by decide))) ks (one (own_outA h.funs h.blk (by decide)))
  have e3 := own_keepA (own_keepA h.preds k (own_disjA h.code h.preds (by decide))) ks (one (own_outA h.preds h.blk (by decide)))
  have e4 := own_keepA (own_keepA h.uses k (own_disjA h.code h.uses (by decide))) ks (one (own_outA h.uses h.blk (by decide)))
  have e5 := own_keepA (own_keepA h.begins k (own_disjA h.code h.begins (by decide))) ks (one (own_outA h.begins h.blk (by decide)))
  exact ⟨b2, e1, e2, e3, e0, e4, e5, h.low, ks.below (h.bel_ k (fun b hb' => (own_ltA h.code b hb').1)) (by simp only [List.mem_cons, List.not_mem_nil, or_false]; rintro _ rfl; exact h.low) (Nat.le_trans h.bel.size k.size), h.st⟩
theorem RsM.code_in (h : RsM w0 w ab AA FA PA CA UA BA ca cf cp cc cu cb S) {w1 : World} (k : Keeps w w1 (ownL (.slice CA 0 0))) {l' : List LIns} (hl : l'.length = S.o.code.length) (ho : w1.ownsRow w0.heap.size 72 5 (.slice CA S.o.code.length cc) S.o.code.length (l'.flatMap insE)) :
    RsM w0 w1 ab AA FA PA CA UA BA ca cf cp cc cu cb { S with o := { S.o with code := l' } } := by
  have hno := own_outA h.code h.blk (by decide)
  have b1 := h.blk.keep k hno
  rw [← hl] at ho b1
  have e1 := own_keepA h.atoms k (own_disjA h.code h.atoms (by decide))
  have e2 := own_keepA h.funs k (own_disjA h.code h.funs (by decide))
  have e3 := own_keepA h.preds k (own_disjA h.code h.preds (by decide))
  have e4 := own_keepA h.uses k (own_disjA h.code h.uses (by decide))
  have e5 := own_keepA h.begins k (own_disjA h.code h.begins (by decide))
  exact ⟨b1, e1, e2, e3, ho, e4, e5, h.low, h.bel_ k (fun b hb' => (own_ltA h.code b hb').1), h.st⟩
/-- .. uses turn. -/
theorem RsM.uses_ (h : RsM w0 w ab AA FA PA CA UA BA ca cf cp cc cu cb S) {w1 : World} (k : Keeps w w1 (ownL (.slice UA 0 0))) {A' : Option Addr} {c' : Nat} {l' : List (Nat × Nat × Nat)} (ho : w1.ownsRow w0.heap.size 69 3 (.slice A' l'.length c') l'.length (l'.flatMap useE)) :
    RsM w0 (w1.setCell ⟨ab, 1028, none⟩ (.slice A' l'.length c')) ab AA FA PA CA A' BA ca cf cp cc c' cb { S with uses := l' } := by
  have hno := own_outA h.uses h.blk (by decide)
  have b1 := h.blk.keep k hno
  have ks : Keeps w1 (w1.setCell ⟨ab, 1028, none⟩ (.slice A' l'.length c')) [ab] := (Keeps.refl w1 [ab]).setCell (.inl (by simp)) _
  have one : ∀ {Q : Option Addr}, ab ∉ ownL (.slice Q 0 0) → ∀ b ∈ [ab], b ∉ ownL (.slice Q 0 0) := fun hq b hb' => by simp at hb'; subst hb'; exact hq
  have b2 := b1.set_ 1028 (.slice A' l'.length c')
  rw [rsCells_set1028] at b2
  have e0 := own_keepA ho ks (one (own_outA ho b1 (by decide)))
  have e1 := own_keepA (own_keepA h.atoms k (own_disjA h.uses h.atoms (by decide))) ks (one (own_outA h.atoms h.blk (by decide)))
  have e2 := own_keepA (own_keepA h.funs k (own_disjA h.uses h.funs (by decide))) ks (one (own_outA h.funs h.blk (by decide)))
  have e3 := own_keepA (own_keepA h.preds k (own_disjA h.uses h.preds (by decide))) ks (one (own_outA h.preds h.blk (by decide)))
  have e4 := own_keepA (own_keepA h.code k (own_disjA h.uses h.code (by decide))) ks (one (own_outA h.code h.blk (by decide)))
  have e5 := own_keepA (own_keepA h.begins k (own_disjA h.uses h.begins (by decide))) ks (one (own_outA h.begins h.blk (by decide)))
  exact ⟨b2, e1, e2, e3, e4, e0, e5, h.low, ks.below (h.bel_ k (fun b hb' => (own_ltA h.uses b hb').1)) (by simp only [List.mem_cons, List.not_mem_nil, or_false]; rintro _ rfl; exact h.low) (Nat.le_trans h.bel.size k.size), h.st⟩
/-- .. begins turn. -/
theorem RsM.begins_ (h : RsM w0 w ab AA FA PA CA UA BA ca cf cp cc cu cb S) {w1 : World} (k : Keeps w w1 (ownL (.slice BA 0 0))) {A' : Option Addr} {c' : Nat} {l' : List (Nat × Nat)} (ho : w1.ownsRow w0.heap.size 73 2 (.slice A' l'.length c') l'.length (l'.flatMap begE)) :
    RsM w0 (w1.setCell ⟨ab, 1029, none⟩ (.slice A' l'.length c')) ab AA FA PA CA UA A' ca cf cp cc cu c' { S with begins := l' } := by
  have hno := own_outA h.begins h.blk (by decide)
  have b1 := h.blk.keep k hno
  have ks : Keeps w1 (w1.setCell ⟨ab, 1029, none⟩ (.slice A' l'.length c')) [ab] := (Keeps.refl w1 [ab]).setCell (.inl (by simp)) _
  have one : ∀ {Q : Option Addr}, ab ∉ ownL (.slice Q 0 0) → ∀ b ∈ [ab], b ∉ ownL (.slice Q 0 0) := fun hq b hb' => by simp at hb'; subst hb'; exact hq
  have b2 := b1.set_ 1029 (.slice A' l'.length c')
  rw [rsCells_set1029] at b2
  have e0 := own_keepA ho ks (one (own_outA ho b1 (by decide)))
  have e1 := own_keepA (own_keepA h.atoms k (own_disjA h.begins h.atoms (by decide))) ks (one (own_outA h.atoms h.blk (by decide)))
  have e2 := own_keepA (own_keepA h.funs k (own_disjA h.begins h.funs (by decide))) ks (one (own_outA h.funs h.blk (by decide)))
  have e3 := own_keepA (own_keepA h.preds k (own_disjA h.begins h.preds (by decide))) ks (one (own_outA h.preds h.blk (by decide)))
  have e4 := own_keepA (own_keepA h.code k (own_disjA h.begins h.code (by decide))) ks (one (own_outA h.code h.blk (by decide)))
  have e5 := own_keepA (own_keepA h.uses k (own_disjA h.begins h.uses (by decide))) ks (one (own_outA h.uses h.blk (by decide)))
  exact ⟨b2, e1, e2, e3, e4, e5, e0, h.low, ks.below (h.bel_ k (fun b hb' => (own_ltA h.begins b hb').1)) (by simp only [List.mem_cons, List.not_mem_nil, or_false]; rintro _ rfl; exact h.low) (Nat.le_trans h.bel.size k.size), h.st⟩
/-- .. a label comes. -/
theorem RsM.labels_ (h : RsM w0 w ab AA FA PA CA UA BA ca cf cp cc cu cb S) {n : Nat} (hn : n < 1024) (x : Option Nat) : RsM w0 (w.setCell ⟨ab, 4 + n, none⟩ (labV x)) ab AA FA PA CA UA BA ca cf cp cc cu cb { S with labels := fun m => if m = (n : Int) then x else S.labels m } := by
  have ks : Keeps w (w.setCell ⟨ab, 4 + n, none⟩ (labV x)) [ab] := (Keeps.refl w [ab]).setCell (.inl (by simp)) _
  have one : ∀ {Q : Option Addr}, ab ∉ ownL (.slice Q 0 0) → ∀ b ∈ [ab], b ∉ ownL (.slice Q 0 0) := fun hq b hb' => by simp at hb'; subst hb'; exact hq
  have b2 := h.blk.set_ (4 + n) (labV x)
  rw [rsCells_setL _ _ _ _ _ _ _ hn] at b2
  exact ⟨b2, own_keepA h.atoms ks (one (own_outA h.atoms h.blk (by decide))), own_keepA h.funs ks (one (own_outA h.funs h.blk (by decide))), own_keepA h.preds ks (one (own_outA h.preds h.blk (by decide))), own_keepA h.code ks (one (own_outA h.code h.blk (by decide))), own_keepA h.uses ks (one (own_outA h.uses h.blk (by decide))), own_keepA h.begins ks (one (own_outA h.begins h.blk (by decide))), h.low, h.bel_ ks (by simp only [List.mem_cons, List.not_mem_nil, or_false]; rintro _ rfl; exact h.low), h.st⟩
end
/-- No more is wanted than the rows hold. -/
structure OkP (w : World) (ab : Nat) (AA FA PA : Option Addr) (p : Nat → Nat) (S : AS) : Prop where
  z : p ab = 0
  atoms : ∀ g ∈ ownL (.slice AA 0 0), p g ≤ S.o.atoms.length * 1
  funs : ∀ g ∈ ownL (.slice FA 0 0), p g ≤ S.o.funs.length * 2
  preds : ∀ g ∈ ownL (.slice PA 0 0), p g ≤ S.o.preds.length * 3
  new : ∀ g, w.heap.size ≤ g → p g = 0
theorem OkP.zero (w : World) (ab : Nat) (AA FA PA : Option Addr) (S : AS) : OkP w ab AA FA PA (fun _ => 0) S := ⟨rfl, fun _ _ => Nat.zero_le _, fun _ _ => Nat.zero_le _, fun _ _ => Nat.zero_le _, fun _ _ => rfl⟩
/-- Its blocks are among those of L. -/
def Rs (w0 w : World) (ab : Nat) (L : List Nat) (p : Nat → Nat) (S : AS) : Prop :=
  ∃ AA FA PA CA UA BA ca cf cp cc cu cb, RsM w0 w ab AA FA PA CA UA BA ca cf cp cc cu cb S ∧ OkP w ab AA FA PA p S ∧ (∀ b ∈ rsL ab AA FA PA CA UA BA, b ∈ L) ∧ ∀ b ∈ L, w0.heap.size ≤ b ∧ b < w.heap.size
section
variable {w0 w : World} {ab : Nat} {L : List Nat} {p : Nat → Nat} {S : AS}
theorem Rs.bel (h : Rs w0 w ab L p S) : Below w0.heap.size w0 w := by
  obtain ⟨_, _, _, _, _, _, _, _, _, _, _, _, h, _⟩ := h
  exact h.bel
theorem Rs.keep {w' : World} {M : List Nat} (h : Rs w0 w ab L p S) (k : Keeps w w' M) (hM : ∀ b ∈ M, b ∉ L ∧ w0.heap.size ≤ b) : Rs w0 w' ab L p S := by
  obtain ⟨_, _, _, _, _, _, _, _, _, _, _, _, h, q, r1, r2⟩ := h
  exact ⟨_, _, _, _, _, _, _, _, _, _, _, _, h.keep k (fun b hb => ⟨fun hm => (hM b hb).1 (r1 b hm), (hM b hb).2⟩), ⟨q.z, q.atoms, q.funs, q.preds, fun g hg => q.new g (Nat.le_trans k.size hg)⟩, r1, fun b hb => ⟨(r2 b hb).1, Nat.lt_of_lt_of_le (r2 b hb).2 k.size⟩⟩
theorem Rs.keep0 {w' : World} (h : Rs w0 w ab L p S) (k : Keeps w w' []) : Rs w0 w' ab L p S := h.keep k (by simp)
theorem Rs.lt (h : Rs w0 w ab L p S) : ∀ b ∈ L, w0.heap.size ≤ b ∧ b < w.heap.size := by
  obtain ⟨_, _, _, _, _, _, _, _, _, _, _, _, _, _, _, r2⟩ := h
  exact r2
end
theorem RsM.atoms_pack {w0 w : World} {ab : Nat} {AA FA PA CA UA BA : Option Addr} {ca cf cp cc cu cb : Nat} {S : AS} {L : List Nat} {p : Nat → Nat} (h : RsM w0 w ab AA FA PA CA UA BA ca cf cp cc cu cb S) (ok : OkP w ab AA FA PA p S) (hL : ∀ b ∈ rsL ab AA FA PA CA UA BA, b ∈ L) (hlt : ∀ b ∈ L, w0.heap.size ≤ b ∧ b < w.heap.size) {w1 : World} (k : Keeps w w1 (ownL (.slice AA 0 0))) {A' : Option Addr} {c' : Nat} {l' : List ByteArray} (hlen : S.o.atoms.length ≤ l'.length) (ho : w1.ownsRow w0.heap.size 9 1 (.slice A' l'.length c') l'.length (l'.flatMap strE)) (hn : ∀ b ∈ ownL (.slice A' 0 0), b ∈ ownL (.slice AA 0 0) ∨ w.heap.size ≤ b) :
    ∃ L', Rs w0 (w1.setCell ⟨ab, 0, none⟩ (.slice A' l'.length c')) ab L' p { S with o := { S.o with atoms := l' } } ∧ ASt w L (w1.setCell ⟨ab, 0, none⟩ (.slice A' l'.length c')) L' := by
  have hm := h.atoms_ k ho
  have hin : ∀ b ∈ ownL (.slice AA 0 0), b ∈ L := fun b hb => hL b (by unfold rsL; simp only [List.mem_append]; simp [hb])
  have hs := k.size
  have hz : (w1.setCell ⟨ab, 0, none⟩ (.slice A' l'.length c')).heap.size = w1.heap.size := by simp [World.setCell]
  refine ⟨L ++ ownL (.slice A' 0 0), ⟨_, _, _, _, _, _, _, _, _, _, _, _, hm, ⟨ok.z, fun g hg => by
      rcases hn g hg with h1 | h1
      · exact Nat.le_trans (ok.atoms g h1) (Nat.mul_le_mul_right _ hlen)
      · rw [ok.new g h1]; exact Nat.zero_le _, ok.funs, ok.preds, fun g hg => ok.new g (by rw [hz] at hg; omega)⟩, fun b hb => ?_, fun b hb => ?_⟩, ⟨(k.more (fun b _ hb => hin b hb)).setCell (.inl (hL ab (by unfold rsL; simp))) _, fun b hb => ?_⟩⟩
  · unfold rsL at hb hL
    simp only [List.mem_append] at hb hL ⊢
    rcases hb with hb | hb | hb | hb | hb | hb | hb
    · exact .inl (hL b (by simp [hb]))
    · exact .inr hb
    · exact .inl (hL b (by simp [hb]))
    · exact .inl (hL b (by simp [hb]))
    · exact .inl (hL b (by simp [hb]))
    · exact .inl (hL b (by simp [hb]))
    · exact .inl (hL b (by simp [hb]))
  · rw [hz]
    rcases List.mem_append.1 hb with hb | hb
    · have := hlt b hb
      exact ⟨this.1, by omega⟩
    · have := own_ltA ho b hb
      exact ⟨this.1, by omega⟩
  · rcases List.mem_append.1 hb with hb | hb
    · exact .inl hb
    · rcases hn b hb with h1 | h1
      · exact .inl (hin b h1)
      · exact .inr h1
theorem RsM.funs_pack {w0 w : World} {ab : Nat} {AA FA PA CA UA BA : Option Addr} {ca cf cp cc cu cb : Nat} {S : AS} {L : List Nat} {p : Nat → Nat} (h : RsM w0 w ab AA FA PA CA UA BA ca cf cp cc cu cb S) (ok : OkP w ab AA FA PA p S) (hL : ∀ b ∈ rsL ab AA FA PA CA UA BA, b ∈ L) (hlt : ∀ b ∈ L, w0.heap.size ≤ b ∧ b < w.heap.size) {w1 : World} (k : Keeps w w1 (ownL (.slice FA 0 0))) {A' : Option Addr} {c' : Nat} {l' : List LFun} (hlen : S.o.funs.length ≤ l'.length) (ho : w1.ownsRow w0.heap.size 76 2 (.slice A' l'.length c') l'.length (l'.flatMap funE)) (hn : ∀ b ∈ ownL (.slice A' 0 0), b ∈ ownL (.slice FA 0 0) ∨ w.heap.size ≤ b) :
    ∃ L', Rs w0 (w1.setCell ⟨ab, 1, none⟩ (.slice A' l'.length c')) ab L' p { S with o := { S.o with funs := l' } } ∧ ASt w L (w1.setCell ⟨ab, 1, none⟩ (.slice A' l'.length c')) L' := by
  have hm := h.funs_ k ho
  have hin : ∀ b ∈ ownL (.slice FA 0 0), b ∈ L := fun b hb => hL b (by unfold rsL; simp only [List.mem_append]; simp [hb])
  have hs := k.size
  have hz : (w1.setCell ⟨ab, 1, none⟩ (.slice A' l'.length c')).heap.size = w1.heap.size := by simp [World.setCell]
  refine ⟨L ++ ownL (.slice A' 0 0), ⟨_, _, _, _, _, _, _, _, _, _, _, _, hm, ⟨ok.z, ok.atoms, fun g hg => by
      rcases hn g hg with h1 | h1
      · exact Nat.le_trans (ok.funs g h1) (Nat.mul_le_mul_right _ hlen)
      · rw [ok.new g h1]; exact Nat.zero_le _, ok.preds, fun g hg => ok.new g (by rw [hz] at hg; omega)⟩, fun b hb => ?_, fun b hb => ?_⟩, ⟨(k.more (fun b _ hb => hin b hb)).setCell (.inl (hL ab (by unfold rsL; simp))) _, fun b hb => ?_⟩⟩
  · unfold rsL at hb hL
    simp only [List.mem_append] at hb hL ⊢
    rcases hb with hb | hb | hb | hb | hb | hb | hb
    · exact .inl (hL b (by simp [hb]))
    · exact .inl (hL b (by simp [hb]))
    · exact .inr hb
    · exact .inl (hL b (by simp [hb]))
    · exact .inl (hL b (by simp [hb]))
    · exact .inl (hL b (by simp [hb]))
    · exact .inl (hL b (by simp [hb]))
  · rw [hz]
    rcases List.mem_append.1 hb with hb | hb
    · have := hlt b hb
      exact ⟨this.1, by omega⟩
    · have := own_ltA ho b hb
      exact ⟨this.1, by omega⟩
  · rcases List.mem_append.1 hb with hb | hb
    · exact .inl hb
    · rcases hn b hb with h1 | h1
      · exact .inl (hin b h1)
      · exact .inr h1
theorem RsM.preds_pack {w0 w : World} {ab : Nat} {AA FA PA CA UA BA : Option Addr} {ca cf cp cc cu cb : Nat} {S : AS} {L : List Nat} {p : Nat → Nat} (h : RsM w0 w ab AA FA PA CA UA BA ca cf cp cc cu cb S) (ok : OkP w ab AA FA PA p S) (hL : ∀ b ∈ rsL ab AA FA PA CA UA BA, b ∈ L) (hlt : ∀ b ∈ L, w0.heap.size ≤ b ∧ b < w.heap.size) {w1 : World} (k : Keeps w w1 (ownL (.slice PA 0 0))) {A' : Option Addr} {c' : Nat} {l' : List LPred} (hlen : S.o.preds.length ≤ l'.length) (ho : w1.ownsRow w0.heap.size 74 3 (.slice A' l'.length c') l'.length (l'.flatMap predE)) (hn : ∀ b ∈ ownL (.slice A' 0 0), b ∈ ownL (.slice PA 0 0) ∨ w.heap.size ≤ b) :
    ∃ L', Rs w0 (w1.setCell ⟨ab, 2, none⟩ (.slice A' l'.length c')) ab L' p { S with o := { S.o with preds := l' } } ∧ ASt w L (w1.setCell ⟨ab, 2, none⟩ (.slice A' l'.length c')) L' := by
  have hm := h.preds_ k ho
  have hin : ∀ b ∈ ownL (.slice PA 0 0), b ∈ L := fun b hb => hL b (by unfold rsL; simp only [List.mem_append]; simp [hb])
  have hs := k.size
  have hz : (w1.setCell ⟨ab, 2, none⟩ (.slice A' l'.length c')).heap.size = w1.heap.size := by simp [World.setCell]
  refine ⟨L ++ ownL (.slice A' 0 0), ⟨_, _, _, _, _, _, _, _, _, _, _, _, hm, ⟨ok.z, ok.atoms, ok.funs, fun g hg => by
      rcases hn g hg with h1 | h1
      · exact Nat.le_trans (ok.preds g h1) (Nat.mul_le_mul_right _ hlen)
      · rw [ok.new g h1]; exact Nat.zero_le _, fun g hg => ok.new g (by rw [hz] at hg; omega)⟩, fun b hb => ?_, fun b hb => ?_⟩, ⟨(k.more (fun b _ hb => hin b hb)).setCell (.inl (hL ab (by unfold rsL; simp))) _, fun b hb => ?_⟩⟩
  · unfold rsL at hb hL
    simp only [List.mem_append] at hb hL ⊢
    rcases hb with hb | hb | hb | hb | hb | hb | hb
    · exact .inl (hL b (by simp [hb]))
    · exact .inl (hL b (by simp [hb]))
    · exact .inl (hL b (by simp [hb]))
    · exact .inr hb
    · exact .inl (hL b (by simp [hb]))
    · exact .inl (hL b (by simp [hb]))
    · exact .inl (hL b (by simp [hb]))
  · rw [hz]
    rcases List.mem_append.1 hb with hb | hb
    · have := hlt b hb
      exact ⟨this.1, by omega⟩
    · have := own_ltA ho b hb
      exact ⟨this.1, by omega⟩
  · rcases List.mem_append.1 hb with hb | hb
    · exact .inl hb
    · rcases hn b hb with h1 | h1
      · exact .inl (hin b h1)
      · exact .inr h1
theorem RsM.code_pack {w0 w : World} {ab : Nat} {AA FA PA CA UA BA : Option Addr} {ca cf cp cc cu cb : Nat} {S : AS} {L : List Nat} {p : Nat → Nat} (h : RsM w0 w ab AA FA PA CA UA BA ca cf cp cc cu cb S) (ok : OkP w ab AA FA PA p S) (hL : ∀ b ∈ rsL ab AA FA PA CA UA BA, b ∈ L) (hlt : ∀ b ∈ L, w0.heap.size ≤ b ∧ b < w.heap.size) {w1 : World} (k : Keeps w w1 (ownL (.slice CA 0 0))) {A' : Option Addr} {c' : Nat} {l' : List LIns} (_hlen : S.o.code.length ≤ l'.length) (ho : w1.ownsRow w0.heap.size 72 5 (.slice A' l'.length c') l'.length (l'.flatMap insE)) (hn : ∀ b ∈ ownL (.slice A' 0 0), b ∈ ownL (.slice CA 0 0) ∨ w.heap.size ≤ b) :
    ∃ L', Rs w0 (w1.setCell ⟨ab, 3, none⟩ (.slice A' l'.length c')) ab L' p { S with o := { S.o with code := l' } } ∧ ASt w L (w1.setCell ⟨ab, 3, none⟩ (.slice A' l'.length c')) L' := by
  have hm := h.code_ k ho
  have hin : ∀ b ∈ ownL (.slice CA 0 0), b ∈ L := fun b hb => hL b (by unfold rsL; simp only [List.mem_append]; simp [hb])
  have hs := k.size
  have hz : (w1.setCell ⟨ab, 3, none⟩ (.slice A' l'.length c')).heap.size = w1.heap.size := by simp [World.setCell]
  refine ⟨L ++ ownL (.slice A' 0 0), ⟨_, _, _, _, _, _, _, _, _, _, _, _, hm, ⟨ok.z, ok.atoms, ok.funs, ok.preds, fun g hg => ok.new g (by rw [hz] at hg; omega)⟩, fun b hb => ?_, fun b hb => ?_⟩, ⟨(k.more (fun b _ hb => hin b hb)).setCell (.inl (hL ab (by unfold rsL; simp))) _, fun b hb => ?_⟩⟩
  · unfold rsL at hb hL
    simp only [List.mem_append] at hb hL ⊢
    rcases hb with hb | hb | hb | hb | hb | hb | hb
    · exact .inl (hL b (by simp [hb]))
    · exact .inl (hL b (by simp [hb]))
    · exact .inl (hL b (by simp [hb]))
    · exact .inl (hL b (by simp [hb]))
    · exact .inr hb
    · exact .inl (hL b (by simp [hb]))
    · exact .inl (hL b (by simp [hb]))
  · rw [hz]
    rcases List.mem_append.1 hb with hb | hb
    · have := hlt b hb
      exact ⟨this.1, by omega⟩
    · have := own_ltA ho b hb
      exact ⟨this.1, by omega⟩
  · rcases List.mem_append.1 hb with hb | hb
    · exact .inl hb
    · rcases hn b hb with h1 | h1
      · exact .inl (hin b h1)
      · exact .inr h1
theorem RsM.uses_pack {w0 w : World} {ab : Nat} {AA FA PA CA UA BA : Option Addr} {ca cf cp cc cu cb : Nat} {S : AS} {L : List Nat} {p : Nat → Nat} (h : RsM w0 w ab AA FA PA CA UA BA ca cf cp cc cu cb S) (ok : OkP w ab AA FA PA p S) (hL : ∀ b ∈ rsL ab AA FA PA CA UA BA, b ∈ L) (hlt : ∀ b ∈ L, w0.heap.size ≤ b ∧ b < w.heap.size) {w1 : World} (k : Keeps w w1 (ownL (.slice UA 0 0))) {A' : Option Addr} {c' : Nat} {l' : List (Nat × Nat × Nat)} (_hlen : S.uses.length ≤ l'.length) (ho : w1.ownsRow w0.heap.size 69 3 (.slice A' l'.length c') l'.length (l'.flatMap useE)) (hn : ∀ b ∈ ownL (.slice A' 0 0), b ∈ ownL (.slice UA 0 0) ∨ w.heap.size ≤ b) :
    ∃ L', Rs w0 (w1.setCell ⟨ab, 1028, none⟩ (.slice A' l'.length c')) ab L' p { S with uses := l' } ∧ ASt w L (w1.setCell ⟨ab, 1028, none⟩ (.slice A' l'.length c')) L' := by
  have hm := h.uses_ k ho
  have hin : ∀ b ∈ ownL (.slice UA 0 0), b ∈ L := fun b hb => hL b (by unfold rsL; simp only [List.mem_append]; simp [hb])
  have hs := k.size
  have hz : (w1.setCell ⟨ab, 1028, none⟩ (.slice A' l'.length c')).heap.size = w1.heap.size := by simp [World.setCell]
  refine ⟨L ++ ownL (.slice A' 0 0), ⟨_, _, _, _, _, _, _, _, _, _, _, _, hm, ⟨ok.z, ok.atoms, ok.funs, ok.preds, fun g hg => ok.new g (by rw [hz] at hg; omega)⟩, fun b hb => ?_, fun b hb => ?_⟩, ⟨(k.more (fun b _ hb => hin b hb)).setCell (.inl (hL ab (by unfold rsL; simp))) _, fun b hb => ?_⟩⟩
  · unfold rsL at hb hL
    simp only [List.mem_append] at hb hL ⊢
    rcases hb with hb | hb | hb | hb | hb | hb | hb
    · exact .inl (hL b (by simp [hb]))
    · exact .inl (hL b (by simp [hb]))
    · exact .inl (hL b (by simp [hb]))
    · exact .inl (hL b (by simp [hb]))
    · exact .inl (hL b (by simp [hb]))
    · exact .inr hb
    · exact .inl (hL b (by simp [hb]))
  · rw [hz]
    rcases List.mem_append.1 hb with hb | hb
    · have := hlt b hb
      exact ⟨this.1, by omega⟩
    · have := own_ltA ho b hb
      exact ⟨this.1, by omega⟩
  · rcases List.mem_append.1 hb with hb | hb
    · exact .inl hb
    · rcases hn b hb with h1 | h1
      · exact .inl (hin b h1)
      · exact .inr h1
theorem RsM.begins_pack {w0 w : World} {ab : Nat} {AA FA PA CA UA BA : Option Addr} {ca cf cp cc cu cb : Nat} {S : AS} {L : List Nat} {p : Nat → Nat} (h : RsM w0 w ab AA FA PA CA UA BA ca cf cp cc cu cb S) (ok : OkP w ab AA FA PA p S) (hL : ∀ b ∈ rsL ab AA FA PA CA UA BA, b ∈ L) (hlt : ∀ b ∈ L, w0.heap.size ≤ b ∧ b < w.heap.size) {w1 : World} (k : Keeps w w1 (ownL (.slice BA 0 0))) {A' : Option Addr} {c' : Nat} {l' : List (Nat × Nat)} (_hlen : S.begins.length ≤ l'.length) (ho : w1.ownsRow w0.heap.size 73 2 (.slice A' l'.length c') l'.length (l'.flatMap begE)) (hn : ∀ b ∈ ownL (.slice A' 0 0), b ∈ ownL (.slice BA 0 0) ∨ w.heap.size ≤ b) :
    ∃ L', Rs w0 (w1.setCell ⟨ab, 1029, none⟩ (.slice A' l'.length c')) ab L' p { S with begins := l' } ∧ ASt w L (w1.setCell ⟨ab, 1029, none⟩ (.slice A' l'.length c')) L' := by
  have hm := h.begins_ k ho
  have hin : ∀ b ∈ ownL (.slice BA 0 0), b ∈ L := fun b hb => hL b (by unfold rsL; simp only [List.mem_append]; simp [hb])
  have hs := k.size
  have hz : (w1.setCell ⟨ab, 1029, none⟩ (.slice A' l'.length c')).heap.size = w1.heap.size := by simp [World.setCell]
  refine ⟨L ++ ownL (.slice A' 0 0), ⟨_, _, _, _, _, _, _, _, _, _, _, _, hm, ⟨ok.z, ok.atoms, ok.funs, ok.preds, fun g hg => ok.new g (by rw [hz] at hg; omega)⟩, fun b hb => ?_, fun b hb => ?_⟩, ⟨(k.more (fun b _ hb => hin b hb)).setCell (.inl (hL ab (by unfold rsL; simp))) _, fun b hb => ?_⟩⟩
  · unfold rsL at hb hL
    simp only [List.mem_append] at hb hL ⊢
    rcases hb with hb | hb | hb | hb | hb | hb | hb
    · exact .inl (hL b (by simp [hb]))
    · exact .inl (hL b (by simp [hb]))
    · exact .inl (hL b (by simp [hb]))
    · exact .inl (hL b (by simp [hb]))
    · exact .inl (hL b (by simp [hb]))
    · exact .inl (hL b (by simp [hb]))
    · exact .inr hb
  · rw [hz]
    rcases List.mem_append.1 hb with hb | hb
    · have := hlt b hb
      exact ⟨this.1, by omega⟩
    · have := own_ltA ho b hb
      exact ⟨this.1, by omega⟩
  · rcases List.mem_append.1 hb with hb | hb
    · exact .inl hb
    · rcases hn b hb with h1 | h1
      · exact .inl (hin b h1)
      · exact .inr h1
end Go.Proofs.YtpcihhdalofdiaaGreatDoor

/- Words of lines: a number, a name with a number behind a slash, a label: the program's. -/
namespace Go.Proofs.YtpcihhdalofdiaaGreatDoor
open Go.RowKit

theorem idx47 : ∀ l : Txt, (Lib.index l [47] = -1 ∧ l.takeWhile (· != 47) = l ∧ (l.dropWhile (· != 47)).tail = []) ∨ ∃ i : Nat, Lib.index l [47] = i ∧ l.takeWhile (· != 47) = l.take i ∧ (l.dropWhile (· != 47)).tail = l.drop (i + 1)
  | [] => .inl ⟨rfl, rfl, rfl⟩
  | c :: l => by
    by_cases h : c = 47
    · subst h
      exact .inr ⟨0, rfl, rfl, rfl⟩
    · have hp : ([47] : Txt).isPrefixOf (c :: l) = false := by simp [List.isPrefixOf, Ne.symm h]
      have hb : (c != 47) = true := by simpa using h
      have hi : Lib.index (c :: l) [47] = if Lib.index l [47] == -1 then -1 else Lib.index l [47] + 1 := by
        rw [Lib.index, hp]
        rfl
      rw [hi, List.takeWhile_cons, List.dropWhile_cons, hb]
      rcases idx47 l with ⟨h1, h2, h3⟩ | ⟨i, h1, h2, h3⟩
      · exact .inl ⟨by rw [h1]; rfl, by simp [h2], by simpa using h3⟩
      · refine .inr ⟨i + 1, ?_, by simp [h2], by simpa using h3⟩
        rw [h1, if_neg (by simp)]
        omega
theorem cut_slash (l : Txt) : (Lib.cut l [47]).1 = (cutT l).1 ∧ (Lib.cut l [47]).2.1 = (cutT l).2 := by
  unfold Lib.cut cutT
  rcases idx47 l with ⟨h1, h2, h3⟩ | ⟨i, h1, h2, h3⟩
  · rw [h1, if_neg (by omega), h2, h3]
    exact ⟨rfl, rfl⟩
  · rw [h1, if_pos (by omega), h2, h3]
    exact ⟨by simp, by simp⟩
theorem cutT_len (l : Txt) : (cutT l).1.length ≤ l.length ∧ (cutT l).2.length ≤ l.length := by
  rcases idx47 l with ⟨_, h2, h3⟩ | ⟨i, _, h2, h3⟩
  · unfold cutT
    rw [h2, h3]
    simp
  · unfold cutT
    rw [h2, h3]
    simp
    omega
theorem cut_any (s : ByteArray) (hl : s.size ≤ 4294967280) (w : World) (h : St w) :
    Calls Tryz.prog 105 #[.string s, .string ⟨#[47]⟩] w fun e w' => (∃ b, e = .returned (.tuple #[.string (wdB (cutT s.data.toList).1), .string (wdB (cutT s.data.toList).2), .bool b])) ∧ Keeps w w' [] := by
  obtain ⟨m, hm⟩ := h.most
  refine (Tryz.strings_Cut s ⟨#[47]⟩ m w (by omega) hm).mono ?_
  rintro e w' ⟨rfl, n, rfl⟩
  obtain ⟨e1, e2⟩ := cut_slash s.data.toList
  refine ⟨⟨(Lib.cut s.data.toList [47]).2.2, ?_⟩, (Keeps.refl _ _).drewN n⟩
  show Ending.returned (.tuple #[.string ⟨(Lib.cut s.data.toList [47]).1.toArray⟩, .string ⟨(Lib.cut s.data.toList [47]).2.1.toArray⟩, .bool (Lib.cut s.data.toList [47]).2.2]) = _
  rw [e1, e2]
  rfl
/-- What strconv.Atoi says, as numM asks. -/
theorem numM_none {l : Txt} {most : Int} (hm : most ≤ 65535) (h : atoiV l = none) : numM l most = -1 := by
  rw [numM_atoi l most hm]
  unfold atoiV at h
  split at h
  · cases h
  · rename_i h2
    split
    · rename_i v hv
      exact absurd hv (h2 v)
    · rfl
theorem numM_some {l : Txt} {most v : Int} (hm : most ≤ 65535) (h : atoiV l = some v) : numM l most = if v < 0 ∨ most < v ∨ Lib.decDigits v.toNat ≠ l then -1 else v := by
  rw [numM_atoi l most hm]
  unfold atoiV at h
  split at h
  · rename_i v' hv
    injection h with h
    subst h
    rw [hv]
  · cases h
set_option maxHeartbeats 1600000 in
theorem number_any (s : ByteArray) (most : Int) (hm : most ≤ 65535) (hl : s.size ≤ 281474976710656) (w : World) (h : St w) :
    Calls Tryz.prog 106 #[.string s, .int .i64 most] w fun e w' => e = .returned (.int .i64 (numM s.data.toList most)) ∧ Keeps w w' [] := by
  have HA := Lib.hid (atoi_any s hl w h)
  have HS := Lib.hid h
  cases hv : atoiV s.data.toList with
  | none =>
    rw [hv] at HA
    have HV := Lib.hid (numM_none hm hv)
    clear hv h
    go_enter Tryz.func106, Tryz.ntmps106
    go_wp2_with fail
    refine HA.out.mono ?_
    rintro e w1 ⟨k1, n, t, p, rfl⟩
    go_wp2_with fail
    go_ret
    exact ⟨by rw [HV.out]; rfl, k1⟩
  | some v =>
    rw [hv] at HA
    have HV := Lib.hid (numM_some hm hv)
    clear hv h
    by_cases h1 : v < 0
    · have HW : Hid (numM s.data.toList most = -1) := by have := HV.out; rw [if_pos (.inl h1)] at this; exact this
      go_enter Tryz.func106, Tryz.ntmps106
      go_wp2_with fail
      refine HA.out.mono ?_
      rintro e w1 ⟨k1, rfl⟩
      go_wp2_with fail
      go_ret
      exact ⟨by rw [HW.out]; rfl, k1⟩
    · by_cases h2 : most < v
      · have HW : Hid (numM s.data.toList most = -1) := by have := HV.out; rw [if_pos (.inr (.inl h2))] at this; exact this
        go_enter Tryz.func106, Tryz.ntmps106
        go_wp2_with fail
        refine HA.out.mono ?_
        rintro e w1 ⟨k1, rfl⟩
        go_wp2_with fail
        go_ret
        exact ⟨by rw [HW.out]; rfl, k1⟩
      · obtain ⟨n, rfl⟩ := Int.eq_ofNat_of_zero_le (Int.not_lt.1 h1)
        have HI : Hid (∀ w1, Keeps w w1 [] → Calls Tryz.prog 35 #[.int .i64 (n : Int)] w1 fun e w' => e = .returned (.string (stB (Lib.decDigits n))) ∧ Keeps w1 w' []) := fun w1 k1 => itoa_any n (by omega) w1 (HS.out.keep k1).tab
        by_cases h3 : Lib.decDigits n = s.data.toList
        · have HW : Hid (numM s.data.toList most = (n : Int)) := by have := HV.out; rw [if_neg (by rintro (x | x | x) <;> first | omega | exact x (by simpa using h3))] at this; exact this
          have d1 : ((stB (Lib.decDigits n)).toList == s.toList) = true := by rw [h3, stB_of]; simp
          have d2 : (stB (Lib.decDigits n)).toList = s.toList := by rw [h3, stB_of]
          clear h3
          go_enter Tryz.func106, Tryz.ntmps106
          go_wp2_with fail
          refine HA.out.mono ?_
          rintro e w1 ⟨k1, rfl⟩
          have HK1 := Lib.hid k1
          have HI1 := Lib.hid (HI.out w1 k1)
          clear k1
          go_wp2_with fail
          refine HI1.out.mono ?_
          rintro e w2 ⟨rfl, k2⟩
          go_wp2_with fail
          go_ret
          exact ⟨by rw [HW.out]; rfl, HK1.out.trans k2⟩
        · have HW : Hid (numM s.data.toList most = -1) := by have := HV.out; rw [if_pos (.inr (.inr (by simpa using h3)))] at this; exact this
          have d2 : ¬ (stB (Lib.decDigits n)).toList = s.toList := fun e => h3 (by rw [ByteArray.toList_eq, ByteArray.toList_eq, stB_list] at e; exact e)
          have d1 : ((stB (Lib.decDigits n)).toList == s.toList) = false := by simpa using d2
          clear h3
          go_enter Tryz.func106, Tryz.ntmps106
          go_wp2_with fail
          refine HA.out.mono ?_
          rintro e w1 ⟨k1, rfl⟩
          have HK1 := Lib.hid k1
          have HI1 := Lib.hid (HI.out w1 k1)
          clear k1
          go_wp2_with fail
          refine HI1.out.mono ?_
          rintro e w2 ⟨rfl, k2⟩
          go_wp2_with fail
          go_ret
          exact ⟨by rw [HW.out]; rfl, HK1.out.trans k2⟩
/-- A word as a name with a number, and whether it is one. -/
def funV (l : Txt) : LFun := ⟨wdB (cutT l).1, numM (cutT l).2 8⟩
theorem slash_funV {l : Txt} {k : Int} {f : LFun} (h : slashP l k = some f) : f = funV l := by
  unfold slashP at h
  split at h
  · exact (Option.some.inj h).symm
  · cases h
theorem slash_is (l : Txt) (k : Int) : (slashP l k).isSome = (nameOk (wdB (cutT l).1) && decide (k ≤ numM (cutT l).2 8)) := by
  unfold slashP
  by_cases h : nameOk (wdB (cutT l).1) = true ∧ k ≤ numM (cutT l).2 8
  · rw [if_pos h, h.1]
    simp [h.2]
  · rw [if_neg h]
    cases h1 : nameOk (wdB (cutT l).1) with
    | false => rfl
    | true => simp at h; simp [h1] at h; simp; omega
set_option maxHeartbeats 1600000 in
theorem fun9_any (s : ByteArray) (k : Int) (hl : s.size ≤ 4294967280) (w : World) (h : St w) :
    Calls Tryz.prog 74 #[.string s, .int .i64 k] w fun e w' => e = .returned (.tuple #[.agg #[.string (funV s.data.toList).name, .int .i64 (funV s.data.toList).arity], .bool (slashP s.data.toList k).isSome]) ∧ Keeps w w' [] := by
  have HK0 : Hid (Keeps w (w.alloc (.cells #[.string ⟨#[]⟩, .int .i64 0] 77)) []) := (Keeps.refl w []).alloc _
  have HBx : Hid (Blk (w.alloc (.cells #[.string ⟨#[]⟩, .int .i64 0] 77)) w.heap.size 77 #[.string ⟨#[]⟩, .int .i64 0]) := Blk.new _ _ _
  have HC := Lib.hid (cut_any s hl _ (h.keep HK0.out))
  obtain ⟨a, ha⟩ : ∃ a, wdB (cutT s.data.toList).1 = a := ⟨_, rfl⟩
  obtain ⟨d, hd⟩ : ∃ d, wdB (cutT s.data.toList).2 = d := ⟨_, rfl⟩
  have hds : d.size ≤ 4294967280 := by
    rw [← hd]
    have := (cutT_len s.data.toList).2
    have e1 : (wdB (cutT s.data.toList).2).size = (cutT s.data.toList).2.length := by simp [wdB, ByteArray.size]
    have e2 : s.data.toList.length = s.size := rfl
    omega
  have hdl : d.data.toList = (cutT s.data.toList).2 := by rw [← hd]; simp [wdB]
  obtain ⟨n, hn⟩ : ∃ n, numM d.data.toList 8 = n := ⟨_, rfl⟩
  have HN : Hid (∀ w1, Keeps w w1 [] → Calls Tryz.prog 106 #[.string d, .int .i64 8] w1 fun e w' => e = .returned (.int .i64 n) ∧ Keeps w1 w' []) := fun w1 k1 => by
    have := number_any d 8 (by omega) (by omega) w1 (h.keep k1)
    rw [hn] at this
    exact this
  have HF : Hid (funV s.data.toList = ⟨a, n⟩) := Lib.hid (by unfold funV; rw [ha, ← hdl, hn])
  have HB : Hid ((slashP s.data.toList k).isSome = (nameOk a && decide (k ≤ n))) := Lib.hid (by rw [slash_is, ha, ← hdl, hn])
  rw [ha, hd] at HC
  have HNm : Hid (∀ w1, Calls Tryz.prog 58 #[.string a] w1 fun e w' => e = .returned (.bool (nameOk a)) ∧ Keeps w1 w' []) := name_any a
  clear ha hd hds hdl hn h
  cases hb : nameOk a with
  | false =>
    rw [hb] at HNm HB
    go_enter Tryz.func74, Tryz.ntmps74
    go_wp2_with fail
    refine HC.out.mono ?_
    rintro e w1 ⟨⟨bb, rfl⟩, k1⟩
    have HK1 := Lib.hid (HK0.out.trans k1)
    have HB1 := Lib.hid (HBx.out.keep k1 (by simp))
    have HN1 := Lib.hid (HN.out w1 HK1.out)
    clear k1
    go_wp2_with fail
    refine HN1.out.mono ?_
    rintro e w2 ⟨rfl, k2⟩
    have HK2 := Lib.hid (HK1.out.trans k2)
    have HB2 := Lib.hid (HB1.out.keep k2 (by simp))
    clear k2
    go_wp2_with fail
    refine (HNm.out _).mono ?_
    rintro e w3 ⟨rfl, k3⟩
    have HK3 := Lib.hid (HK2.out.trans k3)
    have HB3 := Lib.hid (HB2.out.keep k3 (by simp))
    have HE := Lib.hid (((HB3.out.set_ 0 (.string a)).set_ 1 (.int .i64 n)))
    have HKE : Hid (Keeps w ((w3.setCell ⟨w.heap.size, 0, none⟩ (.string a)).setCell ⟨w.heap.size, 1, none⟩ (.int .i64 n)) []) := (HK3.out.setCell (.inr (Nat.le_refl _)) _).setCell (.inr (Nat.le_refl _)) _
    have f0 := HB3.out.frozen 0
    have f1 := HB3.out.frozen 1
    have v0 := HB3.out.cell 0
    have v1 := HB3.out.cell 1
    have y0 := HE.out.cell 0
    have y1 := HE.out.cell 1
    clear k3
    go_wp2_with fail
    refine bodyPost_ret (v := .tuple #[.agg #[.string a, .int .i64 n], .bool (false)]) (by simp [results, Tryz.results74, go_sem, y0, y1]) rfl ⟨by rw [HF.out, HB.out]; rfl, HKE.out⟩
  | true =>
    rw [hb] at HNm HB
    go_enter Tryz.func74, Tryz.ntmps74
    go_wp2_with fail
    refine HC.out.mono ?_
    rintro e w1 ⟨⟨bb, rfl⟩, k1⟩
    have HK1 := Lib.hid (HK0.out.trans k1)
    have HB1 := Lib.hid (HBx.out.keep k1 (by simp))
    have HN1 := Lib.hid (HN.out w1 HK1.out)
    clear k1
    go_wp2_with fail
    refine HN1.out.mono ?_
    rintro e w2 ⟨rfl, k2⟩
    have HK2 := Lib.hid (HK1.out.trans k2)
    have HB2 := Lib.hid (HB1.out.keep k2 (by simp))
    clear k2
    go_wp2_with fail
    refine (HNm.out _).mono ?_
    rintro e w3 ⟨rfl, k3⟩
    have HK3 := Lib.hid (HK2.out.trans k3)
    have HB3 := Lib.hid (HB2.out.keep k3 (by simp))
    have HE := Lib.hid (((HB3.out.set_ 0 (.string a)).set_ 1 (.int .i64 n)))
    have HKE : Hid (Keeps w ((w3.setCell ⟨w.heap.size, 0, none⟩ (.string a)).setCell ⟨w.heap.size, 1, none⟩ (.int .i64 n)) []) := (HK3.out.setCell (.inr (Nat.le_refl _)) _).setCell (.inr (Nat.le_refl _)) _
    have f0 := HB3.out.frozen 0
    have f1 := HB3.out.frozen 1
    have v0 := HB3.out.cell 0
    have v1 := HB3.out.cell 1
    have y0 := HE.out.cell 0
    have y1 := HE.out.cell 1
    clear k3
    go_wp2_with fail
    refine bodyPost_ret (v := .tuple #[.agg #[.string a, .int .i64 n], .bool (decide (k ≤ n))]) (by simp [results, Tryz.results74, go_sem, y0, y1]) rfl ⟨by rw [HF.out, HB.out]; rfl, HKE.out⟩
end Go.Proofs.YtpcihhdalofdiaaGreatDoor

/- Words of lines: labels; operands that are as in an instruction's text; whether a word fits: the program's. -/
namespace Go.Proofs.YtpcihhdalofdiaaGreatDoor
open Go.RowKit Go.Maps

theorem head64 (l : Txt) : Lib.hasPrefix l [64] = decide (l.head? = some 64) := by
  cases l with
  | nil => rfl
  | cons c l =>
    show ([64] : Txt).isPrefixOf (c :: l) = _
    by_cases h : c = 64
    · subst h; simp [List.isPrefixOf]
    · simp [List.isPrefixOf, h, Ne.symm h]
theorem labelP_yes {l : Txt} (h : l.head? = some 64) : labelP l = numM l.tail 1023 := by
  cases l with
  | nil => cases h
  | cons c l =>
    simp at h
    subst h
    rfl
theorem labelP_no {l : Txt} (h : l.head? ≠ some 64) : labelP l = -1 := by
  unfold labelP
  split
  · exact absurd rfl h
  · rfl
theorem extract1 (s : ByteArray) : s.extract 1 s.size = stB s.data.toList.tail := by
  rw [Lib.extract_eq]
  unfold stB
  congr 2
  rw [List.drop_one]
  refine List.take_of_length_le ?_
  rw [List.length_tail]
  exact Nat.le_refl _
theorem size_head {s : ByteArray} (h : s.data.toList.head? = some 64) : 1 ≤ s.size := by
  cases hl : s.data.toList with
  | nil => rw [hl] at h; cases h
  | cons c l =>
    have e2 : s.data.toList.length = s.size := rfl
    rw [← e2, hl]
    simp
set_option maxHeartbeats 800000 in
theorem cutPre_any (s : ByteArray) (w : World) : Calls Tryz.prog 131 #[.string s, .string ⟨#[64]⟩] w fun e w' => w = w' ∧ e = .returned (.tuple #[.string (if s.data.toList.head? = some 64 then stB s.data.toList.tail else s), .bool (decide (s.data.toList.head? = some 64))]) := by
  have HP := Lib.hid (Tryz.stringslite_HasPrefix s ⟨#[64]⟩ w)
  rw [show ((⟨#[64]⟩ : ByteArray).data.toList) = [64] from rfl, head64] at HP
  by_cases h : s.data.toList.head? = some 64
  · have hs := size_head h
    have HE := Lib.hid (extract1 s)
    rw [show decide (s.data.toList.head? = some 64) = true from decide_eq_true h] at HP ⊢
    rw [if_pos h]
    clear h
    go_enter Tryz.func131, Tryz.ntmps131
    go_wp2_with fail
    refine HP.out.mono ?_
    rintro e w1 ⟨rfl, hw⟩
    subst hw
    have b1 : (1 : Int) ≤ (s.size : Int) := by omega
    go_wp2_with fail
    go_ret2
    exact ⟨rfl, by rw [← HE.out]; rfl⟩
  · rw [show decide (s.data.toList.head? = some 64) = false from decide_eq_false h] at HP ⊢
    rw [if_neg h]
    clear h
    go_enter Tryz.func131, Tryz.ntmps131
    go_wp2_with fail
    refine HP.out.mono ?_
    rintro e w1 ⟨rfl, hw⟩
    subst hw
    go_wp2_with fail
    go_ret2
    exact ⟨rfl, rfl⟩
theorem cutPre2_any (s : ByteArray) (w : World) : Calls Tryz.prog 109 #[.string s, .string ⟨#[64]⟩] w fun e w' => w = w' ∧ e = .returned (.tuple #[.string (if s.data.toList.head? = some 64 then stB s.data.toList.tail else s), .bool (decide (s.data.toList.head? = some 64))]) := by
  have HP := Lib.hid (cutPre_any s w)
  generalize (if s.data.toList.head? = some 64 then stB s.data.toList.tail else s) = a at *
  generalize decide (s.data.toList.head? = some 64) = b at *
  go_enter Tryz.func109, Tryz.ntmps109
  go_wp2_with fail
  refine HP.out.mono ?_
  rintro e w1 ⟨hw, rfl⟩
  subst hw
  go_wp2_with fail
  go_ret2
  exact ⟨rfl, rfl⟩
set_option maxHeartbeats 800000 in
theorem label9_any (s : ByteArray) (hl : s.size ≤ 281474976710656) (w : World) (h : St w) :
    Calls Tryz.prog 79 #[.string s] w fun e w' => e = .returned (.int .i64 (labelP s.data.toList)) ∧ Keeps w w' [] := by
  have HP := Lib.hid (cutPre2_any s w)
  by_cases hh : s.data.toList.head? = some 64
  · have HV := Lib.hid (labelP_yes hh)
    have HN : Hid (Calls Tryz.prog 106 #[.string (stB s.data.toList.tail), .int .i64 1023] w fun e w' => e = .returned (.int .i64 (numM s.data.toList.tail 1023)) ∧ Keeps w w' []) := by
      have := number_any (stB s.data.toList.tail) 1023 (by omega) (by
        rw [stB_size, List.length_tail]
        have e2 : s.data.toList.length = s.size := rfl
        omega) w h
      rw [stB_list] at this
      exact this
    rw [if_pos hh, decide_eq_true hh] at HP
    clear hh h
    go_enter Tryz.func79, Tryz.ntmps79
    go_wp2_with fail
    refine HP.out.mono ?_
    rintro e w1 ⟨hw, rfl⟩
    subst hw
    go_wp2_with fail
    refine HN.out.mono ?_
    rintro e w2 ⟨rfl, k2⟩
    go_wp2_with fail
    go_ret
    exact ⟨by rw [HV.out]; rfl, k2⟩
  · have HV := Lib.hid (labelP_no hh)
    rw [if_neg hh, decide_eq_false hh] at HP
    clear hh h
    go_enter Tryz.func79, Tryz.ntmps79
    go_wp2_with fail
    refine HP.out.mono ?_
    rintro e w1 ⟨hw, rfl⟩
    subst hw
    go_wp2_with fail
    go_ret
    exact ⟨by rw [HV.out]; rfl, Keeps.refl _ _⟩
/-! ### plain -/
set_option maxRecDepth 100000 in
theorem LM.look1 {w : World} {b n : Nat} {f : Int → Option Nat} (h : LM w b n f) {x : Int} (hx : I64A x) : (Instr.lookup 54 (.map (some b)) (.int .i64 x) false).run Tryz.prog w = .ok (.int .i64 (((f x).getD 0 : Nat) : Int)) w := by
  obtain ⟨D, h1, h2⟩ := h
  obtain ⟨c, hrun, hat, _⟩ := h1.lookup_int law_int Tryz.underlying54 Tryz.underlying3 (zero_intA w) hx.key
  obtain ⟨_, h4⟩ := h2 x hx
  rw [h4] at hat
  have h6 : (((f x).getD 0 : Nat) : Int) = c := by injection hat with h5; injection h5
  rw [hrun, h6]
def ofM : Int → Option Nat := fun m => if m = 9 then some 24 else if m = 6 then some 15 else if m = 5 then some 9 else if m = 2 then some 5 else if m = 1 then some 6 else none
theorem ofM_is (k : Nat) : (((ofM k).getD 0 : Nat) : Int) = ofK k := by
  unfold ofM ofK
  by_cases h1 : k = 1
  · subst h1; rfl
  by_cases h2 : k = 2
  · subst h2; rfl
  by_cases h5 : k = 5
  · subst h5; rfl
  by_cases h6 : k = 6
  · subst h6; rfl
  by_cases h9 : k = 9
  · subst h9; rfl
  rw [if_neg (by omega), if_neg (by omega), if_neg (by omega), if_neg (by omega), if_neg (by omega), if_neg h1, if_neg h2, if_neg h5, if_neg h6, if_neg h9]
  rfl
theorem ofK_name (k : Nat) : (nameOf (ofK k)).size ≤ 20 := by
  have : ofK k = 6 ∨ ofK k = 5 ∨ ofK k = 9 ∨ ofK k = 15 ∨ ofK k = 24 ∨ ofK k = 0 := by
    unfold ofK
    repeat' split
    all_goals simp
  rcases this with h | h | h | h | h | h <;> rw [h] <;> decide +kernel
theorem ofMap (w : World) : ∃ w5, LM w5 w.heap.size 5 ofM ∧ Keeps w w5 [] ∧ ∃ w1 w2 w3 w4, (Instr.mapUpdate 54 (.map (some w.heap.size)) (.int .i64 1) (.int .i64 6)).run Tryz.prog (w.alloc (.map #[] 0)) = .ok () w1 ∧
    (Instr.mapUpdate 54 (.map (some w.heap.size)) (.int .i64 2) (.int .i64 5)).run Tryz.prog w1 = .ok () w2 ∧ (Instr.mapUpdate 54 (.map (some w.heap.size)) (.int .i64 5) (.int .i64 9)).run Tryz.prog w2 = .ok () w3 ∧
    (Instr.mapUpdate 54 (.map (some w.heap.size)) (.int .i64 6) (.int .i64 15)).run Tryz.prog w3 = .ok () w4 ∧ (Instr.mapUpdate 54 (.map (some w.heap.size)) (.int .i64 9) (.int .i64 24)).run Tryz.prog w4 = .ok () w5 := by
  have i : ∀ x : Int, 0 ≤ x → x ≤ 100 → I64A x := fun x h1 h2 => ⟨by omega, by omega⟩
  obtain ⟨w1, r1, m1, k1⟩ := (LM.made w).put (by omega) (x := 1) (p := 6) (i 1 (by omega) (by omega)) (by omega)
  obtain ⟨w2, r2, m2, k2⟩ := m1.put (by omega) (x := 2) (p := 5) (i 2 (by omega) (by omega)) (by omega)
  obtain ⟨w3, r3, m3, k3⟩ := m2.put (by omega) (x := 5) (p := 9) (i 5 (by omega) (by omega)) (by omega)
  obtain ⟨w4, r4, m4, k4⟩ := m3.put (by omega) (x := 6) (p := 15) (i 6 (by omega) (by omega)) (by omega)
  obtain ⟨w5, r5, m5, k5⟩ := m4.put (by omega) (x := 9) (p := 24) (i 9 (by omega) (by omega)) (by omega)
  refine ⟨w5, m5, ?_, w1, w2, w3, w4, r1, r2, r3, r4, r5⟩
  have k : Keeps (w.alloc (.map #[] 0)) w5 [w.heap.size] := (((k1.trans k2).trans k3).trans k4).trans k5
  have k0 : Keeps w (w.alloc (.map #[] 0)) [] := (Keeps.refl w []).alloc _
  exact Keeps.of_below (Keeps.below k0.toBelow k (by simp) k0.size) []
theorem plainP_ok {k : Nat} {w : Txt} {i : LIns} {e : Int} (h : parseT opP (nameT (ofK k) ++ 32 :: w) = (i, e)) : plainP k w = if e = 0 then i.a0 else -1 := by
  unfold plainP
  rw [h]
attribute [local irreducible] parseT plainP ofK nameOf

set_option maxHeartbeats 3200000 in
set_option maxRecDepth 100000 in
theorem plain9_any (k : Nat) (hk : k ≤ 100) (s : ByteArray) (hl : s.size ≤ 4294967000) (w : World) (h : St w) :
    Calls Tryz.prog 113 #[.int .i64 k, .string s] w fun e w' => e = .returned (.int .i64 (plainP k s.data.toList)) ∧ Keeps w w' [] := by
  obtain ⟨w5, m5, k5, w1, w2, w3, w4, r1, r2, r3, r4, r5⟩ := ofMap w
  have hlk := m5.look1 (x := (k : Int)) ⟨by omega, by omega⟩
  rw [ofM_is] at hlk
  have hnm := ofK_name k
  have hT : stB (nameT (ofK k) ++ 32 :: s.data.toList) = nameOf (ofK k) ++ ⟨#[32]⟩ ++ s := by
    have e1 : nameOf (ofK k) = stB (nameT (ofK k)) := (stB_of _).symm
    have e2 : (⟨#[32]⟩ : ByteArray) = stB [32] := rfl
    have e3 : s = stB s.data.toList := (stB_of s).symm
    rw [e1, e2]
    conv => rhs; rw [e3]
    rw [stB_app, stB_app]
    simp
  have hTs : (stB (nameT (ofK k) ++ 32 :: s.data.toList)).size ≤ 4294967280 := by
    have e2 : s.data.toList.length = s.size := rfl
    have e4 : (nameT (ofK k)).length = (nameOf (ofK k)).size := rfl
    rw [stB_size, List.length_append, List.length_cons, e4]
    omega
  obtain ⟨i, er, hp⟩ : ∃ i er, parseT opP (nameT (ofK k) ++ 32 :: s.data.toList) = (i, er) := ⟨_, _, rfl⟩
  have HPl := Lib.hid (plainP_ok hp)
  have HPa := fun w' (hw' : St w') => parse6_any (stB (nameT (ofK k) ++ 32 :: s.data.toList)) hTs w' hw'
  rw [stB_list, hp] at HPa
  obtain ⟨nm, hnmE⟩ : ∃ nm, nameOf (ofK k) = nm := ⟨_, rfl⟩
  have HNm : Hid (∀ w, Calls Tryz.prog 60 #[.int .i64 (ofK k)] w fun e w' => e = .returned (.string nm) ∧ Keeps w w' []) := fun w => by
    have := name6_any (ofK k) w
    unfold Named6 at this
    rw [hnmE] at this
    exact this
  rw [hnmE] at hnm hT
  rw [hT] at HPa
  unfold insV at HPa
  dsimp only at HPa
  have HPb := Lib.hid HPa
  have hss : (nm ++ (⟨#[32]⟩ : ByteArray)).size ≤ 21 := by
    rw [ByteArray.size_append]
    have : (⟨#[32]⟩ : ByteArray).size = 1 := rfl
    omega
  have ha1 : ∀ w : World, (Op.stringOp .add nm ⟨#[32]⟩).run Tryz.prog w = .ok (.string (nm ++ ⟨#[32]⟩)) w := fun w => run_string_add_sum (P := Tryz.prog) w _ _ (by
    have : (⟨#[32]⟩ : ByteArray).size = 1 := rfl
    omega)
  have ha2 : ∀ w : World, (Op.stringOp .add (nm ++ ⟨#[32]⟩) s).run Tryz.prog w = .ok (.string (nm ++ ⟨#[32]⟩ ++ s)) w := fun w => run_string_add_sum (P := Tryz.prog) w _ _ (by omega)
  have HS5 := Lib.hid (h.keep k5)
  have HK5 := Lib.hid k5
  have hmm := @run_makeMap Tryz.prog
  clear m5 k5 hnm hT hTs hp HPa hnmE h hss
  generalize ofK k = op at *
  go_enter Tryz.func113, Tryz.ntmps113
  go_wp2_with fail
  refine (HNm.out _).mono ?_
  rintro e w6 ⟨rfl, k6⟩
  have HK6 := Lib.hid (HK5.out.trans k6)
  have HS6 := Lib.hid (HS5.out.keep k6)
  clear k6 r1 r2 r3 r4 r5 hlk hmm
  go_wp2_with fail
  refine (HPb.out _ HS6.out).mono ?_
  rintro e w7 ⟨rfl, k7⟩
  have HK7 := Lib.hid (HK6.out.trans k7)
  have HKW : Hid (Keeps w (w7.alloc (.cells #[.int .i64 i.op, .int .i64 i.a0, .int .i64 i.a1, .int .i64 i.a2, .int .i64 i.a3] 79)) []) := HK7.out.alloc _
  clear k7 ha1 ha2
  by_cases he : er = 0
  · have HE : Hid (plainP k s.data.toList = i.a0) := Lib.hid (by rw [HPl.out, if_pos he])
    have d1 : (er == 0) = true := by simpa using he
    have d2 : (er != 0) = false := by simpa using he
    clear he
    go_wp2_with fail
    go_ret
    exact ⟨by rw [HE.out]; rfl, HKW.out⟩
  · have HE : Hid (plainP k s.data.toList = -1) := Lib.hid (by rw [HPl.out, if_neg he])
    have d1 : (er == 0) = false := by simpa using he
    have d2 : (er != 0) = true := by simpa using he
    clear he
    go_wp2_with fail
    go_ret
    exact ⟨by rw [HE.out]; rfl, HKW.out⟩
end Go.Proofs.YtpcihhdalofdiaaGreatDoor

/- Places of names and funs in a list, to which they come. Printed by gen_asidx.py. -/
namespace Go.Proofs.YtpcihhdalofdiaaGreatDoor
open Go.RowKit Go.Maps

theorem str_eqA (a b : ByteArray) : (a.toList == b.toList) = decide (a = b) := by
  by_cases h : a = b
  · subst h; simp
  · rw [decide_eq_false h, beq_eq_false_iff_ne]
    intro e
    rw [ByteArray.toList_eq, ByteArray.toList_eq] at e
    exact h (by cases a; cases b; simpa using e)
theorem idx_atA {α : Type} [DecidableEq α] : ∀ {l : List α} {k : Nat} {x : α}, l[k]? = some x → (∀ y ∈ l.take k, y ≠ x) → l.idxOf x = k
  | [], k, x, hx, _ => by simp at hx
  | a :: l, 0, x, hx, _ => by
    simp at hx
    subst hx
    exact List.idxOf_cons_self
  | a :: l, k + 1, x, hx, hb => by
    have h1 : a ≠ x := hb a (by simp)
    have h2 := idx_atA (l := l) (k := k) (x := x) (by simpa using hx) (fun y hy => hb y (by simp [hy]))
    have h3 : (a == x) = false := by rw [beq_eq_false_iff_ne]; exact h1
    rw [List.idxOf_cons, h3, h2]
    rfl
/-- Its place, or -1. -/
def idxS {α : Type} [DecidableEq α] (l : List α) (x : α) : Int := if x ∈ l then (l.idxOf x : Int) else -1
theorem idxS_at {α : Type} [DecidableEq α] {l : List α} {k : Nat} {x : α} (hx : l[k]? = some x) (hb : ∀ y ∈ l.take k, y ≠ x) : idxS l x = k := by
  unfold idxS
  rw [if_pos (List.mem_of_getElem? hx), idx_atA hx hb]
theorem idxS_no {α : Type} [DecidableEq α] {l : List α} {x : α} (h : x ∉ l) : idxS l x = -1 := by
  unfold idxS
  rw [if_neg h]
theorem idxS_num {α : Type} [DecidableEq α] (l : List α) (x : α) : (0 ≤ idxS l x ∧ idxL l x = l ∧ (idxA l x : Int) = idxS l x) ∨ (idxS l x = -1 ∧ idxL l x = l ++ [x] ∧ idxA l x = l.length) := by
  unfold idxS idxL idxA
  by_cases h : x ∈ l
  · rw [if_pos h, if_pos h, if_pos h]
    exact .inl ⟨by omega, rfl, rfl⟩
  · rw [if_neg h, if_neg h, if_neg h]
    exact .inr ⟨rfl, rfl, rfl⟩
set_option maxRecDepth 100000 in
set_option maxHeartbeats 1600000 in
theorem indexSA_any (x : ByteArray) (A : Option Addr) (n c : Nat) (l : List (ByteArray)) (w : World) (hl : l.length = n) (hn : n ≤ 1000000) (hA : Rd w A (l.flatMap strE)) :
    Calls Tryz.prog 133 #[.slice A n c, (.string x)] w fun e w' => e = .returned (.int .i64 (idxS l x)) ∧ Keeps w w' [] := by
  have HL := Lib.hid hl
  have HA := Lib.hid hA
  have HKw : Hid (Keeps w w []) := Keeps.refl _ _
  clear hl hA
  go_enter Tryz.func133, Tryz.ntmps133
  go_wp2_with fail
  go_loopw [8] (fun i wr => ∃ k : Nat, k ≤ n ∧ i = .int .i64 k ∧ (∀ y ∈ l.take k, y ≠ x) ∧ Keeps w wr []) (fun i _ => n - (intOf i).toNat)
  case atStart => exact ⟨0, Nat.zero_le _, rfl, (fun y hy => by simp at hy), Keeps.refl _ _⟩
  case round =>
    obtain ⟨k, hk, rfl, hb, hkeep⟩ := hrel
    have HB := Lib.hid hb
    have HK := Lib.hid hkeep
    clear hb
    by_cases hlt : k < n
    · obtain ⟨y, hy⟩ := at_of HL.out hlt
      obtain ⟨b, off, rfl, hbl, hc⟩ := (HA.out.keep (HKw.out.trans hkeep)).field strE_len hy (by omega)
      have p0 : (wr.cell? ⟨b, off + k, none⟩) = some (.string y) := by have := hc 0 _ rfl; simpa using this
      have HY := Lib.hid hy
      have b0 : (0 : Int) ≤ (k : Int) := Int.natCast_nonneg _
      have b1 : (k : Int) < (n : Int) := by omega
      clear hy hc hkeep
      by_cases hxy : x = y
      · subst hxy
        have HI : Hid ((idxS l x) = (k : Int)) := by
          exact idxS_at HY.out HB.out
        go_wp2_with fail
        go_ret
        exact ⟨by rw [HI.out]; rfl, HKw.out.trans HK.out⟩
      · have HN : Hid (∀ z ∈ l.take (k + 1), z ≠ x) := fun z hz => by
          rw [List.take_add_one, HY.out] at hz
          rcases List.mem_append.1 hz with hz | hz
          · exact HB.out z hz
          · simp at hz; subst hz; exact fun e => hxy e.symm
        have d0 : (x.toList == y.toList) = false := by rw [str_eqA]; simpa using hxy
        have d1 : ¬ x.toList = y.toList := by simpa using d0
        clear hxy
        go_wp2_with fail
        go_roundw
        case rel => exact ⟨k + 1, by omega, by go_num, HN.out, HK.out⟩
        case measure => simp [intOf]; omega
    · obtain rfl : n = k := by omega
      have HI : Hid ((idxS l x) = -1) := by
        refine idxS_no fun hm => ?_
        have h1 := HB.out
        rw [List.take_of_length_le (by rw [HL.out]; omega)] at h1
        exact h1 x hm rfl
      clear hlt hk hkeep
      go_wp2_with fail
      go_ret
      exact ⟨by rw [HI.out]; rfl, HKw.out.trans HK.out⟩

set_option maxRecDepth 100000 in
set_option maxHeartbeats 1600000 in
theorem indexFA_any (x : LFun) (A : Option Addr) (n c : Nat) (l : List (LFun)) (w : World) (hl : l.length = n) (hn : n ≤ 1000000) (hA : Rd w A (l.flatMap funE)) :
    Calls Tryz.prog 134 #[.slice A n c, (.agg #[.string x.name, .int .i64 x.arity])] w fun e w' => e = .returned (.int .i64 (idxS l x)) ∧ Keeps w w' [] := by
  have HL := Lib.hid hl
  have HA := Lib.hid hA
  have HKw : Hid (Keeps w (w.alloc (.cells #[.string x.name, .int .i64 x.arity] 77)) []) := (Keeps.refl w []).alloc _
  have HBx : Hid (Blk (w.alloc (.cells #[.string x.name, .int .i64 x.arity] 77)) w.heap.size 77 #[.string x.name, .int .i64 x.arity]) := Blk.new _ _ _
  clear hl hA
  go_enter Tryz.func134, Tryz.ntmps134
  go_wp2_with fail
  go_loopw [8] (fun i wr => ∃ k : Nat, k ≤ n ∧ i = .int .i64 k ∧ (∀ y ∈ l.take k, y ≠ x) ∧ Keeps (w.alloc (.cells #[.string x.name, .int .i64 x.arity] 77)) wr []) (fun i _ => n - (intOf i).toNat)
  case atStart => exact ⟨0, Nat.zero_le _, rfl, (fun y hy => by simp at hy), Keeps.refl _ _⟩
  case round =>
    obtain ⟨k, hk, rfl, hb, hkeep⟩ := hrel
    have HB := Lib.hid hb
    have HK := Lib.hid hkeep
    clear hb
    by_cases hlt : k < n
    · obtain ⟨y, hy⟩ := at_of HL.out hlt
      obtain ⟨b, off, rfl, hbl, hc⟩ := (HA.out.keep (HKw.out.trans hkeep)).field funE_len hy (by omega)
      have p0 : (wr.cell? ⟨b, off + k * 2, none⟩) = some (.string y.name) := by have := hc 0 _ rfl; simpa using this
      have p1 : (wr.cell? ⟨b, off + k * 2 + 1, none⟩) = some (.int .i64 y.arity) := hc 1 _ rfl
      have x0 := (HBx.out.keep hkeep (by simp)).cell 0
      have x1 := (HBx.out.keep hkeep (by simp)).cell 1
      have HY := Lib.hid hy
      have b0 : (0 : Int) ≤ (k : Int) := Int.natCast_nonneg _
      have b1 : (k : Int) < (n : Int) := by omega
      clear hy hc hkeep
      by_cases hxy : x = y
      · subst hxy
        have HI : Hid ((idxS l x) = (k : Int)) := by
          exact idxS_at HY.out HB.out
        go_upto_region 4 with fail
        refine wp_region_tx (fun W' => W'.cell? ⟨w.heap.size, 0, none⟩ = some (.string x.name) ∧ W'.cell? ⟨w.heap.size, 1, none⟩ = some (.int .i64 x.arity) ∧ W'.cell? ⟨b, off + k * 2, none⟩ = some (.string x.name) ∧ W'.cell? ⟨b, off + k * 2 + 1, none⟩ = some (.int .i64 x.arity)) [(0, true), (1, true), (2, true), (3, true), (4, true), (5, false)] (by kernel_rfl) (by kernel_rfl) ⟨x0, x1, p0, p1⟩ (fun hHeld => ?_)
        (repeat (first | (refine wpTx_take (v := ?_) rfl (by assumption) ?_ (by rfl) ?_; rotate_left; (focus (intro w' hSw; (try dsimp only at hSw); go_simp; (try with_reducible rfl); done)); simp only [Act.put, List.setIfInBounds_toArray, List.set_cons_zero, List.set_cons_succ]) | (refine wpTx_skip rfl (by assumption) (by rfl) ?_; simp only [Act.put, List.setIfInBounds_toArray, List.set_cons_zero, List.set_cons_succ])))
        refine wpTx_last rfl (fun K hK => ?_)
        go_simp
        refine hK.out _ _ (NoPanic.normal ?_); clear hK K; (try simp only [Act.put, List.setIfInBounds_toArray, List.set_cons_zero, List.set_cons_succ])
        clear x0 x1 p0 p1
        go_wp2_with fail
        go_ret
        exact ⟨by rw [HI.out]; rfl, HKw.out.trans HK.out.drew⟩
      · have HN : Hid (∀ z ∈ l.take (k + 1), z ≠ x) := fun z hz => by
          rw [List.take_add_one, HY.out] at hz
          rcases List.mem_append.1 hz with hz | hz
          · exact HB.out z hz
          · simp at hz; subst hz; exact fun e => hxy e.symm
        by_cases hs : x.name = y.name
        · have d2 : (x.arity == y.arity) = false := by
            simp only [beq_eq_false_iff_ne]
            exact fun e => hxy (by cases x; cases y; simp at hs e; simp [hs, e])
          rw [← hs] at p0
          clear hxy hs
          go_upto_region 4 with fail
          refine wp_region_tx (fun W' => W'.cell? ⟨w.heap.size, 0, none⟩ = some (.string x.name) ∧ W'.cell? ⟨w.heap.size, 1, none⟩ = some (.int .i64 x.arity) ∧ W'.cell? ⟨b, off + k * 2, none⟩ = some (.string x.name) ∧ W'.cell? ⟨b, off + k * 2 + 1, none⟩ = some (.int .i64 y.arity)) [(0, true), (1, true), (2, true), (3, true), (4, true), (5, false)] (by kernel_rfl) (by kernel_rfl) ⟨x0, x1, p0, p1⟩ (fun hHeld => ?_)
          (repeat (first | (refine wpTx_take (v := ?_) rfl (by assumption) ?_ (by rfl) ?_; rotate_left; (focus (intro w' hSw; (try dsimp only at hSw); go_simp; (try with_reducible rfl); done)); simp only [Act.put, List.setIfInBounds_toArray, List.set_cons_zero, List.set_cons_succ]) | (refine wpTx_skip rfl (by assumption) (by rfl) ?_; simp only [Act.put, List.setIfInBounds_toArray, List.set_cons_zero, List.set_cons_succ])))
          refine wpTx_last rfl (fun K hK => ?_)
          go_simp
          refine hK.out _ _ (NoPanic.normal ?_); clear hK K; (try simp only [Act.put, List.setIfInBounds_toArray, List.set_cons_zero, List.set_cons_succ])
          clear x0 x1 p0 p1
          go_wp2_with fail
          go_roundw
          case rel => exact ⟨k + 1, by omega, by go_num, HN.out, HK.out.drew⟩
          case measure => simp [intOf]; omega
        · have d0 : (x.name.toList == y.name.toList) = false := by rw [str_eqA]; simpa using hs
          have d1 : ¬ x.name.toList = y.name.toList := by simpa using d0
          clear hxy hs
          go_upto_region 4 with fail
          refine wp_region_tx (fun W' => W'.cell? ⟨w.heap.size, 0, none⟩ = some (.string x.name) ∧ W'.cell? ⟨w.heap.size, 1, none⟩ = some (.int .i64 x.arity) ∧ W'.cell? ⟨b, off + k * 2, none⟩ = some (.string y.name) ∧ W'.cell? ⟨b, off + k * 2 + 1, none⟩ = some (.int .i64 y.arity)) [(0, true), (1, true), (2, true), (3, true), (4, true), (5, false)] (by kernel_rfl) (by kernel_rfl) ⟨x0, x1, p0, p1⟩ (fun hHeld => ?_)
          (repeat (first | (refine wpTx_take (v := ?_) rfl (by assumption) ?_ (by rfl) ?_; rotate_left; (focus (intro w' hSw; (try dsimp only at hSw); go_simp; (try with_reducible rfl); done)); simp only [Act.put, List.setIfInBounds_toArray, List.set_cons_zero, List.set_cons_succ]) | (refine wpTx_skip rfl (by assumption) (by rfl) ?_; simp only [Act.put, List.setIfInBounds_toArray, List.set_cons_zero, List.set_cons_succ])))
          refine wpTx_last rfl (fun K hK => ?_)
          go_simp
          refine hK.out _ _ (NoPanic.normal ?_); clear hK K; (try simp only [Act.put, List.setIfInBounds_toArray, List.set_cons_zero, List.set_cons_succ])
          clear x0 x1 p0 p1
          go_wp2_with fail
          go_roundw
          case rel => exact ⟨k + 1, by omega, by go_num, HN.out, HK.out.drew⟩
          case measure => simp [intOf]; omega
    · obtain rfl : n = k := by omega
      have HI : Hid ((idxS l x) = -1) := by
        refine idxS_no fun hm => ?_
        have h1 := HB.out
        rw [List.take_of_length_le (by rw [HL.out]; omega)] at h1
        exact h1 x hm rfl
      clear hlt hk hkeep
      go_wp2_with fail
      go_ret
      exact ⟨by rw [HI.out]; rfl, HKw.out.trans HK.out⟩

set_option maxRecDepth 100000 in
set_option maxHeartbeats 3200000 in
theorem indexStr_any {w0 w : World} {ab nl : Nat} {L : List Nat} {S : AS} (hA : As w0 w ab L nl S) (x : ByteArray) (hn : S.o.atoms.length ≤ 65000) :
    Calls Tryz.prog 114 #[.pointer (some ⟨ab, 0, none⟩), .string x] w fun e w' => e = .returned (.int .i64 (idxA S.o.atoms x : Nat)) ∧ ∃ L', As w0 w' ab L' nl { S with o := { S.o with atoms := idxL S.o.atoms x } } ∧ ASt w L w' L' := by
  have HAs := Lib.hid hA
  obtain ⟨vb, AA, FA, PA, CA, UA, BA, ca, cf, cp, cc, cu, cb, hm, hL, hlt⟩ := hA
  have HL := Lib.hid hL
  have HLt := Lib.hid hlt
  have HM := Lib.hid hm
  have HN := Lib.hid hn
  have K0 : Keeps w w [] := Keeps.refl w []
  have HM0 := Lib.hid (hm.keep0 K0)
  have q0 := HM0.out.blk.cell 0
  have HK0 := Lib.hid K0
  have HC := Lib.hid (indexSA_any x AA _ ca S.o.atoms w rfl (by omega) (Rd.of_own HM0.out.atoms))
  clear hm hL hlt hn K0
  obtain ⟨n, hnl⟩ : ∃ n, S.o.atoms.length = n := ⟨_, rfl⟩
  have HNl := Lib.hid hnl
  rw [hnl] at HC
  simp only [List.getElem?_toArray, List.getElem?_cons_zero, hnl] at q0
  clear hnl
  go_enter Tryz.func114, Tryz.ntmps114
  go_wp2_with fail
  refine HC.out.mono ?_
  rintro e w1 ⟨rfl, k1⟩
  have HM1 := Lib.hid (HM0.out.keep0 k1)
  have HK1 := Lib.hid (HK0.out.trans k1)
  have q1 := HM1.out.blk.cell 0
  have f1 := HM1.out.blk.frozen 0
  simp only [List.getElem?_toArray, List.getElem?_cons_zero, HNl.out] at q1
  clear k1 HC
  rcases idxS_num S.o.atoms x with ⟨h0, h1, h2⟩ | ⟨h0, h1, h2⟩
  · have HE1 := Lib.hid h1
    have HE2 := Lib.hid h2
    clear h1 h2
    generalize idxS S.o.atoms x = q at *
    go_wp2_with fail
    go_ret
    rw [HE1.out, HE2.out]
    exact ⟨rfl, L, HAs.out.keep0 HK1.out, ASt.of_keeps HK1.out L⟩
  · have HE1 := Lib.hid h1
    have HE2 := Lib.hid h2
    clear h1 h2
    rw [h0]
    clear h0
    have HO1 : Hid (w1.ownsRow w0.heap.size 9 1 (.slice AA n ca) n (S.o.atoms.flatMap strE)) := Lib.hid (by have := HM1.out.atoms; rwa [HNl.out] at this)
    go_wp2_with (at_builtin; have K5 := (Keeps.refl w1 []).alloc (.cells #[.string x] 9); refine wpList_app _ el_atomA (by rfl) (.tmp 20) (.tmp 22) (by rfl) w0.heap.size AA n ca (S.o.atoms.flatMap strE) (by rfl) (own_keep0 HO1.out K5) (some ⟨w1.heap.size, 0, none⟩) 1 1 (strE x) (by rfl) (Rd.one w1 _ (strE x)) rfl (by simp) (by simp [strE, Value.oneCell']) (by have := HN.out; have := HNl.out; omega) (Nat.le_trans HM1.out.bel.size K5.size) ?_; intro A' c' w2 hown hgrow hat; have HG := Lib.hid hgrow; have HAp := Lib.hid (app_factsA K5 hown hgrow hat); have hB2 := HM1.out.blk.grownA K5 hgrow (own_outA HM1.out.atoms HM1.out.blk (by decide)); have q2 := hB2.cell 0; have f2 := hB2.frozen 0; clear hown hgrow hat; clear K5 hB2 HG)
    go_ret
    obtain ⟨a1, a2, a3⟩ := HAp.out
    have hlen : (S.o.atoms ++ [x]).length = n + 1 := by rw [List.length_append, HNl.out]; rfl
    have hz1 := HK1.out.size
    obtain ⟨L', g1, g2⟩ := HM1.out.atoms_pack HL.out (fun b hb => ⟨(HLt.out b hb).1, Nat.lt_of_lt_of_le (HLt.out b hb).2 hz1⟩) a2 (A' := A') (c' := c') (l' := S.o.atoms ++ [x]) (by rw [hlen, List.flatMap_append]; simpa using a1) a3
    rw [hlen] at g1 g2
    rw [HE1.out, HE2.out, HNl.out]
    exact ⟨rfl, L', g1, (ASt.of_keeps HK1.out L).trans g2⟩

set_option maxRecDepth 100000 in
set_option maxHeartbeats 3200000 in
theorem indexFun_any {w0 w : World} {ab nl : Nat} {L : List Nat} {S : AS} (hA : As w0 w ab L nl S) (x : LFun) (hn : S.o.funs.length ≤ 65000) :
    Calls Tryz.prog 115 #[.pointer (some ⟨ab, 1, none⟩), .agg #[.string x.name, .int .i64 x.arity]] w fun e w' => e = .returned (.int .i64 (idxA S.o.funs x : Nat)) ∧ ∃ L', As w0 w' ab L' nl { S with o := { S.o with funs := idxL S.o.funs x } } ∧ ASt w L w' L' := by
  have HAs := Lib.hid hA
  obtain ⟨vb, AA, FA, PA, CA, UA, BA, ca, cf, cp, cc, cu, cb, hm, hL, hlt⟩ := hA
  have HL := Lib.hid hL
  have HLt := Lib.hid hlt
  have HM := Lib.hid hm
  have HN := Lib.hid hn
  have K0 : Keeps w (w.alloc (.cells #[.string x.name, .int .i64 x.arity] 77)) [] := (Keeps.refl w []).alloc _
  have HBx : Hid (Blk (w.alloc (.cells #[.string x.name, .int .i64 x.arity] 77)) w.heap.size 77 #[.string x.name, .int .i64 x.arity]) := Blk.new _ _ _
  have HM0 := Lib.hid (hm.keep0 K0)
  have q0 := HM0.out.blk.cell 1
  have HK0 := Lib.hid K0
  have HC := Lib.hid (indexFA_any x FA _ cf S.o.funs (w.alloc (.cells #[.string x.name, .int .i64 x.arity] 77)).drew rfl (by omega) (Rd.of_own HM0.out.funs))
  clear hm hL hlt hn K0
  obtain ⟨n, hnl⟩ : ∃ n, S.o.funs.length = n := ⟨_, rfl⟩
  have HNl := Lib.hid hnl
  rw [hnl] at HC
  simp only [List.getElem?_toArray, List.getElem?_cons_zero, List.getElem?_cons_succ, hnl] at q0
  clear hnl
  have HW0 : Hid (∀ W, Keeps (w.alloc (.cells #[.string x.name, .int .i64 x.arity] 77)) W [] → (W.cell? ⟨ab, 1, none⟩ = some (.slice FA n cf) ∧ W.cell? ⟨w.heap.size, 0, none⟩ = some (.string x.name) ∧ W.cell? ⟨w.heap.size, 1, none⟩ = some (.int .i64 x.arity))) := fun W kk => ⟨by have b := HM0.out.blk.keep kk (by simp); have := b.cell 1; simp only [List.getElem?_toArray, List.getElem?_cons_zero, List.getElem?_cons_succ, HNl.out] at this; exact this, (HBx.out.keep kk (by simp)).cell 0, (HBx.out.keep kk (by simp)).cell 1⟩
  clear q0
  go_enter Tryz.func115, Tryz.ntmps115
  go_upto_region 1 with fail
  refine wp_region_tx (fun W' => (W'.cell? ⟨ab, 1, none⟩ = some (.slice FA n cf) ∧ W'.cell? ⟨w.heap.size, 0, none⟩ = some (.string x.name) ∧ W'.cell? ⟨w.heap.size, 1, none⟩ = some (.int .i64 x.arity))) [(0, true), (1, true), (2, true), (3, true), (4, false), (5, false)] (by kernel_rfl) (by kernel_rfl) (HW0.out _ (Keeps.refl _ _).drew) (fun hHeld => ?_)
  (repeat (first | (refine wpTx_take (v := ?_) rfl (by assumption) ?_ (by rfl) ?_; rotate_left; (focus (intro w' hSw; (try dsimp only at hSw); go_simp; (try with_reducible rfl); done)); simp only [Act.put, List.setIfInBounds_toArray, List.set_cons_zero, List.set_cons_succ]) | (refine wpTx_skip rfl (by assumption) (by rfl) ?_; simp only [Act.put, List.setIfInBounds_toArray, List.set_cons_zero, List.set_cons_succ])))
  refine wpTx_go rfl (fun K hK => ?_)
  go_simp
  refine HC.out.mono ?_
  rintro e w1 ⟨rfl, k1'⟩
  have k1 := (Keeps.refl (w.alloc (.cells #[.string x.name, .int .i64 x.arity] 77)) []).drew.trans k1'
  clear k1'
  have HWk := Lib.hid (HW0.out _ k1)
  refine hK.out _ _ ?_ ?_
  · exact HWk.out
  (clear hHeld; intro hHeld; clear hK K; (try simp only [Act.put, List.setIfInBounds_toArray, List.set_cons_zero, List.set_cons_succ]))
  refine wpTx_last rfl (fun K hK => ?_)
  go_simp
  refine hK.out _ _ (NoPanic.normal ?_); clear hK K; (try simp only [Act.put, List.setIfInBounds_toArray, List.set_cons_zero, List.set_cons_succ])
  clear hHeld HWk HW0
  have HM1 := Lib.hid (HM0.out.keep0 k1)
  have HK1 := Lib.hid (HK0.out.trans k1)
  have x0 := (HBx.out.keep k1 (by simp)).cell 0
  have x1 := (HBx.out.keep k1 (by simp)).cell 1
  have HK01 := Lib.hid k1
  have q1 := HM1.out.blk.cell 1
  have f1 := HM1.out.blk.frozen 1
  simp only [List.getElem?_toArray, List.getElem?_cons_zero, List.getElem?_cons_succ, HNl.out] at q1
  clear k1 HC
  rcases idxS_num S.o.funs x with ⟨h0, h1, h2⟩ | ⟨h0, h1, h2⟩
  · have HE1 := Lib.hid h1
    have HE2 := Lib.hid h2
    clear h1 h2
    generalize idxS S.o.funs x = q at *
    go_wp2_with fail
    go_ret
    rw [HE1.out, HE2.out]
    exact ⟨rfl, L, HAs.out.keep0 HK1.out, ASt.of_keeps HK1.out L⟩
  · have HE1 := Lib.hid h1
    have HE2 := Lib.hid h2
    clear h1 h2
    rw [h0]
    clear h0
    have HO1 : Hid (w1.ownsRow w0.heap.size 77 2 (.slice FA n cf) n (S.o.funs.flatMap funE)) := Lib.hid (by have := HM1.out.funs; rwa [HNl.out] at this)
    have HW : Hid (∀ W, Keeps w1 W [] → ((W.cell? ⟨ab, 1, none⟩ = some (.slice FA n cf) ∧ W.cell? ⟨w.heap.size, 0, none⟩ = some (.string x.name) ∧ W.cell? ⟨w.heap.size, 1, none⟩ = some (.int .i64 x.arity)) ∧ W.frozen? ⟨ab, 1, none⟩ = false)) := fun W kk => ⟨⟨by have b := HM1.out.blk.keep kk (by simp); have := b.cell 1; simp only [List.getElem?_toArray, List.getElem?_cons_zero, List.getElem?_cons_succ, HNl.out] at this; exact this, (HBx.out.keep (HK01.out.trans kk) (by simp)).cell 0, (HBx.out.keep (HK01.out.trans kk) (by simp)).cell 1⟩, (HM1.out.blk.keep kk (by simp)).frozen 1⟩
    clear x0 x1 f1
    go_upto_region 4 with fail
    clear q1
    refine wp_region_tx (fun W' => ((W'.cell? ⟨ab, 1, none⟩ = some (.slice FA n cf) ∧ W'.cell? ⟨w.heap.size, 0, none⟩ = some (.string x.name) ∧ W'.cell? ⟨w.heap.size, 1, none⟩ = some (.int .i64 x.arity)) ∧ W'.frozen? ⟨ab, 1, none⟩ = false)) [(0, true), (1, true), (2, true), (3, true), (4, true), (5, false), (6, false), (7, true), (8, false)] (by kernel_rfl) (by kernel_rfl) (HW.out _ (Keeps.refl _ _).drew) (fun hHeld => ?_)
    (repeat (first | (refine wpTx_take (v := ?_) rfl (by assumption) ?_ (by rfl) ?_; rotate_left; (focus (intro w' hSw; (try dsimp only at hSw); go_simp; (try with_reducible rfl); done)); simp only [Act.put, List.setIfInBounds_toArray, List.set_cons_zero, List.set_cons_succ]) | (refine wpTx_skip rfl (by assumption) (by rfl) ?_; simp only [Act.put, List.setIfInBounds_toArray, List.set_cons_zero, List.set_cons_succ])))
    refine wpTx_go rfl (fun K hK => ?_)
    go_simp
    refine hK.out _ _ ?_ ?_
    · exact HW.out _ ((Keeps.refl _ _).drew.alloc _)
    (clear hHeld; intro hHeld; clear hK K; (try simp only [Act.put, List.setIfInBounds_toArray, List.set_cons_zero, List.set_cons_succ]))
    refine wpTx_go rfl (fun K hK => ?_)
    have K5 : Keeps w1 (w1.drew.alloc (.cells #[.string x.name, .int .i64 x.arity] 77)) [] := (Keeps.refl w1 []).drew.alloc _
    refine step_app _ el_funA (by rfl) _ _ (by rfl) w0.heap.size FA n cf (S.o.funs.flatMap funE) (by rfl) (own_keep0 HO1.out K5) (some ⟨w1.heap.size, 0, none⟩) 1 1 (funE x) (by rfl) (Rd.one w1.drew _ (funE x)) rfl (by simp) (by simp [funE, Value.oneCell']) (by have := HN.out; have := HNl.out; omega) (Nat.le_trans HM1.out.bel.size K5.size) ?_
    intro A' c' w2 hown hgrow hat
    have HG := Lib.hid hgrow
    have HAp := Lib.hid (app_factsA K5 hown hgrow hat)
    have hB2 := HM1.out.blk.grownA K5 hgrow (own_outA HM1.out.funs HM1.out.blk (by decide))
    have q2 := hB2.cell 1
    have f2 := hB2.frozen 1
    clear hown hgrow hat
    have HB2 : Hid (w2.cell? ⟨ab, 1, none⟩ = some (.slice FA S.o.funs.length cf) ∧ w2.frozen? ⟨ab, 1, none⟩ = false) := ⟨q2, f2⟩
    have HX2 : Hid (w2.cell? ⟨w.heap.size, 0, none⟩ = some (.string x.name) ∧ w2.cell? ⟨w.heap.size, 1, none⟩ = some (.int .i64 x.arity)) := by
      have hb1 := (HBx.out.keep HK01.out (by simp)).grownA K5 HG.out (fun hm => by have := (own_ltA HM.out.funs _ hm).2; omega)
      exact ⟨hb1.cell 0, hb1.cell 1⟩
    clear K5 hB2 q2 f2
    refine hK.out _ _ ?_ ?_
    · exact ⟨⟨by rw [← HNl.out]; exact HB2.out.1, HX2.out.1, HX2.out.2⟩, HB2.out.2⟩
    (clear hHeld; intro hHeld; clear hK K; (try simp only [Act.put, List.setIfInBounds_toArray, List.set_cons_zero, List.set_cons_succ]))
    (repeat (first | (refine wpTx_take (v := ?_) rfl (by assumption) ?_ (by rfl) ?_; rotate_left; (focus (intro w' hSw; (try dsimp only at hSw); go_simp; (try with_reducible rfl); done)); simp only [Act.put, List.setIfInBounds_toArray, List.set_cons_zero, List.set_cons_succ]) | (refine wpTx_skip rfl (by assumption) (by rfl) ?_; simp only [Act.put, List.setIfInBounds_toArray, List.set_cons_zero, List.set_cons_succ])))
    refine wpTx_last rfl (fun K hK => ?_)
    go_simp
    refine hK.out _ _ (NoPanic.normal ?_); clear hK K; (try simp only [Act.put, List.setIfInBounds_toArray, List.set_cons_zero, List.set_cons_succ])
    clear hHeld
    go_wp2_with fail
    go_ret
    obtain ⟨a1, a2, a3⟩ := HAp.out
    have hlen : (S.o.funs ++ [x]).length = n + 1 := by rw [List.length_append, HNl.out]; rfl
    have hz1 := HK1.out.size
    obtain ⟨L', g1, g2⟩ := HM1.out.funs_pack HL.out (fun b hb => ⟨(HLt.out b hb).1, Nat.lt_of_lt_of_le (HLt.out b hb).2 hz1⟩) a2 (A' := A') (c' := c') (l' := S.o.funs ++ [x]) (by rw [hlen, List.flatMap_append]; simpa using a1) a3
    rw [hlen] at g1 g2
    rw [HE1.out, HE2.out, HNl.out]
    exact ⟨rfl, L', g1, (ASt.of_keeps HK1.out L).trans g2⟩
end Go.Proofs.YtpcihhdalofdiaaGreatDoor
